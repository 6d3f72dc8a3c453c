/-
  WHAT IT HOLDS: the order of names (as Go compares strings), ascending lists of names and of pairs of names, and that one is told by its members. No program in sight.
  WHAT IT HOLDS: contracts of IndexFunc, ContainsFunc, Index, Contains of package slices at strings and at entries. Conditions: the slice reads as data; a function value that is handed in says what p says and leaves what was there.
  WHAT IT HOLDS: contracts of different, ValidEntry, Valid of package deps, of IsCanonical of package term and ValidProof of package kernel. Conditions: the arguments read as data; small signs.
  WHAT IT HOLDS: contracts of SameTerm, SameTexts, SameProof, SameEntry, SameLibrary of the reference of layer 6. Conditions: the arguments read as data.
-/
import Derived.Lib.Bytealg
import Derived.Shelf.Abstract
import Derived.BigQuiet
import Derived.Test.YtmpjaakkjhmpmaaGreatDoorZRShortCites12
import Derived.Test.YtmpjaakkjhmpmaaGreatDoorZRShortCites2
import Derived.Test.YtmpjaakkjhmpmaaGreatDoorZRShortCites16
import Derived.Test.YtmpjaakkjhmpmaaGreatDoorZRShortCites0
import Derived.Test.YtmpjaakkjhmpmaaGreatDoorZRShortCites20
namespace Go.Proofs.YtmpjaakkjhmpmaaGreatDoor
open Go
def bl (a : Nm) : List UInt8 := a.data.toList
def ltN (a b : Nm) : Prop := bl a < bl b
instance (a b : Nm) : Decidable (ltN a b) := inferInstanceAs (Decidable (bl a < bl b))
theorem ltB_irr : ∀ (l : List UInt8), ¬ l < l := fun l => List.lt_irrefl l
theorem ltN.irr (a : Nm) : ¬ ltN a a := ltB_irr _
theorem ltN.trans {a b c : Nm} (h : ltN a b) (k : ltN b c) : ltN a c := List.lt_trans h k
theorem ltN.asym {a b : Nm} (h : ltN a b) : ¬ ltN b a := fun k => ltN.irr _ (h.trans k)
/-- two ascending lists with the same members are the same, whatever the order is. -/
theorem asc_unique {α : Type} {R : α → α → Prop} (irr : ∀ a, ¬ R a a) (tr : ∀ {a b c}, R a b → R b c → R a c) : ∀ {l m : List α}, l.Pairwise R → m.Pairwise R → (∀ x, x ∈ l ↔ x ∈ m) → l = m
  | [], [], _, _, _ => rfl
  | [], y :: m, _, _, h => by have := (h y).2 (by simp); simp at this
  | x :: l, [], _, _, h => by have := (h x).1 (by simp); simp at this
  | x :: l, y :: m, h1, h2, h => by
    obtain ⟨a1, a2⟩ := List.pairwise_cons.1 h1
    obtain ⟨b1, b2⟩ := List.pairwise_cons.1 h2
    have hxy : x = y := by
      rcases List.mem_cons.1 ((h x).1 (by simp)) with e | e
      · exact e
      · rcases List.mem_cons.1 ((h y).2 (by simp)) with e' | e'
        · exact e'.symm
        · exact (irr _ (tr (a1 y e') (b1 x e))).elim
    subst hxy
    rw [asc_unique irr tr a2 b2 fun z => ?_]
    constructor
    · intro hz
      rcases List.mem_cons.1 ((h z).1 (by simp [hz])) with e | e
      · subst e; exact (irr _ (a1 _ hz)).elim
      · exact e
    · intro hz
      rcases List.mem_cons.1 ((h z).2 (by simp [hz])) with e | e
      · subst e; exact (irr _ (b1 _ hz)).elim
      · exact e
def AscN (l : List Nm) : Prop := l.Pairwise ltN
theorem AscN.unique {l m : List Nm} (h : AscN l) (k : AscN m) (e : ∀ x, x ∈ l ↔ x ∈ m) : l = m := asc_unique ltN.irr (fun h k => ltN.trans h k) h k e
abbrev N2 := Nm × Nm
def ltP (a b : N2) : Prop := ltN a.1 b.1 ∨ (a.1 = b.1 ∧ ltN a.2 b.2)
theorem ltP.irr (a : N2) : ¬ ltP a a := by
  rintro (h | ⟨-, h⟩)
  · exact ltN.irr _ h
  · exact ltN.irr _ h
theorem ltP.trans {a b c : N2} (h : ltP a b) (k : ltP b c) : ltP a c := by
  rcases h with h | ⟨h1, h2⟩
  · rcases k with k | ⟨k1, -⟩
    · exact Or.inl (h.trans k)
    · exact Or.inl (k1 ▸ h)
  · rcases k with k | ⟨k1, k2⟩
    · exact Or.inl (h1 ▸ k)
    · exact Or.inr ⟨h1.trans k1, h2.trans k2⟩
end Go.Proofs.YtmpjaakkjhmpmaaGreatDoor
namespace Go.Proofs.YtmpjaakkjhmpmaaGreatDoor
open Go Go.RowKit Go.Maps
end Go.Proofs.YtmpjaakkjhmpmaaGreatDoor
namespace Go.Proofs.YtmpjaakkjhmpmaaGreatDoor
open Go Go.RowKit Go.Maps
theorem str_key {x : Nm} (h : x.size ≤ 140737488355328) : keyOf Tryz.prog 9 (Value.string x) = some (.string x.data.toList) := WideMaps.keyOf_string_mk Tryz.underlying9 (by unfold maxLen; omega)
theorem kernel_ValidProof (g : Int) (v : Value) (l : List St) (w : World) (hg : 0 ≤ g ∧ g ≤ 60) (hv : StepsAt w v l) :
    Calls Tryz.prog 70 #[.int .i64 g, v] w fun e w' => e = .returned (.bool (proofB g l)) ∧ Below w.heap.size w w' := by
  have HV := hid (kernel_valid g v l w (by omega) hv)
  have hi : inB g 0 60 = true := inB_true.2 ⟨by omega, by omega⟩
  obtain ⟨a, cap, rfl, -⟩ := hv.open
  clear hv
  go_enter Tryz.func70, Tryz.ntmps70
  go_wp2_with (first | (go_at_call 71; refine (kernel_within _ _ _ _).mono ?_; rintro e w' ⟨rfl, rfl⟩; rw [hi]) | (go_at_call 114; refine HV.out.mono ?_; rintro e w1 ⟨rfl, hb1⟩))
  go_ret
  exact ⟨rfl, by assumption⟩
theorem box5e (w : World) (x0 x1 x2 x3 x4 : Value) (t : TypeId) :
    (w.alloc (.cells #[x0, x1, x2, x3, x4] t)).cell? ⟨w.heap.size, 0, none⟩ = some x0 ∧ (w.alloc (.cells #[x0, x1, x2, x3, x4] t)).cell? ⟨w.heap.size, 1, none⟩ = some x1 ∧ (w.alloc (.cells #[x0, x1, x2, x3, x4] t)).cell? ⟨w.heap.size, 2, none⟩ = some x2 ∧ (w.alloc (.cells #[x0, x1, x2, x3, x4] t)).cell? ⟨w.heap.size, 3, none⟩ = some x3 ∧ (w.alloc (.cells #[x0, x1, x2, x3, x4] t)).cell? ⟨w.heap.size, 4, none⟩ = some x4 ∧
    Below w.heap.size w (w.alloc (.cells #[x0, x1, x2, x3, x4] t)) ∧ (w.alloc (.cells #[x0, x1, x2, x3, x4] t)).heap.size = w.heap.size + 1 := by
  refine ⟨?_, ?_, ?_, ?_, ?_, (Below.refl _ _).alloc (Nat.le_refl _) _, by simp⟩ <;> rw [World.cell?_alloc_new] <;> rfl
/-- the box of an entry. -/
structure EB (w : World) (b : Nat) (x : En) (vS vU vP : Value) : Prop where
  c0 : w.cell? ⟨b, 0, none⟩ = some (.string x.name)
  c1 : w.cell? ⟨b, 1, none⟩ = some (.string x.who)
  c2 : w.cell? ⟨b, 2, none⟩ = some vS
  c3 : w.cell? ⟨b, 3, none⟩ = some vU
  c4 : w.cell? ⟨b, 4, none⟩ = some vP
theorem EB.below {w w' : World} {b : Nat} {x : En} {vS vU vP : Value} (h : EB w b x vS vU vP) (hb : Below w.heap.size w w') : EB w' b x vS vU vP :=
  ⟨(hb.cell (World.block_lt_of_cell? _ _ h.c0)).trans h.c0, (hb.cell (World.block_lt_of_cell? _ _ h.c1)).trans h.c1, (hb.cell (World.block_lt_of_cell? _ _ h.c2)).trans h.c2, (hb.cell (World.block_lt_of_cell? _ _ h.c3)).trans h.c3, (hb.cell (World.block_lt_of_cell? _ _ h.c4)).trans h.c4⟩
theorem EB.new (w : World) (x : En) (vS vU vP : Value) (t : TypeId) : EB (w.alloc (.cells #[.string x.name, .string x.who, vS, vU, vP] t)) w.heap.size x vS vU vP := by
  obtain ⟨h0, h1, h2, h3, h4, -⟩ := box5e w (.string x.name) (.string x.who) vS vU vP t
  exact ⟨h0, h1, h2, h3, h4⟩
end Go.Proofs.YtmpjaakkjhmpmaaGreatDoor
namespace Go.Proofs.YtmpjaakkjhmpmaaGreatDoor
open Go Go.RowKit Go.Maps
set_option maxHeartbeats 400000 in
theorem ref6_SameInts (v u : Value) (l m : List Int) (w : World) (hv : Ints w v l) (hu : Ints w u m) :
    Calls Tryz.prog 29 #[v, u] w fun e w' => e = .returned (.bool (decide (l = m))) ∧ ∃ n, w' = w.drewN n := by
  obtain ⟨a, cap, rfl, h1, hl, h3, HC⟩ := hv.open
  obtain ⟨a', cap', rfl, h1', hl', h3', HD⟩ := hu.open
  have HC' := hid HC
  have HD' := hid HD
  clear HC hv h3 HD hu h3'
  by_cases hlen : l.length = m.length
  · have hne : (((l.length : Nat) : Int) != (m.length : Int)) = false := by simp [hlen]
    have HL := hid hlen
    clear hlen
    go_enter Tryz.func29, Tryz.ntmps29
    go_wp2
    go_loopw [5] (fun i wr => ∃ k q : Nat, k ≤ l.length ∧ i = .int .i64 k ∧ wr = w.drewN q ∧ l.take k = m.take k) (fun i _ => l.length - (intOf i).toNat)
    case atStart => exact ⟨0, 0, by omega, rfl, rfl, by simp⟩
    case round =>
      obtain ⟨k, q, hk, rfl, rfl, hrel⟩ := hrel
      have HR := hid hrel
      clear hrel
      by_cases hlt : k < l.length
      · obtain ⟨b, o, rfl, hcell⟩ := HC'.out k hlt
        have hlt' : k < m.length := by have := HL.out; omega
        obtain ⟨b', o', rfl, hcell'⟩ := HD'.out k hlt'
        cases h2 : (l[k] != m[k])
        · go_wp2
          go_quiet (fail)
          go_wp2
          go_roundw
          case rel =>
            refine ⟨k + 1, _, by omega, by go_num, (by first | rfl | exact World.drewN_drewN _ _ _), ?_⟩
            rw [List.take_succ_eq_append_getElem hlt, List.take_succ_eq_append_getElem hlt', HR.out]
            have : l[k] = m[k] := by simpa [bne] using h2
            rw [this]
          case measure => simp [intOf]; omega
        · have HM : Hid (l ≠ m) := hid (by intro e; subst e; simp at h2)
          go_wp2
          go_quiet (fail)
          go_wp2
          go_ret
          exact ⟨ret_bool (decide_eq_false HM.out).symm, _, (by first | rfl | exact World.drewN_drewN _ _ _)⟩
      · have HM : Hid (l = m) := hid (by have := HR.out; have h9 := HL.out; rw [List.take_of_length_le (by omega), List.take_of_length_le (by omega)] at this; exact this)
        go_wp2
        go_ret
        exact ⟨ret_bool (decide_eq_true HM.out).symm, q, rfl⟩
  · have hne : (((l.length : Nat) : Int) != (m.length : Int)) = true := by simp [bne]; omega
    have HM : Hid (l ≠ m) := hid (by intro e; subst e; exact hlen rfl)
    clear hlen
    go_enter Tryz.func29, Tryz.ntmps29
    go_wp2
    go_ret
    exact ⟨ret_bool (decide_eq_false HM.out).symm, 0, rfl⟩

set_option maxHeartbeats 1000000 in
theorem ref6_SameProof (v u : Value) (l m : List St) (w : World) (hv : StepsAt w v l) (hu : StepsAt w u m) :
    Calls Tryz.prog 20 #[v, u] w fun e w' => e = .returned (.bool (decide (l = m))) ∧ ∃ n, w' = w.drewN n := by
  obtain ⟨a, cap, rfl, h1, hl, h3, HC⟩ := hv.open
  obtain ⟨a', cap', rfl, h1', hl', h3', HD⟩ := hu.open
  have HC' := hid HC
  have HD' := hid HD
  clear HC hv h3 HD hu h3'
  by_cases hlen : l.length = m.length
  · have hne : (((l.length : Nat) : Int) != (m.length : Int)) = false := by simp [hlen]
    have HL := hid hlen
    clear hlen
    go_enter Tryz.func20, Tryz.ntmps20
    go_wp2
    go_loopw [5] (fun i wr => ∃ k q : Nat, k ≤ l.length ∧ i = .int .i64 k ∧ wr = w.drewN q ∧ l.take k = m.take k) (fun i _ => l.length - (intOf i).toNat)
    case atStart => exact ⟨0, 0, by omega, rfl, rfl, by simp⟩
    case round =>
      obtain ⟨k, q, hk, rfl, rfl, hrel⟩ := hrel
      have HR := hid hrel
      clear hrel
      by_cases hlt : k < l.length
      · obtain ⟨b, o, rfl, c0, c1, c2⟩ := HC'.out k hlt
        have hlt' : k < m.length := by have := HL.out; omega
        obtain ⟨b', o', rfl, d0, d1, d2⟩ := HD'.out k hlt'
        have HT1 := hid (List.take_succ_eq_append_getElem hlt)
        have HT2 := hid (List.take_succ_eq_append_getElem hlt')
        have HG1 := hid (List.getElem?_eq_getElem hlt)
        have HG2 := hid (List.getElem?_eq_getElem hlt')
        obtain ⟨⟨x0, x1, x2⟩, hx⟩ : ∃ x, l[k] = x := ⟨_, rfl⟩
        obtain ⟨⟨y0, y1, y2⟩, hy⟩ : ∃ y, m[k] = y := ⟨_, rfl⟩
        rw [hx] at c0 c1 c2 HT1 HG1
        rw [hy] at d0 d1 d2 HT2 HG2
        simp only at c0 c1 c2 d0 d1 d2
        clear hx hy
        by_cases e0 : x0 = y0
        · have q0 : (x0 == y0) = true := by simpa using e0
          by_cases e1 : x1 = y1
          · have q1 : (x1 == y1) = true := by simpa using e1
            by_cases e2 : x2 = y2
            · have q2 : (x2 == y2) = true := by simpa using e2
              have E0 := hid e0
              have E1 := hid e1
              have E2 := hid e2
              clear e0 e1 e2
              go_wp2
              go_quiet (fail)
              go_wp2
              go_roundw
              case rel => exact ⟨k + 1, _, by omega, by go_num, (by first | rfl | exact World.drewN_drewN _ _ _), by rw [HT1.out, HT2.out, HR.out, E0.out, E1.out, E2.out]⟩
              case measure => simp [intOf]; omega
            · have q2 : (x2 == y2) = false := by simpa using e2
              have HF : Hid (decide (l = m) = false) := hid (by
                rw [decide_eq_false_iff_not]
                rintro rfl
                have := HG1.out.symm.trans HG2.out
                cases this
                exact e2 rfl)
              clear e0 e1 e2
              go_wp2
              go_quiet (fail)
              go_wp2
              go_ret
              exact ⟨ret_bool HF.out.symm, _, (by first | rfl | exact World.drewN_drewN _ _ _)⟩
          · have q1 : (x1 == y1) = false := by simpa using e1
            have HF : Hid (decide (l = m) = false) := hid (by
              rw [decide_eq_false_iff_not]
              rintro rfl
              have := HG1.out.symm.trans HG2.out
              cases this
              exact e1 rfl)
            clear e0 e1
            go_wp2
            go_quiet (fail)
            go_wp2
            go_ret
            exact ⟨ret_bool HF.out.symm, _, (by first | rfl | exact World.drewN_drewN _ _ _)⟩
        · have q0 : (x0 == y0) = false := by simpa using e0
          have HF : Hid (decide (l = m) = false) := hid (by
            rw [decide_eq_false_iff_not]
            rintro rfl
            have := HG1.out.symm.trans HG2.out
            cases this
            exact e0 rfl)
          clear e0
          go_wp2
          go_quiet (fail)
          go_wp2
          go_ret
          exact ⟨ret_bool HF.out.symm, _, (by first | rfl | exact World.drewN_drewN _ _ _)⟩
      · have HF : Hid (decide (l = m) = true) := hid (by
          have h1 := HR.out
          have h2 := HL.out
          rw [List.take_of_length_le (by omega), List.take_of_length_le (by omega)] at h1
          simp [h1])
        go_wp2
        go_ret
        exact ⟨ret_bool HF.out.symm, _, rfl⟩
  · have hne : (((l.length : Nat) : Int) != (m.length : Int)) = true := by simp; omega
    have HF : Hid (decide (l = m) = false) := hid (by rw [decide_eq_false_iff_not]; rintro rfl; exact hlen rfl)
    clear hlen
    go_enter Tryz.func20, Tryz.ntmps20
    go_wp2
    go_ret
    exact ⟨ret_bool HF.out.symm, 0, rfl⟩
end Go.Proofs.YtmpjaakkjhmpmaaGreatDoor
