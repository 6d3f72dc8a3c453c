/-
  WHAT IT HOLDS: contracts of Variable, Match and Instance of the reference of layer 2. Conditions: the arguments read as data.
  WHAT IT HOLDS: contracts of over and Over of package find, of alike, under and Over of the reference of layer 5. Conditions: the arguments read as data; the shelf and the sign are small.
  WHAT IT HOLDS: contracts of canonical, grouped of the reference of layer 5, of form and grouped of package find. Conditions: the arguments read as data; the terms are valid.
  WHAT IT HOLDS: contract of grouped of the reference of layer 5. Conditions: the argument reads as data.
  WHAT IT HOLDS: contracts of form, grouped, Groups of package find. Conditions: the arguments read as data; the shelf and the sign are small.
  WHAT IT HOLDS: contract of Groups of package find. Conditions: the arguments read as data; the shelf and the sign are small.
  WHAT IT HOLDS: contract of firsts of package find. Conditions: the arguments read as data; the shelf and the sign are small.
  WHAT IT HOLDS: the plain law of bases (FindBases): what Base and IsBase answer, that the base is one, least, and alike what each other base has. No program in sight. No condition.
  WHAT IT HOLDS: contracts of table, put, fits, ValidBinds and Apply of package unify. Conditions: the arguments read as data; small signs.
  WHAT IT HOLDS: contract of ValidBinds of package unify. Conditions: the arguments read as data; a small sign.
  WHAT IT HOLDS: contracts of binds, Match, Apply, Occurs of package unify, and of Match of the reference. Conditions: the arguments read as data; small signs.
  WHAT IT HOLDS: contracts of Apply, Occurs, Match, Unifies, Solved of package unify. Conditions: the arguments read as data; small signs.
  WHAT IT HOLDS: contract of the iterator that all of package unify hands back, and of table again. Conditions: the arguments read as data; valid binds.
  WHAT IT HOLDS: contract of Compose of package unify. Conditions: the arguments read as data; small signs.
-/
import Derived.WalkSpells
import Derived.Deep.RegionLaw
import Derived.Laws.EntriesVeiled
import Derived.Shelf.Abstract
import Derived.Deep.RegionHeld3
import Derived.Test.YtmpjaakkjhmpmaaGreatDoorZRShortCites32
import Derived.Test.YtmpjaakkjhmpmaaGreatDoorZRShortCites16
import Derived.Test.YtmpjaakkjhmpmaaGreatDoorZRShortCites2
import Derived.Test.YtmpjaakkjhmpmaaGreatDoorZRShortCites9
import Derived.Test.YtmpjaakkjhmpmaaGreatDoorZRShortCites5
import Derived.Test.YtmpjaakkjhmpmaaGreatDoorZRShortCites13
import Derived.Test.YtmpjaakkjhmpmaaGreatDoorZRShortCites7
import Derived.Test.YtmpjaakkjhmpmaaGreatDoorZRShortCites0
import Derived.Test.YtmpjaakkjhmpmaaGreatDoorZRShortCites14
namespace Go.Proofs.YtmpjaakkjhmpmaaGreatDoor
open Go Go.RowKit Go.Maps
theorem ref2_Variable (v : Int) (w : World) (h0 : 0 ≤ v) (h1 : v ≤ 1000) :
    Calls Tryz.prog 130 #[.int .i64 v] w fun e w' => ∃ u, e = .returned u ∧ w'.ownsRow w.heap.size 3 1 u [-v - 1].length ([-v - 1].map (Value.int .i64)) ∧ Below w.heap.size w w' := by
  go_enter Tryz.func130, Tryz.ntmps130
  go_wp2
  go_ret
  refine ⟨_, rfl, ?_, (Below.refl _ _).alloc (Nat.le_refl _) _⟩
  have := World.ownsRow_lit (base := w.heap.size) (e := 3) (size := 1) w #[.int .i64 (-v - 1)] 1 (Nat.le_refl _) (by simp [maxLen]) rfl
  simpa using this
/-- the binds that a match tells. -/
def bindL (m : MM) (k : Nat) : List (Nat × List Int) := (List.range k).filterMap fun (v : Nat) => match m (-(v : Int) - 1) with | some l => if l = [-(v : Int) - 1] then none else some (v, l) | none => none
theorem bindL_succ (m : MM) (k : Nat) : bindL m (k + 1) = bindL m k ++ match m (-(k : Int) - 1) with | some l => if l = [-(k : Int) - 1] then [] else [(k, l)] | none => [] := by
  unfold bindL
  rw [List.range_succ, List.filterMap_append]
  congr 1
  cases h : m (-(k : Int) - 1) with
  | none => simp [h]
  | some l =>
    simp only [List.filterMap_cons, List.filterMap_nil, h]
    by_cases e : l = [-(k : Int) - 1] <;> simp [e]
theorem bindL_len (m : MM) (k : Nat) : (bindL m k).length ≤ k := by
  unfold bindL
  exact Nat.le_trans (List.length_filterMap_le _ _) (by simp)
abbrev BT := Nat × Value × List Int
def bCells (bs : List BT) : List Value := bs.flatMap fun b => [.int .i64 b.1, b.2.1]
def bPure (bs : List BT) : List (Nat × List Int) := bs.map fun b => (b.1, b.2.2)
theorem el_bind : ElemAt Tryz.prog 142 (.agg #[.int .i64 0, .slice none 0 0]) 2 32 := by unfold ElemAt; kernel_rfl
theorem row_two_new (w : World) (x y : Value) (t : TypeId) : RowK (w.alloc (.cells #[x, y] t)) (.slice (some ⟨w.heap.size, 0, none⟩) 1 1) 2 1 [x, y] := by
  refine ⟨rfl, _, _, rfl, Nat.le_refl _, by omega, (fun h => by cases h), fun j u hj => ⟨_, _, rfl, ?_⟩⟩
  rw [World.cell?_alloc_new]
  match j, hj with
  | 0, hj => simpa using hj
  | 1, hj => simpa using hj
  | j + 2, hj => simp at hj
theorem arr12 (w : World) (ty : TypeId) : ArrT (w.alloc (.cells #[.slice none 0 0, .slice none 0 0, .slice none 0 0, .slice none 0 0, .slice none 0 0, .slice none 0 0, .slice none 0 0, .slice none 0 0, .slice none 0 0, .slice none 0 0, .slice none 0 0, .slice none 0 0] ty)) w.heap.size 0 12 (fun _ => none) := by
  refine ⟨_, ty, (MapKept.heap_alloc w _).1, fun i u hi => ?_, fun v hv => ⟨?_, fun _ _ h => by cases h⟩⟩
  · have hm := Array.mem_of_getElem? hi
    simp at hm
    exact ⟨_, _, _, hm⟩
  · match v, hv with
    | 0, _ => rfl
    | 1, _ => rfl
    | 2, _ => rfl
    | 3, _ => rfl
    | 4, _ => rfl
    | 5, _ => rfl
    | 6, _ => rfl
    | 7, _ => rfl
    | 8, _ => rfl
    | 9, _ => rfl
    | 10, _ => rfl
    | 11, _ => rfl
    | v + 12, h => omega
theorem mR_none : mR (fun _ => none) = noM := by
  funext x
  unfold mR noM
  split <;> rfl
set_option maxHeartbeats 4000000 in
set_option maxRecDepth 100000 in
theorem ref2_Match (vs va vb : Value) (s : Sg) (a b : List Int) (w : World) (hs : SignAt w vs s) (ra : Ints w va a) (rb : Ints w vb b) (hs1 : s.length ≤ 1000) :
    Calls Tryz.prog 91 #[vs, va, vb] w fun e w' => Below w.heap.size w w' ∧
      ((termB s a && termB s b) = false ∧ e = .returned (.tuple #[.slice none 0 0, .int .i64 1]) ∨
       (termB s a && termB s b) = true ∧ matL s a b noM = none ∧ e = .returned (.tuple #[.slice none 0 0, .int .i64 8]) ∨
       (termB s a && termB s b) = true ∧ ∃ m u bs, matL s a b noM = some m ∧ e = .returned (.tuple #[u, .int .i64 0]) ∧ w'.ownsRow w.heap.size 142 2 u bs.length (bCells bs) ∧ bPure bs = bindL m 12 ∧ ∀ x ∈ bs, Ints w' x.2.1 x.2.2) := by
  cases h1 : termB s a
  · go_enter Tryz.func91, Tryz.ntmps91
    go_wp2_with (first | (go_at_call 127; refine (ref1_Valid _ _ _ _ _ hs ra).mono ?_; rintro e w1 ⟨rfl, n1, rfl⟩))
    go_ret2
    exact ⟨below_self_drewN w n1, Or.inl ⟨by simp, rfl⟩⟩
  · cases h2 : termB s b
    · go_enter Tryz.func91, Tryz.ntmps91
      go_wp2_with fail
      refine (ref1_Valid _ _ _ _ _ hs ra).mono ?_
      rintro e w1 ⟨rfl, n1, rfl⟩
      go_wp2_with fail
      refine (ref1_Valid _ _ _ _ _ (hs.drewN n1) (rb.drewN n1)).mono ?_
      rintro e w2 ⟨rfl, n2, rfl⟩
      go_wp2
      go_ret2
      exact ⟨below_self_drewN w (n1 + n2), Or.inl ⟨by simp, rfl⟩⟩
    · obtain ⟨f1, f2, f3, f4⟩ := termB_facts h1
      obtain ⟨_, _, _, f5⟩ := termB_facts h2
      have HTA := hid (termB_T h1)
      have HTB := hid (termB_T h2)
      have HSA := hid (T_lt (termB_T h1) (by omega))
      have HSB := hid (T_lt (termB_T h2) (by omega))
      have HS := hid hs
      have RA := hid ra
      have RB := hid rb
      clear hs ra rb
      go_enter Tryz.func91, Tryz.ntmps91
      go_wp2_with fail
      refine (ref1_Valid _ _ _ _ _ HS.out RA.out).mono ?_
      rintro e w1 ⟨rfl, n1, rfl⟩
      go_wp2_with fail
      refine (ref1_Valid _ _ _ _ _ (HS.out.drewN n1) (RB.out.drewN n1)).mono ?_
      rintro e w2 ⟨rfl, n2, rfl⟩
      have hb0 : Below w.heap.size w ((w.drewN (n1 + n2)).alloc (.cells #[.slice none 0 0, .slice none 0 0, .slice none 0 0, .slice none 0 0, .slice none 0 0, .slice none 0 0, .slice none 0 0, .slice none 0 0, .slice none 0 0, .slice none 0 0, .slice none 0 0, .slice none 0 0] 137)) := (below_self_drewN w (n1 + n2)).alloc (Nat.le_refl _) _
      have hm0 := ref2_matched s vs va vb a b w.heap.size (by omega) (by omega) HSA.out HSB.out HTA.out b [] [] 0 0 (fun _ => none) _ (HS.out.below hb0) (RA.out.below hb0) (RB.out.below hb0) (by simp) HTB.out (by simp) (arr12 (w.drewN (n1 + n2)) _)
      unfold MOut at hm0
      rw [mR_none] at hm0
      have HB0 := hid hb0
      have HM0 := hid hm0
      clear hb0 hm0
      go_wp2_with fail
      refine HM0.out.mono ?_
      rintro e w3 ⟨T, bo, rfl, hT, hg, ht, hf⟩
      have hb3 : Below w.heap.size w w3 := HB0.out.grown hg (by simp) (fun q hq => by cases hq; exact Nat.le_refl _)
      clear hg HB0 HM0
      cases bo with
      | false =>
        have HF := hid (hf rfl)
        clear hf ht
        go_wp2
        go_ret2
        exact ⟨hb3, Or.inr (Or.inl ⟨by simp, HF.out, rfl⟩)⟩
      | true =>
        have HF := hid (ht rfl)
        have HB3 := hid hb3
        have HT := hid hT
        have hq37 := fun (w : World) (a : Option Addr) (n c n' c' : Nat) => run_neq_slice_nil_any (P := Tryz.prog) w _ _ a n c n' c' Tryz.underlying34
        clear hf ht hT hb3
        go_wp2
        go_loopw [9, 10] (fun u kv wr => ∃ (k : Nat) (bs : List BT), k ≤ 12 ∧ kv = .int .i64 k ∧ wr.ownsRow w3.heap.size 142 2 u bs.length (bCells bs) ∧ bPure bs = bindL (mR T) k ∧ (∀ x ∈ bs, Ints w3 x.2.1 x.2.2) ∧ Below w3.heap.size w3 wr) (fun _ kv _ => 12 - (intOf kv).toNat)
        case atStart => exact ⟨0, [], by omega, rfl, World.ownsRow_nil _ _ _ _, rfl, by simp, Below.refl _ _⟩
        case round =>
          obtain ⟨k, bs, hk, rfl, hown, hbp, hbi, hb⟩ := hrel
          have hbs := hb.size
          by_cases hlt : k < 12
          · have hTr := HT.out.below hb
            have hcl := hTr.cell hlt
            simp only [Nat.zero_add] at hcl
            have hsucc := bindL_succ (mR T) k
            rw [mR_at T (n := -(k : Int) - 1) (by omega) (v := k) (by omega)] at hsucc
            have hl12 := bindL_len (mR T) k
            rw [← hbp] at hl12
            have hbl : bs.length ≤ 12 := by simp [bPure] at hl12; omega
            have HOWN := hid hown
            have HBI := hid hbi
            have HBP := hid hbp
            clear hown hbi hbp hl12
            cases hTk : T k with
            | none =>
              rw [hTk] at hcl hsucc
              have hs0 : sV none = .slice none 0 0 := rfl
              rw [hs0] at hcl
              have HSU := hid hsucc
              clear hsucc hTk hs0
              go_wp2
              go_quiet (fail)
              go_wp2
              go_roundw
              case rel => exact ⟨k + 1, bs, by omega, by go_num, owns_below HOWN.out (below_self_drewN _ nq), by rw [HSU.out, HBP.out]; simp, HBI.out, below_drewN hb nq⟩
              case measure => simp [intOf]; omega
            | some ul =>
              obtain ⟨u0, l0⟩ := ul
              obtain ⟨⟨x0, n0, c0, hue⟩, hi0⟩ := hTr.ints hlt hTk
              obtain ⟨-, hi3⟩ := HT.out.ints hlt hTk
              subst hue
              rw [hTk] at hcl hsucc
              have hs0 : sV (some (.slice (some x0) n0 c0, l0)) = .slice (some x0) n0 c0 := rfl
              rw [hs0] at hcl
              have HSU := hid hsucc
              have HI0 := hid hi0
              have HI3 := hid hi3
              have HVAR := fun W => hid (ref2_Variable (k : Int) W (by omega) (by omega))
              clear hsucc hTk hs0 hi0 hi3 hTr
              by_cases heq : l0 = [-(k : Int) - 1]
              · have HD : Hid (decide (l0 = [-(k : Int) - 1]) = true) := hid (by simp [heq])
                have HSU2 : Hid (bindL (mR T) (k + 1) = bindL (mR T) k) := hid (by rw [HSU.out]; simp [heq])
                clear heq HSU
                go_wp2
                go_region_held3 (fun w' => w'.cell? ⟨w.heap.size, k, none⟩ = some (.slice (some x0) n0 c0)) (first | assumption | go_keep) (first
                  | (go_at_call 130; refine (HVAR _).out.mono ?_; rintro e w4 ⟨uv, rfl, ov, hb4'⟩
                     have hb4 : Below wr.heap.size wr w4 := (below_self_drewN wr 1).trans hb4'
                     have hc4 := (hb4.cell (World.block_lt_of_cell? _ _ hcl)).trans hcl
                     have iv4 : Ints w4 uv [-(k : Int) - 1] := Ints.of_owns ov (by simp)
                     have i04 := HI0.out.below hb4)
                  | (go_at_call 129; refine (ref1_Same _ _ _ _ _ i04 iv4).mono ?_; rintro e w5 ⟨rfl, nq, rfl⟩; rw [HD.out]
                     have hc5 : (w4.drewN nq).cell? ⟨w.heap.size, k, none⟩ = some (.slice (some x0) n0 c0) := hc4))
                have hbz : Below w3.heap.size w3 (w4.drewN nq) := below_drewN (hb.trans (hb4.mono hbs)) nq
                have HZ := hid (owns_below (owns_below HOWN.out hb4) (below_self_drewN w4 nq))
                clear hb4 iv4 i04 hc4 hc5 ov hb4'
                go_wp2
                go_roundw
                case rel => exact ⟨k + 1, bs, by omega, by go_num, HZ.out, by rw [HSU2.out, HBP.out], HBI.out, hbz⟩
                case measure => simp [intOf]; omega
              · have HD : Hid (decide (l0 = [-(k : Int) - 1]) = false) := hid (by simp [heq])
                have HSU2 : Hid (bindL (mR T) (k + 1) = bindL (mR T) k ++ [(k, l0)]) := hid (by rw [HSU.out]; simp [heq])
                clear heq HSU
                go_wp2
                go_region_held3 (fun w' => w'.cell? ⟨w.heap.size, k, none⟩ = some (.slice (some x0) n0 c0)) (first | assumption | go_keep) (first
                  | (go_at_call 130; refine (HVAR _).out.mono ?_; rintro e w4 ⟨uv, rfl, ov, hb4'⟩
                     have hb4 : Below wr.heap.size wr w4 := (below_self_drewN wr 1).trans hb4'
                     have hc4 := (hb4.cell (World.block_lt_of_cell? _ _ hcl)).trans hcl
                     have iv4 : Ints w4 uv [-(k : Int) - 1] := Ints.of_owns ov (by simp)
                     have i04 := HI0.out.below hb4)
                  | (go_at_call 129; refine (ref1_Same _ _ _ _ _ i04 iv4).mono ?_; rintro e w5 ⟨rfl, nq, rfl⟩; rw [HD.out]
                     have hc5 : (w4.drewN nq).cell? ⟨w.heap.size, k, none⟩ = some (.slice (some x0) n0 c0) := hc4))
                have hbz : Below w3.heap.size w3 (w4.drewN nq) := below_drewN (hb.trans (hb4.mono hbs)) nq
                have HZ := hid (owns_below (owns_below HOWN.out hb4) (below_self_drewN w4 nq))
                obtain ⟨w5, hw5⟩ : ∃ x, x = w4.drewN nq := ⟨_, rfl⟩
                rw [← hw5] at hc5 hbz HZ ⊢
                have hsz5 := hbz.size
                clear hb4 iv4 i04 hc4 ov hb4' hw5
                go_wp2_with (at_builtin; refine wpList_append_row rfl _ _ 111 rfl w3.heap.size 142 el_bind Tryz.underlying111 rfl (by decide) _ _ _ rfl (HZ.out.alloc _) _ 1 [.int .i64 k, .slice (some x0) n0 c0] rfl (row_two_new _ _ _ _) (by simp; exact ⟨rfl, rfl⟩) (by omega) (by omega) (by simp; omega) ?_; intro v' w6 hown6 hgrow6 _)
                have hb6 : Below w3.heap.size w3 w6 := (hbz.alloc hsz5 _).grown hgrow6 (by simp; omega) (fun q hq => (HZ.out.lt q hq).1)
                go_roundw
                case rel =>
                  refine ⟨k + 1, bs ++ [(k, .slice (some x0) n0 c0, l0)], by omega, by go_num, ?_, ?_, ?_, hb6⟩
                  · simpa [bCells] using hown6
                  · rw [HSU2.out, ← HBP.out]; simp [bPure]
                  · intro x hx
                    rcases List.mem_append.1 hx with hx | hx
                    · exact HBI.out x hx
                    · simp at hx; subst hx; exact HI3.out
                case measure => simp [intOf]; omega
          · have hk12 : k = 12 := by omega
            subst hk12
            have HOWN := hid hown
            have HBP := hid hbp
            have HBI := hid hbi
            have hsz3 := HB3.out.size
            clear hown hbp hbi
            go_wp2
            go_ret2
            exact ⟨HB3.out.trans (hb.mono hsz3), Or.inr (Or.inr ⟨by simp, mR T, u9, bs, HF.out, rfl, owns_base HOWN.out hsz3, HBP.out, fun x hx => (HBI.out x hx).below hb⟩)⟩
set_option maxRecDepth 100000 in
theorem ref2_Instance (vs va vb : Value) (s : Sg) (a b : List Int) (w : World) (hs : SignAt w vs s) (ra : Ints w va a) (rb : Ints w vb b) (hs1 : s.length ≤ 1000) :
    Calls Tryz.prog 43 #[vs, va, vb] w fun e w' => e = .returned (.bool (instB s a b)) ∧ Below w.heap.size w w' := by
  have HM := hid (ref2_Match vs va vb s a b w hs ra rb hs1)
  have H1 : Hid ((termB s a && termB s b) = false → instB s a b = false) := hid (fun h => by unfold instB; rw [h]; rfl)
  have H2 : Hid ((termB s a && termB s b) = true → instB s a b = (matL s a b noM).isSome) := hid (fun h => by unfold instB; rw [h]; rfl)
  clear hs ra rb
  go_enter Tryz.func43, Tryz.ntmps43
  go_wp2_with fail
  refine HM.out.mono ?_
  rintro e w1 ⟨hb, ⟨h1, rfl⟩ | ⟨h1, h2, rfl⟩ | ⟨h1, m, u, bs, h2, rfl, -, -, -⟩⟩
  · have HF := hid (H1.out h1)
    clear h1
    go_wp2
    go_ret
    exact ⟨by rw [HF.out]; rfl, hb⟩
  · have HF : Hid (instB s a b = false) := hid ((H2.out h1).trans (by rw [h2]; rfl))
    clear h1 h2
    go_wp2
    go_ret
    exact ⟨by rw [HF.out]; rfl, hb⟩
  · have HF : Hid (instB s a b = true) := hid ((H2.out h1).trans (by rw [h2]; rfl))
    clear h1 h2
    go_wp2
    go_ret
    exact ⟨by rw [HF.out]; rfl, hb⟩
end Go.Proofs.YtmpjaakkjhmpmaaGreatDoor
namespace Go.Proofs.YtmpjaakkjhmpmaaGreatDoor
open Go Go.RowKit Go.Maps
end Go.Proofs.YtmpjaakkjhmpmaaGreatDoor
namespace Go.Proofs.YtmpjaakkjhmpmaaGreatDoor
open Go Go.RowKit Go.Maps
theorem Terms.at {w : World} {a : Option Addr} {n cap : Nat} {l : List (List Int)} (h : Terms w (.slice a n cap) l) {k : Nat} (hk : k < l.length) : ∃ b o u, a = some ⟨b, o, none⟩ ∧ w.cell? ⟨b, o + k, none⟩ = some u ∧ Ints w u l[k] := by
  obtain ⟨a', cap', h1, _, _, _, h2⟩ := h.open
  simp only [Value.slice.injEq] at h1
  obtain ⟨rfl, _, rfl⟩ := h1
  exact h2 k hk
end Go.Proofs.YtmpjaakkjhmpmaaGreatDoor
namespace Go.Proofs.YtmpjaakkjhmpmaaGreatDoor
open Go Go.RowKit Go.Maps
end Go.Proofs.YtmpjaakkjhmpmaaGreatDoor
namespace Go.Proofs.YtmpjaakkjhmpmaaGreatDoor
open Go Go.RowKit Go.Maps
end Go.Proofs.YtmpjaakkjhmpmaaGreatDoor
namespace Go.Proofs.YtmpjaakkjhmpmaaGreatDoor
open Go Go.RowKit Go.Maps
end Go.Proofs.YtmpjaakkjhmpmaaGreatDoor
namespace Go.Proofs.YtmpjaakkjhmpmaaGreatDoor
open Go Go.RowKit Go.Maps
end Go.Proofs.YtmpjaakkjhmpmaaGreatDoor
namespace Go.Proofs.YtmpjaakkjhmpmaaGreatDoor
open Go Go.RowKit Go.Maps
end Go.Proofs.YtmpjaakkjhmpmaaGreatDoor
namespace Go.Proofs.YtmpjaakkjhmpmaaGreatDoor
open Go Go.RowKit Go.Maps
end Go.Proofs.YtmpjaakkjhmpmaaGreatDoor
namespace Go.Proofs.YtmpjaakkjhmpmaaGreatDoor
open Go Go.RowKit Go.Maps
end Go.Proofs.YtmpjaakkjhmpmaaGreatDoor
namespace Go.Proofs.YtmpjaakkjhmpmaaGreatDoor
open Go Go.RowKit Go.Maps
def bRow (e : TypeId) (u : Value) (bs : List BV) : Rw := ⟨e, 2, u, bs.length, biC bs⟩
def bTos (T : TypeId) (bs : List BV) : List Rw := bs.map fun b => rwT T b.2.1 b.2.2
/-- binds of the call's own memory, rows apart. -/
def BSep (E T : TypeId) (w : World) (base : Nat) (u : Value) (bs : List BV) : Prop := Sep w base (bRow E u bs :: bTos T bs)
theorem BSep.nil (E T : TypeId) (w : World) (base : Nat) : BSep E T w base (.slice none 0 0) [] := (Sep.nil w base).consNil E 2
theorem BSep.below {E T : TypeId} {w w' : World} {base : Nat} {u : Value} {bs : List BV} (h : BSep E T w base u bs) (hb : Below w.heap.size w w') : BSep E T w' base u bs := Sep.below h hb
theorem BSep.row {E T : TypeId} {w : World} {base : Nat} {u : Value} {bs : List BV} (h : BSep E T w base u bs) : w.ownsRow base E 2 u bs.length (biC bs) := h.1 (bRow E u bs) (by simp)
theorem BSep.push {E T : TypeId} {w0 w w1 : World} {base base' : Nat} {u : Value} {bs : List BV} (h : BSep E T w0 base u bs) (hb : Below w0.heap.size w0 w) (hB : w0.heap.size ≤ base') (hbb : base ≤ base') {x : Int} {v : Value} {p : List Int}
    (hv : w.ownsRow base' T 1 v p.length (p.map (Value.int .i64))) {g cap n : Nat} (hn : bs.length = n) (hown : w1.ownsRow base E 2 (.slice (some ⟨g, 0, none⟩) (n + 1) cap) (n + 1) (biC bs ++ [.int .i64 x, v])) (hg : w.grownBy w1 u.ownBlock) {H : Nat} (hH : w.heap.size = H) (hat : u.ownBlock = some g ∨ g = H) :
    BSep E T w1 base (.slice (some ⟨g, 0, none⟩) (n + 1) cap) (bs ++ [(x, v, p)]) := by
  subst hn
  have h1 : Sep w base (rwT T v p :: bRow E u bs :: bTos T bs) := Sep.cons h hb hB hbb hv
  have h2 : Sep w base (bRow E u bs :: rwT T v p :: bTos T bs) := h1.perm (List.Perm.swap _ _ _)
  have h3 := h2.app hg hown hH hat
  have e : (⟨E, 2, .slice (some ⟨g, 0, none⟩) (bs.length + 1) cap, bs.length + 1, biC bs ++ [.int .i64 x, v]⟩ : Rw) = bRow E (.slice (some ⟨g, 0, none⟩) (bs.length + 1) cap) (bs ++ [(x, v, p)]) := by
    unfold bRow; rw [biC_snoc, List.length_append]; rfl
  rw [e] at h3
  refine h3.perm (List.Perm.cons _ ?_)
  unfold bTos
  rw [List.map_append]
  exact (List.perm_append_comm (l₁ := [rwT T v p]) (l₂ := bs.map fun b => rwT T b.2.1 b.2.2))
theorem BSep.at {E T : TypeId} {w : World} {base : Nat} {u : Value} {bs : List BV} (h : BSep E T w base u bs) {l : BL} (hl : biP bs = l) (hn : bs.length ≤ 140737488355328) (hp : ∀ b ∈ l, b.2.length ≤ 140737488355328) : BindsAt w u l := by
  subst hl
  refine BindsAt.of_owns h.row hn fun x hx => ?_
  exact Sep.ints h (List.mem_cons_of_mem _ (List.mem_map.2 ⟨x, hx, rfl⟩)) (hp (x.1, x.2.2) (List.mem_map.2 ⟨x, hx, rfl⟩))
end Go.Proofs.YtmpjaakkjhmpmaaGreatDoor
namespace Go.Proofs.YtmpjaakkjhmpmaaGreatDoor
open Go Go.RowKit Go.Maps
end Go.Proofs.YtmpjaakkjhmpmaaGreatDoor
namespace Go.Proofs.YtmpjaakkjhmpmaaGreatDoor
open Go Go.RowKit Go.Maps Go.Shelf
attribute [local go_sem] Oper.semAt_some
end Go.Proofs.YtmpjaakkjhmpmaaGreatDoor
namespace Go.Proofs.YtmpjaakkjhmpmaaGreatDoor
open Go Go.RowKit Go.Maps Go.Shelf
attribute [local go_sem] Oper.semAt_some
theorem ownsRow_frm {w w' : World} {b : Nat} {e : TypeId} {k : Nat} {v : Value} {n : Nat} {xs : List Value} (h : w.ownsRow b e k v n xs) (hs : ∀ q, v.ownBlock = some q → w'.heap[q]? = w.heap[q]?) : w'.ownsRow b e k v n xs := by
  obtain ⟨h1, h2⟩ := h
  refine ⟨h1, ?_⟩
  rcases h2 with h2 | ⟨g, cap, cur, r1, r2, r3, r4⟩
  · exact .inl h2
  · exact .inr ⟨g, cap, cur, r1, r2, by rw [hs g (by rw [r1]; rfl)]; exact r3, r4⟩
theorem Sep.frm {w w' : World} {base : Nat} {rs : List Rw} (h : Sep w base rs) (hs : ∀ r ∈ rs, ∀ q, r.v.ownBlock = some q → w'.heap[q]? = w.heap[q]?) : Sep w' base rs :=
  ⟨fun r hr => ownsRow_frm (h.1 r hr) (hs r hr), h.2⟩
theorem Sep.blk {w : World} {base : Nat} {rs : List Rw} (h : Sep w base rs) {r : Rw} (hr : r ∈ rs) {q : Nat} (hq : r.v.ownBlock = some q) : base ≤ q ∧ q < w.heap.size := (h.1 r hr).lt q hq
def bRows (E T : TypeId) (u : Value) (bs : List BV) : List Rw := bRow E u bs :: bTos T bs
/-- the binds that are put together, in blocks of the call's own. -/
structure CmpI (l m : BL) (wb : World) (B bo b6 b7 bt bm nM : Nat) (Mp : Int → Option VT) (k : Nat) (M : Nat → Prop) (W : World) : Prop where
  le : ∀ i, i < k → comLe l m i = true
  out : ∃ uo bs, W.cell? ⟨bo, 0, none⟩ = some uo ∧ BSep 142 3 W B uo bs ∧ biP bs = bndL (comM l m) k ∧ ∀ r ∈ bRows 142 3 uo bs, ∀ q, r.v.ownBlock = some q → M q
  free : W.frozen? ⟨bo, 0, none⟩ = false
  c6 : W.cell? ⟨b6, 0, none⟩ = some (.slice none 0 0) ∧ W.frozen? ⟨b6, 0, none⟩ = false
  c7 : W.cell? ⟨b7, 0, none⟩ = some (.int .i64 0) ∧ W.frozen? ⟨b7, 0, none⟩ = false
  ct : W.cell? ⟨bt, 0, none⟩ = some (.map (some bm))
  tm : TMap W bm nM Mp
  bel : Below wb.heap.size wb W
  mem : M bo ∧ M b6 ∧ M b7
/-- where the function is left from a round. -/
structure CmpX (s : Sg) (l m : BL) (wb : World) (b6 b7 : Nat) (c : Code) (W : World) : Prop where
  ret : c = .ret
  ans : comR s l m = ([], 4)
  c6 : W.cell? ⟨b6, 0, none⟩ = some (.slice none 0 0)
  c7 : W.cell? ⟨b7, 0, none⟩ = some (.int .i64 4)
  bel : Below wb.heap.size wb W
theorem cell_same {W W' : World} {p : Addr} {v : Value} (h : W.cell? p = some v) (hs : W'.heap[p.block]? = W.heap[p.block]?) : W'.cell? p = some v := (World.cell?_of_block hs).trans h
theorem CmpI.kb {l m : BL} {wb : World} {B bo b6 b7 bt bm nM : Nat} {Mp : Int → Option VT} {k : Nat} {M T : Nat → Prop} {W W' : World} (h : CmpI l m wb B bo b6 b7 bt bm nM Mp k M W) (hk : Kb T W W')
    (ho : ¬ T bo) (h6 : ¬ T b6) (h7 : ¬ T b7) (ht : ¬ T bt) (hm : ¬ T bm) (hr : ∀ q, M q → B ≤ q → ¬ T q) (hw : ∀ q, q < wb.heap.size → ¬ T q) : CmpI l m wb B bo b6 b7 bt bm nM Mp k M W' := by
  obtain ⟨a1, ⟨uo, bs, a2, a3, a4, a5⟩, a6, a7, a8, a9, a10, a11, a12⟩ := h
  have e1 := hk.same _ (World.block_lt_of_cell? _ _ a2) ho
  have e2 := hk.same _ (World.block_lt_of_cell? _ _ a7.1) h6
  have e3 := hk.same _ (World.block_lt_of_cell? _ _ a8.1) h7
  have e4 := hk.same _ (World.block_lt_of_cell? _ _ a9) ht
  have e5 := hk.same _ a10.lt hm
  refine ⟨a1, ⟨uo, bs, cell_same a2 e1, Sep.frm a3 (fun r hr' q hq => hk.same _ (Sep.blk a3 hr' hq).2 (hr q (a5 r hr' q hq) (Sep.blk a3 hr' hq).1)), a4, a5⟩, (World.frozen?_of_block e1).trans a6,
    ⟨cell_same a7.1 e2, (World.frozen?_of_block e2).trans a7.2⟩, ⟨cell_same a8.1 e3, (World.frozen?_of_block e3).trans a8.2⟩, cell_same a9 e4, a10.of_block e5, a11.trans ⟨hk.os, hk.tape, hk.output, hk.size, fun q hq => hk.same q (Nat.lt_of_lt_of_le hq a11.size) (hw q hq)⟩, a12⟩
theorem CmpI.frm {l m : BL} {wb : World} {B bo b6 b7 bt bm nM : Nat} {Mp : Int → Option VT} (hB : wb.heap.size ≤ B) (h1 : bo < B) (h2 : b6 < B) (h3 : b7 < B) (h4 : bt < B) (h5 : bm < B) (k : Nat) : Frm B (CmpI l m wb B bo b6 b7 bt bm nM Mp k) :=
  fun M W W' h hk => h.kb hk (fun h => by omega) (fun h => by omega) (fun h => by omega) (fun h => by omega) (fun h => by omega) (fun q hq _ h => h.2 hq) (fun q hq h => by omega)
theorem CmpI.below {l m : BL} {wb : World} {B bo b6 b7 bt bm nM : Nat} {Mp : Int → Option VT} {k : Nat} {M : Nat → Prop} {W W' : World} (h : CmpI l m wb B bo b6 b7 bt bm nM Mp k M W) (hb : Below W.heap.size W W') : CmpI l m wb B bo b6 b7 bt bm nM Mp k M W' :=
  h.kb (T := fun _ => False) (Kb.of_below hb) (fun h => h) (fun h => h) (fun h => h) (fun h => h) (fun h => h) (fun _ _ _ h => h) (fun _ _ h => h)
theorem CmpX.frm {s : Sg} {l m : BL} {wb : World} {B b6 b7 : Nat} (hB : wb.heap.size ≤ B) (h2 : b6 < B) (h3 : b7 < B) (c : Code) : Frm B (fun _ => CmpX s l m wb b6 b7 c) := by
  rintro M W W' ⟨a1, a2, a3, a4, a5⟩ hk
  exact ⟨a1, a2, cell_same a3 (hk.same _ (World.block_lt_of_cell? _ _ a3) (fun h => by have h' : B ≤ b6 := h.1; omega)), cell_same a4 (hk.same _ (World.block_lt_of_cell? _ _ a4) (fun h => by have h' : B ≤ b7 := h.1; omega)), a5.trans (hk.below a5.size (fun k h => by omega))⟩
theorem CmpI.skip {l m : BL} {wb : World} {B bo b6 b7 bt bm nM : Nat} {Mp : Int → Option VT} {k : Nat} {M : Nat → Prop} {W : World} (h : CmpI l m wb B bo b6 b7 bt bm nM Mp k M W) (hl : comLe l m k = true) (hs : bndL (comM l m) (k + 1) = bndL (comM l m) k) : CmpI l m wb B bo b6 b7 bt bm nM Mp (k + 1) M W := by
  obtain ⟨a1, ⟨uo, bs, a2, a3, a4, a5⟩, a6, a7, a8, a9, a10, a11, a12⟩ := h
  refine ⟨fun i hi => ?_, ⟨uo, bs, a2, a3, a4.trans hs.symm, a5⟩, a6, a7, a8, a9, a10, a11, a12⟩
  rcases Nat.lt_succ_iff_lt_or_eq.1 hi with h1 | rfl
  · exact a1 i h1
  · exact hl
/-- one more bind. -/
theorem CmpI.push {l m : BL} {wb : World} {B bo b6 b7 bt bm nM : Nat} {Mp : Int → Option VT} {k : Nat} {M : Nat → Prop} {W W6 W7 : World} {uo : Value} {bs : List BV} (h : CmpI l m wb B bo b6 b7 bt bm nM Mp k M W)
    (hB : wb.heap.size ≤ B) (h1 : bo < B) (h2 : b6 < B) (h3 : b7 < B) (h4 : bt < B) (h5 : bm < B) (hBW : B ≤ W.heap.size) (h6 : b6 ≠ bo ∧ b7 ≠ bo ∧ bt ≠ bo ∧ bm ≠ bo) (hwo : wb.heap.size ≤ bo)
    (c0 : W.cell? ⟨bo, 0, none⟩ = some uo) (hS : BSep 142 3 W B uo bs) (hbp : biP bs = bndL (comM l m) k) (hM : ∀ r ∈ bRows 142 3 uo bs, ∀ q, r.v.ownBlock = some q → M q)
    (hMl : ∀ q, M q → q < W.heap.size) (hle : comLe l m k = true) {v : Value} {p : List Int} (hs : bndL (comM l m) (k + 1) = bndL (comM l m) k ++ [((k : Int), p)]) (hb : Below W.heap.size W W6)
    (hv : W6.ownsRow W.heap.size 3 1 v p.length (p.map (Value.int .i64))) {g cap n : Nat} (hn : bs.length = n)
    (hown : W7.ownsRow B 142 2 (.slice (some ⟨g, 0, none⟩) (n + 1) cap) (n + 1) (biC bs ++ [.int .i64 k, v])) (hg : W6.grownBy W7 uo.ownBlock) (hat : uo.ownBlock = some g ∨ g = W6.heap.size) (hlt : g < W7.heap.size) :
    ∃ M' : Nat → Prop, (∀ q, M' q → (M q ∨ W.heap.size ≤ q) ∧ q < (W7.setCell ⟨bo, 0, none⟩ (.slice (some ⟨g, 0, none⟩) (n + 1) cap)).heap.size) ∧
      Kb (fun q => M q ∨ W.heap.size ≤ q) W (W7.setCell ⟨bo, 0, none⟩ (.slice (some ⟨g, 0, none⟩) (n + 1) cap)) ∧
      CmpI l m wb B bo b6 b7 bt bm nM Mp (k + 1) M' (W7.setCell ⟨bo, 0, none⟩ (.slice (some ⟨g, 0, none⟩) (n + 1) cap)) := by
  have hpush := hS.push (x := (k : Int)) hb (Nat.le_refl _) hBW hv hn hown hg rfl hat
  have hrow : ∀ q, uo.ownBlock = some q → M q ∧ B ≤ q := fun q hq => ⟨hM (bRow 142 uo bs) (by simp [bRows]) q hq, (Sep.blk hS (r := bRow 142 uo bs) (by simp) hq).1⟩
  have hs67 := hg.size
  have hs06 := hb.size
  have k7 : Kb (fun q => (M q ∧ B ≤ q) ∨ W.heap.size ≤ q) W W7 := (Kb.of_below hb).trans (Kb.grown (M := fun q => (M q ∧ B ≤ q) ∨ W.heap.size ≤ q) hg (fun q hq => Or.inl (Or.inl (hrow q hq)))) (fun q hq => by rcases hq with hq | hq; exact Or.inl (Or.inl hq); exact Or.inl (Or.inr hq))
  have kf : Kb (fun q => q = bo ∨ (M q ∧ B ≤ q) ∨ W.heap.size ≤ q) W (W7.setCell ⟨bo, 0, none⟩ (.slice (some ⟨g, 0, none⟩) (n + 1) cap)) :=
    (k7.mono (M' := fun q => q = bo ∨ (M q ∧ B ≤ q) ∨ W.heap.size ≤ q) (fun q _ hq => Or.inr hq)).trans (Kb.setCell (M := fun q => q = bo) _ rfl) (fun q hq => Or.inl (Or.inl hq))
  have hbol : bo < W.heap.size := by omega
  have e0 : W7.heap[bo]? = W.heap[bo]? := k7.same _ hbol (fun h => by omega)
  have c7 : W7.cell? ⟨bo, 0, none⟩ = some uo := cell_same c0 e0
  obtain ⟨a1, -, a6, a7, a8, a9, a10, a11, a12⟩ := h
  have e2 := kf.same _ (World.block_lt_of_cell? _ _ a7.1) (fun h => by have h' : b6 = bo ∨ (M b6 ∧ B ≤ b6) ∨ W.heap.size ≤ b6 := h; omega)
  have e3 := kf.same _ (World.block_lt_of_cell? _ _ a8.1) (fun h => by have h' : b7 = bo ∨ (M b7 ∧ B ≤ b7) ∨ W.heap.size ≤ b7 := h; omega)
  have e4 := kf.same _ (World.block_lt_of_cell? _ _ a9) (fun h => by have h' : bt = bo ∨ (M bt ∧ B ≤ bt) ∨ W.heap.size ≤ bt := h; omega)
  have e5 := kf.same _ a10.lt (fun h => by omega)
  have hsz : (W7.setCell ⟨bo, 0, none⟩ (.slice (some ⟨g, 0, none⟩) (n + 1) cap)).heap.size = W7.heap.size := by simp [World.setCell]
  refine ⟨fun q => M q ∨ (W.heap.size ≤ q ∧ q < W7.heap.size), fun q hq => ?_, kf.mono fun q _ hq => ?_, fun i hi => ?_, ?_, (World.frozen?_setCell _ _ _ _).trans ((World.frozen?_of_block e0).trans a6),
    ⟨cell_same a7.1 e2, (World.frozen?_of_block e2).trans a7.2⟩, ⟨cell_same a8.1 e3, (World.frozen?_of_block e3).trans a8.2⟩, cell_same a9 e4, a10.of_block e5,
    a11.trans ⟨kf.os, kf.tape, kf.output, kf.size, fun q hq => kf.same q (Nat.lt_of_lt_of_le hq a11.size) (fun h => by omega)⟩, Or.inl a12.1, Or.inl a12.2.1, Or.inl a12.2.2⟩
  · rw [hsz]
    rcases hq with hq | hq
    · exact ⟨Or.inl hq, by have := hMl q hq; omega⟩
    · exact ⟨Or.inr hq.1, hq.2⟩
  · rcases hq with rfl | hq | hq
    · exact Or.inl a12.1
    · exact Or.inl hq.1
    · exact Or.inr hq
  · rcases Nat.lt_succ_iff_lt_or_eq.1 hi with h1 | rfl
    · exact a1 i h1
    · exact hle
  · refine ⟨_, _, World.cell?_setCell_same' _ _ _ (by rw [c7]; rfl), Sep.frm hpush (fun r hr q hq => Below.heap_setCell _ _ _ _ (fun e => ?_)), by rw [biP_snoc, hbp, hs], fun r hr q hq => ?_⟩
    · have h8 : q = bo := e
      have := (Sep.blk hpush hr hq).1
      omega
    · have hlt' := (Sep.blk hpush hr hq).2
      by_cases hw : W.heap.size ≤ q
      · exact Or.inr ⟨hw, hlt'⟩
      · left
        simp only [bRows, List.mem_cons, bTos, List.map_append, List.mem_append, List.map_cons, List.map_nil, List.not_mem_nil, or_false] at hr
        rcases hr with rfl | hr | rfl
        · rcases hat with hat | hat
          · cases hq
            exact (hrow g hat).1
          · cases hq
            simp only at hw
            omega
        · exact hM r (List.mem_cons_of_mem _ hr) q hq
        · exact absurd (hv.lt q hq).1 hw
end Go.Proofs.YtmpjaakkjhmpmaaGreatDoor
