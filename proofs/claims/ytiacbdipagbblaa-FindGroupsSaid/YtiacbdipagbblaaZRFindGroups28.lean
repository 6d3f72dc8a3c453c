/-
  WHAT IT HOLDS: contracts of Variable, Match and Instance of the reference of layer 2. Conditions: the arguments read as data.
-/
import Derived.WalkSpells
import Derived.Test.YtiacbdipagbblaaZRFindGroups27
import Derived.Test.YtiacbdipagbblaaZRFindGroups20
namespace Go.Proofs.Ytiacbdipagbblaa
open Go Go.RowKit Go.Maps
theorem ref2_Variable (v : Int) (w : World) (h0 : 0 ≤ v) (h1 : v ≤ 1000) :
    Calls Try.prog 162 #[.int .i64 v] w fun e w' => ∃ u, e = .returned u ∧ w'.ownsRow w.heap.size 3 1 u [-v - 1].length ([-v - 1].map (Value.int .i64)) ∧ Below w.heap.size w w' := by
  go_enter Try.func162, Try.ntmps162
  go_wp2
  go_ret
  refine ⟨_, rfl, ?_, (Below.refl _ _).alloc (Nat.le_refl _) _⟩
  have := World.ownsRow_lit (base := w.heap.size) (e := 3) (size := 1) w #[.int .i64 (-v - 1)] 1 (Nat.le_refl _) (by simp [maxLen]) rfl
  simpa using this
/-- the binds that a match tells. -/
def bindL (m : MM) (k : Nat) : List (Nat × List Int) := (List.range k).filterMap fun (v : Nat) => match m (-(v : Int) - 1) with | some l => if l = [-(v : Int) - 1] then none else some (v, l) | none => none
theorem bindL_succ (m : MM) (k : Nat) : bindL m (k + 1) = bindL m k ++ match m (-(k : Int) - 1) with | some l => if l = [-(k : Int) - 1] then [] else [(k, l)] | none => [] := by
  unfold bindL
  rw [List.range_succ, List.filterMap_append]
  congr 1
  cases h : m (-(k : Int) - 1) with
  | none => simp [h]
  | some l =>
    simp only [List.filterMap_cons, List.filterMap_nil, h]
    by_cases e : l = [-(k : Int) - 1] <;> simp [e]
theorem bindL_len (m : MM) (k : Nat) : (bindL m k).length ≤ k := by
  unfold bindL
  exact Nat.le_trans (List.length_filterMap_le _ _) (by simp)
abbrev BT := Nat × Value × List Int
def bCells (bs : List BT) : List Value := bs.flatMap fun b => [.int .i64 b.1, b.2.1]
def bPure (bs : List BT) : List (Nat × List Int) := bs.map fun b => (b.1, b.2.2)
theorem el_bind : ElemAt Try.prog 140 (.agg #[.int .i64 0, .slice none 0 0]) 2 32 := by unfold ElemAt; kernel_rfl
theorem row_two_new (w : World) (x y : Value) (t : TypeId) : RowK (w.alloc (.cells #[x, y] t)) (.slice (some ⟨w.heap.size, 0, none⟩) 1 1) 2 1 [x, y] := by
  refine ⟨rfl, _, _, rfl, Nat.le_refl _, by omega, (fun h => by cases h), fun j u hj => ⟨_, _, rfl, ?_⟩⟩
  rw [World.cell?_alloc_new]
  match j, hj with
  | 0, hj => simpa using hj
  | 1, hj => simpa using hj
  | j + 2, hj => simp at hj
theorem arr12 (w : World) (ty : TypeId) : ArrT (w.alloc (.cells #[.slice none 0 0, .slice none 0 0, .slice none 0 0, .slice none 0 0, .slice none 0 0, .slice none 0 0, .slice none 0 0, .slice none 0 0, .slice none 0 0, .slice none 0 0, .slice none 0 0, .slice none 0 0] ty)) w.heap.size 0 12 (fun _ => none) := by
  refine ⟨_, ty, (MapKept.heap_alloc w _).1, fun i u hi => ?_, fun v hv => ⟨?_, fun _ _ h => by cases h⟩⟩
  · have hm := Array.mem_of_getElem? hi
    simp at hm
    exact ⟨_, _, _, hm⟩
  · match v, hv with
    | 0, _ => rfl
    | 1, _ => rfl
    | 2, _ => rfl
    | 3, _ => rfl
    | 4, _ => rfl
    | 5, _ => rfl
    | 6, _ => rfl
    | 7, _ => rfl
    | 8, _ => rfl
    | 9, _ => rfl
    | 10, _ => rfl
    | 11, _ => rfl
    | v + 12, h => omega
theorem mR_none : mR (fun _ => none) = noM := by
  funext x
  unfold mR noM
  split <;> rfl
set_option maxHeartbeats 4000000 in
set_option maxRecDepth 100000 in
theorem ref2_Match (vs va vb : Value) (s : Sg) (a b : List Int) (w : World) (hs : SignAt w vs s) (ra : Ints w va a) (rb : Ints w vb b) (hs1 : s.length ≤ 1000) :
    Calls Try.prog 133 #[vs, va, vb] w fun e w' => Below w.heap.size w w' ∧
      ((termB s a && termB s b) = false ∧ e = .returned (.tuple #[.slice none 0 0, .int .i64 1]) ∨
       (termB s a && termB s b) = true ∧ matL s a b noM = none ∧ e = .returned (.tuple #[.slice none 0 0, .int .i64 8]) ∨
       (termB s a && termB s b) = true ∧ ∃ m u bs, matL s a b noM = some m ∧ e = .returned (.tuple #[u, .int .i64 0]) ∧ w'.ownsRow w.heap.size 140 2 u bs.length (bCells bs) ∧ bPure bs = bindL m 12 ∧ ∀ x ∈ bs, Ints w' x.2.1 x.2.2) := by
  cases h1 : termB s a
  · go_enter Try.func133, Try.ntmps133
    go_wp2_with (first | (go_at_call 78; refine (ref1_Valid _ _ _ _ _ hs ra).mono ?_; rintro e w1 ⟨rfl, n1, rfl⟩))
    go_ret2
    exact ⟨below_self_drewN w n1, Or.inl ⟨by simp, rfl⟩⟩
  · cases h2 : termB s b
    · go_enter Try.func133, Try.ntmps133
      go_wp2_with fail
      refine (ref1_Valid _ _ _ _ _ hs ra).mono ?_
      rintro e w1 ⟨rfl, n1, rfl⟩
      go_wp2_with fail
      refine (ref1_Valid _ _ _ _ _ (hs.drewN n1) (rb.drewN n1)).mono ?_
      rintro e w2 ⟨rfl, n2, rfl⟩
      go_wp2
      go_ret2
      exact ⟨below_self_drewN w (n1 + n2), Or.inl ⟨by simp, rfl⟩⟩
    · obtain ⟨f1, f2, f3, f4⟩ := termB_facts h1
      obtain ⟨_, _, _, f5⟩ := termB_facts h2
      have HTA := hid (termB_T h1)
      have HTB := hid (termB_T h2)
      have HSA := hid (T_lt (termB_T h1) (by omega))
      have HSB := hid (T_lt (termB_T h2) (by omega))
      have HS := hid hs
      have RA := hid ra
      have RB := hid rb
      clear hs ra rb
      go_enter Try.func133, Try.ntmps133
      go_wp2_with fail
      refine (ref1_Valid _ _ _ _ _ HS.out RA.out).mono ?_
      rintro e w1 ⟨rfl, n1, rfl⟩
      go_wp2_with fail
      refine (ref1_Valid _ _ _ _ _ (HS.out.drewN n1) (RB.out.drewN n1)).mono ?_
      rintro e w2 ⟨rfl, n2, rfl⟩
      have hb0 : Below w.heap.size w ((w.drewN (n1 + n2)).alloc (.cells #[.slice none 0 0, .slice none 0 0, .slice none 0 0, .slice none 0 0, .slice none 0 0, .slice none 0 0, .slice none 0 0, .slice none 0 0, .slice none 0 0, .slice none 0 0, .slice none 0 0, .slice none 0 0] 135)) := (below_self_drewN w (n1 + n2)).alloc (Nat.le_refl _) _
      have hm0 := ref2_matched s vs va vb a b w.heap.size (by omega) (by omega) HSA.out HSB.out HTA.out b [] [] 0 0 (fun _ => none) _ (HS.out.below hb0) (RA.out.below hb0) (RB.out.below hb0) (by simp) HTB.out (by simp) (arr12 (w.drewN (n1 + n2)) _)
      unfold MOut at hm0
      rw [mR_none] at hm0
      have HB0 := hid hb0
      have HM0 := hid hm0
      clear hb0 hm0
      go_wp2_with fail
      refine HM0.out.mono ?_
      rintro e w3 ⟨T, bo, rfl, hT, hg, ht, hf⟩
      have hb3 : Below w.heap.size w w3 := HB0.out.grown hg (by simp) (fun q hq => by cases hq; exact Nat.le_refl _)
      clear hg HB0 HM0
      cases bo with
      | false =>
        have HF := hid (hf rfl)
        clear hf ht
        go_wp2
        go_ret2
        exact ⟨hb3, Or.inr (Or.inl ⟨by simp, HF.out, rfl⟩)⟩
      | true =>
        have HF := hid (ht rfl)
        have HB3 := hid hb3
        have HT := hid hT
        have hq37 := fun (w : World) (a : Option Addr) (n c n' c' : Nat) => run_neq_slice_nil_any (P := Try.prog) w _ _ a n c n' c' Try.underlying37
        clear hf ht hT hb3
        go_wp2
        go_loopw [9, 10] (fun u kv wr => ∃ (k : Nat) (bs : List BT), k ≤ 12 ∧ kv = .int .i64 k ∧ wr.ownsRow w3.heap.size 140 2 u bs.length (bCells bs) ∧ bPure bs = bindL (mR T) k ∧ (∀ x ∈ bs, Ints w3 x.2.1 x.2.2) ∧ Below w3.heap.size w3 wr) (fun _ kv _ => 12 - (intOf kv).toNat)
        case atStart => exact ⟨0, [], by omega, rfl, World.ownsRow_nil _ _ _ _, rfl, by simp, Below.refl _ _⟩
        case round =>
          obtain ⟨k, bs, hk, rfl, hown, hbp, hbi, hb⟩ := hrel
          have hbs := hb.size
          by_cases hlt : k < 12
          · have hTr := HT.out.below hb
            have hcl := hTr.cell hlt
            simp only [Nat.zero_add] at hcl
            have hsucc := bindL_succ (mR T) k
            rw [mR_at T (n := -(k : Int) - 1) (by omega) (v := k) (by omega)] at hsucc
            have hl12 := bindL_len (mR T) k
            rw [← hbp] at hl12
            have hbl : bs.length ≤ 12 := by simp [bPure] at hl12; omega
            have HOWN := hid hown
            have HBI := hid hbi
            have HBP := hid hbp
            clear hown hbi hbp hl12
            cases hTk : T k with
            | none =>
              rw [hTk] at hcl hsucc
              have hs0 : sV none = .slice none 0 0 := rfl
              rw [hs0] at hcl
              have HSU := hid hsucc
              clear hsucc hTk hs0
              go_wp2
              go_quiet (fail)
              go_wp2
              go_roundw
              case rel => exact ⟨k + 1, bs, by omega, by go_num, owns_below HOWN.out (below_self_drewN _ nq), by rw [HSU.out, HBP.out]; simp, HBI.out, below_drewN hb nq⟩
              case measure => simp [intOf]; omega
            | some ul =>
              obtain ⟨u0, l0⟩ := ul
              obtain ⟨⟨x0, n0, c0, hue⟩, hi0⟩ := hTr.ints hlt hTk
              obtain ⟨-, hi3⟩ := HT.out.ints hlt hTk
              subst hue
              rw [hTk] at hcl hsucc
              have hs0 : sV (some (.slice (some x0) n0 c0, l0)) = .slice (some x0) n0 c0 := rfl
              rw [hs0] at hcl
              have HSU := hid hsucc
              have HI0 := hid hi0
              have HI3 := hid hi3
              have HVAR := fun W => hid (ref2_Variable (k : Int) W (by omega) (by omega))
              clear hsucc hTk hs0 hi0 hi3 hTr
              by_cases heq : l0 = [-(k : Int) - 1]
              · have HD : Hid (decide (l0 = [-(k : Int) - 1]) = true) := hid (by simp [heq])
                have HSU2 : Hid (bindL (mR T) (k + 1) = bindL (mR T) k) := hid (by rw [HSU.out]; simp [heq])
                clear heq HSU
                go_wp2
                go_region_held3 (fun w' => w'.cell? ⟨w.heap.size, k, none⟩ = some (.slice (some x0) n0 c0)) (first | assumption | go_keep) (first
                  | (go_at_call 162; refine (HVAR _).out.mono ?_; rintro e w4 ⟨uv, rfl, ov, hb4'⟩
                     have hb4 : Below wr.heap.size wr w4 := (below_self_drewN wr 1).trans hb4'
                     have hc4 := (hb4.cell (World.block_lt_of_cell? _ _ hcl)).trans hcl
                     have iv4 : Ints w4 uv [-(k : Int) - 1] := Ints.of_owns ov (by simp)
                     have i04 := HI0.out.below hb4)
                  | (go_at_call 54; refine (ref1_Same _ _ _ _ _ i04 iv4).mono ?_; rintro e w5 ⟨rfl, nq, rfl⟩; rw [HD.out]
                     have hc5 : (w4.drewN nq).cell? ⟨w.heap.size, k, none⟩ = some (.slice (some x0) n0 c0) := hc4))
                have hbz : Below w3.heap.size w3 (w4.drewN nq) := below_drewN (hb.trans (hb4.mono hbs)) nq
                have HZ := hid (owns_below (owns_below HOWN.out hb4) (below_self_drewN w4 nq))
                clear hb4 iv4 i04 hc4 hc5 ov hb4'
                go_wp2
                go_roundw
                case rel => exact ⟨k + 1, bs, by omega, by go_num, HZ.out, by rw [HSU2.out, HBP.out], HBI.out, hbz⟩
                case measure => simp [intOf]; omega
              · have HD : Hid (decide (l0 = [-(k : Int) - 1]) = false) := hid (by simp [heq])
                have HSU2 : Hid (bindL (mR T) (k + 1) = bindL (mR T) k ++ [(k, l0)]) := hid (by rw [HSU.out]; simp [heq])
                clear heq HSU
                go_wp2
                go_region_held3 (fun w' => w'.cell? ⟨w.heap.size, k, none⟩ = some (.slice (some x0) n0 c0)) (first | assumption | go_keep) (first
                  | (go_at_call 162; refine (HVAR _).out.mono ?_; rintro e w4 ⟨uv, rfl, ov, hb4'⟩
                     have hb4 : Below wr.heap.size wr w4 := (below_self_drewN wr 1).trans hb4'
                     have hc4 := (hb4.cell (World.block_lt_of_cell? _ _ hcl)).trans hcl
                     have iv4 : Ints w4 uv [-(k : Int) - 1] := Ints.of_owns ov (by simp)
                     have i04 := HI0.out.below hb4)
                  | (go_at_call 54; refine (ref1_Same _ _ _ _ _ i04 iv4).mono ?_; rintro e w5 ⟨rfl, nq, rfl⟩; rw [HD.out]
                     have hc5 : (w4.drewN nq).cell? ⟨w.heap.size, k, none⟩ = some (.slice (some x0) n0 c0) := hc4))
                have hbz : Below w3.heap.size w3 (w4.drewN nq) := below_drewN (hb.trans (hb4.mono hbs)) nq
                have HZ := hid (owns_below (owns_below HOWN.out hb4) (below_self_drewN w4 nq))
                obtain ⟨w5, hw5⟩ : ∃ x, x = w4.drewN nq := ⟨_, rfl⟩
                rw [← hw5] at hc5 hbz HZ ⊢
                have hsz5 := hbz.size
                clear hb4 iv4 i04 hc4 ov hb4' hw5
                go_wp2_with (at_builtin; refine wpList_append_row rfl _ _ 109 rfl w3.heap.size 140 el_bind Try.underlying109 rfl (by decide) _ _ _ rfl (HZ.out.alloc _) _ 1 [.int .i64 k, .slice (some x0) n0 c0] rfl (row_two_new _ _ _ _) (by simp; exact ⟨rfl, rfl⟩) (by omega) (by omega) (by simp; omega) ?_; intro v' w6 hown6 hgrow6 _)
                have hb6 : Below w3.heap.size w3 w6 := (hbz.alloc hsz5 _).grown hgrow6 (by simp; omega) (fun q hq => (HZ.out.lt q hq).1)
                go_roundw
                case rel =>
                  refine ⟨k + 1, bs ++ [(k, .slice (some x0) n0 c0, l0)], by omega, by go_num, ?_, ?_, ?_, hb6⟩
                  · simpa [bCells] using hown6
                  · rw [HSU2.out, ← HBP.out]; simp [bPure]
                  · intro x hx
                    rcases List.mem_append.1 hx with hx | hx
                    · exact HBI.out x hx
                    · simp at hx; subst hx; exact HI3.out
                case measure => simp [intOf]; omega
          · have hk12 : k = 12 := by omega
            subst hk12
            have HOWN := hid hown
            have HBP := hid hbp
            have HBI := hid hbi
            have hsz3 := HB3.out.size
            clear hown hbp hbi
            go_wp2
            go_ret2
            exact ⟨HB3.out.trans (hb.mono hsz3), Or.inr (Or.inr ⟨by simp, mR T, u9, bs, HF.out, rfl, owns_base HOWN.out hsz3, HBP.out, fun x hx => (HBI.out x hx).below hb⟩)⟩
set_option maxRecDepth 100000 in
theorem ref2_Instance (vs va vb : Value) (s : Sg) (a b : List Int) (w : World) (hs : SignAt w vs s) (ra : Ints w va a) (rb : Ints w vb b) (hs1 : s.length ≤ 1000) :
    Calls Try.prog 92 #[vs, va, vb] w fun e w' => e = .returned (.bool (instB s a b)) ∧ Below w.heap.size w w' := by
  have HM := hid (ref2_Match vs va vb s a b w hs ra rb hs1)
  have H1 : Hid ((termB s a && termB s b) = false → instB s a b = false) := hid (fun h => by unfold instB; rw [h]; rfl)
  have H2 : Hid ((termB s a && termB s b) = true → instB s a b = (matL s a b noM).isSome) := hid (fun h => by unfold instB; rw [h]; rfl)
  clear hs ra rb
  go_enter Try.func92, Try.ntmps92
  go_wp2_with fail
  refine HM.out.mono ?_
  rintro e w1 ⟨hb, ⟨h1, rfl⟩ | ⟨h1, h2, rfl⟩ | ⟨h1, m, u, bs, h2, rfl, -, -, -⟩⟩
  · have HF := hid (H1.out h1)
    clear h1
    go_wp2
    go_ret
    exact ⟨by rw [HF.out]; rfl, hb⟩
  · have HF : Hid (instB s a b = false) := hid ((H2.out h1).trans (by rw [h2]; rfl))
    clear h1 h2
    go_wp2
    go_ret
    exact ⟨by rw [HF.out]; rfl, hb⟩
  · have HF : Hid (instB s a b = true) := hid ((H2.out h1).trans (by rw [h2]; rfl))
    clear h1 h2
    go_wp2
    go_ret
    exact ⟨by rw [HF.out]; rfl, hb⟩
end Go.Proofs.Ytiacbdipagbblaa
