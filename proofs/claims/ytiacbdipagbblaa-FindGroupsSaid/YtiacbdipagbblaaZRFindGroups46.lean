/-
  WHAT IT HOLDS: contracts of Compare and With of package lemmaryref01 and of Sorted of package lemmaryref05. Conditions: the arguments read as data; small shelves.
-/
import Derived.Test.YtiacbdipagbblaaZRFindGroups39
import Derived.Test.YtiacbdipagbblaaZRFindGroups8
namespace Go.Proofs.Ytiacbdipagbblaa
open Go Go.RowKit Go.Maps
theorem lexL_eqlen {a b : List Int} {k : Nat} (hl : a.length = b.length) (h : a.take k = b.take k) (hk : k < a.length) : lexL a b = if a[k] < b[k]'(by omega) then -1 else if b[k]'(by omega) < a[k] then 1 else lexL (a.drop (k + 1)) (b.drop (k + 1)) := by
  rw [← lexL_drop h (by omega) (by omega), List.drop_eq_getElem_cons hk, List.drop_eq_getElem_cons (show k < b.length by omega), lexL]
set_option maxHeartbeats 1000000 in
theorem ref1_Compare (va vb : Value) (a b : List Int) (w : World) (ha : Ints w va a) (hb : Ints w vb b) :
    Calls Try.prog 150 #[va, vb] w fun e w' => e = .returned (.int .i64 (cmpL a b)) ∧ ∃ n, w' = w.drewN n := by
  obtain ⟨aa, ac, rfl, h1, hl, h3, HC⟩ := ha.open
  obtain ⟨ba, bc, rfl, h1', hl', h3', HD⟩ := hb.open
  have HC' := hid HC
  have HD' := hid HD
  clear HC ha h3 HD hb h3'
  by_cases g1 : a.length < b.length
  · have HR : Hid (cmpL a b = -1) := hid (by unfold cmpL; rw [if_pos g1])
    go_enter Try.func150, Try.ntmps150
    go_wp2
    go_ret
    exact ⟨by rw [HR.out]; rfl, 0, rfl⟩
  · by_cases g2 : b.length < a.length
    · have HR : Hid (cmpL a b = 1) := hid (by unfold cmpL; rw [if_neg g1, if_pos g2])
      go_enter Try.func150, Try.ntmps150
      go_wp2
      go_ret
      exact ⟨by rw [HR.out]; rfl, 0, rfl⟩
    · have HR : Hid (cmpL a b = lexL a b) := hid (by unfold cmpL; rw [if_neg g1, if_neg g2])
      have HLE : Hid (a.length = b.length) := hid (by omega)
      go_enter Try.func150, Try.ntmps150
      go_wp2
      go_loopw [5] (fun i wr => ∃ k q : Nat, k ≤ a.length ∧ i = .int .i64 k ∧ wr = w.drewN q ∧ a.take k = b.take k) (fun i _ => a.length - (intOf i).toNat)
      case atStart => exact ⟨0, 0, by omega, rfl, rfl, by simp⟩
      case round =>
        obtain ⟨k, q, hk, rfl, rfl, hrel⟩ := hrel
        have HRL := hid hrel
        clear hrel
        by_cases hlt : k < a.length
        · obtain ⟨b1, o1, rfl, hcell⟩ := HC'.out k hlt
          have hltb : k < b.length := by have := HLE.out; omega
          obtain ⟨b2, o2, rfl, hcell'⟩ := HD'.out k hltb
          have y0 : (0 : Int) ≤ (k : Int) := by omega
          have y1 : (k : Int) < (a.length : Int) := by omega
          have y2 : (k : Int) < (b.length : Int) := by omega
          have hx := lexL_eqlen HLE.out HRL.out hlt
          have HN := hid (fun (e : a[k] = b[k]) => (show a.take (k + 1) = b.take (k + 1) by rw [List.take_succ_eq_append_getElem hlt, List.take_succ_eq_append_getElem hltb, HRL.out, e]))
          obtain ⟨x, hxa⟩ : ∃ x, a[k] = x := ⟨_, rfl⟩
          obtain ⟨y, hyb⟩ : ∃ y, b[k] = y := ⟨_, rfl⟩
          rw [hxa] at hcell hx HN
          rw [hyb] at hcell' hx HN
          clear hxa hyb
          by_cases c1 : x < y
          · have HA : Hid (lexL a b = -1) := hid (by rw [hx, if_pos c1])
            have d1 : decide (x < y) = true := by simp [c1]
            clear hx
            go_wp2
            go_quiet (fail)
            go_wp2
            go_ret
            exact ⟨by rw [HR.out, HA.out]; rfl, _, (by first | rfl | exact World.drewN_drewN _ _ _)⟩
          · by_cases c2 : y < x
            · have HA : Hid (lexL a b = 1) := hid (by rw [hx, if_neg c1, if_pos c2])
              have d1 : decide (x < y) = false := by simp [c1]
              have d2 : decide (y < x) = true := by simp [c2]
              clear hx
              go_wp2
              go_quiet (fail)
              go_wp2
              go_quiet (fail)
              go_wp2
              go_ret
              exact ⟨by rw [HR.out, HA.out]; rfl, _, by rw [World.drewN_drewN, World.drewN_drewN]⟩
            · have d1 : decide (x < y) = false := by simp [c1]
              have d2 : decide (y < x) = false := by simp [c2]
              have HE : Hid (a.take (k + 1) = b.take (k + 1)) := hid (HN.out (by omega))
              clear hx
              go_wp2
              go_quiet (fail)
              go_wp2
              go_quiet (fail)
              go_wp2
              go_roundw
              case rel => exact ⟨k + 1, _, by omega, by go_num, (by first | rfl | exact World.drewN_drewN _ _ _), HE.out⟩
              case measure => simp [intOf]; omega
        · have HA : Hid (lexL a b = 0) := hid (by
            have hk2 : k = a.length := by omega
            have h9 := HRL.out
            rw [List.take_of_length_le (by omega), List.take_of_length_le (by have := HLE.out; omega)] at h9
            exact (lexL_zero a b).2 h9)
          go_wp2
          go_ret
          exact ⟨by rw [HR.out, HA.out]; rfl, q, rfl⟩
theorem withL_put : ∀ (l : List (List Int)) (x t : List Int), (∃ y ∈ l, cmpL t y ≤ 0) → withL (l ++ [x]) t = withL l t ++ [x]
  | [], x, t, ⟨y, h, _⟩ => by simp at h
  | z :: l, x, t, ⟨y, hy, hc⟩ => by
    rw [List.cons_append, withL, withL]
    by_cases h1 : cmpL t z < 0
    · rw [if_pos h1, if_pos h1]; simp
    · rw [if_neg h1, if_neg h1]
      by_cases h2 : cmpL t z = 0
      · rw [if_pos h2, if_pos h2]; simp
      · rw [if_neg h2, if_neg h2, withL_put l x t ⟨y, (List.mem_cons.1 hy).resolve_left (fun e => by subst e; omega), hc⟩]
        rfl
theorem withL_not : ∀ (l m : List (List Int)) (t : List Int), (∀ y ∈ l, 0 < cmpL t y) → withL (l ++ m) t = l ++ withL m t
  | [], m, t, _ => rfl
  | z :: l, m, t, h => by
    have hz := h z (by simp)
    rw [List.cons_append, withL, if_neg (by omega), if_neg (by omega), withL_not l m t (fun y hy => h y (by simp [hy]))]
    rfl
theorem withL_len : ∀ (l : List (List Int)) (t : List Int), (withL l t).length ≤ l.length + 1
  | [], t => by simp [withL]
  | x :: l, t => by
    have := withL_len l t
    rw [withL]
    split
    · simp
    · split <;> simp <;> omega
def OutW (w : World) (vvs : List Value) (zs : List (List Int)) : Prop := vvs.length = zs.length ∧ ∀ (i : Nat) (v : Value) (q : List Int), vvs[i]? = some v → zs[i]? = some q → Ints w v q
theorem OutW.push {w : World} {vvs : List Value} {zs : List (List Int)} (h : OutW w vvs zs) {v : Value} {q : List Int} (hv : Ints w v q) : OutW w (vvs ++ [v]) (zs ++ [q]) := by
  refine ⟨by rw [List.length_append, List.length_append, h.1]; rfl, fun i x y h1 h2 => ?_⟩
  rcases Nat.lt_or_ge i vvs.length with hi | hi
  · rw [List.getElem?_append_left hi] at h1
    rw [List.getElem?_append_left (by rw [← h.1]; exact hi)] at h2
    exact h.2 i x y h1 h2
  · rw [List.getElem?_append_right hi] at h1
    rw [List.getElem?_append_right (by rw [← h.1]; exact hi), ← h.1] at h2
    obtain ⟨j, hj⟩ : ∃ j, i - vvs.length = j := ⟨_, rfl⟩
    rw [hj] at h1 h2
    cases j with
    | zero => simp at h1 h2; subst h1; subst h2; exact hv
    | succ j => simp at h1
/-- what With has put out behind n elements. -/
def WithO (l : List (List Int)) (t : List Int) (n : Nat) (zs : List (List Int)) : Bool → Prop
  | true => zs = withL (l.take n) t ∧ ∃ y ∈ l.take n, cmpL t y ≤ 0
  | false => zs = l.take n ∧ ∀ y ∈ l.take n, 0 < cmpL t y
theorem withO_len {l : List (List Int)} {t : List Int} {n : Nat} {zs : List (List Int)} {b : Bool} (h : WithO l t n zs b) : zs.length ≤ n + 1 := by
  have h9 : (l.take n).length ≤ n := by rw [List.length_take]; omega
  cases b
  · obtain ⟨rfl, -⟩ := h; omega
  · obtain ⟨rfl, -⟩ := h
    have := withL_len (l.take n) t; omega
theorem withO_put {l : List (List Int)} {t : List Int} {n : Nat} {zs : List (List Int)} (h : WithO l t n zs true) (hn : n < l.length) : WithO l t (n + 1) (zs ++ [l[n]]) true := by
  obtain ⟨rfl, y, hy, hc⟩ := h
  rw [WithO, List.take_succ_eq_append_getElem hn]
  exact ⟨(withL_put _ _ _ ⟨y, hy, hc⟩).symm, y, List.mem_append_left _ hy, hc⟩
theorem withO_lt {l : List (List Int)} {t : List Int} {n : Nat} {zs : List (List Int)} (h : WithO l t n zs false) (hn : n < l.length) (hc : cmpL t l[n] < 0) : WithO l t (n + 1) (zs ++ [t] ++ [l[n]]) true := by
  obtain ⟨rfl, ha⟩ := h
  rw [WithO, List.take_succ_eq_append_getElem hn, withL_not _ _ _ ha, withL, if_pos hc]
  exact ⟨by simp, l[n], List.mem_append_right _ (List.mem_singleton_self _), by omega⟩
theorem withO_eq {l : List (List Int)} {t : List Int} {n : Nat} {zs : List (List Int)} (h : WithO l t n zs false) (hn : n < l.length) (hc : cmpL t l[n] = 0) : WithO l t (n + 1) (zs ++ [l[n]]) true := by
  obtain ⟨rfl, ha⟩ := h
  rw [WithO, List.take_succ_eq_append_getElem hn, withL_not _ _ _ ha, withL, if_neg (by omega), if_pos hc]
  exact ⟨rfl, l[n], List.mem_append_right _ (List.mem_singleton_self _), by omega⟩
theorem withO_gt {l : List (List Int)} {t : List Int} {n : Nat} {zs : List (List Int)} (h : WithO l t n zs false) (hn : n < l.length) (hc : 0 < cmpL t l[n]) : WithO l t (n + 1) (zs ++ [l[n]]) false := by
  obtain ⟨rfl, ha⟩ := h
  rw [WithO, List.take_succ_eq_append_getElem hn]
  refine ⟨rfl, fun y hy => ?_⟩
  rcases List.mem_append.1 hy with hy | hy
  · exact ha y hy
  · rw [List.mem_singleton] at hy; subst hy; exact hc
theorem withO_end {l : List (List Int)} {t : List Int} {n : Nat} {zs : List (List Int)} (h : WithO l t n zs false) (hn : l.length ≤ n) : zs ++ [t] = withL l t := by
  obtain ⟨rfl, ha⟩ := h
  rw [List.take_of_length_le hn] at ha ⊢
  have := withL_not l [] t ha
  rw [List.append_nil] at this
  rw [this]; rfl
theorem withO_fin {l : List (List Int)} {t : List Int} {n : Nat} {zs : List (List Int)} (h : WithO l t n zs true) (hn : l.length ≤ n) : zs = withL l t := by
  obtain ⟨rfl, -⟩ := h
  rw [List.take_of_length_le hn]
theorem OutW.terms {w w' : World} {b : Nat} {e : TypeId} {vvs : List Value} {zs : List (List Int)} {u : Value} {n : Nat} (h : OutW w vvs zs) (hb : Below w.heap.size w w') (ho : w'.ownsRow b e 1 u n vvs) (hn : vvs.length = n) (hl : n ≤ 100000) : Terms w' u zs := by
  subst hn
  exact ⟨vvs, RowK.of_owns ho (by omega), h.1, fun i v q h1 h2 => (h.2 i v q h1 h2).below hb⟩
set_option maxHeartbeats 2000000 in
set_option maxRecDepth 100000 in
theorem ref1_With (vl vt : Value) (l : List (List Int)) (t : List Int) (w : World) (hv : Terms w vl l) (ht : Ints w vt t) (hl1 : l.length ≤ 1000) :
    Calls Try.prog 118 #[vl, vt] w fun e w' => ∃ u, e = .returned u ∧ Terms w' u (withL l t) ∧ Below w.heap.size w w' := by
  have HL := hid hv
  have HT := hid ht
  obtain ⟨la, lc, rfl, -⟩ := hv.open
  obtain ⟨ta, tc, rfl, -⟩ := ht.open
  clear hv ht
  go_enter Try.func118, Try.ntmps118
  go_wp2
  go_loopw [5, 6, 7] (fun uo pv nv wr => ∃ (n m : Nat) (vvs : List Value) (zs : List (List Int)) (pb : Bool), n ≤ l.length ∧ nv = .int .i64 n ∧ pv = .bool pb ∧ vvs.length = m ∧ wr.ownsRow w.heap.size 37 1 uo m vvs ∧ OutW w vvs zs ∧ WithO l t n zs pb ∧ Below w.heap.size w wr) (fun _ _ nv _ => l.length - (intOf nv).toNat)
  case atStart => exact ⟨0, 0, [], [], false, by omega, rfl, rfl, rfl, World.ownsRow_nil _ _ _ _, ⟨rfl, fun i v q h => by simp at h⟩, ⟨rfl, by simp⟩, Below.refl _ _⟩
  case round =>
    obtain ⟨n, m, vvs, zs, pb, hn, rfl, rfl, hvm, hown, hout, hwo, hb⟩ := hrel
    have hbs := hb.size
    have HOWN := hid hown
    have HOUT := hid hout
    have HWO := hid hwo
    have HB := hid hb
    have HVM := hid hvm
    have hm : m ≤ n + 1 := by rw [← hvm, hout.1]; exact withO_len hwo
    by_cases hlt : n < l.length
    · obtain ⟨a9, c9, he9, -, -, -, HC⟩ := HL.out.open
      obtain ⟨rfl, -, rfl⟩ := Value.slice.inj he9
      obtain ⟨bb, bo, x, rfl, hcx0, hix⟩ := HC n hlt
      have hbbl : bb < w.heap.size := World.block_lt_of_cell? _ _ hcx0
      have hcx := (hb.cell (p := ⟨bb, bo + n, none⟩) hbbl).trans hcx0
      obtain ⟨xa, xc, rfl, -⟩ := hix.open
      have HX := hid hix
      have y0 : (0 : Int) ≤ (n : Int) := by omega
      have y1 : (n : Int) < (l.length : Int) := by omega
      clear HC hix he9 hvm hown hout hwo
      cases pb
      · have HCP := hid (ref1_Compare (.slice ta t.length tc) (.slice xa l[n].length xc) t l[n] wr (HT.out.below hb) (HX.out.below hb))
        obtain ⟨z, hz⟩ : ∃ z, cmpL t l[n] = z := ⟨_, rfl⟩
        rw [hz] at HCP
        have HZ := hid hz
        clear hz hb
        by_cases c1 : z < 0
        · have c2 : z ≤ 0 := by omega
          have HW2 := hid (withO_lt HWO.out hlt (by rw [HZ.out]; exact c1))
          go_wp2_with fail
          refine HCP.out.mono ?_
          rintro e w1 ⟨rfl, n1, hw1⟩
          have hb1 : Below wr.heap.size wr w1 := by rw [hw1]; exact below_self_drewN _ _
          have HB1 := hid (HB.out.trans (hb1.mono hbs))
          have HO1 := hid (owns_below HOWN.out hb1)
          have hcx1 := (hb1.cell (World.block_lt_of_cell? _ _ hcx)).trans hcx
          have HCP2 := hid (ref1_Compare (.slice ta t.length tc) (.slice xa l[n].length xc) t l[n] w1 (HT.out.below HB1.out) (HX.out.below HB1.out))
          rw [HZ.out] at HCP2
          clear hw1 hb1
          go_wp2_with fail
          refine HCP2.out.mono ?_
          rintro e w2 ⟨rfl, n2, hw2⟩
          have hb2 : Below w1.heap.size w1 w2 := by rw [hw2]; exact below_self_drewN _ _
          have HB2 := hid (HB1.out.trans (hb2.mono HB1.out.size))
          have HO2 := hid (owns_below HO1.out hb2)
          have hcx2 := (hb2.cell (World.block_lt_of_cell? _ _ hcx1)).trans hcx1
          clear hw2 hb2
          have hA3 : Below w2.heap.size w2 (w2.alloc (.cells #[.slice ta t.length tc] 37)) := (Below.refl _ _).alloc (Nat.le_refl _) _
          have HOA3 := hid (owns_below HO2.out hA3)
          have HBA3 := hid (HB2.out.trans (hA3.mono HB2.out.size))
          have hsA3 := HB2.out.size
          clear hA3
          go_wp2_with (first | (at_builtin; refine wpList_append_row rfl _ _ 24 rfl w.heap.size 37 el_term Try.underlying24 rfl (by decide) _ _ _ rfl HOA3.out _ 1 [.slice ta t.length tc] rfl (row_one_new _ _ _) (oneCell_one rfl) (by omega) (by omega) (by simp; omega) ?_; intro v3 w3 hown3 hgrow3 _; have hb3 : Below w.heap.size w w3 := HBA3.out.grown hgrow3 (by simp; omega) (fun i hi => (HOA3.out.lt i hi).1); have hcx3 := (hb3.cell (p := ⟨bb, bo + n, none⟩) hbbl).trans hcx0; have HB3 := hid hb3; have HO3 := hid hown3; clear hown3 hgrow3 hb3; have hA4 : Below w3.heap.size w3 (w3.alloc (.cells #[.slice xa l[n].length xc] 37)) := (Below.refl _ _).alloc (Nat.le_refl _) _; have HOA4 := hid (owns_below HO3.out hA4); have HBA4 := hid (HB3.out.trans (hA4.mono HB3.out.size)); have hsA4 := HB3.out.size; clear hA4) | (at_builtin; refine wpList_append_row rfl _ _ 24 rfl w.heap.size 37 el_term Try.underlying24 rfl (by decide) _ _ _ rfl HOA4.out _ 1 [.slice xa l[n].length xc] rfl (row_one_new _ _ _) (oneCell_one rfl) (by omega) (by omega) (by simp; omega) ?_; intro v4 w4 hown4 hgrow4 _; have hb4 : Below w.heap.size w w4 := HBA4.out.grown hgrow4 (by simp; omega) (fun i hi => (HOA4.out.lt i hi).1); have hcx4 := (hb4.cell (p := ⟨bb, bo + n, none⟩) hbbl).trans hcx0; have HB4 := hid hb4; have HO4 := hid hown4; clear hown4 hgrow4 hb4))
          go_roundw
          case rel => exact ⟨n + 1, m + 1 + 1, _, _, true, by omega, by go_num, rfl, by simp [HVM.out], HO4.out, (HOUT.out.push HT.out).push HX.out, HW2.out, HB4.out⟩
          case measure => simp [intOf]; omega
        · by_cases c2 : z = 0
          · have HW2 := hid (withO_eq HWO.out hlt (by rw [HZ.out]; exact c2))
            have c3 : z ≤ 0 := by omega
            go_wp2_with fail
            refine HCP.out.mono ?_
            rintro e w1 ⟨rfl, n1, hw1⟩
            have hb1 : Below wr.heap.size wr w1 := by rw [hw1]; exact below_self_drewN _ _
            have HB1 := hid (HB.out.trans (hb1.mono hbs))
            have HO1 := hid (owns_below HOWN.out hb1)
            have hcx1 := (hb1.cell (World.block_lt_of_cell? _ _ hcx)).trans hcx
            have HCP2 := hid (ref1_Compare (.slice ta t.length tc) (.slice xa l[n].length xc) t l[n] w1 (HT.out.below HB1.out) (HX.out.below HB1.out))
            rw [HZ.out] at HCP2
            clear hw1 hb1
            go_wp2_with fail
            refine HCP2.out.mono ?_
            rintro e w2 ⟨rfl, n2, hw2⟩
            have hb2 : Below w1.heap.size w1 w2 := by rw [hw2]; exact below_self_drewN _ _
            have HB2 := hid (HB1.out.trans (hb2.mono HB1.out.size))
            have HO2 := hid (owns_below HO1.out hb2)
            have hcx2 := (hb2.cell (World.block_lt_of_cell? _ _ hcx1)).trans hcx1
            clear hw2 hb2
            have hA3 : Below w2.heap.size w2 (w2.alloc (.cells #[.slice xa l[n].length xc] 37)) := (Below.refl _ _).alloc (Nat.le_refl _) _
            have HOA3 := hid (owns_below HO2.out hA3)
            have HBA3 := hid (HB2.out.trans (hA3.mono HB2.out.size))
            have hsA3 := HB2.out.size
            clear hA3
            go_wp2_with (at_builtin; refine wpList_append_row rfl _ _ 24 rfl w.heap.size 37 el_term Try.underlying24 rfl (by decide) _ _ _ rfl HOA3.out _ 1 [.slice xa l[n].length xc] rfl (row_one_new _ _ _) (oneCell_one rfl) (by omega) (by omega) (by simp; omega) ?_; intro v3 w3 hown3 hgrow3 _; have hb3 : Below w.heap.size w w3 := HBA3.out.grown hgrow3 (by simp; omega) (fun i hi => (HOA3.out.lt i hi).1); have hcx3 := (hb3.cell (p := ⟨bb, bo + n, none⟩) hbbl).trans hcx0; have HB3 := hid hb3; have HO3 := hid hown3; clear hown3 hgrow3 hb3)
            go_roundw
            case rel => exact ⟨n + 1, m + 1, _, _, true, by omega, by go_num, rfl, by simp [HVM.out], HO3.out, HOUT.out.push HX.out, HW2.out, HB3.out⟩
            case measure => simp [intOf]; omega
          · have HW2 := hid (withO_gt HWO.out hlt (by rw [HZ.out]; omega))
            have c3 : ¬ z ≤ 0 := by omega
            go_wp2_with fail
            refine HCP.out.mono ?_
            rintro e w1 ⟨rfl, n1, hw1⟩
            have hb1 : Below wr.heap.size wr w1 := by rw [hw1]; exact below_self_drewN _ _
            have HB1 := hid (HB.out.trans (hb1.mono hbs))
            have HO1 := hid (owns_below HOWN.out hb1)
            have hcx1 := (hb1.cell (World.block_lt_of_cell? _ _ hcx)).trans hcx
            have HCP2 := hid (ref1_Compare (.slice ta t.length tc) (.slice xa l[n].length xc) t l[n] w1 (HT.out.below HB1.out) (HX.out.below HB1.out))
            rw [HZ.out] at HCP2
            clear hw1 hb1
            have hA3 : Below w1.heap.size w1 (w1.alloc (.cells #[.slice xa l[n].length xc] 37)) := (Below.refl _ _).alloc (Nat.le_refl _) _
            have HOA3 := hid (owns_below HO1.out hA3)
            have HBA3 := hid (HB1.out.trans (hA3.mono HB1.out.size))
            have hsA3 := HB1.out.size
            clear hA3
            go_wp2_with (at_builtin; refine wpList_append_row rfl _ _ 24 rfl w.heap.size 37 el_term Try.underlying24 rfl (by decide) _ _ _ rfl HOA3.out _ 1 [.slice xa l[n].length xc] rfl (row_one_new _ _ _) (oneCell_one rfl) (by omega) (by omega) (by simp; omega) ?_; intro v3 w3 hown3 hgrow3 _; have hb3 : Below w.heap.size w w3 := HBA3.out.grown hgrow3 (by simp; omega) (fun i hi => (HOA3.out.lt i hi).1); have hcx3 := (hb3.cell (p := ⟨bb, bo + n, none⟩) hbbl).trans hcx0; have HB3 := hid hb3; have HO3 := hid hown3; clear hown3 hgrow3 hb3)
            go_roundw
            case rel => exact ⟨n + 1, m + 1, _, _, false, by omega, by go_num, rfl, by simp [HVM.out], HO3.out, HOUT.out.push HX.out, HW2.out, HB3.out⟩
            case measure => simp [intOf]; omega
      · have HW2 := hid (withO_put HWO.out hlt)
        clear hb
        have hA3 : Below wr.heap.size wr (wr.alloc (.cells #[.slice xa l[n].length xc] 37)) := (Below.refl _ _).alloc (Nat.le_refl _) _
        have HOA3 := hid (owns_below HOWN.out hA3)
        have HBA3 := hid (HB.out.trans (hA3.mono HB.out.size))
        have hsA3 := HB.out.size
        clear hA3
        go_wp2_with (at_builtin; refine wpList_append_row rfl _ _ 24 rfl w.heap.size 37 el_term Try.underlying24 rfl (by decide) _ _ _ rfl HOA3.out _ 1 [.slice xa l[n].length xc] rfl (row_one_new _ _ _) (oneCell_one rfl) (by omega) (by omega) (by simp; omega) ?_; intro v3 w3 hown3 hgrow3 _; have hb3 : Below w.heap.size w w3 := HBA3.out.grown hgrow3 (by simp; omega) (fun i hi => (HOA3.out.lt i hi).1); have hcx3 := (hb3.cell (p := ⟨bb, bo + n, none⟩) hbbl).trans hcx0; have HB3 := hid hb3; have HO3 := hid hown3; clear hown3 hgrow3 hb3)
        go_roundw
        case rel => exact ⟨n + 1, m + 1, _, _, true, by omega, by go_num, rfl, by simp [HVM.out], HO3.out, HOUT.out.push HX.out, HW2.out, HB3.out⟩
        case measure => simp [intOf]; omega
    · have hnl : l.length ≤ n := by omega
      clear hvm hown hout hwo hb
      cases pb
      · have HE := hid (withO_end HWO.out hnl)
        have hA3 : Below wr.heap.size wr (wr.alloc (.cells #[.slice ta t.length tc] 37)) := (Below.refl _ _).alloc (Nat.le_refl _) _
        have HOA3 := hid (owns_below HOWN.out hA3)
        have HBA3 := hid (HB.out.trans (hA3.mono HB.out.size))
        have hsA3 := HB.out.size
        clear hA3
        go_wp2_with (at_builtin; refine wpList_append_row rfl _ _ 24 rfl w.heap.size 37 el_term Try.underlying24 rfl (by decide) _ _ _ rfl HOA3.out _ 1 [.slice ta t.length tc] rfl (row_one_new _ _ _) (oneCell_one rfl) (by omega) (by omega) (by simp; omega) ?_; intro v3 w3 hown3 hgrow3 _; have hb3 : Below w.heap.size w w3 := HBA3.out.grown hgrow3 (by simp; omega) (fun i hi => (HOA3.out.lt i hi).1); have HB3 := hid hb3; have HO3 := hid hown3; clear hown3 hgrow3 hb3)
        have HTT := hid ((HOUT.out.push HT.out).terms HB3.out HO3.out (by simp [HVM.out]) (by omega))
        rw [HE.out] at HTT
        go_wp2
        go_ret
        exact ⟨_, rfl, HTT.out, HB3.out⟩
      · have HE := hid (withO_fin HWO.out hnl)
        have HTT := hid (HOUT.out.terms HB.out HOWN.out HVM.out (by omega))
        rw [HE.out] at HTT
        go_wp2
        go_ret
        exact ⟨_, rfl, HTT.out, HB.out⟩
theorem sorted_len (l : List (List Int)) : ∀ acc : List (List Int), (l.foldl withL acc).length ≤ acc.length + l.length := by
  induction l with
  | nil => intro acc; simp
  | cons t l ih =>
    intro acc
    have h1 := ih (withL acc t)
    have h2 := withL_len acc t
    rw [List.foldl_cons, List.length_cons]
    omega
set_option maxHeartbeats 2000000 in
set_option maxRecDepth 100000 in
theorem ref5_Sorted (vs vl : Value) (s : Sg) (l : List (List Int)) (w : World) (hs : SignAt w vs s) (hv : Terms w vl l) :
    Calls Try.prog 58 #[vs, vl] w fun e w' => ∃ u, e = .returned (.tuple #[u, .int .i64 (sortR s l).2]) ∧ Terms w' u (sortR s l).1 ∧ Below w.heap.size w w' := by
  have HVA := hid (ref5_Valid vs vl s l w hs hv)
  have HL := hid hv
  obtain ⟨la, lc, rfl, -⟩ := hv.open
  cases hsh : shelfB s l
  · rw [hsh] at HVA
    have HR := hid (sortR_1 hsh)
    clear hs hv hsh
    go_enter Try.func58, Try.ntmps58
    go_wp2_with fail
    refine HVA.out.mono ?_
    rintro e w1 ⟨rfl, n1, rfl⟩
    go_wp2
    go_ret2
    rw [HR.out]
    exact ⟨_, rfl, terms_nilS _, below_self_drewN _ _⟩
  · rw [hsh] at HVA
    have HR := hid (sortR_0 hsh)
    obtain ⟨g1, g2, g3, g4, g5, g6⟩ := shelfB_facts hsh
    have HCN := hid (fun (X : World) (hX : Below w.heap.size w X) => ref5_canonical (.slice la l.length lc) l X (HL.out.below hX) (by omega) (fun t ht => by
      have hb : termB s t = true := List.all_eq_true.1 g4 t ht
      have hT := termB_T hb
      have := (termB_facts hb).2.2.2
      exact ⟨hT.ne, by omega, termB_wf hb⟩))
    have HQL : Hid (∀ q ∈ l.map canonL, q.length ≤ 1000) := hid (by
      intro q hq
      obtain ⟨t, ht, rfl⟩ := List.mem_map.1 hq
      have := (termB_facts (List.all_eq_true.1 g4 t ht)).2.2.2
      rw [canonL_len]; omega)
    have hl1 : l.length ≤ 1000 := by omega
    clear hs hv hsh g1 g2 g3 g4 g5 g6
    go_enter Try.func58, Try.ntmps58
    go_wp2_with fail
    refine HVA.out.mono ?_
    rintro e w1 ⟨rfl, n1, hw1⟩
    have HB1 := hid (show Below w.heap.size w w1 by rw [hw1]; exact below_self_drewN _ _)
    clear hw1
    go_wp2_with fail
    refine (HCN.out _ HB1.out).mono ?_
    rintro e w2 ⟨uc, vc, rfl, hnr, hb2⟩
    have hml : (l.map canonL).length = l.length := by rw [List.length_map]
    have htc := hnr.terms (by omega) HQL.out
    have HB2 := hid (HB1.out.trans (hb2.mono HB1.out.size))
    obtain ⟨cs, hcs⟩ : ∃ cs, l.map canonL = cs := ⟨_, rfl⟩
    rw [hcs] at htc hml
    have HCS := hid hcs
    have HTC := hid htc
    have HML := hid hml
    obtain ⟨ca, cc, hce, -⟩ := htc.open
    subst hce
    have hcl : cs.length ≤ 1000 := by rw [hml]; exact hl1
    clear hnr htc hb2 hcs hml
    go_wp2
    go_loopw [7, 8] (fun uo nv wr => ∃ n : Nat, n ≤ cs.length ∧ nv = .int .i64 n ∧ Terms wr uo ((cs.take n).foldl withL []) ∧ Below w2.heap.size w2 wr) (fun _ nv _ => cs.length - (intOf nv).toNat)
    case atStart => exact ⟨0, by omega, rfl, terms_nilS _, Below.refl _ _⟩
    case round =>
      obtain ⟨n, hn, rfl, hto, hb⟩ := hrel
      have hbs := hb.size
      have hlen : ((cs.take n).foldl withL []).length ≤ 1000 := by
        have := sorted_len (cs.take n) []
        have h9 : (cs.take n).length ≤ n := by rw [List.length_take]; omega
        have h8 := HML.out
        simp at this; omega
      by_cases hlt : n < cs.length
      · obtain ⟨a9, c9, he9, -, -, -, HC⟩ := (HTC.out.below hb).open
        obtain ⟨rfl, -, rfl⟩ := Value.slice.inj he9
        obtain ⟨bb, bo, x, rfl, hcx, hix⟩ := HC n hlt
        obtain ⟨xa, xc, rfl, -⟩ := hix.open
        have HW := hid (ref1_With _ _ _ _ wr hto hix hlen)
        have HTK : Hid ((cs.take (n + 1)).foldl withL [] = withL ((cs.take n).foldl withL []) cs[n]) := hid (by rw [List.take_succ_eq_append_getElem hlt, List.foldl_append]; rfl)
        have y0 : (0 : Int) ≤ (n : Int) := by omega
        have y1 : (n : Int) < (cs.length : Int) := by omega
        have HB := hid hb
        clear HC hix he9 hto hb
        go_wp2_with fail
        refine HW.out.mono ?_
        rintro e w4 ⟨u4, rfl, ht4, hb4⟩
        have HT4 := hid ht4
        have HB4 := hid (HB.out.trans (hb4.mono hbs))
        clear ht4 hb4
        go_wp2
        go_roundw
        case rel => exact ⟨n + 1, by omega, by go_num, by rw [HTK.out]; exact HT4.out, HB4.out⟩
        case measure => simp [intOf]; omega
      · have hnl : n = cs.length := by omega
        rw [List.take_of_length_le (by omega)] at hto
        have HTO := hid hto
        have HBZ := hid (HB2.out.trans (hb.mono HB2.out.size))
        clear hto hb
        go_wp2
        go_ret2
        rw [HR.out, HCS.out]
        exact ⟨_, rfl, HTO.out, HBZ.out⟩
end Go.Proofs.Ytiacbdipagbblaa
