/-
  WHAT IT HOLDS: contract of IsBase of package find. Conditions: the arguments read as data; the shelf and the sign are small.
-/
import Derived.Deep.RegionHeld3
import Derived.Test.YtiacbdipagbblaaZRFindBases32
namespace Go.Proofs.Ytiacbdipagbblaa
open Go Go.RowKit Go.Maps
set_option maxRecDepth 100000 in
theorem find_IsBase11 (q : Nat) (vs vl vt : Value) (ps pl pt : Nat) (s : Sg) (l : List (List Int)) (t : List Int) (w : World) (hs : SignAt w vs s) (hv : Terms w vl l) (ht : Ints w vt t) (hs1 : s.length ≤ 1000) (hq : q < l.length)
    (c1 : w.cell? ⟨ps, 0, none⟩ = some vs) (c2 : w.cell? ⟨pl, 0, none⟩ = some vl) (c3 : w.cell? ⟨pt, 0, none⟩ = some vt) :
    Calls Try.prog 91 #[.int .i64 q, .pointer (some ⟨ps, 0, none⟩), .pointer (some ⟨pl, 0, none⟩), .pointer (some ⟨pt, 0, none⟩)] w fun e w' => e = .returned (.bool (instB s (l.getD q []) t)) ∧ Below w.heap.size w w' := by
  obtain ⟨sa, scap, rfl, _⟩ := hs.open
  obtain ⟨la, lcap, rfl, -, -, -, HC⟩ := hv.open
  obtain ⟨ta, tcap, rfl, _⟩ := ht.open
  obtain ⟨b, o, x, rfl, cx, hx⟩ := HC q hq
  obtain ⟨xa, xc, rfl, -⟩ := hx.open
  have e1 : l.getD q [] = l[q] := by simp [List.getD, hq]
  have HI := hid (unify_Instance (.slice sa s.length scap) (.slice xa l[q].length xc) (.slice ta t.length tcap) s l[q] t (w.drewN 1) (hs.drewN 1) (hx.drewN 1) (ht.drewN 1) hs1)
  rw [e1]
  have z0 : (0 : Int) ≤ (q : Int) := by omega
  have z1 : (q : Int) < (l.length : Int) := by omega
  obtain ⟨z, hz⟩ : ∃ z, instB s l[q] t = z := ⟨_, rfl⟩
  rw [hz] at HI ⊢
  obtain ⟨m, hm⟩ : ∃ m, l[q].length = m := ⟨_, rfl⟩
  rw [hm] at HI cx
  clear HC hs hv ht hx e1 hz hm
  go_enter Try.func91, Try.ntmps91
  go_wp2
  go_region_held3 (fun w' => w'.cell? ⟨ps, 0, none⟩ = some (.slice sa s.length scap) ∧ w'.cell? ⟨pl, 0, none⟩ = some (.slice (some ⟨b, o, none⟩) l.length lcap) ∧ w'.cell? ⟨pt, 0, none⟩ = some (.slice ta t.length tcap) ∧ w'.cell? ⟨b, o + q, none⟩ = some (.slice xa m xc))
    (first | exact ⟨by assumption, by assumption, by assumption, by assumption⟩ | go_keep)
    (first
    | (go_at_call 76; refine HI.out.mono ?_; rintro e w1 ⟨rfl, hb1'⟩
       have hb1 : Below w.heap.size w w1 := (below_self_drewN w 1).trans hb1'
       have d1 := (hb1.cell (World.block_lt_of_cell? _ _ c1)).trans c1
       have d2 := (hb1.cell (World.block_lt_of_cell? _ _ c2)).trans c2
       have d3 := (hb1.cell (World.block_lt_of_cell? _ _ c3)).trans c3
       have d4 := (hb1.cell (World.block_lt_of_cell? _ _ cx)).trans cx))
  go_wp2
  go_ret
  exact ⟨rfl, hb1⟩
def anyI (s : Sg) (l : List (List Int)) (b : List Int) (t : List Int) : Bool := b.any fun k => instB s (l.getD k.toNat []) t
theorem range_any (b : List Int) (f : Int → Bool) : (List.range b.length).any (fun i => f (b.getD i 0)) = b.any f := by
  rw [Bool.eq_iff_iff, List.any_eq_true, List.any_eq_true]
  constructor
  · rintro ⟨i, hi, h⟩
    have hi' : i < b.length := by simpa using hi
    exact ⟨b[i], List.getElem_mem hi', by simpa [List.getD, hi'] using h⟩
  · rintro ⟨x, hx, h⟩
    obtain ⟨i, hi, rfl⟩ := List.getElem_of_mem hx
    exact ⟨i, by simpa using hi, by simpa [List.getD, hi] using h⟩
set_option maxRecDepth 100000 in
theorem find_IsBase1 (vs vl vb vt : Value) (ps pl pb : Nat) (s : Sg) (l : List (List Int)) (b : List Int) (t : List Int) (w : World) (hs : SignAt w vs s) (hv : Terms w vl l) (hbb : Ints w vb b) (ht : Ints w vt t) (hs1 : s.length ≤ 1000) (hrb : ∀ x ∈ b, 0 ≤ x ∧ x < l.length)
    (c1 : w.cell? ⟨ps, 0, none⟩ = some vs) (c2 : w.cell? ⟨pl, 0, none⟩ = some vl) (c3 : w.cell? ⟨pb, 0, none⟩ = some vb) :
    Calls Try.prog 90 #[vt, .pointer (some ⟨pb, 0, none⟩), .pointer (some ⟨ps, 0, none⟩), .pointer (some ⟨pl, 0, none⟩)] w fun e w' => e = .returned (.bool (!anyI s l b t)) ∧ Below w.heap.size w w' := by
  obtain ⟨sa, scap, rfl, _⟩ := hs.open
  obtain ⟨la, lcap, rfl, _⟩ := hv.open
  obtain ⟨ba, bcap, rfl, _⟩ := hbb.open
  obtain ⟨ta, tcap, rfl, _⟩ := ht.open
  have hbx : Below w.heap.size w (w.alloc (.cells #[.slice ta t.length tcap] 37)) := (Below.refl _ _).alloc (Nat.le_refl _) _
  have hcell := cell_new1 w (.slice ta t.length tcap) 37
  have c1' := cell_alloc_keep (.cells #[.slice ta t.length tcap] 37) c1
  have c2' := cell_alloc_keep (.cells #[.slice ta t.length tcap] 37) c2
  have KEY := hid (sl_ContainsFunc_ints 91 #[.pointer (some ⟨ps, 0, none⟩), .pointer (some ⟨pl, 0, none⟩), .pointer (some ⟨w.heap.size, 0, none⟩)] (enters_of Try.func91 (by kernel_rfl) rfl) (.slice ba b.length bcap) b.length (b.map (Value.int .i64)) _ (hbb.below hbx) (fun i => instB s (l.getD (b.getD i 0).toNat []) t) (fun i x W hx hbW => by
    rw [List.getElem?_map] at hx
    cases hxi : b[i]? with
    | none => rw [hxi] at hx; simp at hx
    | some y =>
      rw [hxi] at hx
      simp only [Option.map_some, Option.some.injEq] at hx
      subst hx
      have e : b.getD i 0 = y := by simp [List.getD, hxi]
      rw [e]
      have hy := hrb y (List.mem_of_getElem? hxi)
      obtain ⟨q, rfl⟩ := Int.eq_ofNat_of_zero_le hy.1
      rw [Int.toNat_natCast]
      refine find_IsBase11 q _ _ _ ps pl w.heap.size s l t W ((hs.below hbx).below hbW) ((hv.below hbx).below hbW) ((ht.below hbx).below hbW) hs1 (by omega) ?_ ?_ ?_
      · rw [hbW.cell (p := ⟨ps, 0, none⟩) (World.block_lt_of_cell? _ _ c1')]; exact c1'
      · rw [hbW.cell (p := ⟨pl, 0, none⟩) (World.block_lt_of_cell? _ _ c2')]; exact c2'
      · rw [hbW.cell (p := ⟨w.heap.size, 0, none⟩) (by simp)]; exact hcell))
  rw [range_any b (fun x => instB s (l.getD x.toNat []) t)] at KEY
  have hk : (b.any fun k => instB s (l.getD k.toNat []) t) = anyI s l b t := rfl
  rw [hk] at KEY
  have c3' := cell_alloc_keep (.cells #[.slice ta t.length tcap] 37) c3
  have HBX := hid hbx
  clear hk hs hv hbb ht hrb hbx hcell c1' c2'
  generalize anyI s l b t = z at *
  go_enter Try.func90, Try.ntmps90
  go_wp2_with fail
  refine KEY.out.mono ?_
  rintro e w1 ⟨rfl, hb1⟩
  have HB := hid (HBX.out.trans (hb1.mono HBX.out.size))
  clear hb1
  go_wp2
  go_ret
  exact ⟨rfl, HB.out⟩
theorem isbB_form {s : Sg} {l : List (List Int)} {b : List Int} (h : shelfB s l = true) (hi : (List.range b.length).all (idxB l.length b) = true) : isbB s l b = l.all (anyI s l b) := by
  unfold isbB; rw [h, hi]; rfl
theorem isbB_no {s : Sg} {l : List (List Int)} {b : List Int} {k : Nat} (hk : k < b.length) (h : idxB l.length b k = false) : isbB s l b = false := by
  unfold isbB
  have : (List.range b.length).all (idxB l.length b) = false := by
    rw [List.all_eq_false]; exact ⟨k, by simpa using hk, by rw [h]; simp⟩
  rw [this]; simp
theorem idxB_at {n : Nat} {b : List Int} {k : Nat} (h : k < b.length) : idxB n b k = (inB b[k] 0 ((n : Int) - 1) && (decide (k = 0) || decide ((b.getD (k - 1) 0) < b[k]))) := by
  unfold idxB; rw [show b.getD k 0 = b[k] by simp [List.getD, h]]
theorem allB_anyN (s : Sg) (l : List (List Int)) (b : List Int) : (List.range l.length).any (fun i => !anyI s l b (l.getD i [])) = !l.all (anyI s l b) := by
  rw [Bool.eq_iff_iff, List.any_eq_true]
  simp only [Bool.not_eq_true', List.all_eq_false]
  constructor
  · rintro ⟨i, hi, h⟩
    have hi' : i < l.length := by simpa using hi
    refine ⟨l[i], List.getElem_mem hi', ?_⟩
    rw [show l.getD i [] = l[i] by simp [List.getD, hi']] at h
    simpa using h
  · rintro ⟨t, ht, h⟩
    obtain ⟨i, hi, rfl⟩ := List.getElem_of_mem ht
    refine ⟨i, by simpa using hi, ?_⟩
    rw [show l.getD i [] = l[i] by simp [List.getD, hi]]
    simpa using h
set_option maxHeartbeats 2000000 in
set_option maxRecDepth 100000 in
theorem find_IsBase (vs vl vb : Value) (s : Sg) (l : List (List Int)) (b : List Int) (w : World) (hs : SignAt w vs s) (hv : Terms w vl l) (hb : Ints w vb b) (hs1 : s.length ≤ 1000) (hl1 : l.length ≤ 1000) :
    Calls Try.prog 34 #[vs, vl, vb] w fun e w' => e = .returned (.bool (isbB s l b)) ∧ Below w.heap.size w w' := by
  obtain ⟨sa, scap, hse, _⟩ := hs.open
  obtain ⟨la, lcap, hle, -, hl2, -, -⟩ := hv.open
  obtain ⟨ba, bcap, hbe, hbl, hbl2, -, HBC⟩ := hb.open
  subst hse hle hbe
  obtain ⟨k1, k2, k3, k4⟩ := boxes3 w (.slice sa s.length scap) (.slice la l.length lcap) (.slice ba b.length bcap) 23 24 25
  obtain ⟨W, hW⟩ : ∃ W, ((w.alloc (.cells #[.slice sa s.length scap] 23)).alloc (.cells #[.slice la l.length lcap] 24)).alloc (.cells #[.slice ba b.length bcap] 25) = W := ⟨_, rfl⟩
  have hsz : W.heap.size = w.heap.size + 3 := by rw [← hW]; simp
  rw [hW] at k1 k2 k3 k4
  have HVL := hid (find_Valid (.slice sa s.length scap) (.slice la l.length lcap) s l W (hs.below k4) (hv.below k4) hs1)
  obtain ⟨vvs, hV, hlen, hel⟩ := hv
  have HKEY : Hid (∀ (w4 : World), Below W.heap.size W w4 → (∀ x ∈ b, 0 ≤ x ∧ x < l.length) →
      Calls Try.prog 89 #[.slice la l.length lcap, .func (.func 90) #[] #[.pointer (some ⟨w.heap.size + 1 + 1, 0, none⟩), .pointer (some ⟨w.heap.size, 0, none⟩), .pointer (some ⟨w.heap.size + 1, 0, none⟩)]] w4 fun e w' => e = .returned (.bool (!l.all (anyI s l b))) ∧ Below w4.heap.size w4 w') := hid (fun w4 hb4 hrb => by
    have hbw : Below w.heap.size w w4 := k4.trans (hb4.mono k4.size)
    have := sl_ContainsFunc_terms 90 #[.pointer (some ⟨w.heap.size + 1 + 1, 0, none⟩), .pointer (some ⟨w.heap.size, 0, none⟩), .pointer (some ⟨w.heap.size + 1, 0, none⟩)] (enters_of Try.func90 (by kernel_rfl) rfl) (.slice la l.length lcap) vvs.length vvs w4 (hV.below hbw) (fun i => !anyI s l b (l.getD i [])) (by
      intro i x X hx hbX
      have hil : i < l.length := by rw [← hlen]; exact (List.getElem?_eq_some_iff.1 hx).1
      have hbX2 : Below w.heap.size w X := hbw.trans (hbX.mono hbw.size)
      have hbX3 : Below W.heap.size W X := hb4.trans (hbX.mono hb4.size)
      have hI : Ints X x (l.getD i []) := by
        rw [List.getD_eq_getElem?_getD, List.getElem?_eq_getElem hil]
        exact (hel i x _ hx (List.getElem?_eq_getElem hil)).below hbX2
      refine find_IsBase1 _ _ _ _ w.heap.size (w.heap.size + 1) (w.heap.size + 1 + 1) s l b (l.getD i []) X (hs.below hbX2) (Terms.below ⟨vvs, hV, hlen, hel⟩ hbX2) (hb.below hbX2) hI hs1 hrb ?_ ?_ ?_
      · rw [hbX3.cell (p := ⟨w.heap.size, 0, none⟩) (by rw [hsz]; show w.heap.size < _; omega)]; exact k1
      · rw [hbX3.cell (p := ⟨w.heap.size + 1, 0, none⟩) (by rw [hsz]; show w.heap.size + 1 < _; omega)]; exact k2
      · rw [hbX3.cell (p := ⟨w.heap.size + 1 + 1, 0, none⟩) (by rw [hsz]; show w.heap.size + 1 + 1 < _; omega)]; exact k3)
    rw [hlen, allB_anyN] at this
    exact this)
  have HBC' := hid (fun (X : World) (hX : Below W.heap.size W X) j (hj : j < b.length) => (show ∃ bb oo, ba = some ⟨bb, oo, none⟩ ∧ X.cell? ⟨bb, oo + j, none⟩ = some (.int .i64 b[j]) from by
    obtain ⟨bb, oo, e1, e2⟩ := HBC j hj
    have hbX2 : Below w.heap.size w X := k4.trans (hX.mono k4.size)
    exact ⟨bb, oo, e1, (hbX2.cell (World.block_lt_of_cell? _ _ e2)).trans e2⟩))
  have HK2 := hid (fun (X : World) (hX : Below W.heap.size W X) => (show X.cell? ⟨w.heap.size + 1, 0, none⟩ = some (.slice la l.length lcap) ∧ X.cell? ⟨w.heap.size + 1 + 1, 0, none⟩ = some (.slice ba b.length bcap) from
    ⟨by rw [hX.cell (p := ⟨w.heap.size + 1, 0, none⟩) (by rw [hsz]; show w.heap.size + 1 < _; omega)]; exact k2, by rw [hX.cell (p := ⟨w.heap.size + 1 + 1, 0, none⟩) (by rw [hsz]; show w.heap.size + 1 + 1 < _; omega)]; exact k3⟩))
  have K4 := hid k4
  have HWE := hid hW
  have HWN := hid (fun (z : Int) (X : World) => find_within z 0 ((l.length : Int) - 1) X)
  clear hs hb hel hlen hV HBC k1 k2 k3 k4 hsz hW
  cases h1 : shelfB s l
  · have HA : Hid (isbB s l b = false) := hid (by unfold isbB; rw [h1]; rfl)
    simp only [h1] at HVL
    rw [HA.out]
    clear h1
    go_enter Try.func34, Try.ntmps34
    go_wp2_with fail
    rw [HWE.out]
    refine HVL.out.mono ?_
    rintro e w4 ⟨rfl, hb4⟩
    have HB := hid (K4.out.trans (hb4.mono K4.out.size))
    go_wp2
    go_ret
    exact ⟨rfl, HB.out⟩
  · simp only [h1] at HVL
    have HSH := hid h1
    have hl0 : 1 ≤ l.length := (shelfB_facts h1).2.1
    clear h1
    obtain ⟨n, hn⟩ : ∃ n, l.length = n := ⟨_, rfl⟩
    have HN := hid hn
    simp only [hn] at hl0 hl1 hl2 HVL HKEY HK2 HWE HWN ⊢
    obtain ⟨m, hm⟩ : ∃ m, b.length = m := ⟨_, rfl⟩
    have HM := hid hm
    simp only [hm] at hbl hbl2 HVL HK2 HWE ⊢
    clear hn hm
    go_enter Try.func34, Try.ntmps34
    go_wp2_with fail
    rw [HWE.out]
    refine HVL.out.mono ?_
    rintro e w4 ⟨rfl, hb4⟩
    have HB4 := hid hb4
    obtain ⟨c2, c3⟩ := HK2.out w4 hb4
    have HB := hid (K4.out.trans (hb4.mono K4.out.size))
    clear hb4
    go_wp2
    go_loop [15] (fun kv => ∃ k : Nat, k ≤ m ∧ kv = .int .i64 k ∧ ∀ j, j < k → idxB n b j = true) (fun kv => m - (intOf kv).toNat)
    case atStart => exact ⟨0, by omega, rfl, fun j hj => by omega⟩
    case round =>
      obtain ⟨k, hk, rfl, hrel⟩ := hrel
      have HR := hid hrel
      clear hrel
      by_cases hlt : k < m
      · have hkb : k < b.length := by rw [HM.out]; exact hlt
        obtain ⟨bb, oo, rfl, ck⟩ := HBC'.out w4 HB4.out k hkb
        have hix := idxB_at (n := n) hkb
        obtain ⟨x, hx⟩ : ∃ x, b[k] = x := ⟨_, rfl⟩
        rw [hx] at hix ck
        have HX := hid hx
        clear hx
        cases hin : inB x 0 ((n : Int) - 1)
        · have HNO : Hid (isbB s l b = false) := hid (isbB_no hkb (by rw [HN.out, hix, hin]; rfl))
          have HW1 := hid (HWN.out x w4)
          rw [hin] at HW1
          clear hin hix
          go_wp2_with fail
          refine HW1.out.mono ?_
          rintro e w5 ⟨rfl, rfl⟩
          go_wp2
          go_ret
          exact ⟨ret_bool HNO.out.symm, HB.out⟩
        · rw [hin, Bool.true_and] at hix
          have HW1 := hid (HWN.out x w4)
          rw [hin] at HW1
          clear hin
          by_cases hk0 : k = 0
          · subst hk0
            rw [Nat.add_zero] at ck
            have HIX : Hid (idxB n b 0 = true) := hid (by rw [hix]; rfl)
            clear hix
            go_wp2_with fail
            refine HW1.out.mono ?_
            rintro e w5 ⟨rfl, rfl⟩
            go_wp2
            go_round
            case rel => exact ⟨1, by omega, rfl, fun j hj => by rw [show j = 0 by omega]; exact HIX.out⟩
            case measure => simp [intOf]; omega
          · obtain ⟨j, rfl⟩ : ∃ j, k = j + 1 := ⟨k - 1, by omega⟩
            have hjb : j < b.length := by omega
            obtain ⟨bb', oo', he, cj⟩ := HBC'.out w4 HB4.out j hjb
            obtain ⟨rfl, rfl⟩ : bb = bb' ∧ oo = oo' := by simpa using he
            have e1 : b.getD (j + 1 - 1) 0 = b[j] := by simp [List.getD, hjb]
            obtain ⟨y, hy⟩ : ∃ y, b[j] = y := ⟨_, rfl⟩
            rw [e1, hy] at hix
            rw [hy] at cj
            clear e1 hy he
            by_cases hxy : y < x
            · have HIX : Hid (idxB n b (j + 1) = true) := hid (by rw [hix]; simp [hxy])
              have hle : ¬ x ≤ y := by omega
              clear hix hk0
              go_wp2_with fail
              refine HW1.out.mono ?_
              rintro e w5 ⟨rfl, rfl⟩
              go_wp2
              go_round
              case rel => exact ⟨j + 1 + 1, by omega, by go_num, fun i hi => by
                by_cases e : i = j + 1
                · rw [e]; exact HIX.out
                · exact HR.out i (by omega)⟩
              case measure => simp [intOf]; omega
            · have HNO : Hid (isbB s l b = false) := hid (isbB_no hkb (by rw [HN.out, hix]; simp [hxy]))
              have hle : x ≤ y := by omega
              clear hix hk0
              go_wp2_with fail
              refine HW1.out.mono ?_
              rintro e w5 ⟨rfl, rfl⟩
              go_wp2
              go_ret
              exact ⟨ret_bool HNO.out.symm, HB.out⟩
      · obtain rfl : m = k := by omega
        have hidx : (List.range b.length).all (idxB l.length b) = true := by
          rw [List.all_eq_true]
          intro j hj
          rw [HN.out]
          exact HR.out j (by have := HM.out; have := List.mem_range.1 hj; omega)
        have HF := hid (isbB_form HSH.out hidx)
        have hrb : ∀ x ∈ b, 0 ≤ x ∧ x < (n : Int) := by
          intro x hx
          obtain ⟨j, hj, rfl⟩ := List.getElem_of_mem hx
          have h1 := HR.out j (by have := HM.out; omega)
          rw [idxB_at hj, Bool.and_eq_true, inB_true] at h1
          omega
        have HK := hid (HKEY.out w4 HB4.out hrb)
        obtain ⟨z, hz⟩ : ∃ z, l.all (anyI s l b) = z := ⟨_, rfl⟩
        rw [hz] at HK HF
        clear hidx hrb hz
        go_wp2_with fail
        refine HK.out.mono ?_
        rintro e w5 ⟨rfl, hb5⟩
        have HB5 := hid (HB.out.trans (hb5.mono HB.out.size))
        clear hb5
        go_wp2
        go_ret
        exact ⟨ret_bool (by first | rw [HF.out] | (rw [HF.out]; simp)), HB5.out⟩
end Go.Proofs.Ytiacbdipagbblaa
