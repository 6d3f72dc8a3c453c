/-
  WHAT IT HOLDS: the walk of the law TopCarriedUnify.
-/
import Derived.Test.YtldgkidojepdlaaZRTopCarriedUnify27
import Derived.Test.YtldgkidojepdlaaZRTopCarriedUnify43
import Derived.Test.YtldgkidojepdlaaZRTopCarriedUnify44
import Derived.Test.YtldgkidojepdlaaZRTopCarriedUnify45
import Derived.Test.YtldgkidojepdlaaZRTopCarriedUnify46
namespace Go.Proofs.Ytldgkidojepdlaa
open Go Go.RowKit Go.Maps
def tradeB (a b : Sg) (d : Dic) : Bool := d.all (fun w => decide (w.2.length ≤ 40)) && (smallB a [] && smallB b [] && decide (d.length ≤ 40))
theorem trade_no {a b : Sg} {d : Dic} {k : Nat} (hk : k < d.length) (h : ¬ d[k].2.length ≤ 40) : tradeB a b d = false := by
  unfold tradeB
  have : d.all (fun w => decide (w.2.length ≤ 40)) = false := by
    rw [List.all_eq_false]
    exact ⟨d[k], List.getElem_mem hk, by simpa using h⟩
  rw [this, Bool.false_and]
theorem trade_all {a b : Sg} {d : Dic} (h : ∀ j (hj : j < d.length), d[j].2.length ≤ 40) : tradeB a b d = (smallB a [] && smallB b [] && decide (d.length ≤ 40)) := by
  unfold tradeB
  have : d.all (fun w => decide (w.2.length ≤ 40)) = true := by
    rw [List.all_eq_true]
    intro x hx
    obtain ⟨i, hi, rfl⟩ := List.getElem_of_mem hx
    simpa using h i hi
  rw [this, Bool.true_and]
theorem terms_nilT (w : World) : Terms w (.slice none 0 0) [] := ⟨[], ⟨by simp, none, 0, rfl, Nat.le_refl _, by simp, fun _ => rfl, by simp⟩, rfl, fun i u t h => by simp at h⟩
theorem sign_nilT (w : World) : SignAt w (.slice none 0 0) [] := ⟨⟨rfl, none, 0, rfl, Nat.le_refl _, by simp, fun _ => rfl, by simp [symCells]⟩, by simp⟩
set_option maxHeartbeats 1000000 in
theorem top_trade (va vb vd : Value) (a b : Sg) (d : Dic) (w : World) (ha : SignAt w va a) (hb : SignAt w vb b) (hd : BindsAt w vd d) :
    Calls Try.prog 23 #[.agg #[va, vb, vd]] w fun e w' => e = .returned (.bool (tradeB a b d)) ∧ Below w.heap.size w w' := by
  have hA := fun (T : TypeId) => (Below.refl w.heap.size w).alloc (Nat.le_refl _) (.cells #[va, vb, vd] T)
  have hbx := Box3.new w va vb vd 49
  have HSA := hid (law1_Small va (.slice none 0 0) a [] _ (ha.below (hA 49)) (terms_nilT _))
  have HSB := hid (law1_Small vb (.slice none 0 0) b [] _ (hb.below (hA 49)) (terms_nilT _))
  have HB1 := hid (hA 49)
  have hd1 := hd.below (hA 49)
  obtain ⟨aa, ac, rfl, -⟩ := ha.open
  obtain ⟨ba, bc, rfl, -⟩ := hb.open
  obtain ⟨da, dc, rfl, -, hdl, -, DC⟩ := hd1.open
  have DC := hid DC
  clear ha hb hd hd1 hA
  obtain ⟨c0, c1, c2⟩ := hbx
  go_enter Try.func23, Try.ntmps23
  go_wp2
  generalize w.alloc (.cells #[.slice aa a.length ac, .slice ba b.length bc, .slice da d.length dc] 49) = W at *
  go_loop [3] (fun i => ∃ k : Nat, k ≤ d.length ∧ i = .int .i64 k ∧ ∀ j (hj : j < d.length), j < k → d[j].2.length ≤ 40) (fun i => d.length - (intOf i).toNat)
  case atStart => exact ⟨0, by omega, rfl, by simp⟩
  case round =>
    obtain ⟨k, hk, rfl, hrel⟩ := hrel
    have HR := hid hrel
    clear hrel
    by_cases hlt : k < d.length
    · obtain ⟨cb, co, u, rfl, -, c20, i0⟩ := DC.out k hlt
      obtain ⟨ua, uc, rfl, -, hul, -⟩ := i0.open
      have HNO := hid (fun h => trade_no (a := a) (b := b) hlt h)
      have HK := hid (rfl : d[k].2.length = d[k].2.length)
      obtain ⟨n, hn⟩ : ∃ n, d[k].2.length = n := ⟨_, rfl⟩
      rw [hn] at c20 HNO hul
      have HN := hid hn
      clear hn i0 HK
      by_cases h40 : n ≤ 40
      · have q1 : decide ((40 : Int) < (n : Int)) = false := by simp; omega
        go_wp2
        go_round
        case rel =>
          refine ⟨k + 1, by omega, by go_num, fun q hq hqk => ?_⟩
          by_cases hqq : q = k
          · subst hqq; rw [HN.out]; exact h40
          · exact HR.out q hq (by omega)
        case measure => simp [intOf]; omega
      · have q1 : decide ((40 : Int) < (n : Int)) = true := by simp; omega
        have HF := hid (HNO.out h40)
        clear h40
        go_wp2
        go_ret
        exact ⟨ret_bool HF.out.symm, HB1.out⟩
    · have HALL := hid (trade_all (a := a) (b := b) (d := d) fun j hj => HR.out j hj (by omega))
      have hkl : k = d.length := by omega
      subst hkl
      cases h1 : smallB a []
      · rw [h1] at HSA
        have H1 := hid h1
        clear h1
        go_wp2_with fail
        refine HSA.out.mono ?_
        rintro e w1 ⟨rfl, rfl⟩
        go_wp2
        go_ret
        exact ⟨ret_bool (by rw [HALL.out, H1.out]; rfl), HB1.out⟩
      · rw [h1] at HSA
        have H1 := hid h1
        clear h1
        cases h2 : smallB b []
        · rw [h2] at HSB
          have H2 := hid h2
          clear h2
          go_wp2_with fail
          refine HSA.out.mono ?_
          rintro e w1 ⟨rfl, rfl⟩
          go_wp2_with fail
          refine HSB.out.mono ?_
          rintro e w1 ⟨rfl, rfl⟩
          go_wp2
          go_ret
          exact ⟨ret_bool (by rw [HALL.out, H1.out, H2.out]; rfl), HB1.out⟩
        · rw [h2] at HSB
          have H2 := hid h2
          clear h2
          go_wp2_with fail
          refine HSA.out.mono ?_
          rintro e w1 ⟨rfl, rfl⟩
          go_wp2_with fail
          refine HSB.out.mono ?_
          rintro e w1 ⟨rfl, rfl⟩
          go_wp2
          go_ret
          exact ⟨ret_bool (by rw [HALL.out, H1.out, H2.out, Bool.eq_iff_iff]; simp; omega), HB1.out⟩
theorem trade_len {a b : Sg} {d : Dic} (h : tradeB a b d = true) : a.length ≤ 40 ∧ b.length ≤ 40 ∧ d.length ≤ 40 := by
  unfold tradeB smallB at h
  simp at h
  omega
theorem carD_ok {a b : Sg} {d : Dic} {t : List Int} (h : (carD a b d t).2 = 0) : termB a t = true ∧ (carD a b d t).1 = carL a d t := by
  unfold carD at h ⊢
  by_cases hh : (dicB a b d && termB a t) = true
  · rw [if_pos hh]
    simp only [Bool.and_eq_true] at hh
    exact ⟨hh.2, rfl⟩
  · rw [if_neg hh] at h
    simp at h
theorem below_chain {A X Y Z : World} (h : Below A.heap.size A X) (h1 : Below X.heap.size X Y) (h2 : Below Y.heap.size Y Z) : Below A.heap.size A Z ∧ Below X.heap.size X Z := by
  have h3 := h1.trans (h2.mono h1.size)
  exact ⟨h.trans (h3.mono h.size), h3⟩
theorem below_chain0 {A X Y : World} (h : Below A.heap.size A X) (h1 : Below X.heap.size X Y) : Below A.heap.size A Y := h.trans (h1.mono h.size)
theorem oneB_dic {a b : Sg} {d : Dic} (h : oneB a b d = true) : dicB a b d = true := by
  unfold oneB at h
  simp only [Bool.and_eq_true] at h
  exact h.1
set_option maxHeartbeats 8000000 in
set_option maxRecDepth 100000 in
theorem walk_TopCarriedUnify (va vb vd vp vq : Value) (a b : Sg) (d : Dic) (p q : List Int) (w : World) (ha : SignAt w va a) (hb : SignAt w vb b) (hd : BindsAt w vd d) (hp : Ints w vp p) (hq : Ints w vq q) :
    Calls Try.prog 5 #[.agg #[va, vb, vd], vp, vq] w fun e w' => e = .returned (.bool true) ∧ Below w.heap.size w w' := by
  obtain ⟨W0, hW0⟩ : ∃ W0, w.alloc (.cells #[va, vb, vd] 49) = W0 := ⟨_, rfl⟩
  have hb0 : Below w.heap.size w W0 := by rw [← hW0]; exact (Below.refl _ _).alloc (Nat.le_refl _) _
  have hbx : Box3 W0 w.heap.size va vb vd := by rw [← hW0]; exact Box3.new w va vb vd _
  have HA := hid ha
  have HB := hid hb
  have HD := hid hd
  have HP := hid hp
  have HQ := hid hq
  have HW := hid (fun (X : World) (hX : Below w.heap.size w X) => chainL hX (top_awake5 X))
  have HTR := hid (fun (X : World) (hX : Below w.heap.size w X) => (top_trade va vb vd a b d X (HA.out.below hX) (HB.out.below hX) (HD.out.below hX)).mono fun e w' h => (show e = .returned (.bool (tradeB a b d)) ∧ Below X.heap.size X w' ∧ Below w.heap.size w w' from ⟨h.1, h.2, hX.trans (h.2.mono hX.size)⟩))
  obtain ⟨aa, ac, ea, -⟩ := ha.open
  obtain ⟨ba, bc, eb, -⟩ := hb.open
  obtain ⟨da, dc, ed, -⟩ := hd.open
  obtain ⟨pa, pc, ep, -⟩ := hp.open
  obtain ⟨qa, qc, eq, -⟩ := hq.open
  subst ea eb ed ep eq
  have HB0 := hid hb0
  have HBX := hid hbx
  obtain ⟨c0, c1, c2⟩ := hbx
  have HW0 := hid hW0
  clear ha hb hd hp hq hW0 hb0
  go_enter Try.func5, Try.ntmps5
  go_wp2_with fail
  rw [HW0.out]
  clear HW0
  refine (HTR.out _ HB0.out).mono ?_
  rintro e w1 ⟨rfl, hb1, hb1w⟩
  have HB1 := hid hb1w
  have HBX1 := hid (HBX.out.below hb1)
  clear hb1 hb1w c0 c1 c2
  cases htr : tradeB a b d
  · clear htr
    go_wp2_with fail
    refine (HW.out _ HB1.out).mono ?_
    rintro e w90 ⟨rfl, hbz⟩
    have HBZ := hid hbz
    clear hbz
    go_wp2
    go_ret
    exact ⟨rfl, HBZ.out⟩
  · obtain ⟨ha40, hb40, hd40⟩ := trade_len htr
    clear htr
    have HSM := hid (fun (X : World) (hX : Below w.heap.size w X) => law1_Small (.slice none 0 0) _ [] [p, q] _ (sign_nilT _) (litT2 (HP.out.below hX) (HQ.out.below hX) 37))
    go_wp2_with fail
    refine (HSM.out _ HB1.out).mono ?_
    rintro e w2 ⟨rfl, rfl⟩
    have HB2 := hid (HB1.out.alloc HB1.out.size (.cells #[.slice pa p.length pc, .slice qa q.length qc] 37))
    have HBX2 := hid (HBX1.out.below ((Below.refl _ _).alloc (Nat.le_refl _) (.cells #[.slice pa p.length pc, .slice qa q.length qc] 37)))
    generalize w1.alloc (.cells #[.slice pa p.length pc, .slice qa q.length qc] 37) = W2 at *
    clear HSM HBX HBX1
    cases hsm : smallB [] [p, q]
    · clear hsm
      go_wp2_with fail
      refine (HW.out _ HB2.out).mono ?_
      rintro e w90 ⟨rfl, hbz⟩
      have HBZ := hid hbz
      clear hbz
      go_wp2
      go_ret
      exact ⟨rfl, HBZ.out⟩
    · clear hsm
      have HON := hid (fun (X : World) (hX : Below w.heap.size w X) => tongue_OneToOne _ _ _ a b d X (HA.out.below hX) (HB.out.below hX) (HD.out.below hX) (by omega) (by omega))
      obtain ⟨c0, c1, c2⟩ := HBX2.out
      go_wp2_with fail
      refine (HON.out _ HB2.out).mono ?_
      rintro e w3 ⟨rfl, hb3⟩
      have HB3 := hid (HB2.out.trans (hb3.mono HB2.out.size))
      have HBX3 := hid (HBX2.out.below hb3)
      clear hb3 c0 c1 c2 HON HBX2
      cases hone : oneB a b d
      · clear hone
        go_wp2_with fail
        refine (HW.out _ HB3.out).mono ?_
        rintro e w90 ⟨rfl, hbz⟩
        have HBZ := hid hbz
        clear hbz
        go_wp2
        go_ret
        exact ⟨rfl, HBZ.out⟩
      · have HONE := hid hone
        clear hone
        have HC := hid (fun (X : World) (hX : Below w.heap.size w X) (u : Value) (t : List Int) (hu : Ints X u t) => tongue_Carried _ _ _ u a b d t X (HA.out.below hX) (HB.out.below hX) (HD.out.below hX) hu (by omega) (by omega))
        have HCO := hid (fun (t : List Int) (h : (carD a b d t).2 = 0) => carD_ok h)
        obtain ⟨x, hx⟩ : ∃ x, carD a b d p = x := ⟨_, rfl⟩
        obtain ⟨y, hy⟩ : ∃ y, carD a b d q = y := ⟨_, rfl⟩
        have HC1 := hid (fun (X : World) (hX : Below w.heap.size w X) => HC.out X hX _ p (HP.out.below hX))
        have HC2 := hid (fun (X : World) (hX : Below w.heap.size w X) => HC.out X hX _ q (HQ.out.below hX))
        have HX0 := hid (HCO.out p)
        have HY0 := hid (HCO.out q)
        rw [hx] at HC1 HX0
        rw [hy] at HC2 HY0
        clear hx hy
        obtain ⟨x1, x2⟩ := x
        obtain ⟨y1, y2⟩ := y
        simp only at HC1 HX0 HC2 HY0
        obtain ⟨c0, c1, c2⟩ := HBX3.out
        go_wp2_with fail
        refine (HC1.out _ HB3.out).mono ?_
        rintro e w4 ⟨u4, rfl, ho4, hb4⟩
        obtain ⟨a4, k4, rfl⟩ := ownsRow_slice2 ho4
        have HB4 := hid (HB3.out.trans (hb4.mono HB3.out.size))
        have HBX4 := hid (HBX3.out.below hb4)
        have HO4 := hid ho4
        clear ho4 hb4 c0 c1 c2
        obtain ⟨c0, c1, c2⟩ := HBX4.out
        go_wp2_with fail
        refine (HC2.out _ HB4.out).mono ?_
        rintro e w5 ⟨u5, rfl, ho5, hb5⟩
        obtain ⟨a5, k5, rfl⟩ := ownsRow_slice2 ho5
        have HB5 := hid (HB4.out.trans (hb5.mono HB4.out.size))
        have HBX5 := hid (HBX4.out.below hb5)
        have HO45 := hid (owns_below HO4.out hb5)
        have HO5 := hid ho5
        clear ho5 hb5 c0 c1 c2 HC1 HC2 HO4
        by_cases hx0 : x2 = 0
        · by_cases hy0 : y2 = 0
          · subst hx0 hy0
            obtain ⟨tp, hx1⟩ := HX0.out rfl
            obtain ⟨tq, hy1⟩ := HY0.out rfl
            try simp only at hx1 hy1
            subst hx1 hy1
            have hda := oneB_ok HONE.out
            have l1 := (termB_facts (car_term hda.toDicOK tp)).2.2.2
            have l2 := (termB_facts (car_term hda.toDicOK tq)).2.2.2
            have HI4 := hid (Ints.of_owns HO45.out (by omega))
            have HI5 := hid (Ints.of_owns HO5.out (by omega))
            obtain ⟨z, hz1, hz2⟩ := car_uniA HONE.out tp tq
            obtain ⟨i, hi1⟩ : ∃ i, instB a p q = i := ⟨_, rfl⟩
            have hi2 := (car_instB HONE.out tp tq).trans hi1
            have HU1 := hid (fun (X : World) (hX : Below w.heap.size w X) => unify_Unified _ _ _ a p q X (HA.out.below hX) (HP.out.below hX) (HQ.out.below hX) (by omega))
            have HU2 := hid (fun (X : World) (hX : Below w.heap.size w X) (h5 : Below w5.heap.size w5 X) => unify_Unified _ _ _ b _ _ X (HB.out.below hX) (HI4.out.below h5) (HI5.out.below h5) (by omega))
            have HV1 := hid (fun (X : World) (hX : Below w.heap.size w X) => (unify_Unifiable _ _ _ a p q X (HA.out.below hX) (HP.out.below hX) (HQ.out.below hX) (by omega)).mono fun e w' h => (show e = .returned (.bool z) ∧ Below X.heap.size X w' from h.elim fun z' h => ⟨by rw [h.2.1, hz1 z' h.1], h.2.2⟩))
            have HV2 := hid (fun (X : World) (hX : Below w.heap.size w X) (h5 : Below w5.heap.size w5 X) => (unify_Unifiable _ _ _ b _ _ X (HB.out.below hX) (HI4.out.below h5) (HI5.out.below h5) (by omega)).mono fun e w' h => (show e = .returned (.bool z) ∧ Below X.heap.size X w' from h.elim fun z' h => ⟨by rw [h.2.1, hz2 z' h.1], h.2.2⟩))
            have HN1 := hid (fun (X : World) (hX : Below w.heap.size w X) => (unify_Instance _ _ _ a p q X (HA.out.below hX) (HP.out.below hX) (HQ.out.below hX) (by omega)).mono fun e w' h => (show e = .returned (.bool i) ∧ Below X.heap.size X w' from ⟨by rw [h.1, hi1], h.2⟩))
            have HN2 := hid (fun (X : World) (hX : Below w.heap.size w X) (h5 : Below w5.heap.size w5 X) => (unify_Instance _ _ _ b _ _ X (HB.out.below hX) (HI4.out.below h5) (HI5.out.below h5) (by omega)).mono fun e w' h => (show e = .returned (.bool i) ∧ Below X.heap.size X w' from ⟨by rw [h.1, hi2], h.2⟩))
            have HLAW := hid (fun (x y : List Int × Int) (hx : UnifR a p q x) (hy : UnifR b (carL a d p) (carL a d q) y) => car_unified HONE.out tp tq hx hy)
            have HUB := hid (fun (y : List Int × Int) (hy : UnifR b (carL a d p) (carL a d q) y) (h : y.2 = 0) => hy)
            clear hz1 hz2 hi1 hi2 HX0 HY0 HCO tp tq l1 l2
            obtain ⟨c0, c1, c2⟩ := HBX5.out
            go_wp2_with fail
            refine (HU1.out _ HB5.out).mono ?_
            rintro e w6 ⟨x, u6, hx, rfl, ho6, hb6⟩
            obtain ⟨x1, x2⟩ := x
            simp only at ho6
            obtain ⟨a6, k6, rfl⟩ := ownsRow_slice2 ho6
            have HB6 := hid (HB5.out.trans (hb6.mono HB5.out.size))
            have HBX6 := hid (HBX5.out.below hb6)
            have HB56 := hid hb6
            have HO6 := hid ho6
            have HXX := hid hx
            clear hx ho6 hb6 c0 c1 c2
            obtain ⟨c0, c1, c2⟩ := HBX6.out
            go_wp2_with fail
            refine (HU2.out _ HB6.out HB56.out).mono ?_
            rintro e w7 ⟨y, u7, hy, rfl, ho7, hb7⟩
            obtain ⟨y1, y2⟩ := y
            simp only at ho7
            obtain ⟨a7, k7, rfl⟩ := ownsRow_slice2 ho7
            have HB7 := hid (HB6.out.trans (hb7.mono HB6.out.size))
            have HBX7 := hid (HBX6.out.below hb7)
            have HB57 := hid (HB56.out.trans (hb7.mono HB56.out.size))
            have HO67 := hid (owns_below HO6.out hb7)
            have HO7 := hid ho7
            have HYY := hid hy
            obtain ⟨hg, hg0⟩ := HLAW.out _ _ HXX.out HYY.out
            simp only at hg hg0
            subst hg
            have HG0 := hid hg0
            clear hy ho7 hb7 c0 c1 c2 HLAW HU1 HU2 HO6 hg0
            obtain ⟨c0, c1, c2⟩ := HBX7.out
            have n1 : (x2 != x2) = false := by simp
            have n2 : (z != z) = false := by simp
            have n3 : (i != i) = false := by simp
            have hbZ := Below.refl w7.heap.size w7
            clear HBX3 HBX4 HBX5 HBX6
            go_wp2_with fail
            go_region_held3 (fun w' => w'.cell? ⟨w.heap.size, 0, none⟩ = some (.slice aa a.length ac) ∧ w'.cell? ⟨w.heap.size, 1, none⟩ = some (.slice ba b.length bc))
              (first | exact ⟨by assumption, by assumption⟩ | go_keep)
              (first
              | (go_at_call 27; (with_reducible refine (HV1.out _ (Below.drew HB7.out)).mono ?_); rintro e w8 ⟨rfl, hb8⟩
                 have e8 := below_chain HB7.out (Below.drew hbZ) hb8
                 have g8 := below_chain HB57.out (Below.drew hbZ) hb8
                 have c0 := (e8.2.cell (World.block_lt_of_cell? _ _ c0)).trans c0
                 have c1 := (e8.2.cell (World.block_lt_of_cell? _ _ c1)).trans c1)
              | (go_at_call 27; (with_reducible refine (HV2.out _ e8.1 g8.1).mono ?_); rintro e w9 ⟨rfl, hb9⟩
                 have e9 := below_chain0 e8.1 hb9
                 have g9 := below_chain0 g8.1 hb9
                 have c0 := (hb9.cell (World.block_lt_of_cell? _ _ c0)).trans c0
                 have c1 := (hb9.cell (World.block_lt_of_cell? _ _ c1)).trans c1)
              | (go_at_call 28; (with_reducible refine (HN1.out _ e9).mono ?_); rintro e w10 ⟨rfl, hb10⟩
                 have e10 := below_chain0 e9 hb10
                 have g10 := below_chain0 g9 hb10
                 have c0 := (hb10.cell (World.block_lt_of_cell? _ _ c0)).trans c0
                 have c1 := (hb10.cell (World.block_lt_of_cell? _ _ c1)).trans c1)
              | (go_at_call 28; (with_reducible refine (HN2.out _ e10 g10).mono ?_); rintro e w11 ⟨rfl, hb11⟩
                 have e11 := below_chain0 e10 hb11
                 have g11 := below_chain0 g10 hb11
                 have c0 := (hb11.cell (World.block_lt_of_cell? _ _ c0)).trans c0
                 have c1 := (hb11.cell (World.block_lt_of_cell? _ _ c1)).trans c1))
            have HB11 := hid e11
            have HB711 := hid (below_chain0 (below_chain HB57.out hbZ (Below.refl _ _)).2 (below_chain0 (below_chain0 (below_chain0 (Below.drew hbZ) hb8) hb9) (below_chain0 hb10 hb11)))
            have HBX11 := hid (HBX7.out.below HB711.out)
            clear e8 g8 e9 g9 e10 g10 e11 g11 hb8 hb9 hb10 hb11 c0 c1 hbZ n1 n2 n3 HV1 HV2 HN1 HN2
            by_cases hz0 : x2 = 0
            · subst hz0
              obtain ⟨tt, hal⟩ := HG0.out rfl
              have HCA := hid (show carD a b d x1 = (carL a d x1, 0) from by unfold carD; rw [oneB_dic HONE.out, tt]; rfl)
              have hl1 := (termB_facts tt).2.2.2
              have hl2 := (termB_facts (alikeB_iff.1 hal |>.1 |> fun h => (instB_iff.1 h).1)).2.2.2
              have hl3 := (termB_facts (alikeB_iff.1 hal |>.1 |> fun h => (instB_iff.1 h).2.1)).2.2.2
              have HI6 := hid ((Ints.of_owns HO67.out (by omega)).below HB711.out)
              have HI7 := hid ((Ints.of_owns HO7.out (by omega)).below HB711.out)
              have HAL := hid hal
              have HC3 := hid (HC.out _ HB11.out _ x1 HI6.out)
              rw [HCA.out] at HC3
              simp only at HC3
              obtain ⟨c0, c1, c2⟩ := HBX11.out
              clear tt hal HCA
              go_wp2_with fail
              refine HC3.out.mono ?_
              rintro e w12 ⟨u12, rfl, ho12, hb12⟩
              obtain ⟨a12, k12, rfl⟩ := ownsRow_slice2 ho12
              have HB12 := hid (HB11.out.trans (hb12.mono HB11.out.size))
              have HBX12 := hid (HBX11.out.below hb12)
              have HI12 := hid (Ints.of_owns ho12 (by omega))
              have HI712 := hid (HI7.out.below hb12)
              have HAK := hid (term_Alike _ _ _ b y1 (carL a d x1) _ (HB.out.below HB12.out) HI712.out HI12.out (by omega))
              rw [HAL.out] at HAK
              clear ho12 hb12 c0 c1 c2
              obtain ⟨c0, c1, c2⟩ := HBX12.out
              go_wp2_with fail
              refine HAK.out.mono ?_
              rintro e w13 ⟨rfl, hb13⟩
              have HB13 := hid (HB12.out.trans (hb13.mono HB12.out.size))
              clear hb13
              go_wp2_with fail
              refine (HW.out _ HB13.out).mono ?_
              rintro e w90 ⟨rfl, hbz⟩
              have HBZ := hid hbz
              clear hbz
              go_wp2
              go_ret
              exact ⟨rfl, HBZ.out⟩
            · have n3 : (x2 != 0) = true := by simpa using hz0
              go_wp2_with fail
              refine (HW.out _ HB11.out).mono ?_
              rintro e w90 ⟨rfl, hbz⟩
              have HBZ := hid hbz
              clear hbz
              go_wp2
              go_ret
              exact ⟨rfl, HBZ.out⟩
          · have n3 : (y2 != 0) = true := by simpa using hy0
            subst hx0
            go_wp2_with fail
            refine (HW.out _ HB5.out).mono ?_
            rintro e w90 ⟨rfl, hbz⟩
            have HBZ := hid hbz
            clear hbz
            go_wp2
            go_ret
            exact ⟨rfl, HBZ.out⟩
        · have n3 : (x2 != 0) = true := by simpa using hx0
          go_wp2_with fail
          refine (HW.out _ HB5.out).mono ?_
          rintro e w90 ⟨rfl, hbz⟩
          have HBZ := hid hbz
          clear hbz
          go_wp2
          go_ret
          exact ⟨rfl, HBZ.out⟩
end Go.Proofs.Ytldgkidojepdlaa
