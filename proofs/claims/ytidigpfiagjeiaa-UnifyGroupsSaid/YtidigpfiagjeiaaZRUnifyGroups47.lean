/-
  WHAT IT HOLDS: the walk of the law UnifyGroups.
-/
import Derived.Test.YtidigpfiagjeiaaZRUnifyGroups34
import Derived.Test.YtidigpfiagjeiaaZRUnifyGroups46
namespace Go.Proofs.Ytidigpfiagjeiaa
open Go Go.RowKit Go.Maps
set_option maxHeartbeats 4000000 in
set_option maxRecDepth 100000 in
theorem walk_UnifyGroups (vs v0 v1 v2 : Value) (s : Sg) (l0 l1 l2 : BL) (w : World) (hs : SignAt w vs s) (h0 : BindsAt w v0 l0) (h1 : BindsAt w v1 l1) (h2 : BindsAt w v2 l2) :
    Calls Try.prog 11 #[vs, .agg #[v0, v1, v2]] w fun e w' => e = .returned (.bool true) ∧ Below w.heap.size w w' := by
  obtain ⟨a0, k0, he0, -⟩ := h0.open
  obtain ⟨a1, k1, he1, -⟩ := h1.open
  obtain ⟨a2, k2, he2, -⟩ := h2.open
  subst he0 he1 he2
  have hbx := Box3.new w (.slice a0 l0.length k0) (.slice a1 l1.length k1) (.slice a2 l2.length k2) 52
  have hb1 : Below w.heap.size w (w.alloc (.cells #[.slice a0 l0.length k0, .slice a1 l1.length k1, .slice a2 l2.length k2] 52)) := (Below.refl _ _).alloc (Nat.le_refl _) _
  have HBX := hid hbx
  have HSM := hid (law1_Small vs _ s [] _ (hs.below hb1) (terms_nil _))
  have HF0 := hid (fun (X : World) (hX : Below w.heap.size w X) => law2_few _ l0 X (h0.below hX))
  have HF1 := hid (fun (X : World) (hX : Below w.heap.size w X) => law2_few _ l1 X (h1.below hX))
  have HF2 := hid (fun (X : World) (hX : Below w.heap.size w X) => law2_few _ l2 X (h2.below hX))
  have HB := hid hb1
  have HS := hid hs
  have H0 := hid h0
  have H1 := hid h1
  have H2 := hid h2
  have HW := hid (fun (X : World) (hX : Below w.heap.size w X) => chainL hX (law2_awake X))
  clear hb1 hs h0 h1 h2 hbx
  go_enter Try.func11, Try.ntmps11
  go_wp2_with fail
  refine HSM.out.mono ?_
  rintro e w1 ⟨rfl, rfl⟩
  cases hsm : smallB s []
  · clear HSM HBX
    go_wp2_with fail
    refine (HW.out _ HB.out).mono ?_
    rintro e wz ⟨rfl, hbz⟩
    have HBz := hid hbz
    clear hbz
    go_wp2
    go_ret
    exact ⟨rfl, HBz.out⟩
  · have hs40 : s.length ≤ 1000 := by simp [smallB] at hsm; omega
    clear hsm HSM
    have HC := hid (fun (X : World) (hX : Below w.heap.size w X) (u v : Value) (p q : BL) (hu : BindsAt X u p) (hv : BindsAt X v q) => unify_Compose vs u v s p q X (HS.out.below hX) hu hv hs40)
    have HR := hid (fun (X : World) (hX : Below w.heap.size w X) (u : Value) (p : BL) (hu : BindsAt X u p) => chainL hX (unify_Renaming vs u s p X (HS.out.below hX) hu hs40))
    generalize w.alloc (.cells #[.slice a0 l0.length k0, .slice a1 l1.length k1, .slice a2 l2.length k2] 52) = W at *
    obtain ⟨c0, c1, c2⟩ := HBX.out
    go_wp2_with fail
    refine (HF0.out _ HB.out).mono ?_
    rintro e w1 ⟨rfl, rfl⟩
    cases hf0 : fewB l0
    · clear c0 c1 c2
      go_wp2_with fail
      refine (HW.out _ HB.out).mono ?_
      rintro e wz ⟨rfl, hbz⟩
      have HBz := hid hbz
      clear hbz
      go_wp2
      go_ret
      exact ⟨rfl, HBz.out⟩
    · clear hf0
      go_wp2_with fail
      refine (HF1.out _ HB.out).mono ?_
      rintro e w1 ⟨rfl, rfl⟩
      cases hf1 : fewB l1
      · clear c0 c1 c2
        go_wp2_with fail
        refine (HW.out _ HB.out).mono ?_
        rintro e wz ⟨rfl, hbz⟩
        have HBz := hid hbz
        clear hbz
        go_wp2
        go_ret
        exact ⟨rfl, HBz.out⟩
      · clear hf1
        go_wp2_with fail
        refine (HF2.out _ HB.out).mono ?_
        rintro e w1 ⟨rfl, rfl⟩
        cases hf2 : fewB l2
        · clear c0 c1 c2
          go_wp2_with fail
          refine (HW.out _ HB.out).mono ?_
          rintro e wz ⟨rfl, hbz⟩
          have HBz := hid hbz
          clear hbz
          go_wp2
          go_ret
          exact ⟨rfl, HBz.out⟩
        · clear hf2
          have HAS := hid (fun (a : (comR s l0 l1).2 = 0) (b : (comR s l1 l2).2 = 0) (c : (comR s (comR s l0 l1).1 l2).2 = 0) (d : (comR s l0 (comR s l1 l2).1).2 = 0) => com_assoc a b c d)
          have HRC := hid (fun (a : (comR s l0 l1).2 = 0) (b : renB s l0 = true) (c : renB s l1 = true) => ren_com a b c)
          have HC1 := hid (fun (X : World) (hX : Below w.heap.size w X) => HC.out X hX _ _ l0 l1 (H0.out.below hX) (H1.out.below hX))
          have HC2 := hid (fun (X : World) (hX : Below w.heap.size w X) => HC.out X hX _ _ l1 l2 (H1.out.below hX) (H2.out.below hX))
          have HC3 := hid (fun (X : World) (hX : Below w.heap.size w X) (u : Value) (hu : BindsAt X u (comR s l0 l1).1) => HC.out X hX u _ (comR s l0 l1).1 l2 hu (H2.out.below hX))
          have HC4 := hid (fun (X : World) (hX : Below w.heap.size w X) (u : Value) (hu : BindsAt X u (comR s l1 l2).1) => HC.out X hX _ u l0 (comR s l1 l2).1 (H0.out.below hX) hu)
          have HR0 := hid (fun (X : World) (hX : Below w.heap.size w X) => unify_Renaming vs _ s l0 X (HS.out.below hX) (H0.out.below hX) hs40)
          have HR1 := hid (fun (X : World) (hX : Below w.heap.size w X) => unify_Renaming vs _ s l1 X (HS.out.below hX) (H1.out.below hX) hs40)
          have HRA := hid (fun (X : World) (hX : Below w.heap.size w X) (u : Value) (hu : BindsAt X u (comR s l0 l1).1) => unify_Renaming vs u s (comR s l0 l1).1 X (HS.out.below hX) hu hs40)
          clear HC HR HF0 HF1 HF2
          obtain ⟨z, hz⟩ : ∃ z, comR s (comR s l0 l1).1 l2 = z := ⟨_, rfl⟩
          obtain ⟨t, ht⟩ : ∃ t, comR s l0 (comR s l1 l2).1 = t := ⟨_, rfl⟩
          rw [hz, ht] at HAS
          rw [hz] at HC3
          rw [ht] at HC4
          obtain ⟨x, hx⟩ : ∃ x, comR s l0 l1 = x := ⟨_, rfl⟩
          obtain ⟨y, hy⟩ : ∃ y, comR s l1 l2 = y := ⟨_, rfl⟩
          rw [hx, hy] at HAS
          rw [hx] at HRC HC1 HC3 HRA
          rw [hy] at HC2 HC4
          clear hz ht hx hy
          obtain ⟨x1, x2⟩ := x
          obtain ⟨y1, y2⟩ := y
          obtain ⟨z1, z2⟩ := z
          obtain ⟨t1, t2⟩ := t
          dsimp only at HAS HRC HC1 HC2 HC3 HC4 HRA
          generalize renB s l0 = r0 at *
          generalize renB s l1 = r1 at *
          generalize renB s x1 = ra at *
          go_wp2_with fail
          refine (HC1.out _ HB.out).mono ?_
          rintro e w3 ⟨u3, rfl, hu3, hb3⟩
          obtain ⟨a3, k3, rfl, -⟩ := hu3.open
          have HB3 := hid (HB.out.trans (hb3.mono HB.out.size))
          have HBX3 := hid (HBX.out.below hb3)
          have HU3 := hid hu3
          clear hb3 hu3 c0 c1 c2
          obtain ⟨c0, c1, c2⟩ := HBX3.out
          go_wp2_with fail
          refine (HC2.out _ HB3.out).mono ?_
          rintro e w4 ⟨u4, rfl, hu4, hb4⟩
          obtain ⟨a4, k4, rfl, -⟩ := hu4.open
          have HB4 := hid (HB3.out.trans (hb4.mono HB3.out.size))
          have HBX4 := hid (HBX3.out.below hb4)
          have HU4 := hid (HU3.out.below hb4)
          have HV4 := hid hu4
          clear hb4 hu4 c0 c1 c2
          by_cases hx2 : x2 = 0
          · subst hx2
            by_cases hy2 : y2 = 0
            · subst hy2
              have HRN := hid (HRC.out rfl)
              have HAS2 := hid (HAS.out rfl rfl)
              clear HRC HAS
              obtain ⟨c0, c1, c2⟩ := HBX4.out
              go_wp2_with fail
              refine (HC3.out _ HB4.out _ HU4.out).mono ?_
              rintro e w5 ⟨u5, rfl, hu5, hb5⟩
              obtain ⟨a5, k5, rfl, -⟩ := hu5.open
              have HB5 := hid (HB4.out.trans (hb5.mono HB4.out.size))
              have HBX5 := hid (HBX4.out.below hb5)
              have HU5 := hid (HU4.out.below hb5)
              have HV5 := hid (HV4.out.below hb5)
              have HZ5 := hid hu5
              clear hb5 hu5 c0 c1 c2
              obtain ⟨c0, c1, c2⟩ := HBX5.out
              go_wp2_with fail
              refine (HC4.out _ HB5.out _ HV5.out).mono ?_
              rintro e w6 ⟨u6, rfl, hu6, hb6⟩
              obtain ⟨a6, k6, rfl, -⟩ := hu6.open
              have HB6 := hid (HB5.out.trans (hb6.mono HB5.out.size))
              have HBX6 := hid (HBX5.out.below hb6)
              have HU6 := hid (HU5.out.below hb6)
              have HZ6 := hid (HZ5.out.below hb6)
              have HT6 := hid hu6
              clear hb6 hu6 c0 c1 c2 HC1 HC2 HC3 HC4 HU3 HU4 HU5 HV4 HV5 HZ5
              obtain ⟨c0, c1, c2⟩ := HBX6.out
              by_cases hz2 : z2 = 0
              · subst hz2
                by_cases ht2 : t2 = 0
                · subst ht2
                  obtain rfl := HAS2.out rfl rfl
                  clear HAS2
                  go_wp2_with fail
                  refine (ref2_SameBinds _ _ _ _ _ HZ6.out HT6.out).mono ?_
                  rintro e w7 ⟨rfl, nq, rfl⟩
                  rw [show decide (z1 = z1) = true from by simp]
                  have hd7 := below_self_drewN w6 nq
                  have HB7 := hid (HB6.out.trans (hd7.mono HB6.out.size))
                  have HBX7 := hid (HBX6.out.below hd7)
                  have HU7 := hid (HU6.out.below hd7)
                  generalize w6.drewN nq = w7 at *
                  clear hd7 c0 c1 c2
                  obtain ⟨c0, c1, c2⟩ := HBX7.out
                  go_wp2_with fail
                  refine (HR0.out _ HB7.out).mono ?_
                  rintro e wa ⟨rfl, hba⟩
                  have HBa := hid (HB7.out.trans (hba.mono HB7.out.size))
                  have HBXa := hid (HBX7.out.below hba)
                  have HUa := hid (HU7.out.below hba)
                  clear hba c0 c1 c2
                  cases r0
                  · go_wp2_with fail
                    refine (HW.out _ HBa.out).mono ?_
                    rintro e wz ⟨rfl, hbz⟩
                    have HBz := hid hbz
                    clear hbz
                    go_wp2
                    go_ret
                    exact ⟨rfl, HBz.out⟩
                  · obtain ⟨c0, c1, c2⟩ := HBXa.out
                    go_wp2_with fail
                    refine (HR1.out _ HBa.out).mono ?_
                    rintro e wc ⟨rfl, hbc⟩
                    have HBc := hid (HBa.out.trans (hbc.mono HBa.out.size))
                    have HUc := hid (HUa.out.below hbc)
                    clear hbc c0 c1 c2
                    cases r1
                    · go_wp2_with fail
                      refine (HW.out _ HBc.out).mono ?_
                      rintro e wz ⟨rfl, hbz⟩
                      have HBz := hid hbz
                      clear hbz
                      go_wp2
                      go_ret
                      exact ⟨rfl, HBz.out⟩
                    · obtain rfl : ra = true := HRN.out (by first | trivial | rfl) (by first | trivial | rfl)
                      go_wp2_with fail
                      refine (HRA.out _ HBc.out _ HUc.out).mono ?_
                      rintro e wd ⟨rfl, hbd⟩
                      have HBd := hid (HBc.out.trans (hbd.mono HBc.out.size))
                      clear hbd
                      go_wp2_with fail
                      refine (HW.out _ HBd.out).mono ?_
                      rintro e wz ⟨rfl, hbz⟩
                      have HBz := hid hbz
                      clear hbz
                      go_wp2
                      go_ret
                      exact ⟨rfl, HBz.out⟩
                · clear HAS2
                  go_wp2_with fail
                  refine (HR0.out _ HB6.out).mono ?_
                  rintro e wa ⟨rfl, hba⟩
                  have HBa := hid (HB6.out.trans (hba.mono HB6.out.size))
                  have HBXa := hid (HBX6.out.below hba)
                  have HUa := hid (HU6.out.below hba)
                  clear hba c0 c1 c2
                  cases r0
                  · go_wp2_with fail
                    refine (HW.out _ HBa.out).mono ?_
                    rintro e wz ⟨rfl, hbz⟩
                    have HBz := hid hbz
                    clear hbz
                    go_wp2
                    go_ret
                    exact ⟨rfl, HBz.out⟩
                  · obtain ⟨c0, c1, c2⟩ := HBXa.out
                    go_wp2_with fail
                    refine (HR1.out _ HBa.out).mono ?_
                    rintro e wc ⟨rfl, hbc⟩
                    have HBc := hid (HBa.out.trans (hbc.mono HBa.out.size))
                    have HUc := hid (HUa.out.below hbc)
                    clear hbc c0 c1 c2
                    cases r1
                    · go_wp2_with fail
                      refine (HW.out _ HBc.out).mono ?_
                      rintro e wz ⟨rfl, hbz⟩
                      have HBz := hid hbz
                      clear hbz
                      go_wp2
                      go_ret
                      exact ⟨rfl, HBz.out⟩
                    · obtain rfl : ra = true := HRN.out (by first | trivial | rfl) (by first | trivial | rfl)
                      go_wp2_with fail
                      refine (HRA.out _ HBc.out _ HUc.out).mono ?_
                      rintro e wd ⟨rfl, hbd⟩
                      have HBd := hid (HBc.out.trans (hbd.mono HBc.out.size))
                      clear hbd
                      go_wp2_with fail
                      refine (HW.out _ HBd.out).mono ?_
                      rintro e wz ⟨rfl, hbz⟩
                      have HBz := hid hbz
                      clear hbz
                      go_wp2
                      go_ret
                      exact ⟨rfl, HBz.out⟩
              · clear HAS2
                go_wp2_with fail
                refine (HR0.out _ HB6.out).mono ?_
                rintro e wa ⟨rfl, hba⟩
                have HBa := hid (HB6.out.trans (hba.mono HB6.out.size))
                have HBXa := hid (HBX6.out.below hba)
                have HUa := hid (HU6.out.below hba)
                clear hba c0 c1 c2
                cases r0
                · go_wp2_with fail
                  refine (HW.out _ HBa.out).mono ?_
                  rintro e wz ⟨rfl, hbz⟩
                  have HBz := hid hbz
                  clear hbz
                  go_wp2
                  go_ret
                  exact ⟨rfl, HBz.out⟩
                · obtain ⟨c0, c1, c2⟩ := HBXa.out
                  go_wp2_with fail
                  refine (HR1.out _ HBa.out).mono ?_
                  rintro e wc ⟨rfl, hbc⟩
                  have HBc := hid (HBa.out.trans (hbc.mono HBa.out.size))
                  have HUc := hid (HUa.out.below hbc)
                  clear hbc c0 c1 c2
                  cases r1
                  · go_wp2_with fail
                    refine (HW.out _ HBc.out).mono ?_
                    rintro e wz ⟨rfl, hbz⟩
                    have HBz := hid hbz
                    clear hbz
                    go_wp2
                    go_ret
                    exact ⟨rfl, HBz.out⟩
                  · obtain rfl : ra = true := HRN.out (by first | trivial | rfl) (by first | trivial | rfl)
                    go_wp2_with fail
                    refine (HRA.out _ HBc.out _ HUc.out).mono ?_
                    rintro e wd ⟨rfl, hbd⟩
                    have HBd := hid (HBc.out.trans (hbd.mono HBc.out.size))
                    clear hbd
                    go_wp2_with fail
                    refine (HW.out _ HBd.out).mono ?_
                    rintro e wz ⟨rfl, hbz⟩
                    have HBz := hid hbz
                    clear hbz
                    go_wp2
                    go_ret
                    exact ⟨rfl, HBz.out⟩
            · go_wp2_with fail
              refine (HW.out _ HB4.out).mono ?_
              rintro e wz ⟨rfl, hbz⟩
              have HBz := hid hbz
              clear hbz
              go_wp2
              go_ret
              exact ⟨rfl, HBz.out⟩
          · go_wp2_with fail
            refine (HW.out _ HB4.out).mono ?_
            rintro e wz ⟨rfl, hbz⟩
            have HBz := hid hbz
            clear hbz
            go_wp2
            go_ret
            exact ⟨rfl, HBz.out⟩
end Go.Proofs.Ytidigpfiagjeiaa
