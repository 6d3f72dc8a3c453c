/-
  WHAT IT HOLDS: the walk of the law UnifyComposes.
  WHAT IT HOLDS: the walk of the law UnifyBinds.
-/
import Derived.Test.YtidigpfiagjeiaaZRUnifyBinds37
import Derived.Test.YtidigpfiagjeiaaZRUnifyBinds39
import Derived.Test.YtidigpfiagjeiaaZRUnifyBinds0
import Derived.Test.YtidigpfiagjeiaaZRUnifyBinds40
import Derived.Test.YtidigpfiagjeiaaZRUnifyBinds46
import Derived.Test.YtidigpfiagjeiaaZRUnifyBinds38
namespace Go.Proofs.Ytidigpfiagjeiaa
open Go Go.RowKit Go.Maps
theorem com_apps {s : Sg} {l m : BL} {t : List Int} (h : (comR s l m).2 = 0) (h2 : (appR s l t).2 = 0) : appR s m (appR s l t).1 = appR s (comR s l m).1 t := by
  obtain ⟨c1, c2, c3, c4, c5, c6⟩ := comR_ok h
  have e1 : appR s l t = if termB s t && bndsB s l then (if (subL (ofN l) t).length ≤ 60 then (subL (ofN l) t, 0) else ([], 4)) else ([], 1) := rfl
  cases ht : termB s t
  · rw [e1, ht] at h2; simp at h2
  · rw [ht, c1] at e1
    by_cases h60 : (subL (ofN l) t).length ≤ 60
    · rw [if_pos (by rfl : (true && true) = true), if_pos h60] at e1
      have hT : termB s (subL (ofN l) t) = true := T_termB (bndsB_iff.1 c1).1 (sub_T c1 (termB_T ht)) h60
      have e2 : appR s m (subL (ofN l) t) = if termB s (subL (ofN l) t) && bndsB s m then (if (subL (ofN m) (subL (ofN l) t)).length ≤ 60 then (subL (ofN m) (subL (ofN l) t), 0) else ([], 4)) else ([], 1) := rfl
      have e3 : appR s (comR s l m).1 t = if termB s t && bndsB s (comR s l m).1 then (if (subL (ofN (comR s l m).1) t).length ≤ 60 then (subL (ofN (comR s l m).1) t, 0) else ([], 4)) else ([], 1) := rfl
      rw [e1]
      show appR s m (subL (ofN l) t) = _
      rw [e2, e3, com_app h (termB_T ht), hT, c2, ht, c5]
    · rw [if_pos (by rfl : (true && true) = true), if_neg h60] at e1
      rw [e1] at h2; simp at h2
set_option maxHeartbeats 4000000 in
set_option maxRecDepth 100000 in
theorem walk_UnifyComposes (vs vl vm vt : Value) (s : Sg) (l m : BL) (t : List Int) (w : World) (hs : SignAt w vs s) (hl : BindsAt w vl l) (hm : BindsAt w vm m) (ht : Ints w vt t) :
    Calls Try.prog 9 #[vs, .agg #[vl, vm, vt]] w fun e w' => e = .returned (.bool true) ∧ Below w.heap.size w w' := by
  obtain ⟨al, kl, he0, -⟩ := hl.open
  obtain ⟨am, km, he1, -⟩ := hm.open
  obtain ⟨aT, kt, he2, -⟩ := ht.open
  subst he0 he1 he2
  have hbx := Box3.new w (.slice al l.length kl) (.slice am m.length km) (.slice aT t.length kt) 46
  have hb1 : Below w.heap.size w (w.alloc (.cells #[.slice al l.length kl, .slice am m.length km, .slice aT t.length kt] 46)) := (Below.refl _ _).alloc (Nat.le_refl _) _
  have hT := litT1 (ht.below hb1) 25
  rw [World.size_alloc] at hT
  have hb12 : Below (w.alloc (.cells #[.slice al l.length kl, .slice am m.length km, .slice aT t.length kt] 46)).heap.size (w.alloc (.cells #[.slice al l.length kl, .slice am m.length km, .slice aT t.length kt] 46)) ((w.alloc (.cells #[.slice al l.length kl, .slice am m.length km, .slice aT t.length kt] 46)).alloc (.cells #[.slice aT t.length kt] 25)) := (Below.refl _ _).alloc (Nat.le_refl _) _
  have hb2 := hb1.trans (hb12.mono hb1.size)
  have HBX := hid (hbx.below hb12)
  have HSM := hid (law1_Small vs _ s _ _ (hs.below hb2) hT)
  have HFL := hid (fun (X : World) (hX : Below w.heap.size w X) => law2_few _ l X (hl.below hX))
  have HFM := hid (fun (X : World) (hX : Below w.heap.size w X) => law2_few _ m X (hm.below hX))
  have HB := hid hb2
  have HS := hid hs
  have HL := hid hl
  have HM := hid hm
  have HT := hid ht
  clear hT hb1 hb12 hb2 hs hl hm ht hbx
  go_enter Try.func9, Try.ntmps9
  go_wp2_with fail
  refine HSM.out.mono ?_
  rintro e w1 ⟨rfl, rfl⟩
  cases hsm : smallB s [t]
  · go_wp2_with fail
    refine (law2_awake _).mono ?_
    rintro e w2 ⟨rfl, hb3⟩
    have HB3 := hid (HB.out.trans (hb3.mono HB.out.size))
    clear hb3
    go_wp2
    go_ret
    exact ⟨rfl, HB3.out⟩
  · have hs40 : s.length ≤ 1000 := by simp [smallB] at hsm; omega
    clear hsm
    have HC := hid (fun (X : World) (hX : Below w.heap.size w X) => unify_Compose vs _ _ s l m X (HS.out.below hX) (HL.out.below hX) (HM.out.below hX) hs40)
    have HRC := hid (fun (X : World) (hX : Below w.heap.size w X) => ref2_Compose vs _ _ s l m X (HS.out.below hX) (HL.out.below hX) (HM.out.below hX) hs40)
    have HAP := hid (fun (X : World) (hX : Below w.heap.size w X) (u v : Value) (p : BL) (q : List Int) (hu : BindsAt X u p) (hv : Ints X v q) => unify_Apply vs u v s p q X (HS.out.below hX) hu hv hs40)
    have HW := hid (fun (X : World) (hX : Below w.heap.size w X) => chainL hX (law2_awake X))
    clear HSM
    generalize (w.alloc (.cells #[.slice al l.length kl, .slice am m.length km, .slice aT t.length kt] 46)).alloc (.cells #[.slice aT t.length kt] 25) = W at *
    obtain ⟨c0, c1, c2⟩ := HBX.out
    go_wp2_with fail
    refine (HFL.out _ HB.out).mono ?_
    rintro e w1 ⟨rfl, rfl⟩
    cases hfl : fewB l
    · clear c0 c1 c2
      go_wp2_with fail
      refine (HW.out _ HB.out).mono ?_
      rintro e w2 ⟨rfl, hb3⟩
      have HB3 := hid hb3
      clear hb3
      go_wp2
      go_ret
      exact ⟨rfl, HB3.out⟩
    · clear hfl
      go_wp2_with fail
      refine (HFM.out _ HB.out).mono ?_
      rintro e w1 ⟨rfl, rfl⟩
      cases hfm : fewB m
      · clear c0 c1 c2
        go_wp2_with fail
        refine (HW.out _ HB.out).mono ?_
        rintro e w2 ⟨rfl, hb3⟩
        have HB3 := hid hb3
        clear hb3
        go_wp2
        go_ret
        exact ⟨rfl, HB3.out⟩
      · clear hfm
        have HCA := hid (fun (h : (comR s l m).2 = 0) (h2 : (appR s l t).2 = 0) => com_apps h h2)
        obtain ⟨x, hx⟩ : ∃ x, comR s l m = x := ⟨_, rfl⟩
        obtain ⟨x1, x2⟩ := x
        simp only [hx] at HC HRC HCA
        have n1 : (x2 != x2) = false := by simp
        clear hx
        go_wp2_with fail
        refine (HC.out _ HB.out).mono ?_
        rintro e w3 ⟨u3, rfl, hu3, hb3⟩
        obtain ⟨a3, k3, rfl, -⟩ := hu3.open
        have HB3 := hid (HB.out.trans (hb3.mono HB.out.size))
        have HBX3 := hid (HBX.out.below hb3)
        have HU3 := hid hu3
        clear hb3 hu3 c0 c1 c2
        obtain ⟨c0, c1, c2⟩ := HBX3.out
        go_wp2_with fail
        refine (HRC.out _ HB3.out).mono ?_
        rintro e w4 ⟨u4, rfl, hu4, hb4⟩
        obtain ⟨a4, k4, rfl, -⟩ := hu4.open
        have HB4 := hid (HB3.out.trans (hb4.mono HB3.out.size))
        have HBX4 := hid (HBX3.out.below hb4)
        have HU4 := hid (HU3.out.below hb4)
        have HV4 := hid hu4
        clear hb4 hu4 c0 c1 c2 HC HRC HU3
        go_wp2_with fail
        refine (ref2_SameBinds _ _ _ _ _ HU4.out HV4.out).mono ?_
        rintro e w5 ⟨rfl, nq, rfl⟩
        rw [show decide (x1 = x1) = true from by simp]
        have hd5 := below_self_drewN w4 nq
        have HB5 := hid (HB4.out.trans (hd5.mono HB4.out.size))
        have HBX5 := hid (HBX4.out.below hd5)
        have HU5 := hid (HU4.out.below hd5)
        generalize w4.drewN nq = w5 at *
        clear hd5 HU4 HV4
        by_cases h0 : x2 = 0
        · subst h0
          obtain ⟨c0, c1, c2⟩ := HBX5.out
          have hca := HCA.out rfl
          obtain ⟨y, hy⟩ : ∃ y, appR s l t = y := ⟨_, rfl⟩
          obtain ⟨y1, y2⟩ := y
          have HA1 := hid (fun (X : World) (hX : Below w.heap.size w X) => HAP.out X hX _ _ l t (HL.out.below hX) (HT.out.below hX))
          simp only [hy] at HA1 hca
          have HCA2 := hid hca
          clear hy hca HCA
          go_wp2_with fail
          refine (HA1.out _ HB5.out).mono ?_
          rintro e w6 ⟨u6, rfl, hu6, hb6⟩
          have HB6 := hid (HB5.out.trans (hb6.mono HB5.out.size))
          have HBX6 := hid (HBX5.out.below hb6)
          have HU6 := hid (HU5.out.below hb6)
          have HT6 := hid hu6
          clear hb6 hu6 c0 c1 c2 HA1 HU5
          by_cases h00 : y2 = 0
          · subst h00
            have hc := HCA2.out rfl
            have HA2 := hid (fun (X : World) (hX : Below w.heap.size w X) (v : Value) (hv : Ints X v y1) => HAP.out X hX _ v m y1 (HM.out.below hX) hv)
            have HA3 := hid (fun (X : World) (hX : Below w.heap.size w X) (u : Value) (hu : BindsAt X u x1) => HAP.out X hX u _ x1 t hu (HT.out.below hX))
            rw [hc] at HA2
            obtain ⟨z, hz⟩ : ∃ z, appR s x1 t = z := ⟨_, rfl⟩
            obtain ⟨z1, z2⟩ := z
            simp only [hz] at HA2 HA3
            have m1 : (z2 == z2) = true := by simp
            clear hc hz HCA2
            obtain ⟨c0, c1, c2⟩ := HBX6.out
            go_wp2_with fail
            refine (HA2.out _ HB6.out _ HT6.out).mono ?_
            rintro e w7 ⟨u7, rfl, hu7, hb7⟩
            have HB7 := hid (HB6.out.trans (hb7.mono HB6.out.size))
            have HBX7 := hid (HBX6.out.below hb7)
            have HU7 := hid (HU6.out.below hb7)
            have HV7 := hid hu7
            clear hb7 hu7 c0 c1 c2 HA2 HU6
            obtain ⟨c0, c1, c2⟩ := HBX7.out
            go_wp2_with fail
            refine (HA3.out _ HB7.out _ HU7.out).mono ?_
            rintro e w8 ⟨u8, rfl, hu8, hb8⟩
            have HB8 := hid (HB7.out.trans (hb8.mono HB7.out.size))
            have HV8 := hid (HV7.out.below hb8)
            have HW8 := hid hu8
            clear hb8 hu8 c0 c1 c2 HA3 HU7 HV7
            go_wp2_with fail
            refine (ref1_Same _ _ z1 z1 _ HV8.out HW8.out).mono ?_
            rintro e w9 ⟨rfl, nq9, rfl⟩
            rw [show decide (z1 = z1) = true from by simp]
            have HB9 := hid (below_drewN HB8.out nq9)
            generalize w8.drewN nq9 = w9 at *
            go_wp2_with fail
            refine (HW.out _ HB9.out).mono ?_
            rintro e w10 ⟨rfl, hb10⟩
            have HB10 := hid hb10
            clear hb10
            go_wp2
            go_ret
            exact ⟨rfl, HB10.out⟩
          · go_wp2_with fail
            refine (HW.out _ HB6.out).mono ?_
            rintro e w10 ⟨rfl, hb10⟩
            have HB10 := hid hb10
            clear hb10
            go_wp2
            go_ret
            exact ⟨rfl, HB10.out⟩
        · go_wp2_with fail
          refine (HW.out _ HB5.out).mono ?_
          rintro e w10 ⟨rfl, hb10⟩
          have HB10 := hid hb10
          clear hb10
          go_wp2
          go_ret
          exact ⟨rfl, HB10.out⟩
end Go.Proofs.Ytidigpfiagjeiaa
namespace Go.Proofs.Ytidigpfiagjeiaa
open Go Go.RowKit Go.Maps
set_option maxHeartbeats 4000000 in
set_option maxRecDepth 100000 in
theorem walk_UnifyBinds (vs v0 : Value) (s : Sg) (l : BL) (w : World) (hs : SignAt w vs s) (h0 : BindsAt w v0 l) :
    Calls Try.prog 10 #[vs, v0] w fun e w' => e = .returned (.bool true) ∧ Below w.heap.size w w' := by
  have HSM := hid (law1_Small vs _ s [] _ hs (terms_nil w))
  have HF0 := hid (law2_few _ l w h0)
  have HW := hid (fun (X : World) (hX : Below w.heap.size w X) => chainL hX (law2_awake X))
  obtain ⟨a0, k0, he0, -⟩ := h0.open
  subst he0
  have HS := hid hs
  have H0 := hid h0
  clear hs h0
  go_enter Try.func10, Try.ntmps10
  go_wp2_with fail
  refine HSM.out.mono ?_
  rintro e w1 ⟨rfl, rfl⟩
  cases hsm : smallB s []
  · go_wp2_with fail
    refine (HW.out _ (Below.refl _ _)).mono ?_
    rintro e wz ⟨rfl, hbz⟩
    have HBz := hid hbz
    clear hbz
    go_wp2
    go_ret
    exact ⟨rfl, HBz.out⟩
  · have hs40 : s.length ≤ 1000 := by simp [smallB] at hsm; omega
    clear hsm HSM
    go_wp2_with fail
    refine HF0.out.mono ?_
    rintro e w1 ⟨rfl, rfl⟩
    cases hf : fewB l
    · go_wp2_with fail
      refine (HW.out _ (Below.refl _ _)).mono ?_
      rintro e wz ⟨rfl, hbz⟩
      have HBz := hid hbz
      clear hbz
      go_wp2
      go_ret
      exact ⟨rfl, HBz.out⟩
    · clear hf HF0
      have HA1 := hid (fun (X : World) (hX : Below w.heap.size w X) => chainL hX (unify_ValidBinds vs _ s l X (HS.out.below hX) (H0.out.below hX) hs40))
      have HA2 := hid (fun (X : World) (hX : Below w.heap.size w X) => chainL hX (ref2_ValidBinds vs _ s l X (HS.out.below hX) (H0.out.below hX)))
      have HB1 := hid (fun (X : World) (hX : Below w.heap.size w X) => chainL hX (unify_Solved vs _ s l X (HS.out.below hX) (H0.out.below hX) hs40))
      have HB2 := hid (fun (X : World) (hX : Below w.heap.size w X) => chainL hX (ref2_Solved vs _ s l X (HS.out.below hX) (H0.out.below hX)))
      have HC1 := hid (fun (X : World) (hX : Below w.heap.size w X) => chainL hX (unify_Renaming vs _ s l X (HS.out.below hX) (H0.out.below hX) hs40))
      have HC2 := hid (fun (X : World) (hX : Below w.heap.size w X) => chainL hX (ref2_Renaming vs _ s l X (HS.out.below hX) (H0.out.below hX) hs40))
      have q1 : (bndsB s l == bndsB s l) = true := by simp
      have q2 : (solB s l == solB s l) = true := by simp
      have q3 : (renB s l == renB s l) = true := by simp
      generalize bndsB s l = b1 at *
      generalize solB s l = b2 at *
      generalize renB s l = b3 at *
      go_wp2_with fail
      refine (HA1.out _ (Below.refl _ _)).mono ?_
      rintro e w1 ⟨rfl, hb1⟩
      have HX1 := hid hb1
      clear hb1
      go_wp2_with fail
      refine (HA2.out _ HX1.out).mono ?_
      rintro e w2 ⟨rfl, hb2⟩
      have HX2 := hid hb2
      clear hb2
      go_wp2_with fail
      refine (HB1.out _ HX2.out).mono ?_
      rintro e w3 ⟨rfl, hb3⟩
      have HX3 := hid hb3
      clear hb3
      go_wp2_with fail
      refine (HB2.out _ HX3.out).mono ?_
      rintro e w4 ⟨rfl, hb4⟩
      have HX4 := hid hb4
      clear hb4
      go_wp2_with fail
      refine (HC1.out _ HX4.out).mono ?_
      rintro e w5 ⟨rfl, hb5⟩
      have HX5 := hid hb5
      clear hb5
      go_wp2_with fail
      refine (HC2.out _ HX5.out).mono ?_
      rintro e w6 ⟨rfl, hb6⟩
      have HX6 := hid hb6
      clear hb6
      go_wp2_with fail
      refine (HW.out _ HX6.out).mono ?_
      rintro e wz ⟨rfl, hbz⟩
      have HBz := hid hbz
      clear hbz
      go_wp2
      go_ret
      exact ⟨rfl, HBz.out⟩
end Go.Proofs.Ytidigpfiagjeiaa
