/-
  WHAT IT HOLDS: the walk of the law FindParts.
-/
import Derived.Test.YtiacbdipagbblaaZRFindParts45
import Derived.Test.YtiacbdipagbblaaZRFindParts46
namespace Go.Proofs.Ytiacbdipagbblaa
open Go Go.RowKit Go.Maps
theorem whr_head {s : Sg} {t q : List Int} (h : IsT s 12 t) {p : List Int} {r : List (List Int)} (e : whrL s t q = p :: r) : decide (p.length = 0) = instB s q t := by
  rw [Bool.eq_iff_iff, decide_eq_true_eq]
  constructor
  · intro h0
    have : p = [] := List.length_eq_zero_iff.1 h0
    subst this
    exact (whr_first h).1 ⟨r, e⟩
  · intro hi
    obtain ⟨r', hr⟩ := (whr_first h).2 hi
    rw [e] at hr
    cases hr; rfl
theorem whr_none {s : Sg} {t q : List Int} (h : IsT s 12 t) (e : whrL s t q = []) : instB s q t = false := by
  cases hi : instB s q t
  · rfl
  · obtain ⟨r, hr⟩ := (whr_first h).2 hi
    rw [e] at hr; cases hr
set_option maxHeartbeats 8000000 in
set_option maxRecDepth 100000 in
theorem walk_FindParts (vs vl vq : Value) (s : Sg) (l : List (List Int)) (q : List Int) (w : World) (hs : SignAt w vs s) (hl : Terms w vl l) (hq : Ints w vq q) :
    Calls Try.prog 5 #[vs, vl, vq] w fun e w' => e = .returned (.bool true) ∧ Below w.heap.size w w' := by
  have HL := hid hl
  obtain ⟨la, lc, hle, hl1, hl2, -⟩ := hl.open
  subst hle
  obtain ⟨qa, qcap, hqe, _⟩ := hq.open
  subst hqe
  have hb1 : Below w.heap.size w (w.alloc (.cells #[.slice qa q.length qcap] 37)) := (Below.refl _ _).alloc (Nat.le_refl _) _
  have HSM := hid (law1_Small vs _ s _ _ (hs.below hb1) (terms_lit1 hq 37))
  cases hf : (decide ((l.length : Int) ≤ 30) && smallB s l)
  · have HFF := hid (law5_Few vs _ s l 30 w hs hl)
    rw [hf] at HFF
    clear hf HSM hb1
    go_enter Try.func5, Try.ntmps5
    go_wp2_with fail
    refine HFF.out.mono ?_
    rintro e w1 ⟨rfl, rfl⟩
    go_wp2_with fail
    refine (law5_awake _).mono ?_
    rintro e w1 ⟨rfl, hb⟩
    go_wp2
    go_ret
    exact ⟨rfl, hb⟩
  · have hsm : s.length ≤ 40 ∧ l.length ≤ 30 := by
      simp only [Bool.and_eq_true, decide_eq_true_eq, smallB] at hf
      omega
    have HFF := hid (law5_Few vs _ s l 30 w hs hl)
    rw [hf] at HFF
    clear hf
    cases hg : smallB s [q]
    · rw [hg] at HSM
      have HB1 := hid hb1
      clear hg hb1
      go_enter Try.func5, Try.ntmps5
      go_wp2_with fail
      refine HFF.out.mono ?_
      rintro e w1 ⟨rfl, rfl⟩
      go_wp2_with fail
      refine HSM.out.mono ?_
      rintro e w1 ⟨rfl, rfl⟩
      go_wp2_with fail
      refine (law5_awake _).mono ?_
      rintro e w1 ⟨rfl, hb⟩
      have HB := hid (HB1.out.trans (hb.mono (by simp)))
      clear hb
      go_wp2
      go_ret
      exact ⟨rfl, HB.out⟩
    · rw [hg] at HSM
      have HB1 := hid hb1
      obtain ⟨W, hW⟩ : ∃ W, w.alloc (.cells #[.slice qa q.length qcap] 37) = W := ⟨_, rfl⟩
      rw [hW] at HSM HB1
      have hsz := HB1.out.size
      have HC1 := hid (fun (X : World) (hX : Below w.heap.size w X) => find_Having vs _ _ s l q X (hs.below hX) (hl.below hX) (hq.below hX) (by omega) (by omega))
      have HR1 := hid (fun (X : World) (hX : Below w.heap.size w X) => ref5_Having vs _ _ s l q X (hs.below hX) (hl.below hX) (hq.below hX) (by omega) (by omega))
      have HC2 := hid (fun (X : World) (hX : Below w.heap.size w X) => find_Instances vs _ _ s l q (fun t => instB s q t) (fun _ => rfl) X (hs.below hX) (hl.below hX) (hq.below hX) (by omega) (by omega))
      have HCW := hid (fun (X : World) (hX : Below w.heap.size w X) (i : Nat) (u : Value) (hi : i < l.length) (hu : Ints X u l[i]) => find_Where vs u _ s l[i] q X (hs.below hX) hu (hq.below hX) (by omega))
      have HRW := hid (fun (X : World) (hX : Below w.heap.size w X) (i : Nat) (u : Value) (hi : i < l.length) (hu : Ints X u l[i]) => ref5_Where vs u _ s l[i] q X (hs.below hX) hu (hq.below hX) (by omega))
      have lens : ∀ g : List Int → Bool, (searchB s l q (l.map g)).1.length ≤ 70 := fun g => by
        unfold searchB
        split
        · have := chosenL_le (l.map g) 0; simp at this ⊢; omega
        · simp
      have hln1 := lens (hasB s q)
      have hln2 := lens (fun t => instB s q t)
      cases hv : (shelfB s l && termB s q)
      · have he1 : searchB s l q (l.map (hasB s q)) = ([], 1) := by unfold searchB; rw [hv]; rfl
        have he2 : searchB s l q (l.map (fun t => instB s q t)) = ([], 1) := by unfold searchB; rw [hv]; rfl
        rw [he1] at HC1 HR1 hln1
        rw [he2] at HC2 hln2
        clear hg hb1 hs hl hq lens he1 he2 hv
        go_enter Try.func5, Try.ntmps5
        go_wp2_with fail
        refine HFF.out.mono ?_
        rintro e w1 ⟨rfl, rfl⟩
        go_wp2_with fail
        try rw [hW]
        refine HSM.out.mono ?_
        rintro e w1 ⟨rfl, rfl⟩
        clear hW HFF HSM
        have HB0 := HB1
        go_wp2_with fail
        refine (HC1.out _ HB0.out).mono ?_
        rintro e wa1 ⟨u1, rfl, o, b⟩
        have Ba1 := hid (HB0.out.trans (b.mono HB0.out.size))
        have I1 := hid (Ints.of_owns o (by first | omega | (simp; omega) | simp))
        clear b o
        go_wp2_with fail
        refine (HR1.out _ Ba1.out).mono ?_
        rintro e wb1 ⟨v1, rfl, o, b⟩
        have Bb1 := hid (Ba1.out.trans (b.mono Ba1.out.size))
        have I1 := hid (I1.out.below b)
        have J1 := hid (Ints.of_owns o (by first | omega | (simp; omega) | simp))
        clear b o
        try simp only at I1 J1
        have n1 : ((1 : Int) != 1) = false := by decide
        have HSI := hid (ref1_SameInts _ _ _ _ _ I1.out J1.out)
        go_wp2_with fail
        refine HSI.out.mono ?_
        rintro e wc1 ⟨rfl, nq, hwc⟩
        have Bc1 := hid (show Below w.heap.size w wc1 from Bb1.out.trans (hwc ▸ (below_self_drewN _ _).mono Bb1.out.size))
        have I2 := hid (I1.out.below (show Below wb1.heap.size wb1 wc1 from hwc ▸ below_self_drewN _ _))
        have hd1 : (decide (([] : List Int) = ([] : List Int))) = true := by simp
        clear hwc HSI J1 I1
        go_wp2_with fail
        refine (HC2.out _ Bc1.out).mono ?_
        rintro e wd1 ⟨u2, rfl, o, b⟩
        have Bd1 := hid (Bc1.out.trans (b.mono Bc1.out.size))
        have I3 := hid (I2.out.below b)
        have K3 := hid (Ints.of_owns o (by first | omega | (simp; omega) | simp))
        clear b o
        try simp only at I3 K3
        go_wp2
        go_loopw [13] (fun nv wr => ∃ (n : Nat), n ≤ l.length ∧ nv = .int .i64 n ∧ Below w.heap.size w wr ∧ Ints wr u1 ([] : List Int) ∧ Ints wr u2 ([] : List Int)) (fun nv _ => l.length - (intOf nv).toNat)
        case atStart => exact ⟨0, by omega, rfl, Bd1.out, I3.out, K3.out⟩
        case round =>
          obtain ⟨n, hn, rfl, hb, hi1, hi2⟩ := hrel
          have HB := hid hb
          have HI1 := hid hi1
          have HI2 := hid hi2
          clear hb hi1 hi2
          by_cases hlt : n < l.length
          · obtain ⟨a9, c9, he9, -, -, -, HC⟩ := (HL.out.below HB.out).open
            obtain ⟨rfl, -, rfl⟩ := Value.slice.inj he9
            obtain ⟨bb, bo, x, rfl, hcx, hix⟩ := HC n hlt
            obtain ⟨xa, xc, rfl, -⟩ := hix.open
            have HX := hid hix
            have y0 : (0 : Int) ≤ (n : Int) := by omega
            have y1 : (n : Int) < (l.length : Int) := by omega
            clear HC hix he9
            go_wp2_with fail
            refine (HCW.out _ HB.out n _ hlt HX.out).mono ?_
            rintro e wa ⟨up, rfl, hup, hba⟩
            have HBa := hid (HB.out.trans (hba.mono HB.out.size))
            have hcxa := (hba.cell (World.block_lt_of_cell? _ _ hcx)).trans hcx
            have HXa := hid (HX.out.below hba)
            have HP := hid hup
            have HI1a := hid (HI1.out.below hba)
            have HI2a := hid (HI2.out.below hba)
            clear hup hba hcx
            go_wp2_with fail
            refine (HRW.out _ HBa.out n _ hlt HXa.out).mono ?_
            rintro e wb ⟨uw, rfl, huw, hbb⟩
            have HBb := hid (HBa.out.trans (hbb.mono HBa.out.size))
            have HP2 := hid (HP.out.below hbb)
            have HQ2 := hid huw
            have HI1b := hid (HI1a.out.below hbb)
            have HI2b := hid (HI2a.out.below hbb)
            clear huw hbb
            obtain ⟨z, hz⟩ : ∃ z, whereR s l[n] q = z := ⟨_, rfl⟩
            rw [hz] at HP2 HQ2 ⊢
            obtain ⟨z1, z2⟩ := z
            dsimp only at HP2 HQ2 ⊢
            have n2 : (z2 != z2) = false := by simp
            have HSP := hid (ref1_SamePaths _ _ _ _ _ HP2.out HQ2.out)
            have hd2 : (decide (z1 = z1)) = true := by simp
            obtain ⟨pa, pc, hpe, -⟩ := HP2.out.open
            subst hpe
            clear hz
            go_wp2_with fail
            refine HSP.out.mono ?_
            rintro e wc ⟨rfl, nc, hwc⟩
            have HBc := hid (show Below w.heap.size w wc from HBb.out.trans (hwc ▸ (below_self_drewN _ _).mono HBb.out.size))
            have HI1c := hid (HI1b.out.below (show Below wb.heap.size wb wc from hwc ▸ below_self_drewN _ _))
            have HI2c := hid (HI2b.out.below (show Below wb.heap.size wb wc from hwc ▸ below_self_drewN _ _))
            have n3 : ((1 : Int) == 0) = false := by decide
            clear hwc HSP
            go_wp2
            go_quiet (fail)
            go_wp2
            go_roundw
            case rel => exact ⟨n + 1, by omega, by go_num, HBc.out.trans ((below_self_drewN _ _).mono HBc.out.size), HI1c.out.below (below_self_drewN _ _), HI2c.out.below (below_self_drewN _ _)⟩
            case measure => simp [intOf]; omega
          · have HB9 := HB.out
            go_wp2_with fail
            refine (law5_awake _).mono ?_
            rintro e w6 ⟨rfl, hb⟩
            have HB := hid (HB9.trans (hb.mono HB9.size))
            clear hb
            go_wp2
            go_ret
            exact ⟨rfl, HB.out⟩
      · have he1 : searchB s l q (l.map (hasB s q)) = (chosenL 0 (l.map (hasB s q)), 0) := by unfold searchB; rw [hv]; rfl
        have he2 : searchB s l q (l.map (fun t => instB s q t)) = (chosenL 0 (l.map (fun t => instB s q t)), 0) := by unfold searchB; rw [hv]; rfl
        rw [he1] at HC1 HR1 hln1
        rw [he2] at HC2 hln2
        have hvv := hv
        rw [Bool.and_eq_true] at hvv
        have HVL := hid (fun (i : Nat) (h : i < l.length) => shelf_at hvv.1 h)
        have HVQ := hid hvv.2
        have HDH := hid (fun (i : Nat) (h : i < l.length) => chosenL_dec (f := hasB s q) h)
        have HDI := hid (fun (i : Nat) (h : i < l.length) => chosenL_dec (f := fun t => instB s q t) h)
        obtain ⟨A, hA⟩ : ∃ A, chosenL 0 (l.map (hasB s q)) = A := ⟨_, rfl⟩
        obtain ⟨U, hU⟩ : ∃ U, chosenL 0 (l.map (fun t => instB s q t)) = U := ⟨_, rfl⟩
        rw [hA] at HC1 HR1 hln1 HDH
        rw [hU] at HC2 hln2 HDI
        dsimp only at hln1 hln2
        clear hg hb1 hs hl hq lens he1 he2 hv hvv hA hU
        go_enter Try.func5, Try.ntmps5
        go_wp2_with fail
        refine HFF.out.mono ?_
        rintro e w1 ⟨rfl, rfl⟩
        go_wp2_with fail
        try rw [hW]
        refine HSM.out.mono ?_
        rintro e w1 ⟨rfl, rfl⟩
        clear hW HFF HSM
        have HB0 := HB1
        go_wp2_with fail
        refine (HC1.out _ HB0.out).mono ?_
        rintro e wa1 ⟨u1, rfl, o, b⟩
        have Ba1 := hid (HB0.out.trans (b.mono HB0.out.size))
        have I1 := hid (Ints.of_owns o (by first | omega | (simp; omega) | simp))
        clear b o
        go_wp2_with fail
        refine (HR1.out _ Ba1.out).mono ?_
        rintro e wb1 ⟨v1, rfl, o, b⟩
        have Bb1 := hid (Ba1.out.trans (b.mono Ba1.out.size))
        have I1 := hid (I1.out.below b)
        have J1 := hid (Ints.of_owns o (by first | omega | (simp; omega) | simp))
        clear b o
        try simp only at I1 J1
        have n1 : ((0 : Int) != 0) = false := by decide
        have HSI := hid (ref1_SameInts _ _ _ _ _ I1.out J1.out)
        go_wp2_with fail
        refine HSI.out.mono ?_
        rintro e wc1 ⟨rfl, nq, hwc⟩
        have Bc1 := hid (show Below w.heap.size w wc1 from Bb1.out.trans (hwc ▸ (below_self_drewN _ _).mono Bb1.out.size))
        have I2 := hid (I1.out.below (show Below wb1.heap.size wb1 wc1 from hwc ▸ below_self_drewN _ _))
        have hd1 : (decide (A = A)) = true := by simp
        clear hwc HSI J1 I1
        go_wp2_with fail
        refine (HC2.out _ Bc1.out).mono ?_
        rintro e wd1 ⟨u2, rfl, o, b⟩
        have Bd1 := hid (Bc1.out.trans (b.mono Bc1.out.size))
        have I3 := hid (I2.out.below b)
        have K3 := hid (Ints.of_owns o (by first | omega | (simp; omega) | simp))
        clear b o
        try simp only at I3 K3
        go_wp2
        go_loopw [13] (fun nv wr => ∃ (n : Nat), n ≤ l.length ∧ nv = .int .i64 n ∧ Below w.heap.size w wr ∧ Ints wr u1 A ∧ Ints wr u2 U) (fun nv _ => l.length - (intOf nv).toNat)
        case atStart => exact ⟨0, by omega, rfl, Bd1.out, I3.out, K3.out⟩
        case round =>
          obtain ⟨n, hn, rfl, hb, hi1, hi2⟩ := hrel
          have HB := hid hb
          have HI1 := hid hi1
          have HI2 := hid hi2
          clear hb hi1 hi2
          by_cases hlt : n < l.length
          · obtain ⟨a9, c9, he9, -, -, -, HC⟩ := (HL.out.below HB.out).open
            obtain ⟨rfl, -, rfl⟩ := Value.slice.inj he9
            obtain ⟨bb, bo, x, rfl, hcx, hix⟩ := HC n hlt
            obtain ⟨xa, xc, rfl, -⟩ := hix.open
            have HX := hid hix
            have y0 : (0 : Int) ≤ (n : Int) := by omega
            have y1 : (n : Int) < (l.length : Int) := by omega
            clear HC hix he9
            go_wp2_with fail
            refine (HCW.out _ HB.out n _ hlt HX.out).mono ?_
            rintro e wa ⟨up, rfl, hup, hba⟩
            have HBa := hid (HB.out.trans (hba.mono HB.out.size))
            have hcxa := (hba.cell (World.block_lt_of_cell? _ _ hcx)).trans hcx
            have HXa := hid (HX.out.below hba)
            have HP := hid hup
            have HI1a := hid (HI1.out.below hba)
            have HI2a := hid (HI2.out.below hba)
            clear hup hba hcx
            go_wp2_with fail
            refine (HRW.out _ HBa.out n _ hlt HXa.out).mono ?_
            rintro e wb ⟨uw, rfl, huw, hbb⟩
            have HBb := hid (HBa.out.trans (hbb.mono HBa.out.size))
            have HP2 := hid (HP.out.below hbb)
            have HQ2 := hid huw
            have HI1b := hid (HI1a.out.below hbb)
            have HI2b := hid (HI2a.out.below hbb)
            clear huw hbb
            have hwr : whereR s l[n] q = (whrL s l[n] q, 0) := whereR_0 (HVL.out n hlt) HVQ.out
            rw [hwr] at HP2 HQ2 ⊢
            dsimp only at HP2 HQ2 ⊢
            have HDHn := HDH.out n hlt
            have HDIn := HDI.out n hlt
            have HIT := hid (termB_T (HVL.out n hlt))
            obtain ⟨z1, hz1⟩ : ∃ z, whrL s l[n] q = z := ⟨_, rfl⟩
            unfold hasB at HDHn
            rw [hz1] at HP2 HQ2 HDHn
            have HZ1 := hid hz1
            have n2 : ((0 : Int) != 0) = false := by decide
            have HSP := hid (ref1_SamePaths _ _ _ _ _ HP2.out HQ2.out)
            have hd2 : (decide (z1 = z1)) = true := by simp
            obtain ⟨pa, pc, hpe, -⟩ := HP2.out.open
            subst hpe
            have HDHN := hid HDHn
            have HDIN := hid HDIn
            clear hz1 hwr HDHn HDIn
            go_wp2_with fail
            refine HSP.out.mono ?_
            rintro e wc ⟨rfl, nc, hwc⟩
            have hbc : Below wb.heap.size wb wc := hwc ▸ below_self_drewN _ _
            have HBc := hid (HBb.out.trans (hbc.mono HBb.out.size))
            have HI1c := hid (HI1b.out.below hbc)
            have HI2c := hid (HI2b.out.below hbc)
            have HPc := hid (HP2.out.below hbc)
            have n3 : ((0 : Int) == 0) = true := by decide
            clear hwc HSP hbc
            have hwc : Below wc.heap.size wc wc := Below.refl _ _
            cases z1 with
            | nil =>
              have hh1 : decide ((n : Int) ∈ A) = false := by rw [HDHN.out]; rfl
              have hh2 : decide ((n : Int) ∈ U) = false := by rw [HDIN.out]; exact whr_none HIT.out HZ1.out
              have HH1 := fun j => hid (show Calls Try.prog 19 #[u1, .int .i64 n] (wc.drewN j) fun e w' => e = .returned (.bool false) ∧ w' = wc.drewN j from by rw [← hh1]; exact (ref1_Has u1 A n (wc.drewN j) (HI1c.out.drewN j)).mono (fun _ _ h => ⟨h.1, h.2.symm⟩))
              have HH2 := fun j => hid (show Calls Try.prog 19 #[u2, .int .i64 n] (wc.drewN j) fun e w' => e = .returned (.bool false) ∧ w' = wc.drewN j from by rw [← hh2]; exact (ref1_Has u2 U n (wc.drewN j) (HI2c.out.drewN j)).mono (fun _ _ h => ⟨h.1, h.2.symm⟩))
              clear hh1 hh2
              go_wp2
              go_quiet ((first | (go_at_call 19; with_reducible exact Calls.quiet_of_same (HH1 _).out) | (go_at_call 19; with_reducible exact Calls.quiet_of_same (HH2 _).out)))
              go_wp2
              go_roundw
              case rel => exact ⟨n + 1, by omega, by go_num, HBc.out.trans ((below_self_drewN _ _).mono HBc.out.size), HI1c.out.below (below_self_drewN _ _), HI2c.out.below (below_self_drewN _ _)⟩
              case measure => simp [intOf]; omega
            | cons p0 r =>
              obtain ⟨a8, c8, he8, -, -, -, HC⟩ := HPc.out.open
              obtain ⟨rfl, -, rfl⟩ := Value.slice.inj he8
              obtain ⟨pb, po, x0, rfl, hc0, hi0⟩ := HC 0 (by simp)
              simp only [Nat.add_zero, List.getElem_cons_zero] at hc0 hi0
              obtain ⟨x0a, x0c, rfl, -⟩ := hi0.open
              have hh1 : decide ((n : Int) ∈ A) = true := by rw [HDHN.out]; simp
              have hh2 : decide ((n : Int) ∈ U) = ((p0.length : Int) == 0) := by
                rw [HDIN.out, ← whr_head HIT.out HZ1.out, Bool.eq_iff_iff]
                simp
              have HH1 := fun j => hid (show Calls Try.prog 19 #[u1, .int .i64 n] (wc.drewN j) fun e w' => e = .returned (.bool true) ∧ w' = wc.drewN j from by rw [← hh1]; exact (ref1_Has u1 A n (wc.drewN j) (HI1c.out.drewN j)).mono (fun _ _ h => ⟨h.1, h.2.symm⟩))
              have HH2 := fun j => hid (show Calls Try.prog 19 #[u2, .int .i64 n] (wc.drewN j) fun e w' => e = .returned (.bool ((p0.length : Int) == 0)) ∧ w' = wc.drewN j from by rw [← hh2]; exact (ref1_Has u2 U n (wc.drewN j) (HI2c.out.drewN j)).mono (fun _ _ h => ⟨h.1, h.2.symm⟩))
              have hl0 : (p0 :: r).length = r.length + 1 := rfl
              rw [hl0]
              have y5 : (0 : Int) < ((r.length + 1 : Nat) : Int) := by omega
              have y6 : decide (0 < r.length + 1) = true := by simp
              clear hh1 hh2 HC hi0 he8 hl0
              cases hb0 : ((p0.length : Int) == 0)
              all_goals
                simp only [hb0] at HH2
                go_wp2
                go_quiet ((first | (go_at_call 19; with_reducible exact Calls.quiet_of_same (HH1 _).out) | (go_at_call 19; with_reducible exact Calls.quiet_of_same (HH2 _).out)))
                go_wp2
                go_roundw
                case rel => exact ⟨n + 1, by omega, by go_num, HBc.out.trans ((below_self_drewN _ _).mono HBc.out.size), HI1c.out.below (below_self_drewN _ _), HI2c.out.below (below_self_drewN _ _)⟩
                case measure => simp [intOf]; omega
          · have HB9 := HB.out
            go_wp2_with fail
            refine (law5_awake _).mono ?_
            rintro e w6 ⟨rfl, hb⟩
            have HB := hid (HB9.trans (hb.mono HB9.size))
            clear hb
            go_wp2
            go_ret
            exact ⟨rfl, HB.out⟩
end Go.Proofs.Ytiacbdipagbblaa
