/-
  WHAT IT HOLDS: the walk of the law UnifyLists.
-/
import Derived.Deep.RegionLaw
import Derived.Test.YtidigpfiagjeiaaZRUnifyLists45
import Derived.Test.YtidigpfiagjeiaaZRUnifyLists46
import Derived.Test.YtidigpfiagjeiaaZRUnifyLists5
import Derived.Test.YtidigpfiagjeiaaZRUnifyLists47
namespace Go.Proofs.Ytidigpfiagjeiaa
open Go Go.RowKit Go.Maps
set_option maxHeartbeats 4000000 in
set_option maxRecDepth 100000 in
theorem walk_UnifyLists (vs vl : Value) (s : Sg) (l : List (List Int)) (at_ : Int) (w : World) (hs : SignAt w vs s) (hl : Terms w vl l) :
    Calls Try.prog 7 #[vs, vl, .int .i64 at_] w fun e w' => e = .returned (.bool true) ∧ Below w.heap.size w w' := by
  have HSM := hid (law1_Small vs vl s l w hs hl)
  have HS := hid hs
  have HL := hid hl
  obtain ⟨vvs, hTV⟩ := hl
  obtain ⟨la, cap, hle, hlc, hl2, hnone, -⟩ := HL.out.open
  have HTV := hid hTV
  have HW := hid (fun (X : World) (hX : Below w.heap.size w X) => chainL hX (law2_awake X))
  clear hs hTV
  have hws := Below.refl w.heap.size w
  have HB := hid hws
  clear hws
  subst hle
  cases hsm : smallB s l
  · rw [hsm] at HSM
    clear hsm
    go_enter Try.func7, Try.ntmps7
    go_wp2_with fail
    refine HSM.out.mono ?_
    rintro e w1 ⟨rfl, rfl⟩
    go_wp2_with fail
    refine (HW.out _ HB.out).mono ?_
    rintro e w2 ⟨rfl, hb3⟩
    go_wp2
    go_ret
    exact ⟨rfl, hb3⟩
  · have hs40 : s.length ≤ 1000 := by simp [smallB] at hsm; omega
    rw [hsm] at HSM
    clear hsm
    by_cases h70 : 70 < l.length
    · go_enter Try.func7, Try.ntmps7
      go_wp2_with fail
      refine HSM.out.mono ?_
      rintro e w1 ⟨rfl, rfl⟩
      go_wp2_with fail
      refine (HW.out _ HB.out).mono ?_
      rintro e w2 ⟨rfl, hb3⟩
      go_wp2
      go_ret
      exact ⟨rfl, hb3⟩
    · have h70' : l.length ≤ 70 := by omega
      clear h70
      have HM := hid (fun (X : World) (hX : Below w.heap.size w X) => unify_MeetAll vs _ s l X (HS.out.below hX) (HL.out.below hX) hs40)
      have HRM := hid (fun (X : World) (hX : Below w.heap.size w X) => ref2_MeetAll vs _ s l X (HS.out.below hX) (HL.out.below hX))
      have HJ := hid (fun (X : World) (hX : Below w.heap.size w X) (u : Value) (m : List (List Int)) (hu : Terms X u m) => unify_JoinAll vs u s m X (HS.out.below hX) hu hs40)
      have HRJ := hid (fun (X : World) (hX : Below w.heap.size w X) => ref2_JoinAll vs _ s l X (HS.out.below hX) (HL.out.below hX))
      have HAL := hid (fun (X : World) (hX : Below w.heap.size w X) (u v : Value) (p q : List Int) (hu : Ints X u p) (hv : Ints X v q) => term_Alike vs u v s p q X (HS.out.below hX) hu hv hs40)
      go_enter Try.func7, Try.ntmps7
      go_wp2_with fail
      refine HSM.out.mono ?_
      rintro e w1 ⟨rfl, rfl⟩
      go_wp2_with fail
      refine (HM.out _ HB.out).mono ?_
      rintro e w1 ⟨x, u1, hx, rfl, hu1, hb1⟩
      have HB1 := hid (HB.out.trans (hb1.mono HB.out.size))
      have HU1 := hid hu1
      have HX := hid hx
      clear hb1 hu1 hx
      go_wp2_with fail
      refine (HRM.out _ HB1.out).mono ?_
      rintro e w2 ⟨y, u2, hy, rfl, hu2, hb2⟩
      obtain rfl : x = y := HX.out.unique (fun a t x y h k => h.unique k) hy
      have HB2 := hid (HB1.out.trans (hb2.mono HB1.out.size))
      have HU2 := hid hu2
      have HV2 := hid (HU1.out.below hb2)
      obtain ⟨x1, x2⟩ := x
      have n1 : (x2 != x2) = false := by simp
      clear hb2 hu2 hy HU1 HX
      go_wp2_with fail
      refine (chainD (Below.refl _ _) (ref1_Same u1 u2 x1 x1 _ HV2.out HU2.out)).mono ?_
      rintro e w3 ⟨rfl, hb3⟩
      rw [show decide (x1 = x1) = true from by simp]
      have HB3 := hid (HB2.out.trans (hb3.mono HB2.out.size))
      clear hb3 HU2 HV2
      go_wp2_with fail
      refine (HJ.out _ HB3.out _ l (HL.out.below HB3.out)).mono ?_
      rintro e w4 ⟨y, u4, hy, rfl, hu4, hb4⟩
      have HB4 := hid (HB3.out.trans (hb4.mono HB3.out.size))
      have HU4 := hid hu4
      have HY := hid hy
      clear hb4 hu4 hy n1
      go_wp2_with fail
      refine (HRJ.out _ HB4.out).mono ?_
      rintro e w5 ⟨z, u5, hz, rfl, hu5, hb5⟩
      obtain rfl : y = z := HY.out.unique (fun a t x y h k => h.unique k) hz
      have HB5 := hid (HB4.out.trans (hb5.mono HB4.out.size))
      have HU5 := hid hu5
      have HV5 := hid (HU4.out.below hb5)
      obtain ⟨y1, y2⟩ := y
      have n2 : (y2 != y2) = false := by simp
      clear hb5 hu5 hz HU4
      go_wp2_with fail
      refine (chainD (Below.refl _ _) (ref1_Same u4 u5 y1 y1 _ HV5.out HU5.out)).mono ?_
      rintro e w6 ⟨rfl, hb6⟩
      rw [show decide (y1 = y1) = true from by simp]
      have HB6 := hid (HB5.out.trans (hb6.mono HB5.out.size))
      have HV6 := hid (HV5.out.below hb6)
      clear hb6 HU5 HV5 n2
      by_cases h0 : y2 = 0
      · subst h0
        have hn : 0 < l.length := by
          rcases HY.out with ⟨h1, h2⟩ | ⟨h1, _⟩
          · exact absurd (congrArg Prod.snd h2).symm h1
          · exact (listE_zero.1 h1).2.2.1
        obtain ⟨r, k, hr1, hr2, hr3, hr4, hr5, hr6, hr7, hk⟩ := rot_num at_ hn
        obtain ⟨n, hnn⟩ : ∃ n, l.length = n := ⟨_, rfl⟩
        have HNN := hid hnn
        rw [hnn] at hlc hl2 h70' hn hr1 hr2 hr3 hr4 hr5 hr6 hr7 hk
        simp only [hnn]
        clear hnn
        have z1 : (n : Int) ≠ 0 := by omega
        have z2 : (n : Int) ≤ 70 := by omega
        obtain ⟨⟨b, o, spot⟩, rfl⟩ : ∃ ad, la = some ad := by
          cases la with
          | none => have := hnone rfl; omega
          | some ad => exact ⟨ad, rfl⟩
        have hV := HTV.out.1
        have hvl : vvs.length = n := by rw [HTV.out.2.1]; exact HNN.out
        have hspot : spot = none := by
          obtain ⟨a, c, e1, -, -, -, e2⟩ := hV.open
          obtain ⟨b', o', e3, -⟩ := e2 0 (by omega)
          simp only [Value.slice.injEq] at e1
          rw [← e1.1] at e3
          cases e3; rfl
        subst hspot
        have hR : RowK w (.slice (some ⟨b, o, none⟩) n cap) 1 n vvs := by
          have := hV
          unfold Vals at this
          rw [hvl, HNN.out] at this
          exact this
        have H1 := HTV.out.one
        have HR1 := hid (fun (X : World) (hX : Below w.heap.size w X) => (hR.fromK (k := k) (by omega)).below hX)
        have HR2 := hid (fun (X : World) (hX : Below w.heap.size w X) => (hR.upToK (k := k) (by omega)).below hX)
        have HO1 : Hid (∀ u ∈ vvs.drop k, u.oneCell' = true) := hid (fun u hu => H1 u (List.mem_of_mem_drop hu))
        have HO2 : Hid (∀ u ∈ vvs.take k, u.oneCell' = true) := hid (fun u hu => H1 u (List.mem_of_mem_take hu))
        have hbA : Below w6.heap.size w6 (w6.alloc (.cells #[] 25)).drew := ((Below.refl _ _).alloc (Nat.le_refl _) _).drew
        have HBA := hid (HB6.out.trans (hbA.mono HB6.out.size))
        have HBA0 := hid hbA
        have hownA := World.ownsRow_lit (base := w6.heap.size) (e := 25) (size := 1) w6 #[] 0 (Nat.le_refl _) (by simp [maxLen]) rfl
        have HOWNA := hid (owns_below hownA ((below_self_drewN _ 1)))
        have HNN0 : Hid (l.length = 0 + (n - k) + k) := hid (by rw [HNN.out]; omega)
        have q1 : 0 + (n - k) ≤ 140737488355328 := by omega
        have q2 : (0 + (n - k)) * 24 ≤ 140737488355328 := by omega
        have q3 : w6.heap.size ≤ (w6.alloc (.cells #[] 25)).drew.heap.size := by simp
        have q4 : 0 + (n - k) + k ≤ 140737488355328 := by omega
        have q5 : (0 + (n - k) + k) * 24 ≤ 140737488355328 := by omega
        have hkc : k < cap := by omega
        have hkc0 : ¬ cap = k := by omega
        have hkc1 : k ≤ cap := by omega
        have hkn1 : k ≤ n := by omega
        have y0 : (0 : Int) ≤ (k : Int) := by omega
        have y1 : (k : Int) ≤ (n : Int) := by omega
        have y2 : (k : Int) ≤ (cap : Int) := by omega
        clear hR H1 hbA hownA hV hvl
        go_wp2
        go_region_law (first
          | (refine step_append_row rfl (.tmp 84) (.tmp 87) 36 rfl w6.heap.size 25 el_term Try.underlying36 rfl (by decide) _ _ _ rfl HOWNA.out _ (n - k) (vvs.drop k) rfl (HR1.out _ HBA.out) HO1.out q1 q2 q3 ?_
             intro v8 w8 hown8 hgrow8
             have hb8 : Below w6.heap.size w6 w8 := HBA0.out.grown hgrow8 q3 (fun q hq => (HOWNA.out.lt q hq).1)
             have hsz8 := hb8.size)
          | (refine step_append_row rfl (.tmp 88) (.tmp 91) 36 rfl w6.heap.size 25 el_term Try.underlying36 rfl (by decide) _ _ _ rfl hown8 _ k (vvs.take k) rfl (HR2.out _ (HB6.out.trans (hb8.mono HB6.out.size))) HO2.out q4 q5 hsz8 ?_
             intro v9 w9 hown9 hgrow9
             have hb9 : Below w6.heap.size w6 w9 := hb8.grown hgrow9 hb8.size (fun q hq => (hown8.lt q hq).1)
             have ho9 : w9.ownsRow w6.heap.size 25 1 v9 (0 + (n - k) + k) (vvs.drop k ++ vvs.take k) := by rw [← List.nil_append (vvs.drop k)]; exact hown9
             have HT9 : Hid (Terms w9 v9 (l.drop k ++ l.take k)) := hid ⟨_, TermsV.rot HTV.out (HB6.out.trans (hb9.mono HB6.out.size)) (HNN0.out.symm) ho9 (by rw [HNN.out]; omega)⟩
             have HB9 := hid (HB6.out.trans (hb9.mono HB6.out.size))
             have HB69 := hid hb9
             clear hown8 hgrow8 hown9 hgrow9 hb8 hb9 ho9)
          | (go_simp; go_at_call 29; refine (HJ.out w9 HB9.out v9 (l.drop k ++ l.take k) HT9.out).mono ?_; rintro e wa ⟨z, ua, hz, rfl, hua, hba⟩))
        have HBa := hid (HB9.out.trans (hba.mono HB9.out.size))
        have HVa := hid ((HV6.out.below HB69.out).below hba)
        have HUa := hid hua
        have hp := joins_perm HY.out hz rot_mem rot_len rfl
        obtain ⟨z1, z2⟩ := z
        rcases hp with hp | ⟨hp, ha⟩
        · simp only at hp
          subst hp
          clear hz hua hba
          go_wp2_with fail
          refine (HW.out _ HBa.out).mono ?_
          rintro e wb ⟨rfl, hbb⟩
          go_wp2
          go_ret
          exact ⟨rfl, hbb⟩
        · simp only at hp ha
          subst hp
          have HA := hid ha
          clear hz hua hba ha
          go_wp2_with fail
          refine (HAL.out _ HBa.out _ _ _ _ HVa.out HUa.out).mono ?_
          rintro e wb ⟨rfl, hbb⟩
          rw [HA.out]
          have HBb := hid (HBa.out.trans (hbb.mono HBa.out.size))
          clear hbb
          go_wp2_with fail
          refine (HW.out _ HBb.out).mono ?_
          rintro e wc ⟨rfl, hbc⟩
          go_wp2
          go_ret
          exact ⟨rfl, hbc⟩
      · have n3 : (y2 != 0) = true := by simpa using h0
        clear h0
        go_wp2_with fail
        refine (HW.out _ HB6.out).mono ?_
        rintro e w7 ⟨rfl, hb7⟩
        go_wp2
        go_ret
        exact ⟨rfl, hb7⟩
end Go.Proofs.Ytidigpfiagjeiaa
