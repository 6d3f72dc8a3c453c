/-
  WHAT IT HOLDS: the walk of the law UnifyApplies.
-/
import Derived.Test.YtidigpfiagjeiaaZRUnifyApplies35
import Derived.Test.YtidigpfiagjeiaaZRUnifyApplies44
import Derived.Test.YtidigpfiagjeiaaZRUnifyApplies45
import Derived.Test.YtidigpfiagjeiaaZRUnifyApplies46
namespace Go.Proofs.Ytidigpfiagjeiaa
open Go Go.RowKit Go.Maps
set_option maxHeartbeats 4000000 in
set_option maxRecDepth 100000 in
theorem walk_UnifyApplies (vs v0 v1 : Value) (s : Sg) (l0 : BL) (l1 : List Int) (w : World) (hs : SignAt w vs s) (h0 : BindsAt w v0 l0) (h1 : Ints w v1 l1) :
    Calls Try.prog 8 #[vs, v0, v1] w fun e w' => e = .returned (.bool true) ∧ Below w.heap.size w w' := by
  obtain ⟨a1, k1, he1, -⟩ := h1.open
  subst he1
  have HT := hid (litT1 h1 25)
  have hb2 : Below w.heap.size w (w.alloc (.cells #[.slice a1 l1.length k1] 25)) := (Below.refl _ _).alloc (Nat.le_refl _) _
  have HSM := hid (law1_Small vs _ s _ _ (hs.below hb2) HT.out)
  have HFW := hid (fun (X : World) (hX : Below w.heap.size w X) => law2_few v0 l0 X (h0.below hX))
  have HB := hid hb2
  have HS := hid hs
  have H0 := hid h0
  have H1 := hid h1
  clear HT hb2 hs h0 h1
  go_enter Try.func8, Try.ntmps8
  go_wp2_with fail
  refine HSM.out.mono ?_
  rintro e w1 ⟨rfl, rfl⟩
  cases hsm : smallB s [l1]
  · go_wp2_with fail
    refine (law2_awake _).mono ?_
    rintro e w2 ⟨rfl, hb3⟩
    have HB3 := hid (HB.out.trans (hb3.mono HB.out.size))
    clear hb3
    go_wp2
    go_ret
    exact ⟨rfl, HB3.out⟩
  · have hs40 : s.length ≤ 1000 := by simp [smallB] at hsm; omega
    clear hsm
    have HA := hid (fun (X : World) (hX : Below w.heap.size w X) => unify_Apply vs v0 _ s l0 l1 X (HS.out.below hX) (H0.out.below hX) (H1.out.below hX) hs40)
    have HRA := hid (fun (X : World) (hX : Below w.heap.size w X) => ref2_Apply vs v0 _ s l0 l1 X (HS.out.below hX) (H0.out.below hX) (H1.out.below hX))
    have HO := hid (fun (X : World) (hX : Below w.heap.size w X) (v : Int) => unify_Occurs vs _ s v l1 X (HS.out.below hX) (H1.out.below hX) hs40)
    have HRO := hid (fun (X : World) (hX : Below w.heap.size w X) (v : Int) => ref2_Occurs vs _ s v l1 X (HS.out.below hX) (H1.out.below hX))
    have HW := hid (fun (X : World) (hX : Below w.heap.size w X) => chainL hX (law2_awake X))
    clear HSM
    generalize w.alloc (.cells #[Value.slice a1 l1.length k1] 25) = W at *
    go_wp2_with fail
    refine (HFW.out _ HB.out).mono ?_
    rintro e w1 ⟨rfl, rfl⟩
    cases hfw : fewB l0
    · go_wp2_with fail
      refine (HW.out _ HB.out).mono ?_
      rintro e w2 ⟨rfl, hb3⟩
      have HB3 := hid hb3
      clear hb3
      go_wp2
      go_ret
      exact ⟨rfl, HB3.out⟩
    · clear hfw
      obtain ⟨x, hx⟩ : ∃ x, appR s l0 l1 = x := ⟨_, rfl⟩
      obtain ⟨x1, x2⟩ := x
      simp only [hx] at HA HRA
      have n1 : (x2 != x2) = false := by simp
      clear hx
      go_wp2_with fail
      refine (HA.out _ HB.out).mono ?_
      rintro e w3 ⟨u, rfl, hu, hb3⟩
      have HB3 := hid (HB.out.trans (hb3.mono HB.out.size))
      have HU3 := hid hu
      clear hu hb3
      go_wp2_with fail
      refine (HRA.out _ HB3.out).mono ?_
      rintro e w4 ⟨u4, rfl, hu4, hb4⟩
      have HB4 := hid (HB3.out.trans (hb4.mono HB3.out.size))
      have HU4 := hid (HU3.out.below hb4)
      have HV4 := hid hu4
      clear hu4 hb4 HU3 HA HRA
      go_wp2_with fail
      refine (chainD (Below.refl _ _) (ref1_Same u u4 x1 x1 _ HU4.out HV4.out)).mono ?_
      rintro e w5 ⟨rfl, hb5⟩
      rw [show decide (x1 = x1) = true from by simp]
      have HB5 := hid (HB4.out.trans (hb5.mono HB4.out.size))
      clear hb5 HU4 HV4
      go_wp2
      go_loopw [11] (fun kv wr => ∃ v : Int, -1 ≤ v ∧ v ≤ 13 ∧ kv = .int .i64 v ∧ Below w.heap.size w wr) (fun kv _ => (13 - intOf kv).toNat)
      case atStart => exact ⟨-1, by omega, by omega, rfl, HB5.out⟩
      case round =>
        obtain ⟨v, hv1, hv2, rfl, hb⟩ := hrel
        have HBr := hid hb
        clear hb
        by_cases hlt : v ≤ 12
        · obtain ⟨y, hy⟩ : ∃ y, occR s v l1 = y := ⟨_, rfl⟩
          obtain ⟨y1, y2⟩ := y
          have ho := fun X hX => HO.out X hX v
          have hro := fun X hX => HRO.out X hX v
          simp only [hy] at ho hro
          have HOv := hid ho
          have HROv := hid hro
          have m1 : (y2 != y2) = false := by simp
          have m2 : (y1 != y1) = false := by simp
          clear hy ho hro
          go_wp2_with fail
          refine (HOv.out _ HBr.out).mono ?_
          rintro e w6 ⟨rfl, hb6⟩
          have HB6 := hid (HBr.out.trans (hb6.mono HBr.out.size))
          clear hb6
          go_wp2_with fail
          refine (HROv.out _ HB6.out).mono ?_
          rintro e w7 ⟨rfl, hb7⟩
          have HB7 := hid (HB6.out.trans (hb7.mono HB6.out.size))
          clear hb7
          go_wp2
          go_roundw
          case rel => exact ⟨v + 1, by omega, by omega, by go_num, HB7.out⟩
          case measure => simp [intOf]; omega
        · go_wp2_with fail
          refine (HW.out _ HBr.out).mono ?_
          rintro e w14 ⟨rfl, hb14⟩
          have HB14 := hid hb14
          clear hb14
          go_wp2
          go_ret
          exact ⟨rfl, HB14.out⟩
end Go.Proofs.Ytidigpfiagjeiaa
