/-
  WHAT IT HOLDS: the walk of the law UnifyGeneral.
-/
import Derived.Test.YtidigpfiagjeiaaZRUnifyGeneral31
import Derived.Test.YtidigpfiagjeiaaZRUnifyGeneral43
import Derived.Test.YtidigpfiagjeiaaZRUnifyGeneral44
import Derived.Test.YtidigpfiagjeiaaZRUnifyGeneral45
import Derived.Test.YtidigpfiagjeiaaZRUnifyGeneral5
import Derived.Test.YtidigpfiagjeiaaZRUnifyGeneral46
namespace Go.Proofs.Ytidigpfiagjeiaa
open Go Go.RowKit Go.Maps
set_option maxHeartbeats 4000000 in
set_option maxRecDepth 100000 in
theorem walk_UnifyGeneral (vs va vb vl : Value) (s : Sg) (a b : List Int) (l : BL) (w : World) (hs : SignAt w vs s) (ha : Ints w va a) (hb : Ints w vb b) (hl : BindsAt w vl l) :
    Calls Try.prog 13 #[vs, .agg #[va, vb, vl]] w fun e w' => e = .returned (.bool true) ∧ Below w.heap.size w w' := by
  obtain ⟨aa, ka, he0, -⟩ := ha.open
  obtain ⟨ab, kb, he1, -⟩ := hb.open
  obtain ⟨al, kl, he2, -⟩ := hl.open
  subst he0 he1 he2
  have hbx := Box3.new w (.slice aa a.length ka) (.slice ab b.length kb) (.slice al l.length kl) 56
  have hb1 : Below w.heap.size w (w.alloc (.cells #[.slice aa a.length ka, .slice ab b.length kb, .slice al l.length kl] 56)) := (Below.refl _ _).alloc (Nat.le_refl _) _
  have hT := litT2 (ha.below hb1) (hb.below hb1) 25
  rw [World.size_alloc] at hT
  have hb12 : Below (w.alloc (.cells #[.slice aa a.length ka, .slice ab b.length kb, .slice al l.length kl] 56)).heap.size (w.alloc (.cells #[.slice aa a.length ka, .slice ab b.length kb, .slice al l.length kl] 56)) ((w.alloc (.cells #[.slice aa a.length ka, .slice ab b.length kb, .slice al l.length kl] 56)).alloc (.cells #[.slice aa a.length ka, .slice ab b.length kb] 25)) := (Below.refl _ _).alloc (Nat.le_refl _) _
  have hb2 := hb1.trans (hb12.mono hb1.size)
  have HBX := hid (hbx.below hb12)
  have HSM := hid (law1_Small vs _ s _ _ (hs.below hb2) hT)
  have HFW := hid (fun (X : World) (hX : Below w.heap.size w X) => law2_few _ l X (hl.below hX))
  have HB := hid hb2
  have HS := hid hs
  have HA := hid ha
  have HBB := hid hb
  have HL := hid hl
  clear hT hb1 hb12 hb2 hs ha hb hl hbx
  go_enter Try.func13, Try.ntmps13
  go_wp2_with fail
  refine HSM.out.mono ?_
  rintro e w1 ⟨rfl, rfl⟩
  cases hsm : smallB s [a, b]
  · go_wp2_with fail
    refine (law2_awake _).mono ?_
    rintro e w2 ⟨rfl, hb3⟩
    have HB3 := hid (HB.out.trans (hb3.mono HB.out.size))
    clear hb3
    go_wp2
    go_ret
    exact ⟨rfl, HB3.out⟩
  · have hs40 : s.length ≤ 1000 := by simp [smallB] at hsm; omega
    clear hsm
    have HU := hid (fun (X : World) (hX : Below w.heap.size w X) => unify_Unifies vs _ _ _ s l a b X (HS.out.below hX) (HL.out.below hX) (HA.out.below hX) (HBB.out.below hX) hs40)
    have HRU := hid (fun (X : World) (hX : Below w.heap.size w X) => ref2_Unifies vs _ _ _ s l a b X (HS.out.below hX) (HL.out.below hX) (HA.out.below hX) (HBB.out.below hX))
    have HUB := hid (fun (X : World) (hX : Below w.heap.size w X) => unify_Unifiable vs _ _ s a b X (HS.out.below hX) (HA.out.below hX) (HBB.out.below hX) hs40)
    have HUD := hid (fun (X : World) (hX : Below w.heap.size w X) => unify_Unified vs _ _ s a b X (HS.out.below hX) (HA.out.below hX) (HBB.out.below hX) hs40)
    have HAP := hid (fun (X : World) (hX : Below w.heap.size w X) => unify_Apply vs _ _ s l a X (HS.out.below hX) (HL.out.below hX) (HA.out.below hX) hs40)
    have HI := hid (fun (X : World) (hX : Below w.heap.size w X) (u v : Value) (p q : List Int) (hu : Ints X u p) (hv : Ints X v q) => unify_Instance vs u v s p q X (HS.out.below hX) hu hv hs40)
    have HW := hid (fun (X : World) (hX : Below w.heap.size w X) => chainL hX (law2_awake X))
    clear HSM
    generalize (w.alloc (.cells #[.slice aa a.length ka, .slice ab b.length kb, .slice al l.length kl] 56)).alloc (.cells #[.slice aa a.length ka, .slice ab b.length kb] 25) = W at *
    obtain ⟨c0, c1, c2⟩ := HBX.out
    go_wp2_with fail
    refine (HFW.out _ HB.out).mono ?_
    rintro e w1 ⟨rfl, rfl⟩
    cases hfw : fewB l
    · clear c0 c1 c2
      go_wp2_with fail
      refine (HW.out _ HB.out).mono ?_
      rintro e w2 ⟨rfl, hb3⟩
      have HB3 := hid hb3
      clear hb3
      go_wp2
      go_ret
      exact ⟨rfl, HB3.out⟩
    · clear hfw
      go_wp2_with fail
      refine (HU.out _ HB.out).mono ?_
      rintro e w3 ⟨rfl, hb3⟩
      have HB3 := hid (HB.out.trans (hb3.mono HB.out.size))
      have HBX3 := hid (HBX.out.below hb3)
      clear hb3 c0 c1 c2
      obtain ⟨c0, c1, c2⟩ := HBX3.out
      go_wp2_with fail
      refine (HRU.out _ HB3.out).mono ?_
      rintro e w4 ⟨rfl, hb4⟩
      have HB4 := hid (HB3.out.trans (hb4.mono HB3.out.size))
      have HBX4 := hid (HBX3.out.below hb4)
      clear hb4 c0 c1 c2
      cases huf : unifB s l a b
      · go_wp2_with fail
        refine (HW.out _ HB4.out).mono ?_
        rintro e w2 ⟨rfl, hb5⟩
        have HB5 := hid hb5
        clear hb5
        go_wp2
        go_ret
        exact ⟨rfl, HB5.out⟩
      · have hu' := huf
        unfold unifB at hu'
        simp only [Bool.and_eq_true, decide_eq_true_eq] at hu'
        obtain ⟨⟨⟨u1, u2⟩, u3⟩, u4⟩ := hu'
        have HP := hid (fun (x : List Int × Int) (hx : UnifR s a b x) => general_plain u1 u2 u3 u4 hx)
        have HUQ : Hid (UniQ s a b) := hid ⟨u2, u3, fun h => h _ (ofN_TS u1) u4⟩
        clear huf u1 u2 u3 u4
        obtain ⟨c0, c1, c2⟩ := HBX4.out
        go_wp2_with fail
        refine (HUB.out _ HB4.out).mono ?_
        rintro e w5 ⟨z, hz, rfl, hb5⟩
        have HB5 := hid (HB4.out.trans (hb5.mono HB4.out.size))
        have HBX5 := hid (HBX4.out.below hb5)
        have HZ := hid hz
        clear hb5 hz c0 c1 c2
        obtain ⟨c0, c1, c2⟩ := HBX5.out
        obtain rfl : z = true := HZ.out.2 HUQ.out
        obtain ⟨x, hx⟩ : ∃ x, appR s l a = x := ⟨_, rfl⟩
        obtain ⟨x1, x2⟩ := x
        simp only [hx] at HAP HP
        clear hx
        go_wp2_with fail
        refine (HAP.out _ HB5.out).mono ?_
        rintro e w6 ⟨u, rfl, hu, hb6⟩
        have HB6 := hid (HB5.out.trans (hb6.mono HB5.out.size))
        have HBX6 := hid (HBX5.out.below hb6)
        have HU6 := hid hu
        clear hb6 hu c0 c1 c2
        by_cases h00 : x2 = 0
        · subst h00
          obtain ⟨c0, c1, c2⟩ := HBX6.out
          go_wp2_with fail
          refine (HUD.out _ HB6.out).mono ?_
          rintro e w7 ⟨y, u7, hy, rfl, ho, hb7⟩
          obtain ⟨y0, yi⟩ := (HP.out y hy).2 (by first | trivial | rfl)
          obtain ⟨y1, y2⟩ := y
          simp only at y0 yi ho
          subst y0
          have HB7 := hid (HB6.out.trans (hb7.mono HB6.out.size))
          have HU7 := hid (HU6.out.below hb7)
          have hyl : y1.length ≤ 60 := (termB_facts (instB_iff.1 yi).1).2.2.2
          have HV7 := hid (Ints.of_owns ho (by omega))
          have HYI := hid yi
          clear hb7 ho hy yi hyl c0 c1 c2
          go_wp2_with fail
          refine (HI.out _ HB7.out _ _ _ _ HV7.out HU7.out).mono ?_
          rintro e w8 ⟨rfl, hb8⟩
          rw [HYI.out]
          have HB8 := hid (HB7.out.trans (hb8.mono HB7.out.size))
          clear hb8
          go_wp2_with fail
          refine (HW.out _ HB8.out).mono ?_
          rintro e w9 ⟨rfl, hb9⟩
          have HB9 := hid hb9
          clear hb9
          go_wp2
          go_ret
          exact ⟨rfl, HB9.out⟩
        · have n3 : (x2 != 0) = true := by simpa using h00
          go_wp2_with fail
          refine (HW.out _ HB6.out).mono ?_
          rintro e w10 ⟨rfl, hb10⟩
          have HB10 := hid hb10
          clear hb10
          go_wp2
          go_ret
          exact ⟨rfl, HB10.out⟩
end Go.Proofs.Ytidigpfiagjeiaa
