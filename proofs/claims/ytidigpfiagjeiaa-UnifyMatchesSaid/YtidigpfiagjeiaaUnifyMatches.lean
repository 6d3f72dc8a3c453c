/-
  WHAT IT HOLDS: the walk of the law UnifyMatches.
-/
import Derived.Test.YtidigpfiagjeiaaRap
import Derived.Test.YtidigpfiagjeiaaAwk2
import Derived.Test.YtidigpfiagjeiaaLw
import Derived.Test.YtidigpfiagjeiaaRow2
namespace Go.Proofs.Ytidigpfiagjeiaa
open Go Go.RowKit Go.Maps
theorem mt_apply {s : Sg} {a b : List Int} (h : (mtR s a b).2 = 0) : appR s (mtR s a b).1 a = (b, 0) := by
  unfold mtR at h ⊢
  by_cases h1 : (termB s a && termB s b) = true
  · rw [if_pos h1] at h ⊢
    simp only [Bool.and_eq_true] at h1
    cases hm : matL s a b noM with
    | none => rw [hm] at h; simp at h
    | some m =>
      simp only
      obtain ⟨h2, h3, h4⟩ := matL_terms h1.1 h1.2 hm
      have hv : bndsB s (bndL m 12) = true := bndL_valid (termB_facts h1.1).1 (Nat.le_refl _) (fun v p _ hp => (h2 _ p hp).2.2)
      have hs : subL (ofN (bndL m 12)) a = b := by
        rw [← h4]
        refine subL_congr fun n hn h0 => ?_
        have hr := (termB_T h1.1).vars n hn h0
        obtain ⟨v, rfl⟩ : ∃ v : Nat, n = -(v : Int) - 1 := ⟨(-n - 1).toNat, by omega⟩
        rw [bndL_of (by omega)]
        obtain ⟨p, hp⟩ := h3 _ hn h0
        rw [hp]; rfl
      unfold appR
      rw [h1.1, hv, hs]
      have := (termB_facts h1.2).2.2.2
      simp [this]
  · rw [if_neg h1] at h; simp at h
set_option maxHeartbeats 4000000 in
set_option maxRecDepth 100000 in
theorem walk_UnifyMatches (vs v0 v1 : Value) (s : Sg) (l0 l1 : List Int) (w : World) (hs : SignAt w vs s) (h0 : Ints w v0 l0) (h1 : Ints w v1 l1) :
    Calls Try.prog 12 #[vs, v0, v1] w fun e w' => e = .returned (.bool true) ∧ Below w.heap.size w w' := by
  obtain ⟨a0, k0, he0, -⟩ := h0.open
  obtain ⟨a1, k1, he1, -⟩ := h1.open
  subst he0 he1
  have HT := hid (litT2 h0 h1 25)
  have hb2 : Below w.heap.size w (w.alloc (.cells #[.slice a0 l0.length k0, .slice a1 l1.length k1] 25)) := (Below.refl _ _).alloc (Nat.le_refl _) _
  have HSM := hid (law1_Small vs _ s _ _ (hs.below hb2) HT.out)
  have HB := hid hb2
  have HS := hid hs
  have H0 := hid h0
  have H1 := hid h1
  clear HT hb2 hs h0 h1
  go_enter Try.func12, Try.ntmps12
  go_wp2_with fail
  refine HSM.out.mono ?_
  rintro e w1 ⟨rfl, rfl⟩
  cases hsm : smallB s [l0, l1]
  · go_wp2_with fail
    refine (law2_awake _).mono ?_
    rintro e w2 ⟨rfl, hb3⟩
    have HB3 := hid (HB.out.trans (hb3.mono HB.out.size))
    clear hb3
    go_wp2
    go_ret
    exact ⟨rfl, HB3.out⟩
  · have hs40 : s.length ≤ 1000 := by simp [smallB] at hsm; omega
    clear hsm
    have HI := hid (fun (X : World) (hX : Below w.heap.size w X) => unify_Instance vs _ _ s l0 l1 X (HS.out.below hX) (H0.out.below hX) (H1.out.below hX) hs40)
    have HRI := hid (fun (X : World) (hX : Below w.heap.size w X) => ref2_Instance vs _ _ s l0 l1 X (HS.out.below hX) (H0.out.below hX) (H1.out.below hX) hs40)
    have HM := hid (fun (X : World) (hX : Below w.heap.size w X) => unify_Match vs _ _ s l0 l1 X (HS.out.below hX) (H0.out.below hX) (H1.out.below hX) hs40)
    have HRM := hid (fun (X : World) (hX : Below w.heap.size w X) => ref2_MatchB vs _ _ s l0 l1 X (HS.out.below hX) (H0.out.below hX) (H1.out.below hX) hs40)
    have HAP := hid (fun (X : World) (hX : Below w.heap.size w X) (u : Value) (l : BL) (hu : BindsAt X u l) => unify_Apply vs u _ s l l0 X (HS.out.below hX) hu (H0.out.below hX) hs40)
    have HW := hid (fun (X : World) (hX : Below w.heap.size w X) => chainL hX (law2_awake X))
    have HLAW := hid (fun h => mt_apply (s := s) (a := l0) (b := l1) h)
    clear HSM
    generalize w.alloc (.cells #[Value.slice a0 l0.length k0, Value.slice a1 l1.length k1] 25) = W at *
    obtain ⟨x, hx⟩ : ∃ x, mtR s l0 l1 = x := ⟨_, rfl⟩
    obtain ⟨x1, x2⟩ := x
    simp only [hx] at HM HRM HLAW
    clear hx
    go_wp2_with fail
    refine (HM.out _ HB.out).mono ?_
    rintro e w3 ⟨u, rfl, hu, hb3⟩
    have HB3 := hid (HB.out.trans (hb3.mono HB.out.size))
    have HU3 := hid hu
    clear hu hb3
    go_wp2_with fail
    refine (HRM.out _ HB3.out).mono ?_
    rintro e w4 ⟨u4, rfl, hu4, hb4⟩
    have HB4 := hid (HB3.out.trans (hb4.mono HB3.out.size))
    have HU4 := hid (HU3.out.below hb4)
    have HV4 := hid hu4
    have n1 : (x2 != x2) = false := by simp
    clear hu4 hb4 HU3 HM HRM
    go_wp2_with fail
    refine (chainD (Below.refl _ _) (ref2_SameBinds u u4 x1 x1 _ HU4.out HV4.out)).mono ?_
    rintro e w5 ⟨rfl, hb5⟩
    rw [show decide (x1 = x1) = true from by simp]
    have HB5 := hid (HB4.out.trans (hb5.mono HB4.out.size))
    have HU5 := hid (HU4.out.below hb5)
    clear hb5 HU4 HV4
    go_wp2_with fail
    refine (HI.out _ HB5.out).mono ?_
    rintro e w6 ⟨rfl, hb6⟩
    have HB6 := hid (HB5.out.trans (hb6.mono HB5.out.size))
    have HU6 := hid (HU5.out.below hb6)
    clear hb6 HU5
    go_wp2_with fail
    refine (HRI.out _ HB6.out).mono ?_
    rintro e w7 ⟨rfl, hb7⟩
    have HB7 := hid (HB6.out.trans (hb7.mono HB6.out.size))
    have HU7 := hid (HU6.out.below hb7)
    clear hb7 HU6
    generalize instB s l0 l1 = z
    have n2 : (z != z) = false := by simp
    by_cases h00 : x2 = 0
    · subst h00
      have hap := fun X hX hu => HAP.out X hX u x1 hu
      rw [HLAW.out rfl] at hap
      have HAP7 := hid hap
      clear hap HAP
      go_wp2_with fail
      refine (HAP7.out _ HB7.out HU7.out).mono ?_
      rintro e w8 ⟨u8, rfl, hu8, hb8⟩
      have HB8 := hid (HB7.out.trans (hb8.mono HB7.out.size))
      have HU8 := hid hu8
      clear hb8 hu8
      go_wp2_with fail
      refine (chainD (Below.refl _ _) (ref1_Same u8 _ l1 l1 _ HU8.out (H1.out.below HB8.out))).mono ?_
      rintro e w9 ⟨rfl, hb9⟩
      rw [show decide (l1 = l1) = true from by simp]
      have HB9 := hid (HB8.out.trans (hb9.mono HB8.out.size))
      clear hb9
      go_wp2_with fail
      refine (HW.out _ HB9.out).mono ?_
      rintro e w14 ⟨rfl, hb14⟩
      have HB14 := hid hb14
      clear hb14
      go_wp2
      go_ret
      exact ⟨rfl, HB14.out⟩
    · have n3 : (x2 != 0) = true := by simpa using h00
      go_wp2_with fail
      refine (HW.out _ HB7.out).mono ?_
      rintro e w10 ⟨rfl, hb10⟩
      have HB10 := hid hb10
      clear hb10
      go_wp2
      go_ret
      exact ⟨rfl, HB10.out⟩
end Go.Proofs.Ytidigpfiagjeiaa
