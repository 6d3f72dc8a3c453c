/-
  WHAT IT HOLDS: the walk of the law UnifyMeets.
-/
import Derived.Test.YtidigpfiagjeiaaRmeet
import Derived.Test.YtidigpfiagjeiaaRsn
import Derived.Test.YtidigpfiagjeiaaMts
import Derived.Test.YtidigpfiagjeiaaRow2
import Derived.Test.YtidigpfiagjeiaaRef1b
namespace Go.Proofs.Ytidigpfiagjeiaa
open Go Go.RowKit Go.Maps
theorem terms_lit2 {w : World} {v0 v1 : Value} {l0 l1 : List Int} (h0 : Ints w v0 l0) (h1 : Ints w v1 l1) (T : TypeId) : Terms (w.alloc (.cells #[v0, v1] T)) (.slice (some ⟨w.heap.size, 0, none⟩) 2 2) [l0, l1] := by
  have hb : Below w.heap.size w (w.alloc (.cells #[v0, v1] T)) := (Below.refl _ _).alloc (Nat.le_refl _) _
  refine ⟨[v0, v1], ?_, rfl, fun i u t h1' h2' => ?_⟩
  · refine ⟨rfl, _, _, rfl, Nat.le_refl _, by simp, (fun h => by cases h), fun j u hj => ⟨_, _, rfl, ?_⟩⟩
    rw [Nat.zero_add, World.cell?_alloc_new]
    simpa using hj
  · match i, h1', h2' with
    | 0, h1', h2' => simp at h1' h2'; subst h1'; subst h2'; exact h0.below hb
    | 1, h1', h2' => simp at h1' h2'; subst h1'; subst h2'; exact h1.below hb
    | i + 2, h1', _ => simp at h1'
theorem chainB {P : Program} {f : FuncId} {args : Array Value} {WB W : World} {R : Ending → Prop} (hb : Below WB.heap.size WB W) (h : Calls P f args W fun e w' => R e ∧ Below W.heap.size W w') : Calls P f args W fun e w' => R e ∧ Below WB.heap.size WB w' :=
  h.mono fun _ _ ⟨h1, h2⟩ => ⟨h1, hb.trans (h2.mono hb.size)⟩
theorem MeetR_len {s : Sg} {a b : List Int} {x : List Int × Int} (h : MeetR s a b x) : x.1.length ≤ 60 := by
  unfold MeetR at h
  split at h
  · rcases h with ⟨_, rfl⟩ | ⟨m, _, ⟨hb, rfl⟩ | ⟨_, rfl⟩⟩
    · simp
    · simp only [canonL_len]; exact (madeB_iff.1 hb).1
    · simp
  · rw [h]; simp
set_option maxHeartbeats 4000000 in
set_option maxRecDepth 100000 in
theorem walk_UnifyMeets (vs v0 v1 : Value) (s : Sg) (l0 l1 : List Int) (w : World) (hs : SignAt w vs s) (h0 : Ints w v0 l0) (h1 : Ints w v1 l1) :
    Calls Try.prog 6 #[vs, v0, v1] w fun e w' => e = .returned (.bool true) ∧ Below w.heap.size w w' := by
  obtain ⟨a0, k0, he0, -⟩ := h0.open
  obtain ⟨a1, k1, he1, -⟩ := h1.open
  subst he0 he1
  have HT := hid (terms_lit2 h0 h1 25)
  have hb2 : Below w.heap.size w (w.alloc (.cells #[.slice a0 l0.length k0, .slice a1 l1.length k1] 25)) := (Below.refl _ _).alloc (Nat.le_refl _) _
  have HSM := hid (law1_Small vs _ s _ _ (hs.below hb2) HT.out)
  have HB := hid hb2
  have HS := hid hs
  have H0 := hid h0
  have H1 := hid h1
  clear HT hb2 hs h0 h1
  go_enter Try.func6, Try.ntmps6
  go_wp2_with fail
  refine HSM.out.mono ?_
  rintro e w1 ⟨rfl, rfl⟩
  cases hsm : smallB s [l0, l1]
  · go_wp2_with fail
    refine (law2_awake _).mono ?_
    rintro e w2 ⟨rfl, hb3⟩
    have HB3 := hid (HB.out.trans (hb3.mono HB.out.size))
    clear hb3
    go_wp2
    go_ret
    exact ⟨rfl, HB3.out⟩
  · have hs40 : s.length ≤ 1000 := by simp [smallB] at hsm; omega
    clear hsm
    have HI := hid (fun (X : World) (hX : Below w.heap.size w X) (u v : Value) (a b : List Int) (ra : Ints X u a) (rb : Ints X v b) => chainB hX (unify_Instance vs u v s a b X (HS.out.below hX) ra rb hs40))
    have HA := hid (fun (X : World) (hX : Below w.heap.size w X) (u v : Value) (a b : List Int) (ra : Ints X u a) (rb : Ints X v b) => chainB hX (term_Alike vs u v s a b X (HS.out.below hX) ra rb hs40))
    have HM := hid (fun (X : World) (hX : Below w.heap.size w X) => unify_Meet vs _ _ s l0 l1 X (HS.out.below hX) (H0.out.below hX) (H1.out.below hX) hs40)
    have HMS := hid (fun (X : World) (hX : Below w.heap.size w X) => unify_Meet vs _ _ s l1 l0 X (HS.out.below hX) (H1.out.below hX) (H0.out.below hX) hs40)
    have HN := hid (fun (X : World) (hX : Below w.heap.size w X) => unify_Meets vs _ _ s l0 l1 X (HS.out.below hX) (H0.out.below hX) (H1.out.below hX) hs40)
    have HRM := hid (fun (X : World) (hX : Below w.heap.size w X) => ref2_Meet vs _ _ s l0 l1 X (HS.out.below hX) (H0.out.below hX) (H1.out.below hX))
    have HRN := hid (fun (X : World) (hX : Below w.heap.size w X) => ref2_Meets vs _ _ s l0 l1 X (HS.out.below hX) (H0.out.below hX) (H1.out.below hX))
    have HW := hid (fun (X : World) (hX : Below w.heap.size w X) => chainB hX (law2_awake X))
    clear HSM
    generalize w.alloc (.cells #[Value.slice a0 l0.length k0, Value.slice a1 l1.length k1] 25) = W at *
    go_wp2_with fail
    refine (HM.out _ HB.out).mono ?_
    rintro e w3 ⟨x, u, hx, rfl, hown, hb3'⟩
    have hb3 := HB.out.trans (hb3'.mono HB.out.size)
    have hxl := MeetR_len hx
    have IX := hid (Ints.of_owns hown (by omega))
    have HX := hid hx
    have HB3 := hid hb3
    clear hown hb3' hb3 hx
    go_wp2_with fail
    refine (HRM.out _ HB3.out).mono ?_
    rintro e w4 ⟨y, u4, hy, rfl, hown, hb4'⟩
    obtain rfl : x = y := HX.out.unique hy
    have hb4 := HB3.out.trans (hb4'.mono HB3.out.size)
    have IY := hid (Ints.of_owns hown (by omega))
    have IX := hid (IX.out.below hb4')
    have HB4 := hid hb4
    clear hown hb4' hb4 hy
    obtain ⟨x1, x2⟩ := x
    simp only at IX IY hxl
    have n1 : (x2 != x2) = false := by simp
    go_wp2_with fail
    refine (ref1_Same u u4 x1 x1 _ IX.out IY.out).mono ?_
    rintro e w5 ⟨rfl, n5, rfl⟩
    rw [show decide (x1 = x1) = true from by simp]
    have hb5 := below_drewN HB4.out n5
    have IX := hid (IX.out.drewN n5)
    have HB5 := hid hb5
    clear hb5 IY
    generalize w4.drewN n5 = w5 at *
    go_wp2_with fail
    refine (HN.out _ HB5.out).mono ?_
    rintro e w6 ⟨z, hz, rfl, hb6'⟩
    have hb6 := HB5.out.trans (hb6'.mono HB5.out.size)
    have IX := hid (IX.out.below hb6')
    have HB6 := hid hb6
    have HZ := hid hz
    clear hb6' hb6 hz
    go_wp2_with fail
    refine (HRN.out _ HB6.out).mono ?_
    rintro e w7 ⟨z', hz', rfl, hb7'⟩
    obtain rfl : z = z' := HZ.out.unique hz'
    have hb7 := HB6.out.trans (hb7'.mono HB6.out.size)
    have IX := hid (IX.out.below hb7')
    have HB7 := hid hb7
    have n2 : (z != z) = false := by simp
    clear hb7' hb7 hz'
    go_wp2_with fail
    refine (HMS.out _ HB7.out).mono ?_
    rintro e w8 ⟨y, u8, hy, rfl, hown, hb8'⟩
    obtain rfl : (x1, x2) = y := HX.out.swap hy
    have hb8 := HB7.out.trans (hb8'.mono HB7.out.size)
    have IY := hid (Ints.of_owns hown (by simp only; omega))
    have IX := hid (IX.out.below hb8')
    have HB8 := hid hb8
    clear hown hb8' hb8 hy
    simp only at IY
    by_cases h00 : x2 = 0
    · subst h00
      have HBO := hid (meet_both HX.out rfl)
      have HIF := hid (meet_iff HX.out rfl)
      have HSE := hid (meet_self HX.out rfl)
      simp only at HBO HIF HSE
      have HI8 := hid (fun (X : World) (hX : Below w8.heap.size w8 X) (u v : Value) (a b : List Int) (ra : Ints X u a) (rb : Ints X v b) => chainB hX (unify_Instance vs u v s a b X ((HS.out.below HB8.out).below hX) ra rb hs40))
      have HA8 := hid (fun (X : World) (hX : Below w8.heap.size w8 X) (u v : Value) (a b : List Int) (ra : Ints X u a) (rb : Ints X v b) => chainB hX (term_Alike vs u v s a b X ((HS.out.below HB8.out).below hX) ra rb hs40))
      have H08 := hid (H0.out.below HB8.out)
      have H18 := hid (H1.out.below HB8.out)
      clear HI HA HM HMS HN HRM HRN
      go_wp2_with fail
      refine (HA8.out _ (Below.refl _ _) _ _ _ _ IY.out IX.out).mono ?_
      rintro e w9 ⟨rfl, hb9⟩
      rw [HSE.out]
      have HB9 := hid hb9
      clear hb9
      go_wp2_with fail
      refine (HI8.out _ HB9.out _ _ _ _ (H08.out.below HB9.out) (IX.out.below HB9.out)).mono ?_
      rintro e w10 ⟨rfl, hb10⟩
      rw [HBO.out.1]
      have HB10 := hid hb10
      clear hb10
      go_wp2_with fail
      refine (HI8.out _ HB10.out _ _ _ _ (H18.out.below HB10.out) (IX.out.below HB10.out)).mono ?_
      rintro e w11 ⟨rfl, hb11⟩
      rw [HBO.out.2]
      have HB11 := hid hb11
      clear hb11
      go_wp2_with fail
      refine (HI8.out _ HB11.out _ _ _ _ (H08.out.below HB11.out) (H18.out.below HB11.out)).mono ?_
      rintro e w12 ⟨rfl, hb12⟩
      rw [HIF.out]
      have HB12 := hid hb12
      clear hb12
      go_wp2_with fail
      refine (HA8.out _ HB12.out _ _ _ _ (IX.out.below HB12.out) (H18.out.below HB12.out)).mono ?_
      rintro e w13 ⟨rfl, hb13⟩
      generalize alikeB s x1 l1 = z9
      have n4 : (z9 == z9) = true := by simp
      have HB13 := hid (HB8.out.trans (hb13.mono HB8.out.size))
      clear hb13
      go_wp2_with fail
      refine (HW.out _ HB13.out).mono ?_
      rintro e w14 ⟨rfl, hb14⟩
      have HB14 := hid hb14
      clear hb14
      go_wp2
      go_ret
      exact ⟨rfl, HB14.out⟩
    · have HF := hid (meet_not HX.out h00)
      have n3 : (x2 != 0) = true := by simpa using h00
      go_wp2_with fail
      refine (HI.out _ HB8.out _ _ _ _ (H0.out.below HB8.out) (H1.out.below HB8.out)).mono ?_
      rintro e w9 ⟨rfl, hb9⟩
      rw [HF.out]
      have HB9 := hid hb9
      clear hb9
      go_wp2_with fail
      refine (HW.out _ HB9.out).mono ?_
      rintro e w10 ⟨rfl, hb10⟩
      have HB10 := hid hb10
      clear hb10
      go_wp2
      go_ret
      exact ⟨rfl, HB10.out⟩
end Go.Proofs.Ytidigpfiagjeiaa
