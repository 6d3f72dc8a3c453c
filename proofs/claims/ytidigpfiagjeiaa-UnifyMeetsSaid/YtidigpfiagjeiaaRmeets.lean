/-
  WHAT IT HOLDS: contract of Meets of the reference (layer 2). Conditions: the arguments read as data.
-/
import Derived.Test.YtidigpfiagjeiaaRsn
namespace Go.Proofs.Ytidigpfiagjeiaa
open Go Go.RowKit Go.Maps
set_option maxHeartbeats 4000000 in
set_option maxRecDepth 100000 in
theorem ref2_Meets (vs va vb : Value) (s : Sg) (a b : List Int) (w : World) (hs : SignAt w vs s) (ra : Ints w va a) (rb : Ints w vb b) :
    Calls Try.prog 26 #[vs, va, vb] w fun e w' => ∃ z, MeetsA s a b z ∧ e = .returned (.bool z) ∧ Below w.heap.size w w' := by
  obtain ⟨sa, sc, hse, -⟩ := hs.open
  subst hse
  obtain ⟨W, cs, hag, hS1, hb1, hst0, hst1, hst2, hsz, -⟩ := sol_new w s sa sc hs
  have hag2 : True → _ := fun _ => hag
  clear hag
  go_enter Try.func26, Try.ntmps26
  go_wp2_with fail
  clear hst0 hst1 hst2 hsz
  clear hag2
  have HS1 := hid hS1
  have ra1 := ra.below hb1
  have rb1 := rb.below hb1
  clear hs ra rb
  refine (ref1_Valid _ _ s a _ hS1.sgn ra1).mono ?_
  rintro e w2 ⟨rfl, n2, rfl⟩
  have hb2 := below_drewN hb1 n2
  have hB2 : Below W.heap.size W (W.drewN n2) := below_self_drewN W n2
  cases h1 : termB s a with
  | false =>
    have HR : Hid (MeetsA s a b false) := hid (by unfold MeetsA MeetsQ; rw [h1]; simp)
    clear hS1 ra1 rb1 hB2
    go_wp2
    go_ret
    exact ⟨_, HR.out, rfl, hb2⟩
  | true =>
    have H1 := hid h1
    clear h1
    go_wp2_with fail
    refine (ref1_Valid _ _ s b _ (hS1.sgn.below hB2) (rb1.below hB2)).mono ?_
    rintro e w3 ⟨rfl, n3, rfl⟩
    have hb3 := below_drewN hb2 n3
    have hB3 : Below W.heap.size W ((W.drewN n2).drewN n3) := below_drewN hB2 n3
    generalize (W.drewN n2).drewN n3 = W3 at *
    cases h2 : termB s b with
    | false =>
      have HR : Hid (MeetsA s a b false) := hid (by unfold MeetsA MeetsQ; rw [h2]; simp)
      clear hS1 ra1 rb1 hB2 hB3 hb2
      go_wp2
      go_ret
      exact ⟨_, HR.out, rfl, hb3⟩
    | true =>
      have HR : Hid (¬ NoU s a (aparL b) ↔ MeetsQ s a b) := hid (by unfold MeetsQ; rw [H1.out, h2]; simp)
      obtain ⟨f1, f2, f3, f4⟩ := termB_facts H1.out
      obtain ⟨_, _, _, f5⟩ := termB_facts h2
      have ta := termB_T H1.out
      have tb := termB_T h2
      have hb0 := tb.ne
      have TA := hid (ta.mono (m' := 24) (by omega))
      have TB := hid (aparL_T tb)
      have TS := hid (T_small12 tb f3)
      have LB := hid (aparL_len b)
      have HAP := hid (ref2_Apart vb b W3 (rb1.below hB3) hb0 (by omega) TS.out)
      have HSV := hid (fun (W4 : World) (ub : Value) (h : Below W.heap.size W W4) (r : Ints W4 ub (aparL b)) => ref2_Solve w.heap.size (.slice sa s.length sc) s f1 (meas1 (mR (fun _ => none)) a + 1) a (aparL b) va ub (fun _ => none) W4 (by omega) (HS1.out.below h) (by rw [mR_none']; exact MOK.empty s) TA.out TB.out f4 (by rw [LB.out]; exact f5) (ra1.below h) r)
      have HB3 := hid hB3
      have Hb3 := hid hb3
      clear h2 ta tb hS1 ra1 rb1 hB2 hb2 hB3 hb3
      go_wp2_with fail
      refine HAP.out.mono ?_
      rintro e w4 ⟨ub, rfl, hown, hb4⟩
      have rb4 := Ints.of_owns hown (by rw [LB.out]; omega)
      have hb4w := Hb3.out.trans (hb4.mono Hb3.out.size)
      have hB4 := HB3.out.trans (hb4.mono HB3.out.size)
      have HSV4 := hid (HSV.out w4 ub hB4 rb4)
      have HB4 := hid hb4w
      clear hown hb4 hb4w hB4 rb4
      go_wp2_with fail
      refine HSV4.out.mono ?_
      intro e w5 hpost
      obtain ⟨z, T', rfl, hS', hg, hok, hno⟩ := hpost.bool
      rw [mR_none'] at hok hno
      have HB5 : Hid (Below w.heap.size w w5) := hid (HB4.out.grown hg HB4.out.size (fun q hq => by cases hq; exact Nat.le_refl _))
      have HX : Hid (MeetsA s a b z) := hid (by
        unfold MeetsA
        rw [← HR.out]
        cases z with
        | true => simpa using fun h => (hok rfl).mgu.not_no h
        | false => simpa using (hno rfl).nou)
      clear hpost hS' hg hok hno
      go_wp2
      go_ret
      exact ⟨z, HX.out, rfl, HB5.out⟩
end Go.Proofs.Ytidigpfiagjeiaa
