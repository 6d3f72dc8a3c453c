/-
  WHAT IT HOLDS: contracts of Meets, Join of package unify, and of the helper awake of the laws of layer 2. Conditions: the arguments read as data; small signs.
-/
import Derived.Test.YtiacbdipagbblaaMeet
import Derived.Test.YtiacbdipagbblaaJoinc
import Derived.Test.YtiacbdipagbblaaFindc
namespace Go.Proofs.Ytiacbdipagbblaa
open Go Go.RowKit Go.Maps
set_option maxHeartbeats 1000000 in
theorem unify_Meets (vs va vb : Value) (s : Sg) (a b : List Int) (w : World) (hs : SignAt w vs s) (ra : Ints w va a) (rb : Ints w vb b) (hs1 : s.length ≤ 1000) :
    Calls Try.prog 96 #[vs, va, vb] w fun e w' => ∃ z, MeetsA s a b z ∧ e = .returned (.bool z) ∧ Below w.heap.size w w' := by
  cases h1 : termB s a
  · have HR : Hid (MeetsA s a b false) := hid (by unfold MeetsA MeetsQ; rw [h1]; simp)
    go_enter Try.func96, Try.ntmps96
    go_wp2_with (first | (go_at_call 77; refine (term_Valid' _ _ _ _ _ hs ra hs1).mono ?_; rintro e w1 ⟨rfl, hb1⟩))
    go_ret
    exact ⟨_, HR.out, rfl, hb1⟩
  · cases h2 : termB s b
    · have HR : Hid (MeetsA s a b false) := hid (by unfold MeetsA MeetsQ; rw [h2]; simp)
      have H1 := hid h1
      have H2 := hid h2
      clear h1 h2
      go_enter Try.func96, Try.ntmps96
      go_wp2_with fail
      refine (term_Valid' _ _ _ _ _ hs ra hs1).mono ?_
      rintro e w1 ⟨rfl, hb1⟩
      rw [H1.out]
      go_wp2_with fail
      refine (term_Valid' _ _ _ _ _ (hs.below hb1) (rb.below hb1) hs1).mono ?_
      rintro e w2 ⟨rfl, hb2⟩
      rw [H2.out]
      have HB := hid (hb1.trans (hb2.mono hb1.size))
      clear hb1 hb2
      go_wp2
      go_ret
      exact ⟨_, HR.out, rfl, HB.out⟩
    · have HR : Hid (¬ NoU s a (aparL b) ↔ MeetsQ s a b) := hid (by unfold MeetsQ; rw [h1, h2]; simp)
      obtain ⟨f1, f2, f3, f4⟩ := termB_facts h1
      obtain ⟨_, _, _, f5⟩ := termB_facts h2
      have ta := termB_T h1
      have tb := termB_T h2
      have hb0 := tb.ne
      have H1 := hid h1
      have H2 := hid h2
      have TA := hid (ta.mono (m' := 24) (by omega))
      have TB := hid (aparL_T tb)
      have TS := hid (T_small12 tb f3)
      have LB := hid (aparL_len b)
      clear h1 h2 ta tb
      go_enter Try.func96, Try.ntmps96
      go_wp2_with fail
      refine (term_Valid' _ _ _ _ _ hs ra hs1).mono ?_
      rintro e w1 ⟨rfl, hb1⟩
      rw [H1.out]
      go_wp2_with fail
      refine (term_Valid' _ _ _ _ _ (hs.below hb1) (rb.below hb1) hs1).mono ?_
      rintro e w2 ⟨rfl, hb2'⟩
      rw [H2.out]
      have hb2 := hb1.trans (hb2'.mono hb1.size)
      go_wp2_with fail
      refine (unify_apart _ b _ (rb.below hb2) hb0 (by omega) TS.out).mono ?_
      rintro e w3 ⟨ub, rfl, hown, hb3'⟩
      have hb3 := hb2.trans (hb3'.mono hb2.size)
      have rb3 := Ints.of_owns hown (by rw [LB.out]; omega)
      clear hb2' hb3' hb2 hown
      go_wp2_with fail
      refine (unify_solved _ _ _ s a (aparL b) _ f1 TA.out TB.out f4 (by rw [LB.out]; exact f5) (hs.below hb3) (ra.below hb3) rb3).mono ?_
      rintro e w4 ⟨hb4', px, ⟨rfl, hno⟩ | ⟨rfl, bm, M, hS, hmgu⟩⟩
      · have HB := hid (hb3.trans (hb4'.mono hb3.size))
        have HX : Hid (MeetsA s a b false) := hid (by unfold MeetsA; rw [← HR.out]; simpa using hno)
        clear hb4' hb3 hno rb3 hb1
        go_wp2
        go_ret
        exact ⟨_, HX.out, rfl, HB.out⟩
      · have HB := hid (hb3.trans (hb4'.mono hb3.size))
        have HX : Hid (MeetsA s a b true) := hid (by unfold MeetsA; rw [← HR.out]; simpa using fun h => hmgu.not_no h)
        clear hb4' hb3 hmgu hS rb3 hb1
        go_wp2
        go_ret
        exact ⟨true, HX.out, rfl, HB.out⟩
end Go.Proofs.Ytiacbdipagbblaa
