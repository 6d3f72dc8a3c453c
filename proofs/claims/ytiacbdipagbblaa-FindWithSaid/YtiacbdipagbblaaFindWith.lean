/-
  WHAT IT HOLDS: the walk of the law FindWith.
-/
import Derived.Test.YtiacbdipagbblaaFindb
import Derived.Test.YtiacbdipagbblaaFindc
import Derived.Test.YtiacbdipagbblaaRef5b
import Derived.Test.YtiacbdipagbblaaRef1b
namespace Go.Proofs.Ytiacbdipagbblaa
open Go Go.RowKit Go.Maps
theorem withB_len (s : Sg) (l : List (List Int)) (q : List Int) : (withB s l q).1.length ≤ l.length := by
  unfold withB
  split
  · split
    · exact Nat.le_trans (chosenL_len _ _) (by simp)
    · simp
  · simp
set_option maxHeartbeats 400000 in
theorem walk_FindWith (vs vt vq : Value) (s : Sg) (l : List (List Int)) (q : List Int) (w : World) (hs : SignAt w vs s) (hl : Terms w vt l) (hq : Ints w vq q) :
    Calls Try.prog 3 #[vs, vt, vq] w fun e w' => e = .returned (.bool true) ∧ Below w.heap.size w w' := by
  obtain ⟨qa, qcap, hqe, _⟩ := hq.open
  subst hqe
  have hF := fun w' => law5_Few vs vt s l 70 w'
  cases hf : (decide ((l.length : Int) ≤ 70) && smallB s l)
  · rw [hf] at hF
    have hFF := hid hF
    clear hf hF
    go_enter Try.func3, Try.ntmps3
    go_wp2_with fail
    refine (hFF.out w hs hl).mono ?_
    rintro e w1 ⟨rfl, rfl⟩
    go_wp2_with fail
    refine (law5_awake _).mono ?_
    rintro e w1 ⟨rfl, hb⟩
    go_wp2
    go_ret
    exact ⟨rfl, hb⟩
  · have hsm : s.length ≤ 40 ∧ l.length ≤ 70 := by
      simp only [Bool.and_eq_true, decide_eq_true_eq, smallB] at hf
      omega
    rw [hf] at hF
    have hFF := hid hF
    clear hf hF
    by_cases h6 : q.length ≤ 60
    · have hwl := withB_len s l q
      go_enter Try.func3, Try.ntmps3
      go_wp2_with fail
      refine (hFF.out w hs hl).mono ?_
      rintro e w1 ⟨rfl, rfl⟩
      go_wp2_with fail
      refine (find_With _ _ _ _ _ _ _ hs hl hq (by omega) (by omega) (by omega)).mono ?_
      rintro e w1 ⟨u1, rfl, o1, b1⟩
      go_wp2_with fail
      refine (ref5_With _ _ _ _ _ _ _ (hs.below b1) (hl.below b1) (hq.below b1) (by omega) (by omega) (by omega)).mono ?_
      rintro e w2 ⟨u2, rfl, o2, b2⟩
      have b3 := b1.trans (b2.mono b1.size)
      go_wp2_with fail
      refine (ref1_SameInts _ _ _ _ _ (Ints.of_owns (owns_below o1 b2) (by omega)) (Ints.of_owns o2 (by omega))).mono ?_
      rintro e w3 ⟨rfl, n, rfl⟩
      have b4 := below_drewN b3 n
      go_wp2_with fail
      refine (law5_awake _).mono ?_
      rintro e w4 ⟨rfl, hb⟩
      go_wp2
      go_ret
      exact ⟨rfl, b4.trans (hb.mono b4.size)⟩
    · go_enter Try.func3, Try.ntmps3
      go_wp2_with fail
      refine (hFF.out w hs hl).mono ?_
      rintro e w1 ⟨rfl, rfl⟩
      go_wp2_with fail
      refine (law5_awake _).mono ?_
      rintro e w1 ⟨rfl, hb⟩
      go_wp2
      go_ret
      exact ⟨rfl, hb⟩
end Go.Proofs.Ytiacbdipagbblaa
