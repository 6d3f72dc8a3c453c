/-
  WHAT IT HOLDS: contracts of Unifiable, Unified of package unify. Conditions: the arguments read as data; small signs.
  WHAT IT HOLDS: contract of Meet of the reference (layer 2). Conditions: the arguments read as data.
  WHAT IT HOLDS: contracts of Unifiable, Unified of the reference (layer 2). Conditions: the arguments read as data.
  WHAT IT HOLDS: the walk of the law UnifyMeets.
-/
import Derived.Test.YtidigpfiagjeiaaZRUnifyUnifies22
import Derived.Test.YtidigpfiagjeiaaZRUnifyUnifies28
import Derived.Test.YtidigpfiagjeiaaZRUnifyUnifies32
import Derived.Test.YtidigpfiagjeiaaZRUnifyUnifies23
import Derived.Test.YtidigpfiagjeiaaZRUnifyUnifies7
namespace Go.Proofs.Ytidigpfiagjeiaa
open Go Go.RowKit Go.Maps
/-- whether two terms have a unifier, as an answer. -/
def UniQ (s : Sg) (a b : List Int) : Prop := termB s a = true ∧ termB s b = true ∧ ¬ NoU s a b
def UniA (s : Sg) (a b : List Int) (z : Bool) : Prop := z = true ↔ UniQ s a b
theorem UniA.unique {s : Sg} {a b : List Int} {z y : Bool} (h : UniA s a b z) (k : UniA s a b y) : z = y := by
  unfold UniA at h k; cases z <;> cases y <;> simp_all
set_option maxHeartbeats 1000000 in
theorem unify_Unifiable (vs va vb : Value) (s : Sg) (a b : List Int) (w : World) (hs : SignAt w vs s) (ra : Ints w va a) (rb : Ints w vb b) (hs1 : s.length ≤ 1000) :
    Calls Try.prog 50 #[vs, va, vb] w fun e w' => ∃ z, UniA s a b z ∧ e = .returned (.bool z) ∧ Below w.heap.size w w' := by
  cases h1 : termB s a
  · have HR : Hid (UniA s a b false) := hid (by unfold UniA UniQ; rw [h1]; simp)
    go_enter Try.func50, Try.ntmps50
    go_wp2_with (first | (go_at_call 21; refine (term_Valid' _ _ _ _ _ hs ra hs1).mono ?_; rintro e w1 ⟨rfl, hb1⟩))
    go_ret
    exact ⟨_, HR.out, rfl, hb1⟩
  · cases h2 : termB s b
    · have HR : Hid (UniA s a b false) := hid (by unfold UniA UniQ; rw [h2]; simp)
      have H1 := hid h1
      have H2 := hid h2
      clear h1 h2
      go_enter Try.func50, Try.ntmps50
      go_wp2_with fail
      refine (term_Valid' _ _ _ _ _ hs ra hs1).mono ?_
      rintro e w1 ⟨rfl, hb1⟩
      rw [H1.out]
      go_wp2_with fail
      refine (term_Valid' _ _ _ _ _ (hs.below hb1) (rb.below hb1) hs1).mono ?_
      rintro e w2 ⟨rfl, hb2⟩
      rw [H2.out]
      have HB := hid (hb1.trans (hb2.mono hb1.size))
      clear hb1 hb2
      go_wp2
      go_ret
      exact ⟨_, HR.out, rfl, HB.out⟩
    · have HR : Hid (¬ NoU s a b ↔ UniQ s a b) := hid (by unfold UniQ; rw [h1, h2]; simp)
      obtain ⟨f1, f2, f3, f4⟩ := termB_facts h1
      obtain ⟨_, _, _, f5⟩ := termB_facts h2
      have ta := termB_T h1
      have tb := termB_T h2
      have hb0 := tb.ne
      have H1 := hid h1
      have H2 := hid h2
      have TA := hid (ta.mono (m' := 24) (by omega))
      have TB := hid (tb.mono (m' := 24) (by omega))
      clear h1 h2 ta tb
      go_enter Try.func50, Try.ntmps50
      go_wp2_with fail
      refine (term_Valid' _ _ _ _ _ hs ra hs1).mono ?_
      rintro e w1 ⟨rfl, hb1⟩
      rw [H1.out]
      go_wp2_with fail
      refine (term_Valid' _ _ _ _ _ (hs.below hb1) (rb.below hb1) hs1).mono ?_
      rintro e w2 ⟨rfl, hb2'⟩
      rw [H2.out]
      have hb2 := hb1.trans (hb2'.mono hb1.size)
      go_wp2_with fail
      clear hb2'
      refine (unify_solved _ _ _ s a b _ f1 TA.out TB.out f4 f5 (hs.below hb2) (ra.below hb2) (rb.below hb2)).mono ?_
      rintro e w4 ⟨hb4', px, ⟨rfl, hno⟩ | ⟨rfl, bm, M, hS, hmgu⟩⟩
      · have HB := hid (hb2.trans (hb4'.mono hb2.size))
        have HX : Hid (UniA s a b false) := hid (by unfold UniA; rw [← HR.out]; simpa using hno)
        clear hb4' hno hb1 hb2
        go_wp2
        go_ret
        exact ⟨_, HX.out, rfl, HB.out⟩
      · have HB := hid (hb2.trans (hb4'.mono hb2.size))
        have HX : Hid (UniA s a b true) := hid (by unfold UniA; rw [← HR.out]; simpa using fun h => hmgu.not_no h)
        clear hb4' hmgu hS hb1 hb2
        go_wp2
        go_ret
        exact ⟨true, HX.out, rfl, HB.out⟩
set_option maxHeartbeats 1000000 in
theorem unify_Unified (vs va vb : Value) (s : Sg) (a b : List Int) (w : World) (hs : SignAt w vs s) (ra : Ints w va a) (rb : Ints w vb b) (hs1 : s.length ≤ 1000) :
    Calls Try.prog 51 #[vs, va, vb] w fun e w' => ∃ x u, UnifR s a b x ∧ e = .returned (.tuple #[u, .int .i64 x.2]) ∧ w'.ownsRow w.heap.size 3 1 u x.1.length (x.1.map (Value.int .i64)) ∧ Below w.heap.size w w' := by
  cases h1 : termB s a
  · have HR : Hid (UnifR s a b ([], 1)) := hid (by unfold UnifR; rw [h1]; simp)
    go_enter Try.func51, Try.ntmps51
    go_wp2_with (first | (go_at_call 21; refine (term_Valid' _ _ _ _ _ hs ra hs1).mono ?_; rintro e w1 ⟨rfl, hb1⟩))
    go_ret2
    exact ⟨([], 1), _, HR.out, rfl, World.ownsRow_nil _ _ _ _, hb1⟩
  · cases h2 : termB s b
    · have HR : Hid (UnifR s a b ([], 1)) := hid (by unfold UnifR; rw [h2]; simp)
      have H1 := hid h1
      have H2 := hid h2
      clear h1 h2
      go_enter Try.func51, Try.ntmps51
      go_wp2_with fail
      refine (term_Valid' _ _ _ _ _ hs ra hs1).mono ?_
      rintro e w1 ⟨rfl, hb1⟩
      rw [H1.out]
      go_wp2_with fail
      refine (term_Valid' _ _ _ _ _ (hs.below hb1) (rb.below hb1) hs1).mono ?_
      rintro e w2 ⟨rfl, hb2⟩
      rw [H2.out]
      have HB := hid (hb1.trans (hb2.mono hb1.size))
      clear hb1 hb2
      go_wp2
      go_ret2
      exact ⟨([], 1), _, HR.out, rfl, World.ownsRow_nil _ _ _ _, HB.out⟩
    · have HR : Hid (∀ x, UR s a b a x → UnifR s a b x) := hid (by intro x hx; unfold UnifR; rw [h1, h2]; simpa using hx)
      obtain ⟨f1, f2, f3, f4⟩ := termB_facts h1
      obtain ⟨_, _, _, f5⟩ := termB_facts h2
      have ta := termB_T h1
      have tb := termB_T h2
      have hb0 := tb.ne
      have H1 := hid h1
      have H2 := hid h2
      have TA := hid (ta.mono (m' := 24) (by omega))
      have TB := hid (tb.mono (m' := 24) (by omega))
      clear h1 h2 ta tb
      go_enter Try.func51, Try.ntmps51
      go_wp2_with fail
      refine (term_Valid' _ _ _ _ _ hs ra hs1).mono ?_
      rintro e w1 ⟨rfl, hb1⟩
      rw [H1.out]
      go_wp2_with fail
      refine (term_Valid' _ _ _ _ _ (hs.below hb1) (rb.below hb1) hs1).mono ?_
      rintro e w2 ⟨rfl, hb2'⟩
      rw [H2.out]
      have hb2 := hb1.trans (hb2'.mono hb1.size)
      go_wp2_with fail
      clear hb2'
      refine (unify_solved _ _ _ s a b _ f1 TA.out TB.out f4 f5 (hs.below hb2) (ra.below hb2) (rb.below hb2)).mono ?_
      rintro e w4 ⟨hb4', px, ⟨rfl, hno⟩ | ⟨rfl, bm, M, hS, hmgu⟩⟩
      · have HB := hid (hb2.trans (hb4'.mono hb2.size))
        have HX : Hid (UnifR s a b ([], 8)) := hid (HR.out _ (Or.inl ⟨hno, rfl⟩))
        clear hb4' hno hb1 hb2
        go_wp2
        go_ret2
        exact ⟨([], 8), _, HX.out, rfl, World.ownsRow_nil _ _ _ _, HB.out⟩
      · have hb4 := hb2.trans (hb4'.mono hb2.size)
        have HMD := hid (unify_made px bm _ _ s M a w4 hmgu.1 hS TA.out f4 (ra.below hb4) hs1)
        have HMG := hid hmgu
        have HB := hid hb4
        have hsz := hb4.size
        clear hb4' hb4 hmgu hS hb1 hb2
        go_wp2_with fail
        refine HMD.out.mono ?_
        rintro e w5 ⟨hb5, ⟨hm, u, rfl, hown⟩ | ⟨hm, rfl⟩⟩
        · have HX : Hid (UnifR s a b (canonL (fw (mOf M) a), 0)) := hid (HR.out _ (Or.inr ⟨_, HMG.out, Or.inl ⟨hm, rfl⟩⟩))
          have HO := hid (owns_base hown hsz)
          have HB5 := hid (HB.out.trans (hb5.mono hsz))
          clear hown hb5 hm
          go_wp2
          go_ret2
          exact ⟨_, _, HX.out, rfl, HO.out, HB5.out⟩
        · have HX : Hid (UnifR s a b ([], 4)) := hid (HR.out _ (Or.inr ⟨_, HMG.out, Or.inr ⟨hm, rfl⟩⟩))
          have HB5 := hid (HB.out.trans (hb5.mono hsz))
          clear hb5 hm
          go_wp2
          go_ret2
          exact ⟨([], 4), _, HX.out, rfl, World.ownsRow_nil _ _ _ _, HB5.out⟩
end Go.Proofs.Ytidigpfiagjeiaa
namespace Go.Proofs.Ytidigpfiagjeiaa
open Go Go.RowKit Go.Maps
set_option maxHeartbeats 4000000 in
set_option maxRecDepth 100000 in
theorem ref2_Meet (vs va vb : Value) (s : Sg) (a b : List Int) (w : World) (hs : SignAt w vs s) (ra : Ints w va a) (rb : Ints w vb b) :
    Calls Try.prog 25 #[vs, va, vb] w fun e w' => ∃ x u, MeetR s a b x ∧ e = .returned (.tuple #[u, .int .i64 x.2]) ∧ w'.ownsRow w.heap.size 3 1 u x.1.length (x.1.map (Value.int .i64)) ∧ Below w.heap.size w w' := by
  obtain ⟨sa, sc, hse, -⟩ := hs.open
  subst hse
  go_enter Try.func25, Try.ntmps25
  go_wp2_with fail
  refine (ref1_Valid _ _ s a _ hs ra).mono ?_
  rintro e w2 ⟨rfl, n2, rfl⟩
  have hb2 : Below w.heap.size w (w.drewN n2) := below_self_drewN w n2
  cases h1 : termB s a with
  | false =>
    have HR : Hid (MeetR s a b ([], 1)) := hid (by unfold MeetR; rw [h1]; simp)
    clear hs ra rb
    go_wp2
    go_ret2
    exact ⟨([], 1), _, HR.out, rfl, World.ownsRow_nil _ _ _ _, hb2⟩
  | true =>
    have H1 := hid h1
    clear h1
    go_wp2_with fail
    refine (ref1_Valid _ _ s b _ (hs.below hb2) (rb.below hb2)).mono ?_
    rintro e w3 ⟨rfl, n3, rfl⟩
    have hb3 : Below w.heap.size w ((w.drewN n2).drewN n3) := below_drewN hb2 n3
    generalize (w.drewN n2).drewN n3 = W0 at *
    cases h2 : termB s b with
    | false =>
      have HR : Hid (MeetR s a b ([], 1)) := hid (by unfold MeetR; rw [h2]; simp)
      clear hs ra rb hb2
      go_wp2
      go_ret2
      exact ⟨([], 1), _, HR.out, rfl, World.ownsRow_nil _ _ _ _, hb3⟩
    | true =>
      have HR : Hid (∀ x, UR s a (aparL b) a x → MeetR s a b x) := hid (by intro x hx; unfold MeetR; rw [H1.out, h2]; simpa using hx)
      obtain ⟨f1, f2, f3, f4⟩ := termB_facts H1.out
      obtain ⟨_, _, _, f5⟩ := termB_facts h2
      have ta := termB_T H1.out
      have tb := termB_T h2
      have hb0 := tb.ne
      have TA := hid (ta.mono (m' := 24) (by omega))
      have TB := hid (aparL_T tb)
      have TS := hid (T_small12 tb f3)
      have LB := hid (aparL_len b)
      have hsz3 := hb3.size
      obtain ⟨W, cs, hag, hS1, hb1, hst0, hst1, hst2, hsz, -⟩ := sol_new W0 s sa sc (hs.below hb3)
      have hag2 : True → _ := fun _ => hag
      have HS1 := hid hS1
      have HB1 := hid hb1
      have HB3 := hid hb3
      have HRA := hid ra
      have HRB := hid rb
      clear h2 ta tb hS1 ra rb hs hb2 hb3 hb1 hag
      go_wp2_with fail
      clear hst0 hst1 hst2 hsz hag2
      have HBW := hid (HB3.out.trans (HB1.out.mono hsz3))
      have HSV := hid (fun (W4 : World) (ub : Value) (h : Below W.heap.size W W4) (hw : Below w.heap.size w W4) (r : Ints W4 ub (aparL b)) => ref2_Solve W0.heap.size (.slice sa s.length sc) s f1 (meas1 (mR (fun _ => none)) a + 1) a (aparL b) va ub (fun _ => none) W4 (by omega) (HS1.out.below h) (by rw [mR_none']; exact MOK.empty s) TA.out TB.out f4 (by rw [LB.out]; exact f5) (HRA.out.below hw) r)
      refine (ref2_Apart vb b W (HRB.out.below HBW.out) hb0 (by omega) TS.out).mono ?_
      rintro e w4 ⟨ub, rfl, hown, hb4⟩
      have rb4 := Ints.of_owns hown (by rw [LB.out]; omega)
      have hb4w := HBW.out.trans (hb4.mono HBW.out.size)
      have HSV4 := hid (HSV.out w4 ub hb4 hb4w rb4)
      have HB4 := hid hb4w
      clear hown hb4 hb4w rb4
      go_wp2_with fail
      refine HSV4.out.mono ?_
      intro e w5 hpost
      obtain ⟨z, T', rfl, hS', hg, hok, hno⟩ := hpost.bool
      rw [mR_none'] at hok hno
      have HB5 : Hid (Below w.heap.size w w5) := hid (HB4.out.grown hg HB4.out.size (fun q hq => by cases hq; exact hsz3))
      cases z with
      | false =>
        have HX : Hid (MeetR s a b ([], 8)) := hid (HR.out _ (Or.inl ⟨(hno rfl).nou, rfl⟩))
        clear hpost hS' hg hok hno
        go_wp2
        go_ret2
        exact ⟨([], 8), _, HX.out, rfl, World.ownsRow_nil _ _ _ _, HB5.out⟩
      | true =>
        have hmgu := (hok rfl).mgu
        have HFW := hid (ref2_Few W0.heap.size (.slice sa s.length sc) va s T' a w5 hmgu.1 hS' TA.out f4 (HRA.out.below HB5.out) (by omega))
        have HMG := hid hmgu
        have hsz5 := HB5.out.size
        clear hpost hS' hg hok hno hmgu
        go_wp2_with fail
        refine HFW.out.mono ?_
        rintro e w6 ⟨u, hb6, ⟨hm, rfl, hown⟩ | ⟨hm, rfl⟩⟩
        · have HX : Hid (MeetR s a b (canonL (fw (mR T') a), 0)) := hid (HR.out _ (Or.inr ⟨_, HMG.out, Or.inl ⟨hm, rfl⟩⟩))
          have HO := hid (owns_base hown hsz5)
          have HB6 := hid (HB5.out.trans (hb6.mono hsz5))
          clear hown hb6 hm
          go_wp2
          go_ret2
          exact ⟨(canonL (fw (mR T') a), 0), u, HX.out, rfl, HO.out, HB6.out⟩
        · have HX : Hid (MeetR s a b ([], 4)) := hid (HR.out _ (Or.inr ⟨_, HMG.out, Or.inr ⟨hm, rfl⟩⟩))
          have HB6 := hid (HB5.out.trans (hb6.mono hsz5))
          clear hb6 hm
          go_wp2
          go_ret2
          exact ⟨([], 4), _, HX.out, rfl, World.ownsRow_nil _ _ _ _, HB6.out⟩
end Go.Proofs.Ytidigpfiagjeiaa
namespace Go.Proofs.Ytidigpfiagjeiaa
open Go Go.RowKit Go.Maps
set_option maxHeartbeats 4000000 in
set_option maxRecDepth 100000 in
theorem ref2_Unifiable (vs va vb : Value) (s : Sg) (a b : List Int) (w : World) (hs : SignAt w vs s) (ra : Ints w va a) (rb : Ints w vb b) :
    Calls Try.prog 55 #[vs, va, vb] w fun e w' => ∃ z, UniA s a b z ∧ e = .returned (.bool z) ∧ Below w.heap.size w w' := by
  obtain ⟨sa, sc, hse, -⟩ := hs.open
  subst hse
  obtain ⟨W, cs, hag, hS1, hb1, hst0, hst1, hst2, hsz, -⟩ := sol_new w s sa sc hs
  have hag2 : True → _ := fun _ => hag
  clear hag
  go_enter Try.func55, Try.ntmps55
  go_wp2_with fail
  clear hst0 hst1 hst2 hsz
  clear hag2
  have HS1 := hid hS1
  have ra1 := ra.below hb1
  have rb1 := rb.below hb1
  clear hs ra rb
  refine (ref1_Valid _ _ s a _ hS1.sgn ra1).mono ?_
  rintro e w2 ⟨rfl, n2, rfl⟩
  have hb2 := below_drewN hb1 n2
  have hB2 : Below W.heap.size W (W.drewN n2) := below_self_drewN W n2
  cases h1 : termB s a with
  | false =>
    have HR : Hid (UniA s a b false) := hid (by unfold UniA UniQ; rw [h1]; simp)
    clear hS1 ra1 rb1 hB2
    go_wp2
    go_ret
    exact ⟨_, HR.out, rfl, hb2⟩
  | true =>
    have H1 := hid h1
    clear h1
    go_wp2_with fail
    refine (ref1_Valid _ _ s b _ (hS1.sgn.below hB2) (rb1.below hB2)).mono ?_
    rintro e w3 ⟨rfl, n3, rfl⟩
    have hb3 := below_drewN hb2 n3
    have hB3 : Below W.heap.size W ((W.drewN n2).drewN n3) := below_drewN hB2 n3
    generalize (W.drewN n2).drewN n3 = W3 at *
    cases h2 : termB s b with
    | false =>
      have HR : Hid (UniA s a b false) := hid (by unfold UniA UniQ; rw [h2]; simp)
      clear hS1 ra1 rb1 hB2 hB3 hb2
      go_wp2
      go_ret
      exact ⟨_, HR.out, rfl, hb3⟩
    | true =>
      have HR : Hid (¬ NoU s a b ↔ UniQ s a b) := hid (by unfold UniQ; rw [H1.out, h2]; simp)
      obtain ⟨f1, f2, f3, f4⟩ := termB_facts H1.out
      obtain ⟨_, _, _, f5⟩ := termB_facts h2
      have ta := termB_T H1.out
      have tb := termB_T h2
      have hb0 := tb.ne
      have TA := hid (ta.mono (m' := 24) (by omega))
      have TB := hid (tb.mono (m' := 24) (by omega))
      have HSV4 := hid (ref2_Solve w.heap.size (.slice sa s.length sc) s f1 (meas1 (mR (fun _ => none)) a + 1) a b va vb (fun _ => none) W3 (by omega) (HS1.out.below hB3) (by rw [mR_none']; exact MOK.empty s) TA.out TB.out f4 f5 (ra1.below hB3) (rb1.below hB3))
      have HB4 := hid hb3
      clear h2 ta tb hS1 ra1 rb1 hB2 hb2 hB3 hb3
      go_wp2_with fail
      refine HSV4.out.mono ?_
      intro e w5 hpost
      obtain ⟨z, T', rfl, hS', hg, hok, hno⟩ := hpost.bool
      rw [mR_none'] at hok hno
      have HB5 : Hid (Below w.heap.size w w5) := hid (HB4.out.grown hg HB4.out.size (fun q hq => by cases hq; exact Nat.le_refl _))
      have HX : Hid (UniA s a b z) := hid (by
        unfold UniA
        rw [← HR.out]
        cases z with
        | true => simpa using fun h => (hok rfl).mgu.not_no h
        | false => simpa using (hno rfl).nou)
      clear hpost hS' hg hok hno
      go_wp2
      go_ret
      exact ⟨z, HX.out, rfl, HB5.out⟩
set_option maxHeartbeats 4000000 in
set_option maxRecDepth 100000 in
theorem ref2_Unified (vs va vb : Value) (s : Sg) (a b : List Int) (w : World) (hs : SignAt w vs s) (ra : Ints w va a) (rb : Ints w vb b) :
    Calls Try.prog 54 #[vs, va, vb] w fun e w' => ∃ x u, UnifR s a b x ∧ e = .returned (.tuple #[u, .int .i64 x.2]) ∧ w'.ownsRow w.heap.size 3 1 u x.1.length (x.1.map (Value.int .i64)) ∧ Below w.heap.size w w' := by
  obtain ⟨sa, sc, hse, -⟩ := hs.open
  subst hse
  go_enter Try.func54, Try.ntmps54
  go_wp2_with fail
  refine (ref1_Valid _ _ s a _ hs ra).mono ?_
  rintro e w2 ⟨rfl, n2, rfl⟩
  have hb2 : Below w.heap.size w (w.drewN n2) := below_self_drewN w n2
  cases h1 : termB s a with
  | false =>
    have HR : Hid (UnifR s a b ([], 1)) := hid (by unfold UnifR; rw [h1]; simp)
    clear hs ra rb
    go_wp2
    go_ret2
    exact ⟨([], 1), _, HR.out, rfl, World.ownsRow_nil _ _ _ _, hb2⟩
  | true =>
    have H1 := hid h1
    clear h1
    go_wp2_with fail
    refine (ref1_Valid _ _ s b _ (hs.below hb2) (rb.below hb2)).mono ?_
    rintro e w3 ⟨rfl, n3, rfl⟩
    have hb3 : Below w.heap.size w ((w.drewN n2).drewN n3) := below_drewN hb2 n3
    generalize (w.drewN n2).drewN n3 = W0 at *
    cases h2 : termB s b with
    | false =>
      have HR : Hid (UnifR s a b ([], 1)) := hid (by unfold UnifR; rw [h2]; simp)
      clear hs ra rb hb2
      go_wp2
      go_ret2
      exact ⟨([], 1), _, HR.out, rfl, World.ownsRow_nil _ _ _ _, hb3⟩
    | true =>
      have HR : Hid (∀ x, UR s a b a x → UnifR s a b x) := hid (by intro x hx; unfold UnifR; rw [H1.out, h2]; simpa using hx)
      obtain ⟨f1, f2, f3, f4⟩ := termB_facts H1.out
      obtain ⟨_, _, _, f5⟩ := termB_facts h2
      have ta := termB_T H1.out
      have tb := termB_T h2
      have hb0 := tb.ne
      have TA := hid (ta.mono (m' := 24) (by omega))
      have TB := hid (tb.mono (m' := 24) (by omega))
      have hsz3 := hb3.size
      obtain ⟨W, cs, hag, hS1, hb1, hst0, hst1, hst2, hsz, -⟩ := sol_new W0 s sa sc (hs.below hb3)
      have hag2 : True → _ := fun _ => hag
      have HS1 := hid hS1
      have HB1 := hid hb1
      have HB3 := hid hb3
      have HRA := hid ra
      have HRB := hid rb
      clear h2 ta tb hS1 ra rb hs hb2 hb3 hb1 hag
      go_wp2_with fail
      clear hst0 hst1 hst2 hsz hag2
      have HBW := hid (HB3.out.trans (HB1.out.mono hsz3))
      have HSV4 := hid (ref2_Solve W0.heap.size (.slice sa s.length sc) s f1 (meas1 (mR (fun _ => none)) a + 1) a b va vb (fun _ => none) W (by omega) HS1.out (by rw [mR_none']; exact MOK.empty s) TA.out TB.out f4 f5 (HRA.out.below HBW.out) (HRB.out.below HBW.out))
      have HB4 := HBW
      refine HSV4.out.mono ?_
      intro e w5 hpost
      obtain ⟨z, T', rfl, hS', hg, hok, hno⟩ := hpost.bool
      rw [mR_none'] at hok hno
      have HB5 : Hid (Below w.heap.size w w5) := hid (HB4.out.grown hg HB4.out.size (fun q hq => by cases hq; exact hsz3))
      cases z with
      | false =>
        have HX : Hid (UnifR s a b ([], 8)) := hid (HR.out _ (Or.inl ⟨(hno rfl).nou, rfl⟩))
        clear hpost hS' hg hok hno
        go_wp2
        go_ret2
        exact ⟨([], 8), _, HX.out, rfl, World.ownsRow_nil _ _ _ _, HB5.out⟩
      | true =>
        have hmgu := (hok rfl).mgu
        have HFW := hid (ref2_Few W0.heap.size (.slice sa s.length sc) va s T' a w5 hmgu.1 hS' TA.out f4 (HRA.out.below HB5.out) (by omega))
        have HMG := hid hmgu
        have hsz5 := HB5.out.size
        clear hpost hS' hg hok hno hmgu
        go_wp2_with fail
        refine HFW.out.mono ?_
        rintro e w6 ⟨u, hb6, ⟨hm, rfl, hown⟩ | ⟨hm, rfl⟩⟩
        · have HX : Hid (UnifR s a b (canonL (fw (mR T') a), 0)) := hid (HR.out _ (Or.inr ⟨_, HMG.out, Or.inl ⟨hm, rfl⟩⟩))
          have HO := hid (owns_base hown hsz5)
          have HB6 := hid (HB5.out.trans (hb6.mono hsz5))
          clear hown hb6 hm
          go_wp2
          go_ret2
          exact ⟨(canonL (fw (mR T') a), 0), u, HX.out, rfl, HO.out, HB6.out⟩
        · have HX : Hid (UnifR s a b ([], 4)) := hid (HR.out _ (Or.inr ⟨_, HMG.out, Or.inr ⟨hm, rfl⟩⟩))
          have HB6 := hid (HB5.out.trans (hb6.mono hsz5))
          clear hb6 hm
          go_wp2
          go_ret2
          exact ⟨([], 4), _, HX.out, rfl, World.ownsRow_nil _ _ _ _, HB6.out⟩
end Go.Proofs.Ytidigpfiagjeiaa
namespace Go.Proofs.Ytidigpfiagjeiaa
open Go Go.RowKit Go.Maps
theorem terms_lit2 {w : World} {v0 v1 : Value} {l0 l1 : List Int} (h0 : Ints w v0 l0) (h1 : Ints w v1 l1) (T : TypeId) : Terms (w.alloc (.cells #[v0, v1] T)) (.slice (some ⟨w.heap.size, 0, none⟩) 2 2) [l0, l1] := by
  have hb : Below w.heap.size w (w.alloc (.cells #[v0, v1] T)) := (Below.refl _ _).alloc (Nat.le_refl _) _
  refine ⟨[v0, v1], ?_, rfl, fun i u t h1' h2' => ?_⟩
  · refine ⟨rfl, _, _, rfl, Nat.le_refl _, by simp, (fun h => by cases h), fun j u hj => ⟨_, _, rfl, ?_⟩⟩
    rw [Nat.zero_add, World.cell?_alloc_new]
    simpa using hj
  · match i, h1', h2' with
    | 0, h1', h2' => simp at h1' h2'; subst h1'; subst h2'; exact h0.below hb
    | 1, h1', h2' => simp at h1' h2'; subst h1'; subst h2'; exact h1.below hb
    | i + 2, h1', _ => simp at h1'
theorem chainB {P : Program} {f : FuncId} {args : Array Value} {WB W : World} {R : Ending → Prop} (hb : Below WB.heap.size WB W) (h : Calls P f args W fun e w' => R e ∧ Below W.heap.size W w') : Calls P f args W fun e w' => R e ∧ Below WB.heap.size WB w' :=
  h.mono fun _ _ ⟨h1, h2⟩ => ⟨h1, hb.trans (h2.mono hb.size)⟩
theorem MeetR_len {s : Sg} {a b : List Int} {x : List Int × Int} (h : MeetR s a b x) : x.1.length ≤ 60 := by
  unfold MeetR at h
  split at h
  · rcases h with ⟨_, rfl⟩ | ⟨m, _, ⟨hb, rfl⟩ | ⟨_, rfl⟩⟩
    · simp
    · simp only [canonL_len]; exact (madeB_iff.1 hb).1
    · simp
  · rw [h]; simp
set_option maxHeartbeats 4000000 in
set_option maxRecDepth 100000 in
theorem walk_UnifyMeets (vs v0 v1 : Value) (s : Sg) (l0 l1 : List Int) (w : World) (hs : SignAt w vs s) (h0 : Ints w v0 l0) (h1 : Ints w v1 l1) :
    Calls Try.prog 6 #[vs, v0, v1] w fun e w' => e = .returned (.bool true) ∧ Below w.heap.size w w' := by
  obtain ⟨a0, k0, he0, -⟩ := h0.open
  obtain ⟨a1, k1, he1, -⟩ := h1.open
  subst he0 he1
  have HT := hid (terms_lit2 h0 h1 25)
  have hb2 : Below w.heap.size w (w.alloc (.cells #[.slice a0 l0.length k0, .slice a1 l1.length k1] 25)) := (Below.refl _ _).alloc (Nat.le_refl _) _
  have HSM := hid (law1_Small vs _ s _ _ (hs.below hb2) HT.out)
  have HB := hid hb2
  have HS := hid hs
  have H0 := hid h0
  have H1 := hid h1
  clear HT hb2 hs h0 h1
  go_enter Try.func6, Try.ntmps6
  go_wp2_with fail
  refine HSM.out.mono ?_
  rintro e w1 ⟨rfl, rfl⟩
  cases hsm : smallB s [l0, l1]
  · go_wp2_with fail
    refine (law2_awake _).mono ?_
    rintro e w2 ⟨rfl, hb3⟩
    have HB3 := hid (HB.out.trans (hb3.mono HB.out.size))
    clear hb3
    go_wp2
    go_ret
    exact ⟨rfl, HB3.out⟩
  · have hs40 : s.length ≤ 1000 := by simp [smallB] at hsm; omega
    clear hsm
    have HI := hid (fun (X : World) (hX : Below w.heap.size w X) (u v : Value) (a b : List Int) (ra : Ints X u a) (rb : Ints X v b) => chainB hX (unify_Instance vs u v s a b X (HS.out.below hX) ra rb hs40))
    have HA := hid (fun (X : World) (hX : Below w.heap.size w X) (u v : Value) (a b : List Int) (ra : Ints X u a) (rb : Ints X v b) => chainB hX (term_Alike vs u v s a b X (HS.out.below hX) ra rb hs40))
    have HM := hid (fun (X : World) (hX : Below w.heap.size w X) => unify_Meet vs _ _ s l0 l1 X (HS.out.below hX) (H0.out.below hX) (H1.out.below hX) hs40)
    have HMS := hid (fun (X : World) (hX : Below w.heap.size w X) => unify_Meet vs _ _ s l1 l0 X (HS.out.below hX) (H1.out.below hX) (H0.out.below hX) hs40)
    have HN := hid (fun (X : World) (hX : Below w.heap.size w X) => unify_Meets vs _ _ s l0 l1 X (HS.out.below hX) (H0.out.below hX) (H1.out.below hX) hs40)
    have HRM := hid (fun (X : World) (hX : Below w.heap.size w X) => ref2_Meet vs _ _ s l0 l1 X (HS.out.below hX) (H0.out.below hX) (H1.out.below hX))
    have HRN := hid (fun (X : World) (hX : Below w.heap.size w X) => ref2_Meets vs _ _ s l0 l1 X (HS.out.below hX) (H0.out.below hX) (H1.out.below hX))
    have HW := hid (fun (X : World) (hX : Below w.heap.size w X) => chainB hX (law2_awake X))
    clear HSM
    generalize w.alloc (.cells #[Value.slice a0 l0.length k0, Value.slice a1 l1.length k1] 25) = W at *
    go_wp2_with fail
    refine (HM.out _ HB.out).mono ?_
    rintro e w3 ⟨x, u, hx, rfl, hown, hb3'⟩
    have hb3 := HB.out.trans (hb3'.mono HB.out.size)
    have hxl := MeetR_len hx
    have IX := hid (Ints.of_owns hown (by omega))
    have HX := hid hx
    have HB3 := hid hb3
    clear hown hb3' hb3 hx
    go_wp2_with fail
    refine (HRM.out _ HB3.out).mono ?_
    rintro e w4 ⟨y, u4, hy, rfl, hown, hb4'⟩
    obtain rfl : x = y := HX.out.unique hy
    have hb4 := HB3.out.trans (hb4'.mono HB3.out.size)
    have IY := hid (Ints.of_owns hown (by omega))
    have IX := hid (IX.out.below hb4')
    have HB4 := hid hb4
    clear hown hb4' hb4 hy
    obtain ⟨x1, x2⟩ := x
    simp only at IX IY hxl
    have n1 : (x2 != x2) = false := by simp
    go_wp2_with fail
    refine (ref1_Same u u4 x1 x1 _ IX.out IY.out).mono ?_
    rintro e w5 ⟨rfl, n5, rfl⟩
    rw [show decide (x1 = x1) = true from by simp]
    have hb5 := below_drewN HB4.out n5
    have IX := hid (IX.out.drewN n5)
    have HB5 := hid hb5
    clear hb5 IY
    generalize w4.drewN n5 = w5 at *
    go_wp2_with fail
    refine (HN.out _ HB5.out).mono ?_
    rintro e w6 ⟨z, hz, rfl, hb6'⟩
    have hb6 := HB5.out.trans (hb6'.mono HB5.out.size)
    have IX := hid (IX.out.below hb6')
    have HB6 := hid hb6
    have HZ := hid hz
    clear hb6' hb6 hz
    go_wp2_with fail
    refine (HRN.out _ HB6.out).mono ?_
    rintro e w7 ⟨z', hz', rfl, hb7'⟩
    obtain rfl : z = z' := HZ.out.unique hz'
    have hb7 := HB6.out.trans (hb7'.mono HB6.out.size)
    have IX := hid (IX.out.below hb7')
    have HB7 := hid hb7
    have n2 : (z != z) = false := by simp
    clear hb7' hb7 hz'
    go_wp2_with fail
    refine (HMS.out _ HB7.out).mono ?_
    rintro e w8 ⟨y, u8, hy, rfl, hown, hb8'⟩
    obtain rfl : (x1, x2) = y := HX.out.swap hy
    have hb8 := HB7.out.trans (hb8'.mono HB7.out.size)
    have IY := hid (Ints.of_owns hown (by simp only; omega))
    have IX := hid (IX.out.below hb8')
    have HB8 := hid hb8
    clear hown hb8' hb8 hy
    simp only at IY
    by_cases h00 : x2 = 0
    · subst h00
      have HBO := hid (meet_both HX.out rfl)
      have HIF := hid (meet_iff HX.out rfl)
      have HSE := hid (meet_self HX.out rfl)
      simp only at HBO HIF HSE
      have HI8 := hid (fun (X : World) (hX : Below w8.heap.size w8 X) (u v : Value) (a b : List Int) (ra : Ints X u a) (rb : Ints X v b) => chainB hX (unify_Instance vs u v s a b X ((HS.out.below HB8.out).below hX) ra rb hs40))
      have HA8 := hid (fun (X : World) (hX : Below w8.heap.size w8 X) (u v : Value) (a b : List Int) (ra : Ints X u a) (rb : Ints X v b) => chainB hX (term_Alike vs u v s a b X ((HS.out.below HB8.out).below hX) ra rb hs40))
      have H08 := hid (H0.out.below HB8.out)
      have H18 := hid (H1.out.below HB8.out)
      clear HI HA HM HMS HN HRM HRN
      go_wp2_with fail
      refine (HA8.out _ (Below.refl _ _) _ _ _ _ IY.out IX.out).mono ?_
      rintro e w9 ⟨rfl, hb9⟩
      rw [HSE.out]
      have HB9 := hid hb9
      clear hb9
      go_wp2_with fail
      refine (HI8.out _ HB9.out _ _ _ _ (H08.out.below HB9.out) (IX.out.below HB9.out)).mono ?_
      rintro e w10 ⟨rfl, hb10⟩
      rw [HBO.out.1]
      have HB10 := hid hb10
      clear hb10
      go_wp2_with fail
      refine (HI8.out _ HB10.out _ _ _ _ (H18.out.below HB10.out) (IX.out.below HB10.out)).mono ?_
      rintro e w11 ⟨rfl, hb11⟩
      rw [HBO.out.2]
      have HB11 := hid hb11
      clear hb11
      go_wp2_with fail
      refine (HI8.out _ HB11.out _ _ _ _ (H08.out.below HB11.out) (H18.out.below HB11.out)).mono ?_
      rintro e w12 ⟨rfl, hb12⟩
      rw [HIF.out]
      have HB12 := hid hb12
      clear hb12
      go_wp2_with fail
      refine (HA8.out _ HB12.out _ _ _ _ (IX.out.below HB12.out) (H18.out.below HB12.out)).mono ?_
      rintro e w13 ⟨rfl, hb13⟩
      generalize alikeB s x1 l1 = z9
      have n4 : (z9 == z9) = true := by simp
      have HB13 := hid (HB8.out.trans (hb13.mono HB8.out.size))
      clear hb13
      go_wp2_with fail
      refine (HW.out _ HB13.out).mono ?_
      rintro e w14 ⟨rfl, hb14⟩
      have HB14 := hid hb14
      clear hb14
      go_wp2
      go_ret
      exact ⟨rfl, HB14.out⟩
    · have HF := hid (meet_not HX.out h00)
      have n3 : (x2 != 0) = true := by simpa using h00
      go_wp2_with fail
      refine (HI.out _ HB8.out _ _ _ _ (H0.out.below HB8.out) (H1.out.below HB8.out)).mono ?_
      rintro e w9 ⟨rfl, hb9⟩
      rw [HF.out]
      have HB9 := hid hb9
      clear hb9
      go_wp2_with fail
      refine (HW.out _ HB9.out).mono ?_
      rintro e w10 ⟨rfl, hb10⟩
      have HB10 := hid hb10
      clear hb10
      go_wp2
      go_ret
      exact ⟨rfl, HB10.out⟩
end Go.Proofs.Ytidigpfiagjeiaa
