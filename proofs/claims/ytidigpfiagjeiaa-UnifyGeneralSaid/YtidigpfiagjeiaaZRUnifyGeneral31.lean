/-
  WHAT IT HOLDS: contract of Meet of the reference (layer 2). Conditions: the arguments read as data.
  WHAT IT HOLDS: contracts of Unifiable, Unified of package unify. Conditions: the arguments read as data; small signs.
  WHAT IT HOLDS: contracts of Unifiable, Unified of the reference (layer 2). Conditions: the arguments read as data.
-/
import Derived.Test.YtidigpfiagjeiaaZRUnifyGeneral30
import Derived.Test.YtidigpfiagjeiaaZRUnifyGeneral29
namespace Go.Proofs.Ytidigpfiagjeiaa
open Go Go.RowKit Go.Maps
set_option maxHeartbeats 4000000 in
set_option maxRecDepth 100000 in
theorem ref2_Meet (vs va vb : Value) (s : Sg) (a b : List Int) (w : World) (hs : SignAt w vs s) (ra : Ints w va a) (rb : Ints w vb b) :
    Calls Try.prog 25 #[vs, va, vb] w fun e w' => ∃ x u, MeetR s a b x ∧ e = .returned (.tuple #[u, .int .i64 x.2]) ∧ w'.ownsRow w.heap.size 3 1 u x.1.length (x.1.map (Value.int .i64)) ∧ Below w.heap.size w w' := by
  obtain ⟨sa, sc, hse, -⟩ := hs.open
  subst hse
  go_enter Try.func25, Try.ntmps25
  go_wp2_with fail
  refine (ref1_Valid _ _ s a _ hs ra).mono ?_
  rintro e w2 ⟨rfl, n2, rfl⟩
  have hb2 : Below w.heap.size w (w.drewN n2) := below_self_drewN w n2
  cases h1 : termB s a with
  | false =>
    have HR : Hid (MeetR s a b ([], 1)) := hid (by unfold MeetR; rw [h1]; simp)
    clear hs ra rb
    go_wp2
    go_ret2
    exact ⟨([], 1), _, HR.out, rfl, World.ownsRow_nil _ _ _ _, hb2⟩
  | true =>
    have H1 := hid h1
    clear h1
    go_wp2_with fail
    refine (ref1_Valid _ _ s b _ (hs.below hb2) (rb.below hb2)).mono ?_
    rintro e w3 ⟨rfl, n3, rfl⟩
    have hb3 : Below w.heap.size w ((w.drewN n2).drewN n3) := below_drewN hb2 n3
    generalize (w.drewN n2).drewN n3 = W0 at *
    cases h2 : termB s b with
    | false =>
      have HR : Hid (MeetR s a b ([], 1)) := hid (by unfold MeetR; rw [h2]; simp)
      clear hs ra rb hb2
      go_wp2
      go_ret2
      exact ⟨([], 1), _, HR.out, rfl, World.ownsRow_nil _ _ _ _, hb3⟩
    | true =>
      have HR : Hid (∀ x, UR s a (aparL b) a x → MeetR s a b x) := hid (by intro x hx; unfold MeetR; rw [H1.out, h2]; simpa using hx)
      obtain ⟨f1, f2, f3, f4⟩ := termB_facts H1.out
      obtain ⟨_, _, _, f5⟩ := termB_facts h2
      have ta := termB_T H1.out
      have tb := termB_T h2
      have hb0 := tb.ne
      have TA := hid (ta.mono (m' := 24) (by omega))
      have TB := hid (aparL_T tb)
      have TS := hid (T_small12 tb f3)
      have LB := hid (aparL_len b)
      have hsz3 := hb3.size
      obtain ⟨W, cs, hag, hS1, hb1, hst0, hst1, hst2, hsz, -⟩ := sol_new W0 s sa sc (hs.below hb3)
      have hag2 : True → _ := fun _ => hag
      have HS1 := hid hS1
      have HB1 := hid hb1
      have HB3 := hid hb3
      have HRA := hid ra
      have HRB := hid rb
      clear h2 ta tb hS1 ra rb hs hb2 hb3 hb1 hag
      go_wp2_with fail
      clear hst0 hst1 hst2 hsz hag2
      have HBW := hid (HB3.out.trans (HB1.out.mono hsz3))
      have HSV := hid (fun (W4 : World) (ub : Value) (h : Below W.heap.size W W4) (hw : Below w.heap.size w W4) (r : Ints W4 ub (aparL b)) => ref2_Solve W0.heap.size (.slice sa s.length sc) s f1 (meas1 (mR (fun _ => none)) a + 1) a (aparL b) va ub (fun _ => none) W4 (by omega) (HS1.out.below h) (by rw [mR_none']; exact MOK.empty s) TA.out TB.out f4 (by rw [LB.out]; exact f5) (HRA.out.below hw) r)
      refine (ref2_Apart vb b W (HRB.out.below HBW.out) hb0 (by omega) TS.out).mono ?_
      rintro e w4 ⟨ub, rfl, hown, hb4⟩
      have rb4 := Ints.of_owns hown (by rw [LB.out]; omega)
      have hb4w := HBW.out.trans (hb4.mono HBW.out.size)
      have HSV4 := hid (HSV.out w4 ub hb4 hb4w rb4)
      have HB4 := hid hb4w
      clear hown hb4 hb4w rb4
      go_wp2_with fail
      refine HSV4.out.mono ?_
      intro e w5 hpost
      obtain ⟨z, T', rfl, hS', hg, hok, hno⟩ := hpost.bool
      rw [mR_none'] at hok hno
      have HB5 : Hid (Below w.heap.size w w5) := hid (HB4.out.grown hg HB4.out.size (fun q hq => by cases hq; exact hsz3))
      cases z with
      | false =>
        have HX : Hid (MeetR s a b ([], 8)) := hid (HR.out _ (Or.inl ⟨(hno rfl).nou, rfl⟩))
        clear hpost hS' hg hok hno
        go_wp2
        go_ret2
        exact ⟨([], 8), _, HX.out, rfl, World.ownsRow_nil _ _ _ _, HB5.out⟩
      | true =>
        have hmgu := (hok rfl).mgu
        have HFW := hid (ref2_Few W0.heap.size (.slice sa s.length sc) va s T' a w5 hmgu.1 hS' TA.out f4 (HRA.out.below HB5.out) (by omega))
        have HMG := hid hmgu
        have hsz5 := HB5.out.size
        clear hpost hS' hg hok hno hmgu
        go_wp2_with fail
        refine HFW.out.mono ?_
        rintro e w6 ⟨u, hb6, ⟨hm, rfl, hown⟩ | ⟨hm, rfl⟩⟩
        · have HX : Hid (MeetR s a b (canonL (fw (mR T') a), 0)) := hid (HR.out _ (Or.inr ⟨_, HMG.out, Or.inl ⟨hm, rfl⟩⟩))
          have HO := hid (owns_base hown hsz5)
          have HB6 := hid (HB5.out.trans (hb6.mono hsz5))
          clear hown hb6 hm
          go_wp2
          go_ret2
          exact ⟨(canonL (fw (mR T') a), 0), u, HX.out, rfl, HO.out, HB6.out⟩
        · have HX : Hid (MeetR s a b ([], 4)) := hid (HR.out _ (Or.inr ⟨_, HMG.out, Or.inr ⟨hm, rfl⟩⟩))
          have HB6 := hid (HB5.out.trans (hb6.mono hsz5))
          clear hb6 hm
          go_wp2
          go_ret2
          exact ⟨([], 4), _, HX.out, rfl, World.ownsRow_nil _ _ _ _, HB6.out⟩
end Go.Proofs.Ytidigpfiagjeiaa
namespace Go.Proofs.Ytidigpfiagjeiaa
open Go Go.RowKit Go.Maps
/-- whether two terms have a unifier, as an answer. -/
def UniQ (s : Sg) (a b : List Int) : Prop := termB s a = true ∧ termB s b = true ∧ ¬ NoU s a b
def UniA (s : Sg) (a b : List Int) (z : Bool) : Prop := z = true ↔ UniQ s a b
theorem UniA.unique {s : Sg} {a b : List Int} {z y : Bool} (h : UniA s a b z) (k : UniA s a b y) : z = y := by
  unfold UniA at h k; cases z <;> cases y <;> simp_all
set_option maxHeartbeats 1000000 in
theorem unify_Unifiable (vs va vb : Value) (s : Sg) (a b : List Int) (w : World) (hs : SignAt w vs s) (ra : Ints w va a) (rb : Ints w vb b) (hs1 : s.length ≤ 1000) :
    Calls Try.prog 50 #[vs, va, vb] w fun e w' => ∃ z, UniA s a b z ∧ e = .returned (.bool z) ∧ Below w.heap.size w w' := by
  cases h1 : termB s a
  · have HR : Hid (UniA s a b false) := hid (by unfold UniA UniQ; rw [h1]; simp)
    go_enter Try.func50, Try.ntmps50
    go_wp2_with (first | (go_at_call 21; refine (term_Valid' _ _ _ _ _ hs ra hs1).mono ?_; rintro e w1 ⟨rfl, hb1⟩))
    go_ret
    exact ⟨_, HR.out, rfl, hb1⟩
  · cases h2 : termB s b
    · have HR : Hid (UniA s a b false) := hid (by unfold UniA UniQ; rw [h2]; simp)
      have H1 := hid h1
      have H2 := hid h2
      clear h1 h2
      go_enter Try.func50, Try.ntmps50
      go_wp2_with fail
      refine (term_Valid' _ _ _ _ _ hs ra hs1).mono ?_
      rintro e w1 ⟨rfl, hb1⟩
      rw [H1.out]
      go_wp2_with fail
      refine (term_Valid' _ _ _ _ _ (hs.below hb1) (rb.below hb1) hs1).mono ?_
      rintro e w2 ⟨rfl, hb2⟩
      rw [H2.out]
      have HB := hid (hb1.trans (hb2.mono hb1.size))
      clear hb1 hb2
      go_wp2
      go_ret
      exact ⟨_, HR.out, rfl, HB.out⟩
    · have HR : Hid (¬ NoU s a b ↔ UniQ s a b) := hid (by unfold UniQ; rw [h1, h2]; simp)
      obtain ⟨f1, f2, f3, f4⟩ := termB_facts h1
      obtain ⟨_, _, _, f5⟩ := termB_facts h2
      have ta := termB_T h1
      have tb := termB_T h2
      have hb0 := tb.ne
      have H1 := hid h1
      have H2 := hid h2
      have TA := hid (ta.mono (m' := 24) (by omega))
      have TB := hid (tb.mono (m' := 24) (by omega))
      clear h1 h2 ta tb
      go_enter Try.func50, Try.ntmps50
      go_wp2_with fail
      refine (term_Valid' _ _ _ _ _ hs ra hs1).mono ?_
      rintro e w1 ⟨rfl, hb1⟩
      rw [H1.out]
      go_wp2_with fail
      refine (term_Valid' _ _ _ _ _ (hs.below hb1) (rb.below hb1) hs1).mono ?_
      rintro e w2 ⟨rfl, hb2'⟩
      rw [H2.out]
      have hb2 := hb1.trans (hb2'.mono hb1.size)
      go_wp2_with fail
      clear hb2'
      refine (unify_solved _ _ _ s a b _ f1 TA.out TB.out f4 f5 (hs.below hb2) (ra.below hb2) (rb.below hb2)).mono ?_
      rintro e w4 ⟨hb4', px, ⟨rfl, hno⟩ | ⟨rfl, bm, M, hS, hmgu⟩⟩
      · have HB := hid (hb2.trans (hb4'.mono hb2.size))
        have HX : Hid (UniA s a b false) := hid (by unfold UniA; rw [← HR.out]; simpa using hno)
        clear hb4' hno hb1 hb2
        go_wp2
        go_ret
        exact ⟨_, HX.out, rfl, HB.out⟩
      · have HB := hid (hb2.trans (hb4'.mono hb2.size))
        have HX : Hid (UniA s a b true) := hid (by unfold UniA; rw [← HR.out]; simpa using fun h => hmgu.not_no h)
        clear hb4' hmgu hS hb1 hb2
        go_wp2
        go_ret
        exact ⟨true, HX.out, rfl, HB.out⟩
set_option maxHeartbeats 1000000 in
theorem unify_Unified (vs va vb : Value) (s : Sg) (a b : List Int) (w : World) (hs : SignAt w vs s) (ra : Ints w va a) (rb : Ints w vb b) (hs1 : s.length ≤ 1000) :
    Calls Try.prog 51 #[vs, va, vb] w fun e w' => ∃ x u, UnifR s a b x ∧ e = .returned (.tuple #[u, .int .i64 x.2]) ∧ w'.ownsRow w.heap.size 3 1 u x.1.length (x.1.map (Value.int .i64)) ∧ Below w.heap.size w w' := by
  cases h1 : termB s a
  · have HR : Hid (UnifR s a b ([], 1)) := hid (by unfold UnifR; rw [h1]; simp)
    go_enter Try.func51, Try.ntmps51
    go_wp2_with (first | (go_at_call 21; refine (term_Valid' _ _ _ _ _ hs ra hs1).mono ?_; rintro e w1 ⟨rfl, hb1⟩))
    go_ret2
    exact ⟨([], 1), _, HR.out, rfl, World.ownsRow_nil _ _ _ _, hb1⟩
  · cases h2 : termB s b
    · have HR : Hid (UnifR s a b ([], 1)) := hid (by unfold UnifR; rw [h2]; simp)
      have H1 := hid h1
      have H2 := hid h2
      clear h1 h2
      go_enter Try.func51, Try.ntmps51
      go_wp2_with fail
      refine (term_Valid' _ _ _ _ _ hs ra hs1).mono ?_
      rintro e w1 ⟨rfl, hb1⟩
      rw [H1.out]
      go_wp2_with fail
      refine (term_Valid' _ _ _ _ _ (hs.below hb1) (rb.below hb1) hs1).mono ?_
      rintro e w2 ⟨rfl, hb2⟩
      rw [H2.out]
      have HB := hid (hb1.trans (hb2.mono hb1.size))
      clear hb1 hb2
      go_wp2
      go_ret2
      exact ⟨([], 1), _, HR.out, rfl, World.ownsRow_nil _ _ _ _, HB.out⟩
    · have HR : Hid (∀ x, UR s a b a x → UnifR s a b x) := hid (by intro x hx; unfold UnifR; rw [h1, h2]; simpa using hx)
      obtain ⟨f1, f2, f3, f4⟩ := termB_facts h1
      obtain ⟨_, _, _, f5⟩ := termB_facts h2
      have ta := termB_T h1
      have tb := termB_T h2
      have hb0 := tb.ne
      have H1 := hid h1
      have H2 := hid h2
      have TA := hid (ta.mono (m' := 24) (by omega))
      have TB := hid (tb.mono (m' := 24) (by omega))
      clear h1 h2 ta tb
      go_enter Try.func51, Try.ntmps51
      go_wp2_with fail
      refine (term_Valid' _ _ _ _ _ hs ra hs1).mono ?_
      rintro e w1 ⟨rfl, hb1⟩
      rw [H1.out]
      go_wp2_with fail
      refine (term_Valid' _ _ _ _ _ (hs.below hb1) (rb.below hb1) hs1).mono ?_
      rintro e w2 ⟨rfl, hb2'⟩
      rw [H2.out]
      have hb2 := hb1.trans (hb2'.mono hb1.size)
      go_wp2_with fail
      clear hb2'
      refine (unify_solved _ _ _ s a b _ f1 TA.out TB.out f4 f5 (hs.below hb2) (ra.below hb2) (rb.below hb2)).mono ?_
      rintro e w4 ⟨hb4', px, ⟨rfl, hno⟩ | ⟨rfl, bm, M, hS, hmgu⟩⟩
      · have HB := hid (hb2.trans (hb4'.mono hb2.size))
        have HX : Hid (UnifR s a b ([], 8)) := hid (HR.out _ (Or.inl ⟨hno, rfl⟩))
        clear hb4' hno hb1 hb2
        go_wp2
        go_ret2
        exact ⟨([], 8), _, HX.out, rfl, World.ownsRow_nil _ _ _ _, HB.out⟩
      · have hb4 := hb2.trans (hb4'.mono hb2.size)
        have HMD := hid (unify_made px bm _ _ s M a w4 hmgu.1 hS TA.out f4 (ra.below hb4) hs1)
        have HMG := hid hmgu
        have HB := hid hb4
        have hsz := hb4.size
        clear hb4' hb4 hmgu hS hb1 hb2
        go_wp2_with fail
        refine HMD.out.mono ?_
        rintro e w5 ⟨hb5, ⟨hm, u, rfl, hown⟩ | ⟨hm, rfl⟩⟩
        · have HX : Hid (UnifR s a b (canonL (fw (mOf M) a), 0)) := hid (HR.out _ (Or.inr ⟨_, HMG.out, Or.inl ⟨hm, rfl⟩⟩))
          have HO := hid (owns_base hown hsz)
          have HB5 := hid (HB.out.trans (hb5.mono hsz))
          clear hown hb5 hm
          go_wp2
          go_ret2
          exact ⟨_, _, HX.out, rfl, HO.out, HB5.out⟩
        · have HX : Hid (UnifR s a b ([], 4)) := hid (HR.out _ (Or.inr ⟨_, HMG.out, Or.inr ⟨hm, rfl⟩⟩))
          have HB5 := hid (HB.out.trans (hb5.mono hsz))
          clear hb5 hm
          go_wp2
          go_ret2
          exact ⟨([], 4), _, HX.out, rfl, World.ownsRow_nil _ _ _ _, HB5.out⟩
end Go.Proofs.Ytidigpfiagjeiaa
namespace Go.Proofs.Ytidigpfiagjeiaa
open Go Go.RowKit Go.Maps
set_option maxHeartbeats 4000000 in
set_option maxRecDepth 100000 in
theorem ref2_Unifiable (vs va vb : Value) (s : Sg) (a b : List Int) (w : World) (hs : SignAt w vs s) (ra : Ints w va a) (rb : Ints w vb b) :
    Calls Try.prog 55 #[vs, va, vb] w fun e w' => ∃ z, UniA s a b z ∧ e = .returned (.bool z) ∧ Below w.heap.size w w' := by
  obtain ⟨sa, sc, hse, -⟩ := hs.open
  subst hse
  obtain ⟨W, cs, hag, hS1, hb1, hst0, hst1, hst2, hsz, -⟩ := sol_new w s sa sc hs
  have hag2 : True → _ := fun _ => hag
  clear hag
  go_enter Try.func55, Try.ntmps55
  go_wp2_with fail
  clear hst0 hst1 hst2 hsz
  clear hag2
  have HS1 := hid hS1
  have ra1 := ra.below hb1
  have rb1 := rb.below hb1
  clear hs ra rb
  refine (ref1_Valid _ _ s a _ hS1.sgn ra1).mono ?_
  rintro e w2 ⟨rfl, n2, rfl⟩
  have hb2 := below_drewN hb1 n2
  have hB2 : Below W.heap.size W (W.drewN n2) := below_self_drewN W n2
  cases h1 : termB s a with
  | false =>
    have HR : Hid (UniA s a b false) := hid (by unfold UniA UniQ; rw [h1]; simp)
    clear hS1 ra1 rb1 hB2
    go_wp2
    go_ret
    exact ⟨_, HR.out, rfl, hb2⟩
  | true =>
    have H1 := hid h1
    clear h1
    go_wp2_with fail
    refine (ref1_Valid _ _ s b _ (hS1.sgn.below hB2) (rb1.below hB2)).mono ?_
    rintro e w3 ⟨rfl, n3, rfl⟩
    have hb3 := below_drewN hb2 n3
    have hB3 : Below W.heap.size W ((W.drewN n2).drewN n3) := below_drewN hB2 n3
    generalize (W.drewN n2).drewN n3 = W3 at *
    cases h2 : termB s b with
    | false =>
      have HR : Hid (UniA s a b false) := hid (by unfold UniA UniQ; rw [h2]; simp)
      clear hS1 ra1 rb1 hB2 hB3 hb2
      go_wp2
      go_ret
      exact ⟨_, HR.out, rfl, hb3⟩
    | true =>
      have HR : Hid (¬ NoU s a b ↔ UniQ s a b) := hid (by unfold UniQ; rw [H1.out, h2]; simp)
      obtain ⟨f1, f2, f3, f4⟩ := termB_facts H1.out
      obtain ⟨_, _, _, f5⟩ := termB_facts h2
      have ta := termB_T H1.out
      have tb := termB_T h2
      have hb0 := tb.ne
      have TA := hid (ta.mono (m' := 24) (by omega))
      have TB := hid (tb.mono (m' := 24) (by omega))
      have HSV4 := hid (ref2_Solve w.heap.size (.slice sa s.length sc) s f1 (meas1 (mR (fun _ => none)) a + 1) a b va vb (fun _ => none) W3 (by omega) (HS1.out.below hB3) (by rw [mR_none']; exact MOK.empty s) TA.out TB.out f4 f5 (ra1.below hB3) (rb1.below hB3))
      have HB4 := hid hb3
      clear h2 ta tb hS1 ra1 rb1 hB2 hb2 hB3 hb3
      go_wp2_with fail
      refine HSV4.out.mono ?_
      intro e w5 hpost
      obtain ⟨z, T', rfl, hS', hg, hok, hno⟩ := hpost.bool
      rw [mR_none'] at hok hno
      have HB5 : Hid (Below w.heap.size w w5) := hid (HB4.out.grown hg HB4.out.size (fun q hq => by cases hq; exact Nat.le_refl _))
      have HX : Hid (UniA s a b z) := hid (by
        unfold UniA
        rw [← HR.out]
        cases z with
        | true => simpa using fun h => (hok rfl).mgu.not_no h
        | false => simpa using (hno rfl).nou)
      clear hpost hS' hg hok hno
      go_wp2
      go_ret
      exact ⟨z, HX.out, rfl, HB5.out⟩
set_option maxHeartbeats 4000000 in
set_option maxRecDepth 100000 in
theorem ref2_Unified (vs va vb : Value) (s : Sg) (a b : List Int) (w : World) (hs : SignAt w vs s) (ra : Ints w va a) (rb : Ints w vb b) :
    Calls Try.prog 54 #[vs, va, vb] w fun e w' => ∃ x u, UnifR s a b x ∧ e = .returned (.tuple #[u, .int .i64 x.2]) ∧ w'.ownsRow w.heap.size 3 1 u x.1.length (x.1.map (Value.int .i64)) ∧ Below w.heap.size w w' := by
  obtain ⟨sa, sc, hse, -⟩ := hs.open
  subst hse
  go_enter Try.func54, Try.ntmps54
  go_wp2_with fail
  refine (ref1_Valid _ _ s a _ hs ra).mono ?_
  rintro e w2 ⟨rfl, n2, rfl⟩
  have hb2 : Below w.heap.size w (w.drewN n2) := below_self_drewN w n2
  cases h1 : termB s a with
  | false =>
    have HR : Hid (UnifR s a b ([], 1)) := hid (by unfold UnifR; rw [h1]; simp)
    clear hs ra rb
    go_wp2
    go_ret2
    exact ⟨([], 1), _, HR.out, rfl, World.ownsRow_nil _ _ _ _, hb2⟩
  | true =>
    have H1 := hid h1
    clear h1
    go_wp2_with fail
    refine (ref1_Valid _ _ s b _ (hs.below hb2) (rb.below hb2)).mono ?_
    rintro e w3 ⟨rfl, n3, rfl⟩
    have hb3 : Below w.heap.size w ((w.drewN n2).drewN n3) := below_drewN hb2 n3
    generalize (w.drewN n2).drewN n3 = W0 at *
    cases h2 : termB s b with
    | false =>
      have HR : Hid (UnifR s a b ([], 1)) := hid (by unfold UnifR; rw [h2]; simp)
      clear hs ra rb hb2
      go_wp2
      go_ret2
      exact ⟨([], 1), _, HR.out, rfl, World.ownsRow_nil _ _ _ _, hb3⟩
    | true =>
      have HR : Hid (∀ x, UR s a b a x → UnifR s a b x) := hid (by intro x hx; unfold UnifR; rw [H1.out, h2]; simpa using hx)
      obtain ⟨f1, f2, f3, f4⟩ := termB_facts H1.out
      obtain ⟨_, _, _, f5⟩ := termB_facts h2
      have ta := termB_T H1.out
      have tb := termB_T h2
      have hb0 := tb.ne
      have TA := hid (ta.mono (m' := 24) (by omega))
      have TB := hid (tb.mono (m' := 24) (by omega))
      have hsz3 := hb3.size
      obtain ⟨W, cs, hag, hS1, hb1, hst0, hst1, hst2, hsz, -⟩ := sol_new W0 s sa sc (hs.below hb3)
      have hag2 : True → _ := fun _ => hag
      have HS1 := hid hS1
      have HB1 := hid hb1
      have HB3 := hid hb3
      have HRA := hid ra
      have HRB := hid rb
      clear h2 ta tb hS1 ra rb hs hb2 hb3 hb1 hag
      go_wp2_with fail
      clear hst0 hst1 hst2 hsz hag2
      have HBW := hid (HB3.out.trans (HB1.out.mono hsz3))
      have HSV4 := hid (ref2_Solve W0.heap.size (.slice sa s.length sc) s f1 (meas1 (mR (fun _ => none)) a + 1) a b va vb (fun _ => none) W (by omega) HS1.out (by rw [mR_none']; exact MOK.empty s) TA.out TB.out f4 f5 (HRA.out.below HBW.out) (HRB.out.below HBW.out))
      have HB4 := HBW
      refine HSV4.out.mono ?_
      intro e w5 hpost
      obtain ⟨z, T', rfl, hS', hg, hok, hno⟩ := hpost.bool
      rw [mR_none'] at hok hno
      have HB5 : Hid (Below w.heap.size w w5) := hid (HB4.out.grown hg HB4.out.size (fun q hq => by cases hq; exact hsz3))
      cases z with
      | false =>
        have HX : Hid (UnifR s a b ([], 8)) := hid (HR.out _ (Or.inl ⟨(hno rfl).nou, rfl⟩))
        clear hpost hS' hg hok hno
        go_wp2
        go_ret2
        exact ⟨([], 8), _, HX.out, rfl, World.ownsRow_nil _ _ _ _, HB5.out⟩
      | true =>
        have hmgu := (hok rfl).mgu
        have HFW := hid (ref2_Few W0.heap.size (.slice sa s.length sc) va s T' a w5 hmgu.1 hS' TA.out f4 (HRA.out.below HB5.out) (by omega))
        have HMG := hid hmgu
        have hsz5 := HB5.out.size
        clear hpost hS' hg hok hno hmgu
        go_wp2_with fail
        refine HFW.out.mono ?_
        rintro e w6 ⟨u, hb6, ⟨hm, rfl, hown⟩ | ⟨hm, rfl⟩⟩
        · have HX : Hid (UnifR s a b (canonL (fw (mR T') a), 0)) := hid (HR.out _ (Or.inr ⟨_, HMG.out, Or.inl ⟨hm, rfl⟩⟩))
          have HO := hid (owns_base hown hsz5)
          have HB6 := hid (HB5.out.trans (hb6.mono hsz5))
          clear hown hb6 hm
          go_wp2
          go_ret2
          exact ⟨(canonL (fw (mR T') a), 0), u, HX.out, rfl, HO.out, HB6.out⟩
        · have HX : Hid (UnifR s a b ([], 4)) := hid (HR.out _ (Or.inr ⟨_, HMG.out, Or.inr ⟨hm, rfl⟩⟩))
          have HB6 := hid (HB5.out.trans (hb6.mono hsz5))
          clear hb6 hm
          go_wp2
          go_ret2
          exact ⟨([], 4), _, HX.out, rfl, World.ownsRow_nil _ _ _ _, HB6.out⟩
end Go.Proofs.Ytidigpfiagjeiaa
