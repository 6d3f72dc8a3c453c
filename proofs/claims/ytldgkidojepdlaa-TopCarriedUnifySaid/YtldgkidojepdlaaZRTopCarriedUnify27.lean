/-
  WHAT IT HOLDS: contracts of Meets, Join of package unify, and of the helper awake of the laws of layer 2. Conditions: the arguments read as data; small signs.
  WHAT IT HOLDS: contracts of Unifiable, Unified of package unify. Conditions: the arguments read as data; small signs.
  WHAT IT HOLDS: the contract of the helper awake5 of the laws through the layers. No condition.
-/
import Derived.Test.YtldgkidojepdlaaZRTopCarriedUnify26
import Derived.Test.YtldgkidojepdlaaZRTopCarriedUnify23
namespace Go.Proofs.Ytldgkidojepdlaa
open Go Go.RowKit Go.Maps
set_option maxHeartbeats 1000000 in
theorem unify_Meets (vs va vb : Value) (s : Sg) (a b : List Int) (w : World) (hs : SignAt w vs s) (ra : Ints w va a) (rb : Ints w vb b) (hs1 : s.length ≤ 1000) :
    Calls Try.prog 30 #[vs, va, vb] w fun e w' => ∃ z, MeetsA s a b z ∧ e = .returned (.bool z) ∧ Below w.heap.size w w' := by
  cases h1 : termB s a
  · have HR : Hid (MeetsA s a b false) := hid (by unfold MeetsA MeetsQ; rw [h1]; simp)
    go_enter Try.func30, Try.ntmps30
    go_wp2_with (first | (go_at_call 41; refine (term_Valid' _ _ _ _ _ hs ra hs1).mono ?_; rintro e w1 ⟨rfl, hb1⟩))
    go_ret
    exact ⟨_, HR.out, rfl, hb1⟩
  · cases h2 : termB s b
    · have HR : Hid (MeetsA s a b false) := hid (by unfold MeetsA MeetsQ; rw [h2]; simp)
      have H1 := hid h1
      have H2 := hid h2
      clear h1 h2
      go_enter Try.func30, Try.ntmps30
      go_wp2_with fail
      refine (term_Valid' _ _ _ _ _ hs ra hs1).mono ?_
      rintro e w1 ⟨rfl, hb1⟩
      rw [H1.out]
      go_wp2_with fail
      refine (term_Valid' _ _ _ _ _ (hs.below hb1) (rb.below hb1) hs1).mono ?_
      rintro e w2 ⟨rfl, hb2⟩
      rw [H2.out]
      have HB := hid (hb1.trans (hb2.mono hb1.size))
      clear hb1 hb2
      go_wp2
      go_ret
      exact ⟨_, HR.out, rfl, HB.out⟩
    · have HR : Hid (¬ NoU s a (aparL b) ↔ MeetsQ s a b) := hid (by unfold MeetsQ; rw [h1, h2]; simp)
      obtain ⟨f1, f2, f3, f4⟩ := termB_facts h1
      obtain ⟨_, _, _, f5⟩ := termB_facts h2
      have ta := termB_T h1
      have tb := termB_T h2
      have hb0 := tb.ne
      have H1 := hid h1
      have H2 := hid h2
      have TA := hid (ta.mono (m' := 24) (by omega))
      have TB := hid (aparL_T tb)
      have TS := hid (T_small12 tb f3)
      have LB := hid (aparL_len b)
      clear h1 h2 ta tb
      go_enter Try.func30, Try.ntmps30
      go_wp2_with fail
      refine (term_Valid' _ _ _ _ _ hs ra hs1).mono ?_
      rintro e w1 ⟨rfl, hb1⟩
      rw [H1.out]
      go_wp2_with fail
      refine (term_Valid' _ _ _ _ _ (hs.below hb1) (rb.below hb1) hs1).mono ?_
      rintro e w2 ⟨rfl, hb2'⟩
      rw [H2.out]
      have hb2 := hb1.trans (hb2'.mono hb1.size)
      go_wp2_with fail
      refine (unify_apart _ b _ (rb.below hb2) hb0 (by omega) TS.out).mono ?_
      rintro e w3 ⟨ub, rfl, hown, hb3'⟩
      have hb3 := hb2.trans (hb3'.mono hb2.size)
      have rb3 := Ints.of_owns hown (by rw [LB.out]; omega)
      clear hb2' hb3' hb2 hown
      go_wp2_with fail
      refine (unify_solved _ _ _ s a (aparL b) _ f1 TA.out TB.out f4 (by rw [LB.out]; exact f5) (hs.below hb3) (ra.below hb3) rb3).mono ?_
      rintro e w4 ⟨hb4', px, ⟨rfl, hno⟩ | ⟨rfl, bm, M, hS, hmgu⟩⟩
      · have HB := hid (hb3.trans (hb4'.mono hb3.size))
        have HX : Hid (MeetsA s a b false) := hid (by unfold MeetsA; rw [← HR.out]; simpa using hno)
        clear hb4' hb3 hno rb3 hb1
        go_wp2
        go_ret
        exact ⟨_, HX.out, rfl, HB.out⟩
      · have HB := hid (hb3.trans (hb4'.mono hb3.size))
        have HX : Hid (MeetsA s a b true) := hid (by unfold MeetsA; rw [← HR.out]; simpa using fun h => hmgu.not_no h)
        clear hb4' hb3 hmgu hS rb3 hb1
        go_wp2
        go_ret
        exact ⟨true, HX.out, rfl, HB.out⟩
theorem mgu_awake : Mgu sCN [-1] [1, -13] (updM noM (-1) [1, -13]) := by
  have h1 : IsT sCN 24 [-1] := .var _ (by omega) (by omega)
  have h2 : IsT sCN 24 [1, -13] := .app 1 [[-13]] (by simp [sCN]) (by simp [sCN, arOf]) (by simp; exact .var _ (by omega) (by omega))
  have h0 := UInv.start h1 h2 (by simp) (by simp)
  have h3 := (UInv.bind (L := []) (x := [-1]) (y := [1, -13]) (v := -1) (q := [1, -13]) h0 (Or.inl ⟨.refl h1 (by simp), .refl h2 (by simp)⟩) (by omega) rfl (fun H => by
    cases H with
    | here _ _ h _ => simp at h
    | step _ _ n p g1 g2 g3 _ => simp [noM] at g3)).1
  exact h3.done
theorem meet_awake {x : List Int × Int} (h : MeetR sCN [-1] [1, -1] x) : x = ([1, -1], 0) := by
  have hv : (termB sCN [-1] && termB sCN [1, -1]) = true := by decide +kernel
  unfold MeetR at h
  rw [hv] at h
  simp only [if_true] at h
  have ha : aparL [1, -1] = [1, -13] := by decide +kernel
  rw [ha] at h
  have h1 : IsT sCN 24 [-1] := .var _ (by omega) (by omega)
  refine h.unique h1 (Or.inr ⟨_, mgu_awake, Or.inl ⟨?_, ?_⟩⟩)
  · decide +kernel
  · have : canonL (fw (updM noM (-1) [1, -13]) [-1]) = [1, -1] := by decide +kernel
    rw [this]
theorem join_awake {x : List Int × Int} (h : JoinR sCN [0, -1, -1] [0, 1, -1, 1, -2] x) : x = ([0, -1, -2], 0) := by
  unfold JoinR at h
  rw [h]
  decide +kernel
theorem ints_lit (w : World) (l : List Int) (T : TypeId) {arr : Array Value} {n : Nat} (h : arr = (l.map (Value.int .i64)).toArray := by rfl) (hn : n = l.length := by rfl) (hl : l.length ≤ 1000 := by decide) : Ints (w.alloc (.cells arr T)) (.slice (some ⟨w.heap.size, 0, none⟩) n n) l := by
  subst h hn
  have r := World.ownsRow_lit (base := 0) (e := T) (size := 1) w (l.map (Value.int .i64)).toArray l.length (by omega) (by simp [maxLen]; omega) (by simp)
  simp only [List.toList_toArray] at r
  exact Ints.of_owns r (by omega)
theorem sign_lit (w : World) (T : TypeId) : SignAt (w.alloc (.cells #[.string ⟨#[67]⟩, .int .i64 2, .string ⟨#[78]⟩, .int .i64 1] T)) (.slice (some ⟨w.heap.size, 0, none⟩) 2 2) sCN := by
  have r1 := World.ownsRow_lit (base := 0) (e := T) (size := 2) w #[.string ⟨#[67]⟩, .int .i64 2, .string ⟨#[78]⟩, .int .i64 1] 2 (by omega) (by simp [maxLen]) rfl
  refine ⟨RowK.of_owns r1 (by simp [sCN]), ?_⟩
  intro x hx
  simp [sCN] at hx
  rcases hx with rfl | rfl <;> simp [ByteArray.size]
end Go.Proofs.Ytldgkidojepdlaa
namespace Go.Proofs.Ytldgkidojepdlaa
open Go Go.RowKit Go.Maps
/-- whether two terms have a unifier, as an answer. -/
def UniQ (s : Sg) (a b : List Int) : Prop := termB s a = true ∧ termB s b = true ∧ ¬ NoU s a b
def UniA (s : Sg) (a b : List Int) (z : Bool) : Prop := z = true ↔ UniQ s a b
theorem UniA.unique {s : Sg} {a b : List Int} {z y : Bool} (h : UniA s a b z) (k : UniA s a b y) : z = y := by
  unfold UniA at h k; cases z <;> cases y <;> simp_all
set_option maxHeartbeats 1000000 in
theorem unify_Unifiable (vs va vb : Value) (s : Sg) (a b : List Int) (w : World) (hs : SignAt w vs s) (ra : Ints w va a) (rb : Ints w vb b) (hs1 : s.length ≤ 1000) :
    Calls Try.prog 27 #[vs, va, vb] w fun e w' => ∃ z, UniA s a b z ∧ e = .returned (.bool z) ∧ Below w.heap.size w w' := by
  cases h1 : termB s a
  · have HR : Hid (UniA s a b false) := hid (by unfold UniA UniQ; rw [h1]; simp)
    go_enter Try.func27, Try.ntmps27
    go_wp2_with (first | (go_at_call 41; refine (term_Valid' _ _ _ _ _ hs ra hs1).mono ?_; rintro e w1 ⟨rfl, hb1⟩))
    go_ret
    exact ⟨_, HR.out, rfl, hb1⟩
  · cases h2 : termB s b
    · have HR : Hid (UniA s a b false) := hid (by unfold UniA UniQ; rw [h2]; simp)
      have H1 := hid h1
      have H2 := hid h2
      clear h1 h2
      go_enter Try.func27, Try.ntmps27
      go_wp2_with fail
      refine (term_Valid' _ _ _ _ _ hs ra hs1).mono ?_
      rintro e w1 ⟨rfl, hb1⟩
      rw [H1.out]
      go_wp2_with fail
      refine (term_Valid' _ _ _ _ _ (hs.below hb1) (rb.below hb1) hs1).mono ?_
      rintro e w2 ⟨rfl, hb2⟩
      rw [H2.out]
      have HB := hid (hb1.trans (hb2.mono hb1.size))
      clear hb1 hb2
      go_wp2
      go_ret
      exact ⟨_, HR.out, rfl, HB.out⟩
    · have HR : Hid (¬ NoU s a b ↔ UniQ s a b) := hid (by unfold UniQ; rw [h1, h2]; simp)
      obtain ⟨f1, f2, f3, f4⟩ := termB_facts h1
      obtain ⟨_, _, _, f5⟩ := termB_facts h2
      have ta := termB_T h1
      have tb := termB_T h2
      have hb0 := tb.ne
      have H1 := hid h1
      have H2 := hid h2
      have TA := hid (ta.mono (m' := 24) (by omega))
      have TB := hid (tb.mono (m' := 24) (by omega))
      clear h1 h2 ta tb
      go_enter Try.func27, Try.ntmps27
      go_wp2_with fail
      refine (term_Valid' _ _ _ _ _ hs ra hs1).mono ?_
      rintro e w1 ⟨rfl, hb1⟩
      rw [H1.out]
      go_wp2_with fail
      refine (term_Valid' _ _ _ _ _ (hs.below hb1) (rb.below hb1) hs1).mono ?_
      rintro e w2 ⟨rfl, hb2'⟩
      rw [H2.out]
      have hb2 := hb1.trans (hb2'.mono hb1.size)
      go_wp2_with fail
      clear hb2'
      refine (unify_solved _ _ _ s a b _ f1 TA.out TB.out f4 f5 (hs.below hb2) (ra.below hb2) (rb.below hb2)).mono ?_
      rintro e w4 ⟨hb4', px, ⟨rfl, hno⟩ | ⟨rfl, bm, M, hS, hmgu⟩⟩
      · have HB := hid (hb2.trans (hb4'.mono hb2.size))
        have HX : Hid (UniA s a b false) := hid (by unfold UniA; rw [← HR.out]; simpa using hno)
        clear hb4' hno hb1 hb2
        go_wp2
        go_ret
        exact ⟨_, HX.out, rfl, HB.out⟩
      · have HB := hid (hb2.trans (hb4'.mono hb2.size))
        have HX : Hid (UniA s a b true) := hid (by unfold UniA; rw [← HR.out]; simpa using fun h => hmgu.not_no h)
        clear hb4' hmgu hS hb1 hb2
        go_wp2
        go_ret
        exact ⟨true, HX.out, rfl, HB.out⟩
set_option maxHeartbeats 1000000 in
theorem unify_Unified (vs va vb : Value) (s : Sg) (a b : List Int) (w : World) (hs : SignAt w vs s) (ra : Ints w va a) (rb : Ints w vb b) (hs1 : s.length ≤ 1000) :
    Calls Try.prog 26 #[vs, va, vb] w fun e w' => ∃ x u, UnifR s a b x ∧ e = .returned (.tuple #[u, .int .i64 x.2]) ∧ w'.ownsRow w.heap.size 3 1 u x.1.length (x.1.map (Value.int .i64)) ∧ Below w.heap.size w w' := by
  cases h1 : termB s a
  · have HR : Hid (UnifR s a b ([], 1)) := hid (by unfold UnifR; rw [h1]; simp)
    go_enter Try.func26, Try.ntmps26
    go_wp2_with (first | (go_at_call 41; refine (term_Valid' _ _ _ _ _ hs ra hs1).mono ?_; rintro e w1 ⟨rfl, hb1⟩))
    go_ret2
    exact ⟨([], 1), _, HR.out, rfl, World.ownsRow_nil _ _ _ _, hb1⟩
  · cases h2 : termB s b
    · have HR : Hid (UnifR s a b ([], 1)) := hid (by unfold UnifR; rw [h2]; simp)
      have H1 := hid h1
      have H2 := hid h2
      clear h1 h2
      go_enter Try.func26, Try.ntmps26
      go_wp2_with fail
      refine (term_Valid' _ _ _ _ _ hs ra hs1).mono ?_
      rintro e w1 ⟨rfl, hb1⟩
      rw [H1.out]
      go_wp2_with fail
      refine (term_Valid' _ _ _ _ _ (hs.below hb1) (rb.below hb1) hs1).mono ?_
      rintro e w2 ⟨rfl, hb2⟩
      rw [H2.out]
      have HB := hid (hb1.trans (hb2.mono hb1.size))
      clear hb1 hb2
      go_wp2
      go_ret2
      exact ⟨([], 1), _, HR.out, rfl, World.ownsRow_nil _ _ _ _, HB.out⟩
    · have HR : Hid (∀ x, UR s a b a x → UnifR s a b x) := hid (by intro x hx; unfold UnifR; rw [h1, h2]; simpa using hx)
      obtain ⟨f1, f2, f3, f4⟩ := termB_facts h1
      obtain ⟨_, _, _, f5⟩ := termB_facts h2
      have ta := termB_T h1
      have tb := termB_T h2
      have hb0 := tb.ne
      have H1 := hid h1
      have H2 := hid h2
      have TA := hid (ta.mono (m' := 24) (by omega))
      have TB := hid (tb.mono (m' := 24) (by omega))
      clear h1 h2 ta tb
      go_enter Try.func26, Try.ntmps26
      go_wp2_with fail
      refine (term_Valid' _ _ _ _ _ hs ra hs1).mono ?_
      rintro e w1 ⟨rfl, hb1⟩
      rw [H1.out]
      go_wp2_with fail
      refine (term_Valid' _ _ _ _ _ (hs.below hb1) (rb.below hb1) hs1).mono ?_
      rintro e w2 ⟨rfl, hb2'⟩
      rw [H2.out]
      have hb2 := hb1.trans (hb2'.mono hb1.size)
      go_wp2_with fail
      clear hb2'
      refine (unify_solved _ _ _ s a b _ f1 TA.out TB.out f4 f5 (hs.below hb2) (ra.below hb2) (rb.below hb2)).mono ?_
      rintro e w4 ⟨hb4', px, ⟨rfl, hno⟩ | ⟨rfl, bm, M, hS, hmgu⟩⟩
      · have HB := hid (hb2.trans (hb4'.mono hb2.size))
        have HX : Hid (UnifR s a b ([], 8)) := hid (HR.out _ (Or.inl ⟨hno, rfl⟩))
        clear hb4' hno hb1 hb2
        go_wp2
        go_ret2
        exact ⟨([], 8), _, HX.out, rfl, World.ownsRow_nil _ _ _ _, HB.out⟩
      · have hb4 := hb2.trans (hb4'.mono hb2.size)
        have HMD := hid (unify_made px bm _ _ s M a w4 hmgu.1 hS TA.out f4 (ra.below hb4) hs1)
        have HMG := hid hmgu
        have HB := hid hb4
        have hsz := hb4.size
        clear hb4' hb4 hmgu hS hb1 hb2
        go_wp2_with fail
        refine HMD.out.mono ?_
        rintro e w5 ⟨hb5, ⟨hm, u, rfl, hown⟩ | ⟨hm, rfl⟩⟩
        · have HX : Hid (UnifR s a b (canonL (fw (mOf M) a), 0)) := hid (HR.out _ (Or.inr ⟨_, HMG.out, Or.inl ⟨hm, rfl⟩⟩))
          have HO := hid (owns_base hown hsz)
          have HB5 := hid (HB.out.trans (hb5.mono hsz))
          clear hown hb5 hm
          go_wp2
          go_ret2
          exact ⟨_, _, HX.out, rfl, HO.out, HB5.out⟩
        · have HX : Hid (UnifR s a b ([], 4)) := hid (HR.out _ (Or.inr ⟨_, HMG.out, Or.inr ⟨hm, rfl⟩⟩))
          have HB5 := hid (HB.out.trans (hb5.mono hsz))
          clear hb5 hm
          go_wp2
          go_ret2
          exact ⟨([], 4), _, HX.out, rfl, World.ownsRow_nil _ _ _ _, HB5.out⟩
end Go.Proofs.Ytldgkidojepdlaa
namespace Go.Proofs.Ytldgkidojepdlaa
open Go Go.RowKit Go.Maps
theorem meetsA_awake {z : Bool} (h : MeetsA sCN [-1] [1, -1] z) : z = true := by
  refine h.2 ⟨by decide +kernel, by decide +kernel, ?_⟩
  have ha : aparL [1, -1] = [1, -13] := by decide +kernel
  rw [ha]
  exact fun hn => mgu_awake.not_no hn
theorem uniA_awake {z : Bool} (h : UniA sCN [-1] [1, -1] z) : z = false := by
  cases z
  · rfl
  · obtain ⟨-, -, hn⟩ := h.1 rfl
    refine absurd (fun σ _ he => ?_) hn
    have h1 := congrArg List.length he
    rw [show subL σ [-1] = σ (-1) from by rw [subL_one]; rfl, show subL σ [1, -1] = 1 :: σ (-1) from by rw [subL_cons_app _ (by omega), subL_one]; rfl] at h1
    simp at h1
set_option maxHeartbeats 1000000 in
theorem top_awake5 (w : World) :
    Calls Try.prog 8 #[] w fun e w' => e = .returned (.bool true) ∧ Below w.heap.size w w' := by
  go_enter Try.func8, Try.ntmps8
  go_wp2_with fail
  have q1 := sign_lit w 58
  obtain ⟨W1, hW1⟩ : ∃ W1, w.alloc (.cells #[.string ⟨#[67]⟩, .int .i64 2, .string ⟨#[78]⟩, .int .i64 1] 58) = W1 := ⟨_, rfl⟩
  have b1 : Below w.heap.size w W1 := hW1 ▸ (Below.refl _ _).alloc (Nat.le_refl _) _
  have z1 : W1.heap.size = w.heap.size + 1 := by rw [← hW1]; simp
  rw [hW1] at q1 ⊢
  have q2 := ints_lit W1 [-1] 3
  obtain ⟨W2, hW2⟩ : ∃ W2, W1.alloc (.cells #[.int .i64 (-1)] 3) = W2 := ⟨_, rfl⟩
  have b2 : Below W1.heap.size W1 W2 := hW2 ▸ (Below.refl _ _).alloc (Nat.le_refl _) _
  have z2 : W2.heap.size = W1.heap.size + 1 := by rw [← hW2]; simp
  have q2' : Ints W2 (.slice (some ⟨w.heap.size + 1, 0, none⟩) 1 1) [-1] := by rw [← hW2, ← z1]; exact q2
  rw [hW2]
  have q3 := ints_lit W2 [1, -1] 3
  obtain ⟨W3, hW3⟩ : ∃ W3, W2.alloc (.cells #[.int .i64 1, .int .i64 (-1)] 3) = W3 := ⟨_, rfl⟩
  have b3 : Below W2.heap.size W2 W3 := hW3 ▸ (Below.refl _ _).alloc (Nat.le_refl _) _
  have z3 : W3.heap.size = W2.heap.size + 1 := by rw [← hW3]; simp
  have q3' : Ints W3 (.slice (some ⟨w.heap.size + 1 + 1, 0, none⟩) 2 2) [1, -1] := by rw [← hW3, ← z1, ← z2]; exact q3
  rw [hW3]
  clear q2 q3 hW1 hW2 hW3
  have HC := hid (unify_Meets _ _ _ sCN _ _ _ ((q1.below b2).below b3) (q2'.below b3) q3' (by simp [sCN]))
  have Q1 := hid ((q1.below b2).below b3)
  have bW3 : Below w.heap.size w W3 := (b1.trans (b2.mono b1.size)).trans (b3.mono (by omega))
  clear q1 q2' q3' b1 b2 b3
  refine HC.out.mono ?_
  rintro e w4 ⟨z, hz, rfl, hb4'⟩
  have hz2 := meetsA_awake hz
  subst hz2
  have hb4 := bW3.trans (hb4'.mono bW3.size)
  have S4 := hid (Q1.out.below hb4')
  have hz4 := hb4.size
  clear hz HC Q1 hb4' bW3
  go_wp2_with fail
  have q2 : Ints (w4.alloc (.cells #[.int .i64 (-1)] 3)) (.slice (some ⟨w4.heap.size, 0, none⟩) 1 1) [-1] := ints_lit w4 [-1] 3
  obtain ⟨W2, hW2⟩ : ∃ W2, w4.alloc (.cells #[.int .i64 (-1)] 3) = W2 := ⟨_, rfl⟩
  have b2 : Below w4.heap.size w4 W2 := hW2 ▸ (Below.refl _ _).alloc (Nat.le_refl _) _
  have z2 : W2.heap.size = w4.heap.size + 1 := by rw [← hW2]; simp
  rw [hW2] at q2 ⊢
  have q3 := ints_lit W2 [1, -1] 3
  obtain ⟨W3, hW3⟩ : ∃ W3, W2.alloc (.cells #[.int .i64 1, .int .i64 (-1)] 3) = W3 := ⟨_, rfl⟩
  have b3 : Below W2.heap.size W2 W3 := hW3 ▸ (Below.refl _ _).alloc (Nat.le_refl _) _
  have q3' : Ints W3 (.slice (some ⟨w4.heap.size + 1, 0, none⟩) 2 2) [1, -1] := by rw [← hW3, ← z2]; exact q3
  rw [hW3]
  clear q3 hW2 hW3
  have b23 : Below w4.heap.size w4 W3 := b2.trans (b3.mono (by omega))
  have HC := hid (unify_Unifiable _ _ _ sCN _ _ _ (S4.out.below b23) (q2.below b3) q3' (by simp [sCN]))
  have b4 := hb4.trans (b23.mono hz4)
  clear q2 q3' b2 b3 z2 b23
  refine HC.out.mono ?_
  rintro e w5 ⟨z, hz, rfl, hb5'⟩
  have hz2 := uniA_awake hz
  subst hz2
  have HB5 := hid (b4.trans (hb5'.mono b4.size))
  clear hz HC hb5' b4 S4 hb4
  go_wp2
  go_ret
  exact ⟨rfl, HB5.out⟩
end Go.Proofs.Ytldgkidojepdlaa
