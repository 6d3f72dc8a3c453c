/-
  WHAT IT HOLDS: contracts of Instance of package unify, of Alike and Canonical of package term. Conditions: the arguments read as data; the sign is small.
-/
import Derived.Test.YtldgkidojepdlaaZRTopCarriedUnify20
import Derived.Test.YtldgkidojepdlaaZRTopCarriedUnify23
namespace Go.Proofs.Ytldgkidojepdlaa
open Go Go.RowKit Go.Maps
def instB (s : Sg) (a b : List Int) : Bool := termB s a && termB s b && (matL s a b noM).isSome
def alikeB (s : Sg) (a b : List Int) : Bool := termB s a && termB s b && decide (canonL a = canonL b)
theorem termB_wf {s : Sg} {t : List Int} (h : termB s t = true) : ∀ x ∈ t, -1000000 ≤ x ∧ x ≤ 1000000 := by
  have h1 := termB_facts h
  have h2 := T_small (termB_T h) (by omega)
  intro x hx
  have := h2 x hx
  omega
theorem instB_iff {s : Sg} {a b : List Int} : instB s a b = true ↔ termB s a = true ∧ termB s b = true ∧ Inst s 12 a b := by
  unfold instB
  simp only [Bool.and_eq_true]
  constructor
  · rintro ⟨⟨h1, h2⟩, h3⟩
    exact ⟨h1, h2, (inst_iff (termB_T h1) (termB_T h2)).1 h3⟩
  · rintro ⟨h1, h2, h3⟩
    exact ⟨⟨h1, h2⟩, (inst_iff (termB_T h1) (termB_T h2)).2 h3⟩
theorem alikeB_iff {s : Sg} {a b : List Int} : alikeB s a b = true ↔ instB s a b = true ∧ instB s b a = true := by
  rw [instB_iff, instB_iff]
  unfold alikeB
  simp only [Bool.and_eq_true, decide_eq_true_eq]
  constructor
  · rintro ⟨⟨h1, h2⟩, h3⟩
    have := (alike_iff (termB_T h1) (termB_T h2)).1 h3
    exact ⟨⟨h1, h2, this.1⟩, h2, h1, this.2⟩
  · rintro ⟨⟨h1, h2, h3⟩, _, _, h4⟩
    exact ⟨⟨h1, h2⟩, (alike_iff (termB_T h1) (termB_T h2)).2 ⟨h3, h4⟩⟩
theorem instB_refl {s : Sg} {a : List Int} : instB s a a = termB s a := by
  cases h : termB s a
  · unfold instB; rw [h]; rfl
  · exact instB_iff.2 ⟨h, h, Inst.refl (termB_T h)⟩
theorem instB_trans {s : Sg} {a b c : List Int} (h1 : instB s a b = true) (h2 : instB s b c = true) : instB s a c = true := by
  obtain ⟨a1, a2, a3⟩ := instB_iff.1 h1
  obtain ⟨b1, b2, b3⟩ := instB_iff.1 h2
  exact instB_iff.2 ⟨a1, b2, a3.trans b3⟩
set_option maxRecDepth 100000 in
theorem unify_Instance (vs va vb : Value) (s : Sg) (a b : List Int) (w : World) (hs : SignAt w vs s) (ra : Ints w va a) (rb : Ints w vb b) (hs1 : s.length ≤ 1000) :
    Calls Try.prog 28 #[vs, va, vb] w fun e w' => e = .returned (.bool (instB s a b)) ∧ Below w.heap.size w w' := by
  cases h1 : termB s a
  · have HF : Hid (instB s a b = false) := hid (by unfold instB; rw [h1]; rfl)
    go_enter Try.func28, Try.ntmps28
    go_wp2_with (first | (go_at_call 41; refine (term_Valid' _ _ _ _ _ hs ra hs1).mono ?_; rintro e w1 ⟨rfl, hb1⟩))
    go_ret
    exact ⟨by rw [HF.out]; rfl, hb1⟩
  · cases h2 : termB s b
    · have HF : Hid (instB s a b = false) := hid (by unfold instB; rw [h1, h2]; rfl)
      go_enter Try.func28, Try.ntmps28
      go_wp2_with fail
      refine (term_Valid' _ _ _ _ _ hs ra hs1).mono ?_
      rintro e w1 ⟨rfl, hb1⟩
      go_wp2_with fail
      refine (term_Valid' _ _ _ _ _ (hs.below hb1) (rb.below hb1) hs1).mono ?_
      rintro e w2 ⟨rfl, hb2⟩
      go_wp2
      go_ret
      exact ⟨by rw [HF.out]; rfl, hb1.trans (hb2.mono hb1.size)⟩
    · obtain ⟨f1, f2, f3, f4⟩ := termB_facts h1
      obtain ⟨_, _, _, f5⟩ := termB_facts h2
      have hT := termB_T h1
      have hQ := termB_T h2
      have HF : Hid (instB s a b = (matL s a b noM).isSome) := hid (by unfold instB; rw [h1, h2]; rfl)
      go_enter Try.func28, Try.ntmps28
      go_wp2_with fail
      refine (term_Valid' _ _ _ _ _ hs ra hs1).mono ?_
      rintro e w1 ⟨rfl, hb1⟩
      go_wp2_with fail
      refine (term_Valid' _ _ _ _ _ (hs.below hb1) (rb.below hb1) hs1).mono ?_
      rintro e w2 ⟨rfl, hb2⟩
      have hb3 := hb1.trans (hb2.mono hb1.size)
      have HC := hid (unify_match vs va vb s a b w2 f2 f3 hT hQ (hs.below hb3) (ra.below hb3) (rb.below hb3) (by omega) (by omega))
      clear hT hQ
      go_wp2_with fail
      refine HC.out.mono ?_
      rintro e w3 ⟨hb4, ⟨hm, rfl⟩ | ⟨M, n, hm, rfl, -, -⟩⟩
      · have HM := hid hm
        clear hm
        go_wp2
        go_ret
        exact ⟨by rw [HF.out, HM.out]; rfl, hb3.trans (hb4.mono hb3.size)⟩
      · have HM := hid hm
        clear hm
        go_wp2
        go_ret
        exact ⟨by rw [HF.out, HM.out]; rfl, hb3.trans (hb4.mono hb3.size)⟩
set_option maxRecDepth 100000 in
theorem term_Alike (vs va vb : Value) (s : Sg) (a b : List Int) (w : World) (hs : SignAt w vs s) (ra : Ints w va a) (rb : Ints w vb b) (hs1 : s.length ≤ 1000) :
    Calls Try.prog 29 #[vs, va, vb] w fun e w' => e = .returned (.bool (alikeB s a b)) ∧ Below w.heap.size w w' := by
  cases h1 : termB s a
  · have HF : Hid (alikeB s a b = false) := hid (by unfold alikeB; rw [h1]; rfl)
    go_enter Try.func29, Try.ntmps29
    go_wp2_with (first | (go_at_call 41; refine (term_Valid' _ _ _ _ _ hs ra hs1).mono ?_; rintro e w1 ⟨rfl, hb1⟩))
    go_ret
    exact ⟨by rw [HF.out]; rfl, hb1⟩
  · cases h2 : termB s b
    · have HF : Hid (alikeB s a b = false) := hid (by unfold alikeB; rw [h1, h2]; rfl)
      go_enter Try.func29, Try.ntmps29
      go_wp2_with fail
      refine (term_Valid' _ _ _ _ _ hs ra hs1).mono ?_
      rintro e w1 ⟨rfl, hb1⟩
      go_wp2_with fail
      refine (term_Valid' _ _ _ _ _ (hs.below hb1) (rb.below hb1) hs1).mono ?_
      rintro e w2 ⟨rfl, hb2⟩
      go_wp2
      go_ret
      exact ⟨by rw [HF.out]; rfl, hb1.trans (hb2.mono hb1.size)⟩
    · obtain ⟨f1, f2, f3, f4⟩ := termB_facts h1
      obtain ⟨_, _, _, f5⟩ := termB_facts h2
      have HA := hid (termB_wf h1)
      have HB := hid (termB_wf h2)
      have ha0 := (termB_T h1).ne
      have hb0 := (termB_T h2).ne
      have hla := canonL_len a
      have hlb := canonL_len b
      have HF : Hid (alikeB s a b = decide (canonL a = canonL b)) := hid (by unfold alikeB; rw [h1, h2]; rfl)
      have HLA := hid hla
      have HLB := hid hlb
      clear hla hlb
      go_enter Try.func29, Try.ntmps29
      go_wp2_with fail
      refine (term_Valid' _ _ _ _ _ hs ra hs1).mono ?_
      rintro e w1 ⟨rfl, hb1⟩
      go_wp2_with fail
      refine (term_Valid' _ _ _ _ _ (hs.below hb1) (rb.below hb1) hs1).mono ?_
      rintro e w2 ⟨rfl, hb2⟩
      have hb3 := hb1.trans (hb2.mono hb1.size)
      go_wp2_with fail
      refine (term_canonical _ a _ (ra.below hb3) ha0 (by omega) HA.out).mono ?_
      rintro e w3 ⟨u3, rfl, o3, hb4⟩
      have hb5 := hb3.trans (hb4.mono hb3.size)
      have i3 : Ints w3 u3 (canonL a) := Ints.of_owns o3 (by rw [HLA.out]; omega)
      go_wp2_with fail
      refine (term_canonical _ b _ (rb.below hb5) hb0 (by omega) HB.out).mono ?_
      rintro e w4 ⟨u4, rfl, o4, hb6⟩
      have hb7 := hb5.trans (hb6.mono hb5.size)
      have i4 : Ints w4 u4 (canonL b) := Ints.of_owns o4 (by rw [HLB.out]; omega)
      go_wp2_with fail
      refine (sl_EqualT _ _ _ _ _ (i3.below hb6) i4).mono ?_
      rintro e w5 ⟨rfl, nq, rfl⟩
      go_wp2
      go_ret
      exact ⟨by rw [HF.out]; rfl, below_drewN hb7 nq⟩
set_option maxRecDepth 100000 in
theorem term_Canonical (vs va : Value) (s : Sg) (a : List Int) (w : World) (hs : SignAt w vs s) (ra : Ints w va a) (hs1 : s.length ≤ 1000) :
    Calls Try.prog 94 #[vs, va] w fun e w' => Below w.heap.size w w' ∧ ((termB s a = false ∧ e = .returned (.tuple #[.slice none 0 0, .int .i64 1])) ∨
      (termB s a = true ∧ ∃ u, e = .returned (.tuple #[u, .int .i64 0]) ∧ w'.ownsRow w.heap.size 3 1 u (canonL a).length ((canonL a).map (Value.int .i64)))) := by
  cases h1 : termB s a
  · go_enter Try.func94, Try.ntmps94
    go_wp2_with (first | (go_at_call 41; refine (term_Valid' _ _ _ _ _ hs ra hs1).mono ?_; rintro e w1 ⟨rfl, hb1⟩))
    go_ret2
    exact ⟨hb1, Or.inl (by simp)⟩
  · have f4 := (termB_facts h1).2.2.2
    have HA := hid (termB_wf h1)
    have ha0 := (termB_T h1).ne
    go_enter Try.func94, Try.ntmps94
    go_wp2_with fail
    refine (term_Valid' _ _ _ _ _ hs ra hs1).mono ?_
    rintro e w1 ⟨rfl, hb1⟩
    go_wp2_with fail
    refine (term_canonical _ a _ (ra.below hb1) ha0 (by omega) HA.out).mono ?_
    rintro e w3 ⟨u3, rfl, o3, hb4⟩
    have o3' := owns_base o3 hb1.size
    go_wp2
    go_ret2
    exact ⟨hb1.trans (hb4.mono hb1.size), Or.inr ⟨trivial, _, rfl, o3'⟩⟩
end Go.Proofs.Ytldgkidojepdlaa
