/-
  WHAT IT HOLDS: the row of the law TopDetachedInstances: whatever the input, the law returns true, and the input reads as it did. No condition.
-/
import Derived.Test.YtcpbpamnhdnanaaRows
import Derived.ProofKit
import Derived.OpenShut
import Derived.ChangeOld
import Derived.SizedLaws
import Derived.Test.YtcpbpamnhdnanaaZRTopDetachedInstances47
import Derived.Test.YtcpbpamnhdnanaaZRTopDetachedInstances44
import Derived.Test.YtcpbpamnhdnanaaZRTopDetachedInstances45
import Derived.Test.YtcpbpamnhdnanaaZRTopDetachedInstances48
namespace Go.Proofs.Ytcpbpamnhdnanaa
open Go.ChangeShapes Go.WideShapes Go.ChangeAt Go.RowKit
set_option maxRecDepth 100000 in
theorem lifted_TopDetachedInstances (os : Os) (started : os.Started) (H : Type) (enc : TypeId × Value → H) :
    ReturnsInHanded {} Try.checked os 3 .any (Rows.topDetachedInstancesSpec.pre6 enc Try.prog Try.f3 Rows.topDetachedInstancesRow.domain false) (Rows.topDetachedInstancesSpec.post enc Try.prog Try.f3 false true false false) := by
  refine returnsInHanded_of_change_sized (C := Try.checked) (by kernel_rfl) started (by kernel_rfl) Try.func3
    (ChangeSpec.witness6 (enc := enc) (C := Try.checked) false ⟨#[], #[.slice none 0 0, .agg #[.slice none 0 0, .slice none 0 0, .slice none 0 0, .slice none 0 0]], []⟩ 8 (by kernel_rfl) (by kernel_rfl) (by kernel_rfl) (by kernel_rfl)) ?_
  intro W base args ds gs before hval0 hW hcnd hsz0 _
  have hval : ∀ (j : Nat) t v, Try.f3.params[j]? = some t → args[j]? = some v → Value.okWide Try.prog W .any base t v := hval0
  have hW' := hW
  obtain ⟨p, q, hA0, hV, rfl, hfz, hnd⟩ := hW
  have hA : DataW.TrodAll enc Try.prog W 0 (fun _ => true) true Try.f3.params.toList args.toList ds p := hA0
  have hsz : (DataW.weightsEach Try.prog (Try.f3.params.toList ++ _) (ds ++ gs)).all (· ≤ reachBytes) = true := hsz0
  rw [Try.params3] at hA hval hsz
  obtain ⟨v0, vs0, d0, ds0, p0, q0, hargs, rfl, rfl, h0, r0⟩ := trodAll_cons hA
  obtain ⟨v1, vs1, d1, ds1, p1, q1, rfl, rfl, rfl, h1, r1⟩ := trodAll_cons r0
  obtain ⟨rfl, rfl, rfl⟩ := trodAll_nil r1
  obtain rfl : args = #[v0, v1] := by cases args; simp_all
  obtain ⟨rfl, rfl⟩ := trodVars_none hV
  obtain ⟨a0, len0, cap0, rfl⟩ := okWide_slice Try.underlying23 (hval 0 _ v0 rfl rfl)
  have z0 := small_of hsz (j := 0) rfl rfl
  have k0 := h0
  have lt0 : ∀ x ∈ p0, x.block < W.heap.size := by obtain ⟨m, hm⟩ := k0; exact DataW.trod_lt m _ _ _ hm
  have z1 := small_of hsz (j := 1) rfl rfl
  have k1 := h1
  have lt1 : ∀ x ∈ p1, x.block < W.heap.size := by obtain ⟨m, hm⟩ := k1; exact DataW.trod_lt m _ _ _ hm
  obtain ⟨x0, w0⟩ : ∃ s, SignAt W (.slice a0 len0 cap0) s := by
    obtain ⟨fuel, hf⟩ := h0
    obtain ⟨v, s, e, hs, _⟩ := sign_of_trod Try.underlying23 Try.underlying50 (by kernel_rfl) (by kernel_rfl) (by kernel_rfl) (by kernel_rfl) (by kernel_rfl) (by kernel_rfl) (by kernel_rfl) (of_decide_eq_true (by kernel_rfl)) hf z0
    simp [Value.cells] at e
    exact ⟨s, e ▸ hs⟩
  obtain ⟨e10, e11, e12, e13, y10, y11, y12, y13, n1, rfl, hd1, -, t10, t11, t12, t13⟩ := Go.Joins.open_agg4 Try.underlying28 (by kernel_rfl) (by kernel_rfl) (hval 1 _ v1 rfl rfl) h1
  rw [hd1] at z1
  obtain ⟨x10, w10⟩ : ∃ s, Ints W e10 s := by
    have hz := z1.part (j := 0) Try.underlying28 rfl rfl
    have hh := ints_of_trod Try.underlying25 Try.underlying3 (by kernel_rfl) (of_decide_eq_true (by kernel_rfl)) t10 hz
    first | (obtain ⟨v, s, e, hs, _⟩ := hh; simp only [List.cons.injEq, and_true] at e; exact ⟨s, e ▸ hs⟩) | (obtain ⟨v, s, e, hs⟩ := hh; simp only [List.cons.injEq, and_true] at e; exact ⟨s, e ▸ hs⟩)
  obtain ⟨x11, w11⟩ : ∃ s, Ints W e11 s := by
    have hz := z1.part (j := 1) Try.underlying28 rfl rfl
    have hh := ints_of_trod Try.underlying25 Try.underlying3 (by kernel_rfl) (of_decide_eq_true (by kernel_rfl)) t11 hz
    first | (obtain ⟨v, s, e, hs, _⟩ := hh; simp only [List.cons.injEq, and_true] at e; exact ⟨s, e ▸ hs⟩) | (obtain ⟨v, s, e, hs⟩ := hh; simp only [List.cons.injEq, and_true] at e; exact ⟨s, e ▸ hs⟩)
  obtain ⟨x12, w12⟩ : ∃ s, BindsAt W e12 s := by
    have hz := z1.part (j := 2) Try.underlying28 rfl rfl
    have hh := binds_of_trod Try.underlying26 Try.underlying78 (by kernel_rfl) (by kernel_rfl) (by kernel_rfl) (by kernel_rfl) (by kernel_rfl) (by kernel_rfl) (by kernel_rfl) Try.underlying3 (by kernel_rfl) (of_decide_eq_true (by kernel_rfl)) (of_decide_eq_true (by kernel_rfl)) t12 hz
    first | (obtain ⟨v, s, e, hs, _⟩ := hh; simp only [List.cons.injEq, and_true] at e; exact ⟨s, e ▸ hs⟩) | (obtain ⟨v, s, e, hs⟩ := hh; simp only [List.cons.injEq, and_true] at e; exact ⟨s, e ▸ hs⟩)
  obtain ⟨x13, w13⟩ : ∃ s, BindsAt W e13 s := by
    have hz := z1.part (j := 3) Try.underlying28 rfl rfl
    have hh := binds_of_trod Try.underlying26 Try.underlying78 (by kernel_rfl) (by kernel_rfl) (by kernel_rfl) (by kernel_rfl) (by kernel_rfl) (by kernel_rfl) (by kernel_rfl) Try.underlying3 (by kernel_rfl) (of_decide_eq_true (by kernel_rfl)) (of_decide_eq_true (by kernel_rfl)) t13 hz
    first | (obtain ⟨v, s, e, hs, _⟩ := hh; simp only [List.cons.injEq, and_true] at e; exact ⟨s, e ▸ hs⟩) | (obtain ⟨v, s, e, hs⟩ := hh; simp only [List.cons.injEq, and_true] at e; exact ⟨s, e ▸ hs⟩)
  clear hA0 hval0
  refine (walk_TopDetachedInstances _ _ _ _ _ x0 x10 x11 x12 x13 W w0 w10 w11 w12 w13).mono fun e W' ⟨he, bel⟩ => ?_
  subst he
  exact ⟨_, rfl, _, _, _, [], _, [], hW', trodAll_mk1 (shut_bool Try.underlying4 _), (trodAll_cons_mk (Below.trod laidOut (by kernel_rfl) (of_decide_eq_true (by kernel_rfl)) k0 bel lt0) (trodAll_cons_mk (Below.trod laidOut (by kernel_rfl) (of_decide_eq_true (by kernel_rfl)) k1 bel lt1) trodAll_mk0)), rfl, bel.frame _, fun h => by cases h⟩
theorem proved_TopDetachedInstances : Rows.TopDetachedInstancesSaid :=
  OpenClaim.holds_of_wide 3 Try.f3 rfl rfl rfl rfl rfl rfl rfl ⟨rfl, rfl, rfl, rfl, rfl⟩ rfl rfl rfl rfl rfl (by kernel_rfl) Try.func3 (by kernel_rfl)
    (of_decide_eq_true (by kernel_rfl)) (by unfold Func.isWrapper; first | (rw [if_pos (by decide +kernel)]; kernel_rfl) | (rw [if_neg (by decide +kernel)]; exact ⟨rfl, rfl⟩))
    (fun os started H enc _ => lifted_TopDetachedInstances os started H enc)
#print axioms proved_TopDetachedInstances
end Go.Proofs.Ytcpbpamnhdnanaa
