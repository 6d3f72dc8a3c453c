/-
  WHAT IT HOLDS: the row of the law UnifyComposes: whatever the input, the law returns true, and the input reads as it did. No condition.
-/
import Derived.Test.YtidigpfiagjeiaaRows
import Derived.ProofKit
import Derived.OpenShut
import Derived.ChangeOld
import Derived.SizedLaws
import Derived.Test.YtidigpfiagjeiaaZRUnifyComposes47
import Derived.Test.YtidigpfiagjeiaaZRUnifyComposes46
import Derived.Test.YtidigpfiagjeiaaZRUnifyComposes48
namespace Go.Proofs.Ytidigpfiagjeiaa
open Go.ChangeShapes Go.WideShapes Go.ChangeAt Go.RowKit
set_option maxRecDepth 100000 in
theorem lifted_UnifyComposes (os : Os) (started : os.Started) (H : Type) (enc : TypeId × Value → H) :
    ReturnsInHanded {} Try.checked os 9 .any (Rows.unifyComposesSpec.pre6 enc Try.prog Try.f9 Rows.unifyComposesRow.domain false) (Rows.unifyComposesSpec.post enc Try.prog Try.f9 false true false false) := by
  refine returnsInHanded_of_change_sized (C := Try.checked) (by kernel_rfl) started (by kernel_rfl) Try.func9
    (ChangeSpec.witness6 (enc := enc) (C := Try.checked) false ⟨#[], #[.slice none 0 0, .agg #[.slice none 0 0, .slice none 0 0, .slice none 0 0]], []⟩ 8 (by kernel_rfl) (by kernel_rfl) (by kernel_rfl) (by kernel_rfl)) ?_
  intro W base args ds gs before hval0 hW hcnd hsz0 _
  have hval : ∀ (j : Nat) t v, Try.f9.params[j]? = some t → args[j]? = some v → Value.okWide Try.prog W .any base t v := hval0
  have hW' := hW
  obtain ⟨p, q, hA0, hV, rfl, hfz, hnd⟩ := hW
  have hA : DataW.TrodAll enc Try.prog W 0 (fun _ => true) true Try.f9.params.toList args.toList ds p := hA0
  have hsz : (DataW.weightsEach Try.prog (Try.f9.params.toList ++ _) (ds ++ gs)).all (· ≤ reachBytes) = true := hsz0
  rw [Try.params9] at hA hval hsz
  obtain ⟨v0, vs0, d0, ds0, p0, q0, hargs, rfl, rfl, h0, r0⟩ := trodAll_cons hA
  obtain ⟨v1, vs1, d1, ds1, p1, q1, rfl, rfl, rfl, h1, r1⟩ := trodAll_cons r0
  obtain ⟨rfl, rfl, rfl⟩ := trodAll_nil r1
  obtain rfl : args = #[v0, v1] := by cases args; simp_all
  obtain ⟨rfl, rfl⟩ := trodVars_none hV
  obtain ⟨a0, len0, cap0, rfl⟩ := okWide_slice Try.underlying23 (hval 0 _ v0 rfl rfl)
  have z0 := small_of hsz (j := 0) rfl rfl
  have k0 := h0
  have lt0 : ∀ x ∈ p0, x.block < W.heap.size := by obtain ⟨m, hm⟩ := k0; exact DataW.trod_lt m _ _ _ hm
  have z1 := small_of hsz (j := 1) rfl rfl
  have k1 := h1
  have lt1 : ∀ x ∈ p1, x.block < W.heap.size := by obtain ⟨m, hm⟩ := k1; exact DataW.trod_lt m _ _ _ hm
  obtain ⟨x0, w0⟩ : ∃ s, SignAt W (.slice a0 len0 cap0) s := by
    obtain ⟨fuel, hf⟩ := h0
    obtain ⟨v, s, e, hs, _⟩ := sign_of_trod Try.underlying23 Try.underlying64 (by kernel_rfl) (by kernel_rfl) (by kernel_rfl) (by kernel_rfl) (by kernel_rfl) (by kernel_rfl) (by kernel_rfl) (of_decide_eq_true (by kernel_rfl)) hf z0
    simp [Value.cells] at e
    exact ⟨s, e ▸ hs⟩
  obtain ⟨e10, e11, e12, y10, y11, y12, n1, rfl, hd1, -, t10, t11, t12⟩ := Go.Joins.open_agg3 Try.underlying46 (by kernel_rfl) (by kernel_rfl) (hval 1 _ v1 rfl rfl) h1
  rw [hd1] at z1
  obtain ⟨x10, w10⟩ : ∃ s, BindsAt W e10 s := by
    have hz := z1.part (j := 0) Try.underlying46 rfl rfl
    have hh := binds_of_trod Try.underlying39 Try.underlying61 (by kernel_rfl) (by kernel_rfl) (by kernel_rfl) (by kernel_rfl) (by kernel_rfl) (by kernel_rfl) (by kernel_rfl) Try.underlying3 (by kernel_rfl) (of_decide_eq_true (by kernel_rfl)) (of_decide_eq_true (by kernel_rfl)) t10 hz
    first | (obtain ⟨v, s, e, hs, _⟩ := hh; simp only [List.cons.injEq, and_true] at e; exact ⟨s, e ▸ hs⟩) | (obtain ⟨v, s, e, hs⟩ := hh; simp only [List.cons.injEq, and_true] at e; exact ⟨s, e ▸ hs⟩)
  obtain ⟨x11, w11⟩ : ∃ s, BindsAt W e11 s := by
    have hz := z1.part (j := 1) Try.underlying46 rfl rfl
    have hh := binds_of_trod Try.underlying39 Try.underlying61 (by kernel_rfl) (by kernel_rfl) (by kernel_rfl) (by kernel_rfl) (by kernel_rfl) (by kernel_rfl) (by kernel_rfl) Try.underlying3 (by kernel_rfl) (of_decide_eq_true (by kernel_rfl)) (of_decide_eq_true (by kernel_rfl)) t11 hz
    first | (obtain ⟨v, s, e, hs, _⟩ := hh; simp only [List.cons.injEq, and_true] at e; exact ⟨s, e ▸ hs⟩) | (obtain ⟨v, s, e, hs⟩ := hh; simp only [List.cons.injEq, and_true] at e; exact ⟨s, e ▸ hs⟩)
  obtain ⟨x12, w12⟩ : ∃ s, Ints W e12 s := by
    have hz := z1.part (j := 2) Try.underlying46 rfl rfl
    have hh := ints_of_trod Try.underlying25 Try.underlying3 (by kernel_rfl) (of_decide_eq_true (by kernel_rfl)) t12 hz
    first | (obtain ⟨v, s, e, hs, _⟩ := hh; simp only [List.cons.injEq, and_true] at e; exact ⟨s, e ▸ hs⟩) | (obtain ⟨v, s, e, hs⟩ := hh; simp only [List.cons.injEq, and_true] at e; exact ⟨s, e ▸ hs⟩)
  clear hA0 hval0
  refine (walk_UnifyComposes _ _ _ _ x0 x10 x11 x12 W w0 w10 w11 w12).mono fun e W' ⟨he, bel⟩ => ?_
  subst he
  exact ⟨_, rfl, _, _, _, [], _, [], hW', trodAll_mk1 (shut_bool Try.underlying4 _), (trodAll_cons_mk (Below.trod laidOut (by kernel_rfl) (of_decide_eq_true (by kernel_rfl)) k0 bel lt0) (trodAll_cons_mk (Below.trod laidOut (by kernel_rfl) (of_decide_eq_true (by kernel_rfl)) k1 bel lt1) trodAll_mk0)), rfl, bel.frame _, fun h => by cases h⟩
theorem proved_UnifyComposes : Rows.UnifyComposesSaid :=
  OpenClaim.holds_of_wide 9 Try.f9 rfl rfl rfl rfl rfl rfl rfl ⟨rfl, rfl, rfl, rfl, rfl⟩ rfl rfl rfl rfl rfl (by kernel_rfl) Try.func9 (by kernel_rfl)
    (of_decide_eq_true (by kernel_rfl)) (by unfold Func.isWrapper; first | (rw [if_pos (by decide +kernel)]; kernel_rfl) | (rw [if_neg (by decide +kernel)]; exact ⟨rfl, rfl⟩))
    (fun os started H enc _ => lifted_UnifyComposes os started H enc)
#print axioms proved_UnifyComposes
end Go.Proofs.Ytidigpfiagjeiaa
