/-
  WHAT IT HOLDS: the row of the law TopCarriedShelves: whatever the input, the law returns true, and the input reads as it did. No condition.
-/
import Derived.Test.YtldgkidojepdlaaGreatRows
import Derived.ProofKit
import Derived.OpenShut
import Derived.ChangeOld
import Derived.SizedLaws
import Derived.Test.YtldgkidojepdlaaGreatZRTopCarriedShelves47
import Derived.Test.YtldgkidojepdlaaGreatZRTopCarriedShelves34
import Derived.Test.YtldgkidojepdlaaGreatZRTopCarriedShelves48
namespace Go.Proofs.YtldgkidojepdlaaGreat
open Go.ChangeShapes Go.WideShapes Go.ChangeAt Go.RowKit
set_option maxRecDepth 100000 in
theorem lifted_TopCarriedShelves (os : Os) (started : os.Started) (H : Type) (enc : TypeId × Value → H) :
    ReturnsInHanded {} Tryz.checked os 3 .any (Rows.topCarriedShelvesSpec.pre6 enc Tryz.prog Tryz.f3 Rows.topCarriedShelvesRow.domain false) (Rows.topCarriedShelvesSpec.post enc Tryz.prog Tryz.f3 false true false false) := by
  refine returnsInHanded_of_change_sized (C := Tryz.checked) (by kernel_rfl) started (by kernel_rfl) Tryz.func3
    (ChangeSpec.witness6 (enc := enc) (C := Tryz.checked) false ⟨#[], #[.agg #[.slice none 0 0, .slice none 0 0, .slice none 0 0], .slice none 0 0, .slice none 0 0], []⟩ 8 (by kernel_rfl) (by kernel_rfl) (by kernel_rfl) (by kernel_rfl)) ?_
  intro W base args ds gs before hval0 hW hcnd hsz0 _
  have hval : ∀ (j : Nat) t v, Tryz.f3.params[j]? = some t → args[j]? = some v → Value.okWide Tryz.prog W .any base t v := hval0
  have hW' := hW
  obtain ⟨p, q, hA0, hV, rfl, hfz, hnd⟩ := hW
  have hA : DataW.TrodAll enc Tryz.prog W 0 (fun _ => true) true Tryz.f3.params.toList args.toList ds p := hA0
  have hsz : (DataW.weightsEach Tryz.prog (Tryz.f3.params.toList ++ _) (ds ++ gs)).all (· ≤ reachBytes) = true := hsz0
  rw [Tryz.params3] at hA hval hsz
  obtain ⟨v0, vs0, d0, ds0, p0, q0, hargs, rfl, rfl, h0, r0⟩ := trodAll_cons hA
  obtain ⟨v1, vs1, d1, ds1, p1, q1, rfl, rfl, rfl, h1, r1⟩ := trodAll_cons r0
  obtain ⟨v2, vs2, d2, ds2, p2, q2, rfl, rfl, rfl, h2, r2⟩ := trodAll_cons r1
  obtain ⟨rfl, rfl, rfl⟩ := trodAll_nil r2
  obtain rfl : args = #[v0, v1, v2] := by cases args; simp_all
  obtain ⟨rfl, rfl⟩ := trodVars_none hV
  obtain ⟨a1, len1, cap1, rfl⟩ := okWide_slice Tryz.underlying27 (hval 1 _ v1 rfl rfl)
  obtain ⟨a2, len2, cap2, rfl⟩ := okWide_slice Tryz.underlying29 (hval 2 _ v2 rfl rfl)
  have z0 := small_of hsz (j := 0) rfl rfl
  have k0 := h0
  have lt0 : ∀ x ∈ p0, x.block < W.heap.size := by obtain ⟨m, hm⟩ := k0; exact DataW.trod_lt m _ _ _ hm
  have z1 := small_of hsz (j := 1) rfl rfl
  have k1 := h1
  have lt1 : ∀ x ∈ p1, x.block < W.heap.size := by obtain ⟨m, hm⟩ := k1; exact DataW.trod_lt m _ _ _ hm
  have z2 := small_of hsz (j := 2) rfl rfl
  have k2 := h2
  have lt2 : ∀ x ∈ p2, x.block < W.heap.size := by obtain ⟨m, hm⟩ := k2; exact DataW.trod_lt m _ _ _ hm
  obtain ⟨x1, w1⟩ : ∃ s, Terms W (.slice a1 len1 cap1) s := by
    obtain ⟨fuel, hf⟩ := h1
    obtain ⟨v, s, e, hs, _⟩ := terms_of_trod Tryz.underlying27 Tryz.underlying29 Tryz.underlying3 (by kernel_rfl) (by kernel_rfl) (of_decide_eq_true (by kernel_rfl)) (of_decide_eq_true (by kernel_rfl)) hf z1
    simp [Value.cells] at e
    exact ⟨s, e ▸ hs⟩
  obtain ⟨x2, w2⟩ : ∃ s, Ints W (.slice a2 len2 cap2) s := by
    obtain ⟨fuel, hf⟩ := h2
    obtain ⟨v, s, e, hs, _⟩ := ints_of_trod Tryz.underlying29 Tryz.underlying3 (by kernel_rfl) (of_decide_eq_true (by kernel_rfl)) hf z2
    simp [Value.cells] at e
    exact ⟨s, e ▸ hs⟩
  obtain ⟨e00, e01, e02, y00, y01, y02, n0, rfl, hd0, -, t00, t01, t02⟩ := Go.Joins.open_agg3 Tryz.underlying26 (by kernel_rfl) (by kernel_rfl) (hval 0 _ v0 rfl rfl) h0
  rw [hd0] at z0
  obtain ⟨x00, w00⟩ : ∃ s, SignAt W e00 s := by
    have hz := z0.part (j := 0) Tryz.underlying26 rfl rfl
    have hh := sign_of_trod Tryz.underlying23 Tryz.underlying45 (by kernel_rfl) (by kernel_rfl) (by kernel_rfl) (by kernel_rfl) (by kernel_rfl) (by kernel_rfl) (by kernel_rfl) (of_decide_eq_true (by kernel_rfl)) t00 hz
    first | (obtain ⟨v, s, e, hs, _⟩ := hh; simp only [List.cons.injEq, and_true] at e; exact ⟨s, e ▸ hs⟩) | (obtain ⟨v, s, e, hs⟩ := hh; simp only [List.cons.injEq, and_true] at e; exact ⟨s, e ▸ hs⟩)
  obtain ⟨x01, w01⟩ : ∃ s, SignAt W e01 s := by
    have hz := z0.part (j := 1) Tryz.underlying26 rfl rfl
    have hh := sign_of_trod Tryz.underlying23 Tryz.underlying45 (by kernel_rfl) (by kernel_rfl) (by kernel_rfl) (by kernel_rfl) (by kernel_rfl) (by kernel_rfl) (by kernel_rfl) (of_decide_eq_true (by kernel_rfl)) t01 hz
    first | (obtain ⟨v, s, e, hs, _⟩ := hh; simp only [List.cons.injEq, and_true] at e; exact ⟨s, e ▸ hs⟩) | (obtain ⟨v, s, e, hs⟩ := hh; simp only [List.cons.injEq, and_true] at e; exact ⟨s, e ▸ hs⟩)
  obtain ⟨x02, w02⟩ : ∃ s, BindsAt W e02 s := by
    have hz := z0.part (j := 2) Tryz.underlying26 rfl rfl
    have hh := binds_of_trod Tryz.underlying24 Tryz.underlying43 (by kernel_rfl) (by kernel_rfl) (by kernel_rfl) (by kernel_rfl) (by kernel_rfl) (by kernel_rfl) (by kernel_rfl) Tryz.underlying3 (by kernel_rfl) (of_decide_eq_true (by kernel_rfl)) (of_decide_eq_true (by kernel_rfl)) t02 hz
    first | (obtain ⟨v, s, e, hs, _⟩ := hh; simp only [List.cons.injEq, and_true] at e; exact ⟨s, e ▸ hs⟩) | (obtain ⟨v, s, e, hs⟩ := hh; simp only [List.cons.injEq, and_true] at e; exact ⟨s, e ▸ hs⟩)
  clear hA0 hval0
  refine (walk_TopCarriedShelves _ _ _ _ _ x00 x01 x02 x1 x2 W w00 w01 w02 w1 w2).mono fun e W' ⟨he, bel⟩ => ?_
  subst he
  exact ⟨_, rfl, _, _, _, [], _, [], hW', trodAll_mk1 (shut_bool Tryz.underlying4 _), (trodAll_cons_mk (Below.trod laidOut (by kernel_rfl) (of_decide_eq_true (by kernel_rfl)) k0 bel lt0) (trodAll_cons_mk (Below.trod laidOut (by kernel_rfl) (of_decide_eq_true (by kernel_rfl)) k1 bel lt1) (trodAll_cons_mk (Below.trod laidOut (by kernel_rfl) (of_decide_eq_true (by kernel_rfl)) k2 bel lt2) trodAll_mk0))), rfl, bel.frame _, fun h => by cases h⟩
theorem proved_TopCarriedShelves : Rows.TopCarriedShelvesSaid :=
  OpenClaim.holds_of_wide 3 Tryz.f3 rfl rfl rfl rfl rfl rfl rfl ⟨rfl, rfl, rfl, rfl, rfl⟩ rfl rfl rfl rfl rfl (by kernel_rfl) Tryz.func3 (by kernel_rfl)
    (of_decide_eq_true (by kernel_rfl)) (by unfold Func.isWrapper; first | (rw [if_pos (by decide +kernel)]; kernel_rfl) | (rw [if_neg (by decide +kernel)]; exact ⟨rfl, rfl⟩))
    (fun os started H enc _ => lifted_TopCarriedShelves os started H enc)
#print axioms proved_TopCarriedShelves
end Go.Proofs.YtldgkidojepdlaaGreat
