/-
  WHAT IT HOLDS: the row of the law BlameMerges: whatever the input, the law returns true, and the input reads as it did. No condition.
-/
import Derived.Test.YtlbjbmpkaniojaaGreatRows
import Derived.ChangeMaps5
import Derived.ProofKit
import Derived.OpenShut
import Derived.ChangeOld
import Derived.SizedLaws
import Derived.Test.YtlbjbmpkaniojaaGreatZRBlameMerges46
import Derived.Test.YtlbjbmpkaniojaaGreatZRBlameMerges7
import Derived.Test.YtlbjbmpkaniojaaGreatZRBlameMerges47
import Derived.Test.YtlbjbmpkaniojaaGreatZRBlameMerges48
namespace Go.Proofs.YtlbjbmpkaniojaaGreat
open Go.ChangeShapes Go.WideShapes Go.ChangeAt Go.RowKit
set_option maxRecDepth 100000 in
theorem lifted_BlameMerges (os : Os) (started : os.Started) (H : Type) (enc : TypeId × Value → H) :
    ReturnsInHanded {} Tryz.checked os 8 .any (Rows.blameMergesSpec.pre6 enc Tryz.prog Tryz.f8 Rows.blameMergesRow.domain false) (Rows.blameMergesSpec.post enc Tryz.prog Tryz.f8 false true false false) := by
  refine returnsInHanded_of_change_sized (C := Tryz.checked) (by kernel_rfl) started (by kernel_rfl) Tryz.func8
    (ChangeSpec.witness6 (enc := enc) (C := Tryz.checked) false ⟨#[], #[.slice none 0 0, .slice none 0 0, .slice none 0 0, .slice none 0 0], []⟩ 8 (by kernel_rfl) (by kernel_rfl) (by kernel_rfl) (by kernel_rfl)) ?_
  intro W base args ds gs before hval0 hW hcnd hsz0 _
  have hval : ∀ (j : Nat) t v, Tryz.f8.params[j]? = some t → args[j]? = some v → Value.okWide Tryz.prog W .any base t v := hval0
  have hW' := hW
  obtain ⟨p, q, hA0, hV, rfl, hfz, hnd⟩ := hW
  have hA : DataW.TrodAll enc Tryz.prog W 0 (fun _ => true) true Tryz.f8.params.toList args.toList ds p := hA0
  have hsz : (DataW.weightsEach Tryz.prog (Tryz.f8.params.toList ++ _) (ds ++ gs)).all (· ≤ reachBytes) = true := hsz0
  rw [Tryz.params8] at hA hval hsz
  obtain ⟨v0, vs0, d0, ds0, p0, q0, hargs, rfl, rfl, h0, r0⟩ := trodAll_cons hA
  obtain ⟨v1, vs1, d1, ds1, p1, q1, rfl, rfl, rfl, h1, r1⟩ := trodAll_cons r0
  obtain ⟨v2, vs2, d2, ds2, p2, q2, rfl, rfl, rfl, h2, r2⟩ := trodAll_cons r1
  obtain ⟨v3, vs3, d3, ds3, p3, q3, rfl, rfl, rfl, h3, r3⟩ := trodAll_cons r2
  obtain ⟨rfl, rfl, rfl⟩ := trodAll_nil r3
  obtain rfl : args = #[v0, v1, v2, v3] := by cases args; simp_all
  obtain ⟨rfl, rfl⟩ := trodVars_none hV
  obtain ⟨a0, len0, cap0, rfl⟩ := okWide_slice Tryz.underlying23 (hval 0 _ v0 rfl rfl)
  have z0 := small_of hsz (j := 0) rfl rfl
  have k0 := h0
  have lt0 : ∀ x ∈ p0, x.block < W.heap.size := by obtain ⟨m, hm⟩ := k0; exact DataW.trod_lt m _ _ _ hm
  obtain ⟨a1, len1, cap1, rfl⟩ := okWide_slice Tryz.underlying24 (hval 1 _ v1 rfl rfl)
  have z1 := small_of hsz (j := 1) rfl rfl
  have k1 := h1
  have lt1 : ∀ x ∈ p1, x.block < W.heap.size := by obtain ⟨m, hm⟩ := k1; exact DataW.trod_lt m _ _ _ hm
  obtain ⟨a2, len2, cap2, rfl⟩ := okWide_slice Tryz.underlying24 (hval 2 _ v2 rfl rfl)
  have z2 := small_of hsz (j := 2) rfl rfl
  have k2 := h2
  have lt2 : ∀ x ∈ p2, x.block < W.heap.size := by obtain ⟨m, hm⟩ := k2; exact DataW.trod_lt m _ _ _ hm
  obtain ⟨a3, len3, cap3, rfl⟩ := okWide_slice Tryz.underlying24 (hval 3 _ v3 rfl rfl)
  have z3 := small_of hsz (j := 3) rfl rfl
  have k3 := h3
  have lt3 : ∀ x ∈ p3, x.block < W.heap.size := by obtain ⟨m, hm⟩ := k3; exact DataW.trod_lt m _ _ _ hm
  obtain ⟨x0, w0⟩ : ∃ s, SignAt W (.slice a0 len0 cap0) s := by
    obtain ⟨fuel, hf⟩ := h0
    obtain ⟨v, s, e, hs, _⟩ := sign_of_trod Tryz.underlying23 Tryz.underlying81 (by kernel_rfl) (by kernel_rfl) (by kernel_rfl) (by kernel_rfl) (by kernel_rfl) (by kernel_rfl) (by kernel_rfl) (of_decide_eq_true (by kernel_rfl)) hf z0
    simp [Value.cells] at e
    exact ⟨s, e ▸ hs⟩
  obtain ⟨x1, w1⟩ : ∃ s, EntsAt W (.slice a1 len1 cap1) s := by
    obtain ⟨fuel, hf⟩ := h1
    obtain ⟨v, s, e, hs⟩ := ents_of_trod Tryz.underlying24 Tryz.underlying41 (by kernel_rfl) (by kernel_rfl) (by kernel_rfl) (by kernel_rfl) (by kernel_rfl) (by kernel_rfl) (by kernel_rfl) (by kernel_rfl) (by kernel_rfl) (by kernel_rfl) (by kernel_rfl) Tryz.underlying9 Tryz.underlying9 Tryz.underlying37 Tryz.underlying38 Tryz.underlying39 Tryz.underlying3 (by kernel_rfl) (of_decide_eq_true (by kernel_rfl)) Tryz.underlying9 (by kernel_rfl) (of_decide_eq_true (by kernel_rfl)) Tryz.underlying105 (by kernel_rfl) (by kernel_rfl) (by kernel_rfl) (by kernel_rfl) (by kernel_rfl) (by kernel_rfl) (by kernel_rfl) Tryz.underlying3 Tryz.underlying3 Tryz.underlying3 (of_decide_eq_true (by kernel_rfl)) (of_decide_eq_true (by kernel_rfl)) hf z1
    simp [Value.cells] at e
    exact ⟨s, e ▸ hs⟩
  obtain ⟨x2, w2⟩ : ∃ s, EntsAt W (.slice a2 len2 cap2) s := by
    obtain ⟨fuel, hf⟩ := h2
    obtain ⟨v, s, e, hs⟩ := ents_of_trod Tryz.underlying24 Tryz.underlying41 (by kernel_rfl) (by kernel_rfl) (by kernel_rfl) (by kernel_rfl) (by kernel_rfl) (by kernel_rfl) (by kernel_rfl) (by kernel_rfl) (by kernel_rfl) (by kernel_rfl) (by kernel_rfl) Tryz.underlying9 Tryz.underlying9 Tryz.underlying37 Tryz.underlying38 Tryz.underlying39 Tryz.underlying3 (by kernel_rfl) (of_decide_eq_true (by kernel_rfl)) Tryz.underlying9 (by kernel_rfl) (of_decide_eq_true (by kernel_rfl)) Tryz.underlying105 (by kernel_rfl) (by kernel_rfl) (by kernel_rfl) (by kernel_rfl) (by kernel_rfl) (by kernel_rfl) (by kernel_rfl) Tryz.underlying3 Tryz.underlying3 Tryz.underlying3 (of_decide_eq_true (by kernel_rfl)) (of_decide_eq_true (by kernel_rfl)) hf z2
    simp [Value.cells] at e
    exact ⟨s, e ▸ hs⟩
  obtain ⟨x3, w3⟩ : ∃ s, EntsAt W (.slice a3 len3 cap3) s := by
    obtain ⟨fuel, hf⟩ := h3
    obtain ⟨v, s, e, hs⟩ := ents_of_trod Tryz.underlying24 Tryz.underlying41 (by kernel_rfl) (by kernel_rfl) (by kernel_rfl) (by kernel_rfl) (by kernel_rfl) (by kernel_rfl) (by kernel_rfl) (by kernel_rfl) (by kernel_rfl) (by kernel_rfl) (by kernel_rfl) Tryz.underlying9 Tryz.underlying9 Tryz.underlying37 Tryz.underlying38 Tryz.underlying39 Tryz.underlying3 (by kernel_rfl) (of_decide_eq_true (by kernel_rfl)) Tryz.underlying9 (by kernel_rfl) (of_decide_eq_true (by kernel_rfl)) Tryz.underlying105 (by kernel_rfl) (by kernel_rfl) (by kernel_rfl) (by kernel_rfl) (by kernel_rfl) (by kernel_rfl) (by kernel_rfl) Tryz.underlying3 Tryz.underlying3 Tryz.underlying3 (of_decide_eq_true (by kernel_rfl)) (of_decide_eq_true (by kernel_rfl)) hf z3
    simp [Value.cells] at e
    exact ⟨s, e ▸ hs⟩
  clear hA0 hval0
  refine (walk_BlameMerges _ _ _ _ x0 x1 x2 x3 W w0 w1 w2 w3).mono fun e W' ⟨he, bel⟩ => ?_
  subst he
  exact ⟨_, rfl, _, _, _, [], _, [], hW', trodAll_mk1 (shut_bool Tryz.underlying4 _), (trodAll_cons_mk (Below.trod laidOut (by kernel_rfl) (of_decide_eq_true (by kernel_rfl)) k0 bel lt0) (trodAll_cons_mk (Below.trod laidOut (by kernel_rfl) (of_decide_eq_true (by kernel_rfl)) k1 bel lt1) (trodAll_cons_mk (Below.trod laidOut (by kernel_rfl) (of_decide_eq_true (by kernel_rfl)) k2 bel lt2) (trodAll_cons_mk (Below.trod laidOut (by kernel_rfl) (of_decide_eq_true (by kernel_rfl)) k3 bel lt3) trodAll_mk0)))), rfl, bel.frame _, fun h => by cases h⟩
theorem jla_BlameMerges : (Rows.blameMergesRow.inPlace == Tryz.checked.prog.inPlace 8) = true := by kernel_rfl
theorem jlb_BlameMerges : (Rows.blameMergesRow.unfollowed == Tryz.checked.prog.unfollowed 8) = true := by kernel_rfl
theorem jlc_BlameMerges : (Rows.blameMergesRow.recurses == Tryz.checked.prog.recurses 8) = true := by kernel_rfl
theorem jld_BlameMerges : (Rows.blameMergesRow.named == Tryz.checked.prog.varsNamed 8) = true := by kernel_rfl
theorem jle_BlameMerges : (Rows.blameMergesRow.plainKeys == Tryz.checked.prog.plainKeys) = true := by kernel_rfl
theorem jlf_BlameMerges : (Rows.blameMergesRow.lifted == Tryz.checked.prog.liftsFinal) = true := by kernel_rfl
theorem jlg_BlameMerges : (Tryz.checked.prog.make == some Rows.blameMergesRow.make) = true := by kernel_rfl
theorem fn_BlameMerges : Tryz.checked.prog.funcNamed Rows.blameMergesRow.func = some 8 := by kernel_rfl
theorem closed_BlameMerges : joinedFacts Tryz.checked.prog 8 Tryz.f8 Rows.blameMergesSpec Rows.blameMergesRow = true := by
  unfold joinedFacts
  rw [jf_laid, jf_maps, jla_BlameMerges, jlb_BlameMerges, jlc_BlameMerges, jld_BlameMerges, jle_BlameMerges, jf_heard, jf_enter, jlf_BlameMerges, jlg_BlameMerges]
  kernel_rfl
theorem proved_BlameMerges : Rows.BlameMergesSaid :=
  OpenClaim.holds_of_wide 8 Tryz.f8 rfl rfl rfl rfl rfl rfl rfl ⟨rfl, rfl, rfl, rfl, rfl⟩ rfl rfl rfl rfl rfl fn_BlameMerges Tryz.func8 closed_BlameMerges
    (of_decide_eq_true (by kernel_rfl)) (by unfold Func.isWrapper; first | (rw [if_pos (by decide +kernel)]; kernel_rfl) | (rw [if_neg (by decide +kernel)]; exact ⟨rfl, rfl⟩))
    (fun os started H enc _ => lifted_BlameMerges os started H enc)
#print axioms proved_BlameMerges
end Go.Proofs.YtlbjbmpkaniojaaGreat
