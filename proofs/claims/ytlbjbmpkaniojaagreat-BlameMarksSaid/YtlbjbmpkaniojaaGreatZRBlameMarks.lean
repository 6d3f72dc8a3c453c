/-
  WHAT IT HOLDS: the row of the law BlameMarks: whatever the input, the law returns true, and the input reads as it did. No condition.
-/
import Derived.Test.YtlbjbmpkaniojaaGreatRows
import Derived.ChangeMaps5
import Derived.ProofKit
import Derived.OpenShut
import Derived.ChangeOld
import Derived.SizedLaws
import Derived.Test.YtlbjbmpkaniojaaGreatZRBlameMarks47
import Derived.Test.YtlbjbmpkaniojaaGreatZRBlameMarks7
import Derived.Test.YtlbjbmpkaniojaaGreatZRBlameMarks31
import Derived.Test.YtlbjbmpkaniojaaGreatZRBlameMarks32
import Derived.Test.YtlbjbmpkaniojaaGreatZRBlameMarks48
namespace Go.Proofs.YtlbjbmpkaniojaaGreat
open Go.ChangeShapes Go.WideShapes Go.ChangeAt Go.RowKit
set_option maxRecDepth 100000 in
theorem lifted_BlameMarks (os : Os) (started : os.Started) (H : Type) (enc : TypeId × Value → H) :
    ReturnsInHanded {} Tryz.checked os 7 .any (Rows.blameMarksSpec.pre6 enc Tryz.prog Tryz.f7 Rows.blameMarksRow.domain false) (Rows.blameMarksSpec.post enc Tryz.prog Tryz.f7 false true false false) := by
  refine returnsInHanded_of_change_sized (C := Tryz.checked) (by kernel_rfl) started (by kernel_rfl) Tryz.func7
    (ChangeSpec.witness6 (enc := enc) (C := Tryz.checked) false ⟨#[], #[.slice none 0 0, .slice none 0 0, .slice none 0 0, .string ByteArray.empty, .string ByteArray.empty, .slice none 0 0], []⟩ 8 (by kernel_rfl) (by kernel_rfl) (by kernel_rfl) (by kernel_rfl)) ?_
  intro W base args ds gs before hval0 hW hcnd hsz0 _
  have hval : ∀ (j : Nat) t v, Tryz.f7.params[j]? = some t → args[j]? = some v → Value.okWide Tryz.prog W .any base t v := hval0
  have hW' := hW
  obtain ⟨p, q, hA0, hV, rfl, hfz, hnd⟩ := hW
  have hA : DataW.TrodAll enc Tryz.prog W 0 (fun _ => true) true Tryz.f7.params.toList args.toList ds p := hA0
  have hsz : (DataW.weightsEach Tryz.prog (Tryz.f7.params.toList ++ _) (ds ++ gs)).all (· ≤ reachBytes) = true := hsz0
  rw [Tryz.params7] at hA hval hsz
  obtain ⟨v0, vs0, d0, ds0, p0, q0, hargs, rfl, rfl, h0, r0⟩ := trodAll_cons hA
  obtain ⟨v1, vs1, d1, ds1, p1, q1, rfl, rfl, rfl, h1, r1⟩ := trodAll_cons r0
  obtain ⟨v2, vs2, d2, ds2, p2, q2, rfl, rfl, rfl, h2, r2⟩ := trodAll_cons r1
  obtain ⟨v3, vs3, d3, ds3, p3, q3, rfl, rfl, rfl, h3, r3⟩ := trodAll_cons r2
  obtain ⟨v4, vs4, d4, ds4, p4, q4, rfl, rfl, rfl, h4, r4⟩ := trodAll_cons r3
  obtain ⟨v5, vs5, d5, ds5, p5, q5, rfl, rfl, rfl, h5, r5⟩ := trodAll_cons r4
  obtain ⟨rfl, rfl, rfl⟩ := trodAll_nil r5
  obtain rfl : args = #[v0, v1, v2, v3, v4, v5] := by cases args; simp_all
  obtain ⟨rfl, rfl⟩ := trodVars_none hV
  obtain ⟨a0, len0, cap0, rfl⟩ := okWide_slice Tryz.underlying23 (hval 0 _ v0 rfl rfl)
  have z0 := small_of hsz (j := 0) rfl rfl
  have k0 := h0
  have lt0 : ∀ x ∈ p0, x.block < W.heap.size := by obtain ⟨m, hm⟩ := k0; exact DataW.trod_lt m _ _ _ hm
  obtain ⟨a1, len1, cap1, rfl⟩ := okWide_slice Tryz.underlying24 (hval 1 _ v1 rfl rfl)
  have z1 := small_of hsz (j := 1) rfl rfl
  have k1 := h1
  have lt1 : ∀ x ∈ p1, x.block < W.heap.size := by obtain ⟨m, hm⟩ := k1; exact DataW.trod_lt m _ _ _ hm
  obtain ⟨a2, len2, cap2, rfl⟩ := okWide_slice Tryz.underlying25 (hval 2 _ v2 rfl rfl)
  have z2 := small_of hsz (j := 2) rfl rfl
  have k2 := h2
  have lt2 : ∀ x ∈ p2, x.block < W.heap.size := by obtain ⟨m, hm⟩ := k2; exact DataW.trod_lt m _ _ _ hm
  have z3 := small_of hsz (j := 3) rfl rfl
  have k3 := h3
  have lt3 : ∀ x ∈ p3, x.block < W.heap.size := by obtain ⟨m, hm⟩ := k3; exact DataW.trod_lt m _ _ _ hm
  have z4 := small_of hsz (j := 4) rfl rfl
  have k4 := h4
  have lt4 : ∀ x ∈ p4, x.block < W.heap.size := by obtain ⟨m, hm⟩ := k4; exact DataW.trod_lt m _ _ _ hm
  obtain ⟨a5, len5, cap5, rfl⟩ := okWide_slice Tryz.underlying37 (hval 5 _ v5 rfl rfl)
  have z5 := small_of hsz (j := 5) rfl rfl
  have k5 := h5
  have lt5 : ∀ x ∈ p5, x.block < W.heap.size := by obtain ⟨m, hm⟩ := k5; exact DataW.trod_lt m _ _ _ hm
  obtain ⟨x0, w0⟩ : ∃ s, SignAt W (.slice a0 len0 cap0) s := by
    obtain ⟨fuel, hf⟩ := h0
    obtain ⟨v, s, e, hs, _⟩ := sign_of_trod Tryz.underlying23 Tryz.underlying81 (by kernel_rfl) (by kernel_rfl) (by kernel_rfl) (by kernel_rfl) (by kernel_rfl) (by kernel_rfl) (by kernel_rfl) (of_decide_eq_true (by kernel_rfl)) hf z0
    simp [Value.cells] at e
    exact ⟨s, e ▸ hs⟩
  obtain ⟨x1, w1⟩ : ∃ s, EntsAt W (.slice a1 len1 cap1) s := by
    obtain ⟨fuel, hf⟩ := h1
    obtain ⟨v, s, e, hs⟩ := ents_of_trod Tryz.underlying24 Tryz.underlying41 (by kernel_rfl) (by kernel_rfl) (by kernel_rfl) (by kernel_rfl) (by kernel_rfl) (by kernel_rfl) (by kernel_rfl) (by kernel_rfl) (by kernel_rfl) (by kernel_rfl) (by kernel_rfl) Tryz.underlying9 Tryz.underlying9 Tryz.underlying37 Tryz.underlying38 Tryz.underlying39 Tryz.underlying3 (by kernel_rfl) (of_decide_eq_true (by kernel_rfl)) Tryz.underlying9 (by kernel_rfl) (of_decide_eq_true (by kernel_rfl)) Tryz.underlying105 (by kernel_rfl) (by kernel_rfl) (by kernel_rfl) (by kernel_rfl) (by kernel_rfl) (by kernel_rfl) (by kernel_rfl) Tryz.underlying3 Tryz.underlying3 Tryz.underlying3 (of_decide_eq_true (by kernel_rfl)) (of_decide_eq_true (by kernel_rfl)) hf z1
    simp [Value.cells] at e
    exact ⟨s, e ▸ hs⟩
  obtain ⟨x2, w2⟩ : ∃ s, ChsAt W (.slice a2 len2 cap2) s := by
    obtain ⟨fuel, hf⟩ := h2
    obtain ⟨v, s, e, hs⟩ := chgs_of_trod Tryz.underlying25 Tryz.underlying43 (by kernel_rfl) (by kernel_rfl) (by kernel_rfl) (by kernel_rfl) (by kernel_rfl) (by kernel_rfl) (by kernel_rfl) (by kernel_rfl) (by kernel_rfl) (by kernel_rfl) (by kernel_rfl) Tryz.underlying3 Tryz.underlying9 Tryz.underlying9 Tryz.underlying9 (of_decide_eq_true (by kernel_rfl)) (fun h z => entry_of_trod Tryz.underlying41 (by kernel_rfl) (by kernel_rfl) (by kernel_rfl) (by kernel_rfl) (by kernel_rfl) (by kernel_rfl) (by kernel_rfl) (by kernel_rfl) (by kernel_rfl) (by kernel_rfl) (by kernel_rfl) Tryz.underlying9 Tryz.underlying9 Tryz.underlying37 Tryz.underlying38 Tryz.underlying39 Tryz.underlying3 (by kernel_rfl) (of_decide_eq_true (by kernel_rfl)) Tryz.underlying9 (by kernel_rfl) (of_decide_eq_true (by kernel_rfl)) Tryz.underlying105 (by kernel_rfl) (by kernel_rfl) (by kernel_rfl) (by kernel_rfl) (by kernel_rfl) (by kernel_rfl) (by kernel_rfl) Tryz.underlying3 Tryz.underlying3 Tryz.underlying3 (of_decide_eq_true (by kernel_rfl)) h z) hf z2
    simp [Value.cells] at e
    exact ⟨s, e ▸ hs⟩
  obtain ⟨x3, rfl, e3, -, -⟩ := Go.ChangeMaps.open_string Tryz.underlying9 (hval 3 _ v3 rfl rfl) h3
  have w3 := str_small z3 e3
  obtain ⟨x4, rfl, e4, -, -⟩ := Go.ChangeMaps.open_string Tryz.underlying9 (hval 4 _ v4 rfl rfl) h4
  have w4 := str_small z4 e4
  obtain ⟨x5, w5⟩ : ∃ s, Ints W (.slice a5 len5 cap5) s := by
    obtain ⟨fuel, hf⟩ := h5
    obtain ⟨v, s, e, hs, _⟩ := ints_of_trod Tryz.underlying37 Tryz.underlying3 (by kernel_rfl) (of_decide_eq_true (by kernel_rfl)) hf z5
    simp [Value.cells] at e
    exact ⟨s, e ▸ hs⟩
  clear hA0 hval0
  refine (walk_BlameMarks _ _ _ _ x0 x1 x2 x3 x4 x5 W w0 w1 w2 w3 w4 w5).mono fun e W' ⟨he, bel⟩ => ?_
  subst he
  exact ⟨_, rfl, _, _, _, [], _, [], hW', trodAll_mk1 (shut_bool Tryz.underlying4 _), (trodAll_cons_mk (Below.trod laidOut (by kernel_rfl) (of_decide_eq_true (by kernel_rfl)) k0 bel lt0) (trodAll_cons_mk (Below.trod laidOut (by kernel_rfl) (of_decide_eq_true (by kernel_rfl)) k1 bel lt1) (trodAll_cons_mk (Below.trod laidOut (by kernel_rfl) (of_decide_eq_true (by kernel_rfl)) k2 bel lt2) (trodAll_cons_mk (Below.trod laidOut (by kernel_rfl) (of_decide_eq_true (by kernel_rfl)) k3 bel lt3) (trodAll_cons_mk (Below.trod laidOut (by kernel_rfl) (of_decide_eq_true (by kernel_rfl)) k4 bel lt4) (trodAll_cons_mk (Below.trod laidOut (by kernel_rfl) (of_decide_eq_true (by kernel_rfl)) k5 bel lt5) trodAll_mk0)))))), rfl, bel.frame _, fun h => by cases h⟩
theorem jla_BlameMarks : (Rows.blameMarksRow.inPlace == Tryz.checked.prog.inPlace 7) = true := by kernel_rfl
theorem jlb_BlameMarks : (Rows.blameMarksRow.unfollowed == Tryz.checked.prog.unfollowed 7) = true := by kernel_rfl
theorem jlc_BlameMarks : (Rows.blameMarksRow.recurses == Tryz.checked.prog.recurses 7) = true := by kernel_rfl
theorem jld_BlameMarks : (Rows.blameMarksRow.named == Tryz.checked.prog.varsNamed 7) = true := by kernel_rfl
theorem jle_BlameMarks : (Rows.blameMarksRow.plainKeys == Tryz.checked.prog.plainKeys) = true := by kernel_rfl
theorem jlf_BlameMarks : (Rows.blameMarksRow.lifted == Tryz.checked.prog.liftsFinal) = true := by kernel_rfl
theorem jlg_BlameMarks : (Tryz.checked.prog.make == some Rows.blameMarksRow.make) = true := by kernel_rfl
theorem fn_BlameMarks : Tryz.checked.prog.funcNamed Rows.blameMarksRow.func = some 7 := by kernel_rfl
theorem closed_BlameMarks : joinedFacts Tryz.checked.prog 7 Tryz.f7 Rows.blameMarksSpec Rows.blameMarksRow = true := by
  unfold joinedFacts
  rw [jf_laid, jf_maps, jla_BlameMarks, jlb_BlameMarks, jlc_BlameMarks, jld_BlameMarks, jle_BlameMarks, jf_heard, jf_enter, jlf_BlameMarks, jlg_BlameMarks]
  kernel_rfl
theorem proved_BlameMarks : Rows.BlameMarksSaid :=
  OpenClaim.holds_of_wide 7 Tryz.f7 rfl rfl rfl rfl rfl rfl rfl ⟨rfl, rfl, rfl, rfl, rfl⟩ rfl rfl rfl rfl rfl fn_BlameMarks Tryz.func7 closed_BlameMarks
    (of_decide_eq_true (by kernel_rfl)) (by unfold Func.isWrapper; first | (rw [if_pos (by decide +kernel)]; kernel_rfl) | (rw [if_neg (by decide +kernel)]; exact ⟨rfl, rfl⟩))
    (fun os started H enc _ => lifted_BlameMarks os started H enc)
#print axioms proved_BlameMarks
end Go.Proofs.YtlbjbmpkaniojaaGreat
