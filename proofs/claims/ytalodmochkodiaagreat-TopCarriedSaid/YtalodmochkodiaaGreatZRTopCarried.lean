/-
  WHAT IT HOLDS: the row of the law TopCarried: whatever the input, the law returns true, and the input reads as it did. No condition.
-/
import Derived.Test.YtalodmochkodiaaGreatRows
import Derived.ChangeMaps5
import Derived.ProofKit
import Derived.OpenShut
import Derived.ChangeOld
import Derived.SizedLaws
import Derived.Test.YtalodmochkodiaaGreatZRTopCarried46
import Derived.Test.YtalodmochkodiaaGreatZRTopCarried10
import Derived.Test.YtalodmochkodiaaGreatZRTopCarried11
import Derived.Test.YtalodmochkodiaaGreatZRTopCarried47
import Derived.Test.YtalodmochkodiaaGreatZRTopCarried48
namespace Go.Proofs.YtalodmochkodiaaGreat
open Go.ChangeShapes Go.WideShapes Go.ChangeAt Go.RowKit
set_option maxRecDepth 100000 in
theorem lifted_TopCarried (os : Os) (started : os.Started) (H : Type) (enc : TypeId × Value → H) :
    ReturnsInHanded {} Tryz.checked os 14 .any (Rows.topCarriedSpec.pre6 enc Tryz.prog Tryz.f14 Rows.topCarriedRow.domain false) (Rows.topCarriedSpec.post enc Tryz.prog Tryz.f14 false true false false) := by
  refine returnsInHanded_of_change_sized (C := Tryz.checked) (by kernel_rfl) started (by kernel_rfl) Tryz.func14
    (ChangeSpec.witness6 (enc := enc) (C := Tryz.checked) false ⟨#[], #[.slice none 0 0, .slice none 0 0, .slice none 0 0, .slice none 0 0, .string ByteArray.empty, .string ByteArray.empty, .string ByteArray.empty, .string ByteArray.empty], []⟩ 8 (by kernel_rfl) (by kernel_rfl) (by kernel_rfl) (by kernel_rfl)) ?_
  intro W base args ds gs before hval0 hW hcnd hsz0 _
  have hval : ∀ (j : Nat) t v, Tryz.f14.params[j]? = some t → args[j]? = some v → Value.okWide Tryz.prog W .any base t v := hval0
  have hW' := hW
  obtain ⟨p, q, hA0, hV, rfl, hfz, hnd⟩ := hW
  have hA : DataW.TrodAll enc Tryz.prog W 0 (fun _ => true) true Tryz.f14.params.toList args.toList ds p := hA0
  have hsz : (DataW.weightsEach Tryz.prog (Tryz.f14.params.toList ++ _) (ds ++ gs)).all (· ≤ reachBytes) = true := hsz0
  rw [Tryz.params14] at hA hval hsz
  obtain ⟨v0, vs0, d0, ds0, p0, q0, hargs, rfl, rfl, h0, r0⟩ := trodAll_cons hA
  obtain ⟨v1, vs1, d1, ds1, p1, q1, rfl, rfl, rfl, h1, r1⟩ := trodAll_cons r0
  obtain ⟨v2, vs2, d2, ds2, p2, q2, rfl, rfl, rfl, h2, r2⟩ := trodAll_cons r1
  obtain ⟨v3, vs3, d3, ds3, p3, q3, rfl, rfl, rfl, h3, r3⟩ := trodAll_cons r2
  obtain ⟨v4, vs4, d4, ds4, p4, q4, rfl, rfl, rfl, h4, r4⟩ := trodAll_cons r3
  obtain ⟨v5, vs5, d5, ds5, p5, q5, rfl, rfl, rfl, h5, r5⟩ := trodAll_cons r4
  obtain ⟨v6, vs6, d6, ds6, p6, q6, rfl, rfl, rfl, h6, r6⟩ := trodAll_cons r5
  obtain ⟨v7, vs7, d7, ds7, p7, q7, rfl, rfl, rfl, h7, r7⟩ := trodAll_cons r6
  obtain ⟨rfl, rfl, rfl⟩ := trodAll_nil r7
  obtain rfl : args = #[v0, v1, v2, v3, v4, v5, v6, v7] := by cases args; simp_all
  obtain ⟨rfl, rfl⟩ := trodVars_none hV
  obtain ⟨a0, len0, cap0, rfl⟩ := okWide_slice Tryz.underlying23 (hval 0 _ v0 rfl rfl)
  have z0 := small_of hsz (j := 0) rfl rfl
  have k0 := h0
  have lt0 : ∀ x ∈ p0, x.block < W.heap.size := by obtain ⟨m, hm⟩ := k0; exact DataW.trod_lt m _ _ _ hm
  obtain ⟨a1, len1, cap1, rfl⟩ := okWide_slice Tryz.underlying23 (hval 1 _ v1 rfl rfl)
  have z1 := small_of hsz (j := 1) rfl rfl
  have k1 := h1
  have lt1 : ∀ x ∈ p1, x.block < W.heap.size := by obtain ⟨m, hm⟩ := k1; exact DataW.trod_lt m _ _ _ hm
  obtain ⟨a2, len2, cap2, rfl⟩ := okWide_slice Tryz.underlying76 (hval 2 _ v2 rfl rfl)
  have z2 := small_of hsz (j := 2) rfl rfl
  have k2 := h2
  have lt2 : ∀ x ∈ p2, x.block < W.heap.size := by obtain ⟨m, hm⟩ := k2; exact DataW.trod_lt m _ _ _ hm
  obtain ⟨a3, len3, cap3, rfl⟩ := okWide_slice Tryz.underlying24 (hval 3 _ v3 rfl rfl)
  have z3 := small_of hsz (j := 3) rfl rfl
  have k3 := h3
  have lt3 : ∀ x ∈ p3, x.block < W.heap.size := by obtain ⟨m, hm⟩ := k3; exact DataW.trod_lt m _ _ _ hm
  have z4 := small_of hsz (j := 4) rfl rfl
  have k4 := h4
  have lt4 : ∀ x ∈ p4, x.block < W.heap.size := by obtain ⟨m, hm⟩ := k4; exact DataW.trod_lt m _ _ _ hm
  have z5 := small_of hsz (j := 5) rfl rfl
  have k5 := h5
  have lt5 : ∀ x ∈ p5, x.block < W.heap.size := by obtain ⟨m, hm⟩ := k5; exact DataW.trod_lt m _ _ _ hm
  have z6 := small_of hsz (j := 6) rfl rfl
  have k6 := h6
  have lt6 : ∀ x ∈ p6, x.block < W.heap.size := by obtain ⟨m, hm⟩ := k6; exact DataW.trod_lt m _ _ _ hm
  have z7 := small_of hsz (j := 7) rfl rfl
  have k7 := h7
  have lt7 : ∀ x ∈ p7, x.block < W.heap.size := by obtain ⟨m, hm⟩ := k7; exact DataW.trod_lt m _ _ _ hm
  obtain ⟨x0, w0⟩ : ∃ s, SignAt W (.slice a0 len0 cap0) s := by
    obtain ⟨fuel, hf⟩ := h0
    obtain ⟨v, s, e, hs, _⟩ := sign_of_trod Tryz.underlying23 Tryz.underlying99 (by kernel_rfl) (by kernel_rfl) (by kernel_rfl) (by kernel_rfl) (by kernel_rfl) (by kernel_rfl) (by kernel_rfl) (of_decide_eq_true (by kernel_rfl)) hf z0
    simp [Value.cells] at e
    exact ⟨s, e ▸ hs⟩
  obtain ⟨x1, w1⟩ : ∃ s, SignAt W (.slice a1 len1 cap1) s := by
    obtain ⟨fuel, hf⟩ := h1
    obtain ⟨v, s, e, hs, _⟩ := sign_of_trod Tryz.underlying23 Tryz.underlying99 (by kernel_rfl) (by kernel_rfl) (by kernel_rfl) (by kernel_rfl) (by kernel_rfl) (by kernel_rfl) (by kernel_rfl) (of_decide_eq_true (by kernel_rfl)) hf z1
    simp [Value.cells] at e
    exact ⟨s, e ▸ hs⟩
  obtain ⟨x2, w2⟩ : ∃ s, BindsAt W (.slice a2 len2 cap2) s := by
    obtain ⟨fuel, hf⟩ := h2
    obtain ⟨v, s, e, hs⟩ := binds_of_trod Tryz.underlying76 Tryz.underlying151 (by kernel_rfl) (by kernel_rfl) (by kernel_rfl) (by kernel_rfl) (by kernel_rfl) (by kernel_rfl) (by kernel_rfl) Tryz.underlying3 (by kernel_rfl) (of_decide_eq_true (by kernel_rfl)) (of_decide_eq_true (by kernel_rfl)) hf z2
    simp [Value.cells] at e
    exact ⟨s, e ▸ hs⟩
  obtain ⟨x3, w3⟩ : ∃ s, EntsAt W (.slice a3 len3 cap3) s := by
    obtain ⟨fuel, hf⟩ := h3
    obtain ⟨v, s, e, hs⟩ := ents_of_trod Tryz.underlying24 Tryz.underlying41 (by kernel_rfl) (by kernel_rfl) (by kernel_rfl) (by kernel_rfl) (by kernel_rfl) (by kernel_rfl) (by kernel_rfl) (by kernel_rfl) (by kernel_rfl) (by kernel_rfl) (by kernel_rfl) Tryz.underlying9 Tryz.underlying9 Tryz.underlying37 Tryz.underlying38 Tryz.underlying39 Tryz.underlying3 (by kernel_rfl) (of_decide_eq_true (by kernel_rfl)) Tryz.underlying9 (by kernel_rfl) (of_decide_eq_true (by kernel_rfl)) Tryz.underlying123 (by kernel_rfl) (by kernel_rfl) (by kernel_rfl) (by kernel_rfl) (by kernel_rfl) (by kernel_rfl) (by kernel_rfl) Tryz.underlying3 Tryz.underlying3 Tryz.underlying3 (of_decide_eq_true (by kernel_rfl)) (of_decide_eq_true (by kernel_rfl)) hf z3
    simp [Value.cells] at e
    exact ⟨s, e ▸ hs⟩
  obtain ⟨x4, rfl, e4, -, -⟩ := Go.ChangeMaps.open_string Tryz.underlying9 (hval 4 _ v4 rfl rfl) h4
  have w4 := str_small z4 e4
  obtain ⟨x5, rfl, e5, -, -⟩ := Go.ChangeMaps.open_string Tryz.underlying9 (hval 5 _ v5 rfl rfl) h5
  have w5 := str_small z5 e5
  obtain ⟨x6, rfl, e6, -, -⟩ := Go.ChangeMaps.open_string Tryz.underlying9 (hval 6 _ v6 rfl rfl) h6
  have w6 := str_small z6 e6
  obtain ⟨x7, rfl, e7, -, -⟩ := Go.ChangeMaps.open_string Tryz.underlying9 (hval 7 _ v7 rfl rfl) h7
  have w7 := str_small z7 e7
  clear hA0 hval0
  refine (walk_TopCarried _ _ _ _ x0 x1 x2 x3 x4 x5 x6 x7 W w0 w1 w2 w3 w4 w5 w6 w7).mono fun e W' ⟨he, bel⟩ => ?_
  subst he
  exact ⟨_, rfl, _, _, _, [], _, [], hW', trodAll_mk1 (shut_bool Tryz.underlying4 _), (trodAll_cons_mk (Below.trod laidOut (by kernel_rfl) (of_decide_eq_true (by kernel_rfl)) k0 bel lt0) (trodAll_cons_mk (Below.trod laidOut (by kernel_rfl) (of_decide_eq_true (by kernel_rfl)) k1 bel lt1) (trodAll_cons_mk (Below.trod laidOut (by kernel_rfl) (of_decide_eq_true (by kernel_rfl)) k2 bel lt2) (trodAll_cons_mk (Below.trod laidOut (by kernel_rfl) (of_decide_eq_true (by kernel_rfl)) k3 bel lt3) (trodAll_cons_mk (Below.trod laidOut (by kernel_rfl) (of_decide_eq_true (by kernel_rfl)) k4 bel lt4) (trodAll_cons_mk (Below.trod laidOut (by kernel_rfl) (of_decide_eq_true (by kernel_rfl)) k5 bel lt5) (trodAll_cons_mk (Below.trod laidOut (by kernel_rfl) (of_decide_eq_true (by kernel_rfl)) k6 bel lt6) (trodAll_cons_mk (Below.trod laidOut (by kernel_rfl) (of_decide_eq_true (by kernel_rfl)) k7 bel lt7) trodAll_mk0)))))))), rfl, bel.frame _, fun h => by cases h⟩
theorem jla_TopCarried : (Rows.topCarriedRow.inPlace == Tryz.checked.prog.inPlace 14) = true := by kernel_rfl
theorem jlb_TopCarried : (Rows.topCarriedRow.unfollowed == Tryz.checked.prog.unfollowed 14) = true := by kernel_rfl
theorem jlc_TopCarried : (Rows.topCarriedRow.recurses == Tryz.checked.prog.recurses 14) = true := by kernel_rfl
theorem jld_TopCarried : (Rows.topCarriedRow.named == Tryz.checked.prog.varsNamed 14) = true := by kernel_rfl
theorem jle_TopCarried : (Rows.topCarriedRow.plainKeys == Tryz.checked.prog.plainKeys) = true := by kernel_rfl
theorem jlf_TopCarried : (Rows.topCarriedRow.lifted == Tryz.checked.prog.liftsFinal) = true := by kernel_rfl
theorem jlg_TopCarried : (Tryz.checked.prog.make == some Rows.topCarriedRow.make) = true := by kernel_rfl
theorem fn_TopCarried : Tryz.checked.prog.funcNamed Rows.topCarriedRow.func = some 14 := by kernel_rfl
theorem closed_TopCarried : joinedFacts Tryz.checked.prog 14 Tryz.f14 Rows.topCarriedSpec Rows.topCarriedRow = true := by
  unfold joinedFacts
  rw [jf_laid, jf_maps, jla_TopCarried, jlb_TopCarried, jlc_TopCarried, jld_TopCarried, jle_TopCarried, jf_heard, jf_enter, jlf_TopCarried, jlg_TopCarried]
  kernel_rfl
theorem proved_TopCarried : Rows.TopCarriedSaid :=
  OpenClaim.holds_of_wide 14 Tryz.f14 rfl rfl rfl rfl rfl rfl rfl ⟨rfl, rfl, rfl, rfl, rfl⟩ rfl rfl rfl rfl rfl fn_TopCarried Tryz.func14 closed_TopCarried
    (of_decide_eq_true (by kernel_rfl)) (by unfold Func.isWrapper; first | (rw [if_pos (by decide +kernel)]; kernel_rfl) | (rw [if_neg (by decide +kernel)]; exact ⟨rfl, rfl⟩))
    (fun os started H enc _ => lifted_TopCarried os started H enc)
#print axioms proved_TopCarried
end Go.Proofs.YtalodmochkodiaaGreat
