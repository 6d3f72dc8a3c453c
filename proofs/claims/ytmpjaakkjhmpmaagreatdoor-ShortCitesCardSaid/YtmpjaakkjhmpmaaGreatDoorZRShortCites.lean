/-
  WHAT IT HOLDS: the row of the law ShortCites: whatever the input, the law returns true, and the input reads as it did. No condition.
-/
import Derived.Test.YtmpjaakkjhmpmaaGreatDoorRows
import Derived.Test.YtmpjaakkjhmpmaaGreatDoorTie
import Derived.Test.YtmpjaakkjhmpmaaGreatDoorCards
import Derived.SevenTiedAt
import Derived.Handed
import Derived.ProofKit
import Derived.OpenShut
import Derived.ChangeOld
import Derived.SizedLaws
import Derived.Test.YtmpjaakkjhmpmaaGreatDoorZRShortCites46
import Derived.Test.YtmpjaakkjhmpmaaGreatDoorZRShortCites10
import Derived.Test.YtmpjaakkjhmpmaaGreatDoorZRShortCites12
import Derived.Test.YtmpjaakkjhmpmaaGreatDoorZRShortCites47
import Derived.Test.YtmpjaakkjhmpmaaGreatDoorZRShortCites48
namespace Go.Proofs.YtmpjaakkjhmpmaaGreatDoor
open Go.ChangeShapes Go.WideShapes Go.ChangeAt Go.RowKit
set_option maxRecDepth 100000 in
theorem lifted_ShortCites (os : Os) (started : os.Started) (H : Type) (enc : TypeId × Value → H) :
    ReturnsInHanded {} Tryz.checked os 8 .any (fun w args => (Rows.shortCitesSpec.pre enc Tryz.prog Tryz.f8 Rows.shortCitesRow.domain false w args ∧ laidMetH Tryz.prog laid7 w) ∧ sizedMet enc Tryz.prog Tryz.f8 (OpenSpec.ofChange Rows.shortCitesSpec) false w args)
      (Rows.shortCitesSpec.post enc Tryz.prog Tryz.f8 false true false false) := by
  refine returnsInHanded_of_change_and (C := Tryz.checked) (X := fun w _ => laidMetH Tryz.prog laid7 w) (fun _ _ _ hh h => h.of_heap hh) own7 started (by kernel_rfl) Tryz.func8
    (ChangeSpec.witness_at (enc := enc) (C := Tryz.checked) (os := os) (X := fun w _ => laidMetH Tryz.prog laid7 w) false (laidWorld7 os) #[.slice none 0 0, .slice none 0 0, .slice none 0 0] 8 rfl (by kernel_rfl) (by kernel_rfl) (by kernel_rfl) (by kernel_rfl) (by kernel_rfl) (laid_met7 os _)) ?_
  intro W base args ds gs before hval0 hW hcnd hsz0 hL _
  have htab := tab7 hL
  have hval : ∀ (j : Nat) t v, Tryz.f8.params[j]? = some t → args[j]? = some v → Value.okWide Tryz.prog W .any base t v := hval0
  have hW' := hW
  obtain ⟨p, q, hA0, hV, rfl, hfz, hnd⟩ := hW
  have hA : DataW.TrodAll enc Tryz.prog W 0 (fun _ => true) true Tryz.f8.params.toList args.toList ds p := hA0
  have hsz : (DataW.weightsEach Tryz.prog (Tryz.f8.params.toList ++ _) (ds ++ gs)).all (· ≤ reachBytes) = true := hsz0
  rw [Tryz.params8] at hA hval hsz
  obtain ⟨v0, vs0, d0, ds0, p0, q0, hargs, rfl, rfl, h0, r0⟩ := trodAll_cons hA
  obtain ⟨v1, vs1, d1, ds1, p1, q1, rfl, rfl, rfl, h1, r1⟩ := trodAll_cons r0
  obtain ⟨v2, vs2, d2, ds2, p2, q2, rfl, rfl, rfl, h2, r2⟩ := trodAll_cons r1
  obtain ⟨rfl, rfl, rfl⟩ := trodAll_nil r2
  obtain rfl : args = #[v0, v1, v2] := by cases args; simp_all
  obtain ⟨rfl, rfl⟩ := trodVars_none hV
  obtain ⟨a0, len0, cap0, rfl⟩ := okWide_slice Tryz.underlying23 (hval 0 _ v0 rfl rfl)
  have z0 := small_of hsz (j := 0) rfl rfl
  have k0 := h0
  have lt0 : ∀ x ∈ p0, x.block < W.heap.size := by obtain ⟨m, hm⟩ := k0; exact DataW.trod_lt m _ _ _ hm
  obtain ⟨a1, len1, cap1, rfl⟩ := okWide_slice Tryz.underlying24 (hval 1 _ v1 rfl rfl)
  have z1 := small_of hsz (j := 1) rfl rfl
  have k1 := h1
  have lt1 : ∀ x ∈ p1, x.block < W.heap.size := by obtain ⟨m, hm⟩ := k1; exact DataW.trod_lt m _ _ _ hm
  obtain ⟨a2, len2, cap2, rfl⟩ := okWide_slice Tryz.underlying25 (hval 2 _ v2 rfl rfl)
  have z2 := small_of hsz (j := 2) rfl rfl
  have k2 := h2
  have lt2 : ∀ x ∈ p2, x.block < W.heap.size := by obtain ⟨m, hm⟩ := k2; exact DataW.trod_lt m _ _ _ hm
  obtain ⟨x0, w0⟩ : ∃ s, SignAt W (.slice a0 len0 cap0) s := by
    obtain ⟨fuel, hf⟩ := h0
    obtain ⟨v, s, e, hs, _⟩ := sign_of_trod Tryz.underlying23 Tryz.underlying72 (by kernel_rfl) (by kernel_rfl) (by kernel_rfl) (by kernel_rfl) (by kernel_rfl) (by kernel_rfl) (by kernel_rfl) (of_decide_eq_true (by kernel_rfl)) hf z0
    simp [Value.cells] at e
    exact ⟨s, e ▸ hs⟩
  obtain ⟨x1, w1⟩ : ∃ s, Terms W (.slice a1 len1 cap1) s := by
    obtain ⟨fuel, hf⟩ := h1
    obtain ⟨v, s, e, hs, _⟩ := terms_of_trod Tryz.underlying24 Tryz.underlying34 Tryz.underlying3 (by kernel_rfl) (by kernel_rfl) (of_decide_eq_true (by kernel_rfl)) (of_decide_eq_true (by kernel_rfl)) hf z1
    simp [Value.cells] at e
    exact ⟨s, e ▸ hs⟩
  obtain ⟨x2, w2⟩ : ∃ s, StepsAt W (.slice a2 len2 cap2) s := by
    obtain ⟨fuel, hf⟩ := h2
    obtain ⟨v, s, e, hs⟩ := steps_of_trod Tryz.underlying25 Tryz.underlying57 (by kernel_rfl) (by kernel_rfl) (by kernel_rfl) (by kernel_rfl) (by kernel_rfl) (by kernel_rfl) (by kernel_rfl) Tryz.underlying3 Tryz.underlying3 Tryz.underlying3 (of_decide_eq_true (by kernel_rfl)) hf z2
    simp [Value.cells] at e
    exact ⟨s, e ▸ hs⟩
  clear hA0 hval0
  refine (walk_ShortCites _ _ _ x0 x1 x2 W w0 w1 w2 htab).mono fun e W' ⟨he, bel⟩ => ?_
  subst he
  exact ⟨_, rfl, _, _, _, [], _, [], hW', trodAll_mk1 (shut_bool Tryz.underlying4 _), (trodAll_cons_mk (Below.trod laidOut (by kernel_rfl) (of_decide_eq_true (by kernel_rfl)) k0 bel lt0) (trodAll_cons_mk (Below.trod laidOut (by kernel_rfl) (of_decide_eq_true (by kernel_rfl)) k1 bel lt1) (trodAll_cons_mk (Below.trod laidOut (by kernel_rfl) (of_decide_eq_true (by kernel_rfl)) k2 bel lt2) trodAll_mk0))), rfl, bel.frame _, fun h => by cases h⟩
theorem jla_ShortCites : (Rows.shortCitesRow.inPlace == Tryz.checked.prog.inPlace 8) = true := by kernel_rfl
theorem jlb_ShortCites : (Rows.shortCitesRow.unfollowed == Tryz.checked.prog.unfollowed 8) = true := by kernel_rfl
theorem jlc_ShortCites : (Rows.shortCitesRow.recurses == Tryz.checked.prog.recurses 8) = true := by kernel_rfl
theorem jld_ShortCites : (Rows.shortCitesRow.named == Tryz.checked.prog.varsNamed 8) = true := by kernel_rfl
theorem jle_ShortCites : (Rows.shortCitesRow.plainKeys == Tryz.checked.prog.plainKeys) = true := by kernel_rfl
theorem jlf_ShortCites : (Rows.shortCitesRow.lifted == Tryz.checked.prog.liftsFinal) = true := by kernel_rfl
theorem jlg_ShortCites : (Tryz.checked.prog.make == some Rows.shortCitesRow.make) = true := by kernel_rfl
theorem fn_ShortCites : Tryz.checked.prog.funcNamed Rows.shortCitesRow.func = some 8 := by kernel_rfl
theorem closed_ShortCites : joinedFacts Tryz.checked.prog 8 Tryz.f8 Rows.shortCitesSpec Rows.shortCitesRow = true := by
  unfold joinedFacts
  rw [jf_laid, jf_maps, jla_ShortCites, jlb_ShortCites, jlc_ShortCites, jld_ShortCites, jle_ShortCites, jf_heard, jf_enter, jlf_ShortCites, jlg_ShortCites]
  kernel_rfl
theorem row_ShortCites : Rows.ShortCitesSaid :=
  OpenClaim.holds_of_wide 8 Tryz.f8 rfl rfl rfl rfl rfl rfl rfl ⟨rfl, rfl, rfl, rfl, rfl⟩ rfl rfl rfl rfl rfl fn_ShortCites Tryz.func8 closed_ShortCites
    (of_decide_eq_true (by kernel_rfl)) (by unfold Func.isWrapper; first | (rw [if_pos (by decide +kernel)]; kernel_rfl) | (rw [if_neg (by decide +kernel)]; exact ⟨rfl, rfl⟩))
    (fun os started H enc _ => lifted_ShortCites os started H enc)
theorem proved_ShortCites : Rows.ShortCitesCardSaid :=
  Claim7.holds_tied_plain_at .later [] [.data, .data, .data] true (true, "6272067c3d1601d2e21323efe9e6f56ae41cac7b6cc1a39ae17a00038bfa4063") false
    row_ShortCites (fun _ h => by cases h) (by kernel_rfl) (fun _ h => by cases h) shortCites_row_tie rfl ⟨rfl, rfl⟩ (by kernel_rfl) rfl
    (fun f fn hf hfn => by
      obtain rfl : f = 8 := Option.some.inj ((show Tryz.prog.funcNamed "lemmary/lemmarylaw07.ShortCites" = some 8 by kernel_rfl).symm.trans hf) |>.symm
      obtain rfl : fn = Tryz.f8 := (Option.some.inj (Tryz.func8.symm.trans hfn)).symm
      refine ⟨by kernel_rfl, fun j t ht => ?_⟩
      rw [Tryz.params8] at ht
      have hm := Array.mem_of_getElem? ht
      simp only [List.mem_toArray, List.mem_cons, List.not_mem_nil, or_false] at hm
      rcases hm with rfl | rfl | rfl
      · exact (show Tryz.prog.wantsStandIn 23 = false by kernel_rfl)
      · exact (show Tryz.prog.wantsStandIn 24 = false by kernel_rfl)
      · exact (show Tryz.prog.wantsStandIn 25 = false by kernel_rfl))
    (by kernel_rfl)
#print axioms proved_ShortCites
end Go.Proofs.YtmpjaakkjhmpmaaGreatDoor
