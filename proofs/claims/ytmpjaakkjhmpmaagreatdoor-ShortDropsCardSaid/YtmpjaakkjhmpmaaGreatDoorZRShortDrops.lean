/-
  WHAT IT HOLDS: the row of the law ShortDrops: whatever the input, the law returns true, and the input reads as it did. No condition.
-/
import Derived.Test.YtmpjaakkjhmpmaaGreatDoorRows
import Derived.Test.YtmpjaakkjhmpmaaGreatDoorTie
import Derived.Test.YtmpjaakkjhmpmaaGreatDoorCards
import Derived.SevenTiedAt
import Derived.Handed
import Derived.ProofKit
import Derived.OpenShut
import Derived.ChangeOld
import Derived.SizedLaws
import Derived.Test.YtmpjaakkjhmpmaaGreatDoorZRShortDrops46
import Derived.Test.YtmpjaakkjhmpmaaGreatDoorZRShortDrops6
import Derived.Test.YtmpjaakkjhmpmaaGreatDoorZRShortDrops13
import Derived.Test.YtmpjaakkjhmpmaaGreatDoorZRShortDrops47
import Derived.Test.YtmpjaakkjhmpmaaGreatDoorZRShortDrops48
namespace Go.Proofs.YtmpjaakkjhmpmaaGreatDoor
open Go.ChangeShapes Go.WideShapes Go.ChangeAt Go.RowKit
set_option maxRecDepth 100000 in
theorem lifted_ShortDrops (os : Os) (started : os.Started) (H : Type) (enc : TypeId × Value → H) :
    ReturnsInHanded {} Tryz.checked os 5 .any (fun w args => (Rows.shortDropsSpec.pre enc Tryz.prog Tryz.f5 Rows.shortDropsRow.domain false w args ∧ laidMetH Tryz.prog laid7 w) ∧ sizedMet enc Tryz.prog Tryz.f5 (OpenSpec.ofChange Rows.shortDropsSpec) false w args)
      (Rows.shortDropsSpec.post enc Tryz.prog Tryz.f5 false true false false) := by
  refine returnsInHanded_of_change_and (C := Tryz.checked) (X := fun w _ => laidMetH Tryz.prog laid7 w) (fun _ _ _ hh h => h.of_heap hh) own7 started (by kernel_rfl) Tryz.func5
    (ChangeSpec.witness_at (enc := enc) (C := Tryz.checked) (os := os) (X := fun w _ => laidMetH Tryz.prog laid7 w) false (laidWorld7 os) #[.int .i64 0, .slice none 0 0] 8 rfl (by kernel_rfl) (by kernel_rfl) (by kernel_rfl) (by kernel_rfl) (by kernel_rfl) (laid_met7 os _)) ?_
  intro W base args ds gs before hval0 hW hcnd hsz0 hL _
  have htab := tab7 hL
  have hval : ∀ (j : Nat) t v, Tryz.f5.params[j]? = some t → args[j]? = some v → Value.okWide Tryz.prog W .any base t v := hval0
  have hW' := hW
  obtain ⟨p, q, hA0, hV, rfl, hfz, hnd⟩ := hW
  have hA : DataW.TrodAll enc Tryz.prog W 0 (fun _ => true) true Tryz.f5.params.toList args.toList ds p := hA0
  have hsz : (DataW.weightsEach Tryz.prog (Tryz.f5.params.toList ++ _) (ds ++ gs)).all (· ≤ reachBytes) = true := hsz0
  rw [Tryz.params5] at hA hval hsz
  obtain ⟨v0, vs0, d0, ds0, p0, q0, hargs, rfl, rfl, h0, r0⟩ := trodAll_cons hA
  obtain ⟨v1, vs1, d1, ds1, p1, q1, rfl, rfl, rfl, h1, r1⟩ := trodAll_cons r0
  obtain ⟨rfl, rfl, rfl⟩ := trodAll_nil r1
  obtain rfl : args = #[v0, v1] := by cases args; simp_all
  obtain ⟨rfl, rfl⟩ := trodVars_none hV
  obtain ⟨a1, len1, cap1, rfl⟩ := okWide_slice Tryz.underlying25 (hval 1 _ v1 rfl rfl)
  have z1 := small_of hsz (j := 1) rfl rfl
  have k1 := h1
  have lt1 : ∀ x ∈ p1, x.block < W.heap.size := by obtain ⟨m, hm⟩ := k1; exact DataW.trod_lt m _ _ _ hm
  obtain ⟨x0, rfl, rfl, rfl, w0⟩ := open_int Tryz.underlying3 (hval 0 _ v0 rfl rfl) h0
  obtain ⟨x1, w1⟩ : ∃ s, StepsAt W (.slice a1 len1 cap1) s := by
    obtain ⟨fuel, hf⟩ := h1
    obtain ⟨v, s, e, hs⟩ := steps_of_trod Tryz.underlying25 Tryz.underlying57 (by kernel_rfl) (by kernel_rfl) (by kernel_rfl) (by kernel_rfl) (by kernel_rfl) (by kernel_rfl) (by kernel_rfl) Tryz.underlying3 Tryz.underlying3 Tryz.underlying3 (of_decide_eq_true (by kernel_rfl)) hf z1
    simp [Value.cells] at e
    exact ⟨s, e ▸ hs⟩
  clear hA0 hval0
  refine (walk_ShortDrops _ x0 x1 W w1 htab).mono fun e W' ⟨he, bel⟩ => ?_
  subst he
  exact ⟨_, rfl, _, _, _, [], _, [], hW', trodAll_mk1 (shut_bool Tryz.underlying4 _), (trodAll_cons_mk (shut_int Tryz.underlying3 w0) (trodAll_cons_mk (Below.trod laidOut (by kernel_rfl) (of_decide_eq_true (by kernel_rfl)) k1 bel lt1) trodAll_mk0)), rfl, bel.frame _, fun h => by cases h⟩
theorem jla_ShortDrops : (Rows.shortDropsRow.inPlace == Tryz.checked.prog.inPlace 5) = true := by kernel_rfl
theorem jlb_ShortDrops : (Rows.shortDropsRow.unfollowed == Tryz.checked.prog.unfollowed 5) = true := by kernel_rfl
theorem jlc_ShortDrops : (Rows.shortDropsRow.recurses == Tryz.checked.prog.recurses 5) = true := by kernel_rfl
theorem jld_ShortDrops : (Rows.shortDropsRow.named == Tryz.checked.prog.varsNamed 5) = true := by kernel_rfl
theorem jle_ShortDrops : (Rows.shortDropsRow.plainKeys == Tryz.checked.prog.plainKeys) = true := by kernel_rfl
theorem jlf_ShortDrops : (Rows.shortDropsRow.lifted == Tryz.checked.prog.liftsFinal) = true := by kernel_rfl
theorem jlg_ShortDrops : (Tryz.checked.prog.make == some Rows.shortDropsRow.make) = true := by kernel_rfl
theorem fn_ShortDrops : Tryz.checked.prog.funcNamed Rows.shortDropsRow.func = some 5 := by kernel_rfl
theorem closed_ShortDrops : joinedFacts Tryz.checked.prog 5 Tryz.f5 Rows.shortDropsSpec Rows.shortDropsRow = true := by
  unfold joinedFacts
  rw [jf_laid, jf_maps, jla_ShortDrops, jlb_ShortDrops, jlc_ShortDrops, jld_ShortDrops, jle_ShortDrops, jf_heard, jf_enter, jlf_ShortDrops, jlg_ShortDrops]
  kernel_rfl
theorem row_ShortDrops : Rows.ShortDropsSaid :=
  OpenClaim.holds_of_wide 5 Tryz.f5 rfl rfl rfl rfl rfl rfl rfl ⟨rfl, rfl, rfl, rfl, rfl⟩ rfl rfl rfl rfl rfl fn_ShortDrops Tryz.func5 closed_ShortDrops
    (of_decide_eq_true (by kernel_rfl)) (by unfold Func.isWrapper; first | (rw [if_pos (by decide +kernel)]; kernel_rfl) | (rw [if_neg (by decide +kernel)]; exact ⟨rfl, rfl⟩))
    (fun os started H enc _ => lifted_ShortDrops os started H enc)
theorem proved_ShortDrops : Rows.ShortDropsCardSaid :=
  Claim7.holds_tied_plain_at .later [] [.data, .data, .data] true (true, "6272067c3d1601d2e21323efe9e6f56ae41cac7b6cc1a39ae17a00038bfa4063") false
    row_ShortDrops (fun _ h => by cases h) (by kernel_rfl) (fun _ h => by cases h) shortDrops_row_tie rfl ⟨rfl, rfl⟩ (by kernel_rfl) rfl
    (fun f fn hf hfn => by
      obtain rfl : f = 5 := Option.some.inj ((show Tryz.prog.funcNamed "lemmary/lemmarylaw07.ShortDrops" = some 5 by kernel_rfl).symm.trans hf) |>.symm
      obtain rfl : fn = Tryz.f5 := (Option.some.inj (Tryz.func5.symm.trans hfn)).symm
      refine ⟨by kernel_rfl, fun j t ht => ?_⟩
      rw [Tryz.params5] at ht
      have hm := Array.mem_of_getElem? ht
      simp only [List.mem_toArray, List.mem_cons, List.not_mem_nil, or_false] at hm
      rcases hm with rfl | rfl
      · exact (show Tryz.prog.wantsStandIn 3 = false by kernel_rfl)
      · exact (show Tryz.prog.wantsStandIn 25 = false by kernel_rfl))
    (by kernel_rfl)
#print axioms proved_ShortDrops
end Go.Proofs.YtmpjaakkjhmpmaaGreatDoor
