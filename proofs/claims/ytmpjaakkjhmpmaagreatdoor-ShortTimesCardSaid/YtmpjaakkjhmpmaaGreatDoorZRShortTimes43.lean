/-
  WHAT IT HOLDS: contracts of merged and Merged of package short. Conditions: the arguments read as data; a small sign; the library's table of powers of ten stands as it is written.
  WHAT IT HOLDS: contracts of slices.Clone at steps and of Cut of package short. Conditions: the arguments read as data.
  WHAT IT HOLDS: contracts of slices.Index at ints, of Unused and Dropped of package short. Conditions: the arguments read as data.
  WHAT IT HOLDS: contract of Inlined of package short. Conditions: the arguments read as data.
  WHAT IT HOLDS: contract of Count of package kernel: an error, or the count of the last step. Conditions: the arguments read as data.
-/
import Derived.Lib.MinMax
import Derived.BigQuiet
import Derived.Test.YtmpjaakkjhmpmaaGreatDoorZRShortTimes42
import Derived.Test.YtmpjaakkjhmpmaaGreatDoorZRShortTimes28
import Derived.Test.YtmpjaakkjhmpmaaGreatDoorZRShortTimes40
import Derived.Test.YtmpjaakkjhmpmaaGreatDoorZRShortTimes34
import Derived.Test.YtmpjaakkjhmpmaaGreatDoorZRShortTimes22
import Derived.Test.YtmpjaakkjhmpmaaGreatDoorZRShortTimes35
import Derived.Test.YtmpjaakkjhmpmaaGreatDoorZRShortTimes0
namespace Go.Proofs.YtmpjaakkjhmpmaaGreatDoor
open Go Go.RowKit Go.Maps
theorem frI_at {l : List (List Int)} {i : Nat} (h : i < l.length) : ((frL l).map fun i : Nat => (i : Int))[i]? = some (frN l i : Int) := by
  unfold frN
  rw [List.getElem?_map, List.getD_eq_getElem?_getD, List.getElem?_eq_getElem (by rw [frL_len]; exact h)]; rfl
theorem short_merged1 (bq n i z : Nat) (c o cap : Nat) (X : World) (hn : n ≤ 1000) (hz : z ≤ 1000) (hc : X.cell? ⟨bq, 0, none⟩ = some (.slice (some ⟨c, o, none⟩) n cap)) (hi : i < n) (hv : X.cell? ⟨c, o + i, none⟩ = some (.int .i64 (z : Int))) :
    Calls Tryz.prog 110 #[.int .i64 i, .pointer (some ⟨bq, 0, none⟩)] X fun e X' => e = .returned (.int .i64 (z : Int)) ∧ X = X' := by
  go_enter Tryz.func110, Tryz.ntmps110
  go_wp2
  go_ret
  exact ⟨rfl, rfl⟩
theorem short_merged2 (bq n i z : Nat) (c o cap : Nat) (X : World) (hn : n ≤ 1000) (hz : z ≤ 1000) (hc : X.cell? ⟨bq, 0, none⟩ = some (.slice (some ⟨c, o, none⟩) n cap)) (hi : i < n) (hv : X.cell? ⟨c, o + i, none⟩ = some (.int .i64 (z : Int))) :
    Calls Tryz.prog 111 #[.int .i64 i, .pointer (some ⟨bq, 0, none⟩)] X fun e X' => e = .returned (.bool (decide (z = i))) ∧ X = X' := by
  by_cases h : z = i
  · have h1 : ((z : Int) == (i : Int)) = true := by rw [h]; simp
    have h2 : decide (z = i) = true := decide_eq_true h
    clear h
    go_enter Tryz.func111, Tryz.ntmps111
    go_wp2
    go_ret
    exact ⟨ret_bool h2.symm, rfl⟩
  · have h1 : ((z : Int) == (i : Int)) = false := by rw [beq_eq_false_iff_ne]; omega
    have h2 : decide (z = i) = false := decide_eq_false h
    clear h
    go_enter Tryz.func111, Tryz.ntmps111
    go_wp2
    go_ret
    exact ⟨ret_bool h2.symm, rfl⟩
theorem StepsAt.take {w : World} {a : Option Addr} {n cap : Nat} {l : List St} (h : StepsAt w (.slice a n cap) l) (k : Nat) (hk : k ≤ l.length) : StepsAt w (.slice a k cap) (l.take k) := by
  obtain ⟨h1, a', cap', h2, h3, h4, h5, h6⟩ := h
  simp only [Value.slice.injEq] at h2
  obtain ⟨rfl, rfl, rfl⟩ := h2
  have hl : (l.take k).length = k := by rw [List.length_take]; omega
  refine ⟨by rw [stC_len], a, cap, by rw [hl], by omega, by omega, h5, fun j u hj => h6 j u ?_⟩
  have e : stC l = stC (l.take k) ++ stC (l.drop k) := by unfold stC; rw [← List.flatMap_append, List.take_append_drop]
  rw [e, List.getElem?_append_left (List.getElem?_eq_some_iff.1 hj).1]
  exact hj
set_option maxHeartbeats 4000000 in
set_option maxRecDepth 100000 in
theorem short_merged (g : Int) (v vl : Value) (p : List St) (l : List (List Int)) (w : World) (hv : StepsAt w v p) (hl : Terms w vl l) (hg : proofB g p = true) (hlen : l.length = p.length) (hsm : smallT l) (htab : Tab w) :
    Calls Tryz.prog 61 #[v, vl] w fun e w' => ∃ u, e = .returned u ∧ StepsAt w' u (mrgP p l) ∧ Below w.heap.size w w' := by
  have h60 := proof60 hg
  have h1 := proof1 hg
  have HF := hid (short_firsts vl l w hl (by omega) hsm htab)
  have HP := hid hv
  have HG := hid hg
  have HLN := hid hlen
  obtain ⟨pa, pc, rfl, -⟩ := hv.open
  obtain ⟨la, lc, rfl, -⟩ := hl.open
  clear hv hg hl hsm htab hlen
  go_enter Tryz.func61, Tryz.ntmps61
  go_wp2_with fail
  refine HF.out.mono ?_
  rintro e w1 ⟨u1, rfl, hu1, hb1⟩
  have hlen := HLN.out
  obtain ⟨fa, fc, rfl, hfc, -, -, HC⟩ := hu1.open
  rw [List.length_map, frL_len, HLN.out] at hfc
  have hsl : (Value.slice fa ((frL l).map fun i : Nat => (i : Int)).length fc) = .slice fa p.length fc := by rw [List.length_map, frL_len, HLN.out]
  rw [hsl]
  have k1 := cell_new1 w1 (.slice fa p.length fc) 33
  obtain ⟨W1, hW1⟩ : ∃ W1, w1.alloc (.cells #[.slice fa p.length fc] 33) = W1 := ⟨_, rfl⟩
  have b1 : Below w1.heap.size w1 W1 := hW1 ▸ (Below.refl _ _).alloc (Nat.le_refl _) _
  rw [hW1] at k1
  have hbw : Below w.heap.size w W1 := hb1.trans (b1.mono hb1.size)
  have hfr : ∀ i, i < p.length → ∃ c o, fa = some ⟨c, o, none⟩ ∧ W1.cell? ⟨c, o + i, none⟩ = some (.int .i64 (frN l i : Int)) := fun i hi => by
    obtain ⟨c, o, h2, h3⟩ := HC i (by rw [List.length_map, frL_len]; omega)
    refine ⟨c, o, h2, (b1.cell (World.block_lt_of_cell? _ _ h3)).trans ?_⟩
    rw [h3]
    have h4 := frI_at (l := l) (i := i) (by omega)
    rw [List.getElem?_eq_getElem (by rw [List.length_map, frL_len]; omega)] at h4
    rw [Option.some.inj h4]
  have HST : Hid (StayC 111 #[.pointer (some ⟨w1.heap.size, 0, none⟩)] p.length (frB l) W1) := hid (fun X hX i hi => by
    obtain ⟨c, o, rfl, h3⟩ := hfr i hi
    have hle := frN_le (l := l) (i := i) (by omega)
    rw [frB_at (by omega)]
    exact short_merged2 w1.heap.size p.length i (frN l i) c o fc X (by omega) (by omega) ((hX.cell (World.block_lt_of_cell? _ _ k1)).trans k1) hi ((hX.cell (World.block_lt_of_cell? _ _ h3)).trans h3))
  have HBC : Hid (BecC 110 #[.pointer (some ⟨w1.heap.size, 0, none⟩)] p.length (frN l) W1) := hid (fun X hX i hi => by
    obtain ⟨c, o, rfl, h3⟩ := hfr i hi
    have hle := frN_le (l := l) (i := i) (by omega)
    exact short_merged1 w1.heap.size p.length i (frN l i) c o fc X (by omega) (by omega) ((hX.cell (World.block_lt_of_cell? _ _ k1)).trans k1) hi ((hX.cell (World.block_lt_of_cell? _ _ h3)).trans h3))
  have HR := hid (short_rebuilt g (.slice pa p.length pc) 111 110 #[.pointer (some ⟨w1.heap.size, 0, none⟩)] #[.pointer (some ⟨w1.heap.size, 0, none⟩)] p (frB l) (frN l) W1 (HP.out.below hbw) HG.out (ok_fr HG.out HLN.out) HST.out HBC.out (enters_of Tryz.func111 rfl rfl) (enters_of Tryz.func110 rfl rfl))
  have HB := hid hbw
  have HW := hid hW1
  have HK1 := hid k1
  have HFR := hid (hfr (p.length - 1) (by omega))
  clear hu1 hb1 k1 b1 hbw hW1 HST HBC HC hsl hfr hlen
  go_wp2_with (rw [HW.out])
  refine HR.out.mono ?_
  rintro e w2 ⟨u, mb, n, rfl, hu, hM, hb2⟩
  have HB2 := hid (HB.out.trans (hb2.mono HB.out.size))
  have hlen := HLN.out
  have hfl := frN_le (l := l) (i := p.length - 1) (by omega)
  have hfb := frB_fr (l := l) (i := p.length - 1) (by omega)
  have hlk := hM.run_lookup (int_keyed Tryz.underlying3) eI_inj Tryz.underlying125 (zero_int w2) (frN l (p.length - 1) : Int) (int_key (frN l (p.length - 1) : Int) (wf_small (by omega) (by omega))) false
  rw [mI_stay (show frN l (p.length - 1) < p.length by omega) hfb] at hlk
  have hpl := posS_lt (frB l) (show frN l (p.length - 1) < p.length by omega) hfb
  have hll := rebL_len p (frB l) (frN l) p.length
  obtain ⟨ua, uc, rfl, huc, -⟩ := hu.open
  have HU := hid (StepsAt.take hu (posS (frB l) (frN l (p.length - 1)) + 1) (by omega))
  obtain ⟨c, o, rfl, h3⟩ := HFR.out
  have c0 := (hb2.cell (World.block_lt_of_cell? _ _ HK1.out)).trans HK1.out
  have c1 := (hb2.cell (World.block_lt_of_cell? _ _ h3)).trans h3
  have hgr : posS (frB l) (frN l (p.length - 1)) + 1 ≤ (rebL p (frB l) (frN l) p.length).length := by rw [rebL_len]; omega
  have hF1 : frN l (p.length - 1) ≤ 60 := by omega
  have hG1 : posS (frB l) (frN l (p.length - 1)) ≤ 60 := by have := posS_le (frB l) (frN l (p.length - 1)); omega
  obtain ⟨F, hF⟩ : ∃ F, frN l (p.length - 1) = F := ⟨_, rfl⟩
  have HMQ : Hid (mrgP p l = (rebL p (frB l) (frN l) p.length).take (posS (frB l) F + 1)) := hid (by unfold mrgP lastF; rw [hF])
  rw [hF] at c1 hlk hgr HU hF1 hG1
  obtain ⟨G, hG⟩ : ∃ G, posS (frB l) F = G := ⟨_, rfl⟩
  rw [hG] at hlk hgr HU HMQ hG1
  have hlk' : (Instr.lookup 125 (.map (some mb)) (.int .i64 (F : Int)) false).run Tryz.prog w2 = .ok (.int .i64 (G : Int)) w2 := hlk
  obtain ⟨m, hm⟩ : ∃ m, p.length = m + 1 := ⟨p.length - 1, by omega⟩
  have e1 : p.length - 1 = m := by omega
  rw [e1] at c1
  obtain ⟨R, hR⟩ : ∃ R, (rebL p (frB l) (frN l) p.length).length = R := ⟨_, rfl⟩
  rw [hR] at huc hgr
  have y1 : G + 1 ≤ uc := by omega
  have y2 : ((G : Int) + 1) ≤ (uc : Int) := by omega
  have y3 : (0 : Int) ≤ (G : Int) + 1 := by omega
  have y4 : IntKind.i64.wrap ((G : Int) + 1) = ((G + 1 : Nat) : Int) := by rw [IntWalk.i64_in _ (by omega)]; omega
  have y5 : IntKind.i64.wrap (((m + 1 : Nat) : Int) - 1) = (m : Int) := by rw [IntWalk.i64_in _ (by omega)]; omega
  have y6 : (((m + 1 : Nat) : Int) - 1) = (m : Int) := by omega
  have hm60 : m ≤ 59 := by omega
  have y7 : IntKind.i64.wrap (m : Int) = (m : Int) := IntWalk.i64_in _ (by omega)
  simp only [hm] at c0 ⊢
  rw [hm] at hR
  simp only [hR]
  clear hu hM hb2 hlk hfl hfb h3 hF hG e1 hll hpl hR hm h1 HFR hlen
  go_wp2
  go_ret
  refine ⟨_, rfl, ?_, HB2.out⟩
  rw [HMQ.out]
  exact HU.out
theorem run_lenM {s : Sg} {g : List (List Int)} {p : List St} {l : List (List Int)} (h : RunR s g p l 0) : l.length = p.length := by
  rcases h.2 with ⟨-, h⟩ | ⟨h, -⟩ <;> first | exact h | exact absurd rfl h
theorem small_run {s : Sg} {g : List (List Int)} {p : List St} {l : List (List Int)} (ha : askedB s g p = true) (h : RunR s g p l 0) : smallT l := fun t ht => by
  have h1 := run_terms ha h t ht
  refine ⟨(termB_T h1).ne, (termB_facts h1).2.2.2, fun n hn => ?_⟩
  have := termB_wf h1 n hn
  exact ⟨by omega, by omega⟩
set_option maxHeartbeats 4000000 in
set_option maxRecDepth 100000 in
theorem short_Merged (vs vg vp : Value) (s : Sg) (g : List (List Int)) (p : List St) (w : World) (hs : SignAt w vs s) (hg : Terms w vg g) (hp : StepsAt w vp p) (hs1 : s.length ≤ 1000) (htab : Tab w) :
    Calls Tryz.prog 14 #[vs, vg, vp] w fun e w' => ∃ u l er, e = .returned (.tuple #[u, .int .i64 er]) ∧ SaidQ s g p l er ∧ StepsAt w' u (if er = 0 then mrgP p l else []) ∧ Below w.heap.size w w' := by
  have HS := hid (short_said vs vg vp s g p w hs hg hp hs1)
  have HM := hid (fun (X : World) (hX : Below w.heap.size w X) (vl : Value) (l : List (List Int)) (hl : Terms X vl l) (h : SaidQ s g p l 0) =>
    (have hg := h.good
     short_merged (g.length : Int) vp vl p l X (hp.below hX) hl (asked_parts hg.1).2 (run_lenM hg.2) (small_run hg.1 hg.2) (htab.below hX)))
  obtain ⟨pa, pc, rfl, -⟩ := hp.open
  clear hs hg hp htab
  go_enter Tryz.func14, Tryz.ntmps14
  go_wp2_with fail
  refine HS.out.mono ?_
  rintro e w1 ⟨u, l, er, rfl, hq, hT, hb1⟩
  have HB1 := hid hb1
  have HQ := hid hq
  have HT := hid hT
  obtain ⟨ua, uc, rfl, -⟩ := hT.open
  clear hq hT hb1
  by_cases h0 : er = 0
  · subst h0
    have K := hid (HM.out w1 HB1.out _ l HT.out HQ.out)
    go_wp2_with fail
    refine K.out.mono ?_
    rintro e w2 ⟨u2, rfl, hu2, hb2⟩
    have HB2 := hid (HB1.out.trans (hb2.mono HB1.out.size))
    have HU := hid hu2
    obtain ⟨ua2, uc2, rfl, -⟩ := hu2.open
    clear hu2 hb2
    go_wp2
    go_ret2
    exact ⟨_, l, 0, rfl, HQ.out, by rw [if_pos rfl]; exact HU.out, HB2.out⟩
  · have n0 : (er != 0) = true := by simpa using h0
    have HN := hid h0
    clear h0
    go_wp2
    go_ret2
    exact ⟨_, l, er, rfl, HQ.out, by rw [if_neg HN.out]; exact StepsAt.nil _, HB1.out⟩
end Go.Proofs.YtmpjaakkjhmpmaaGreatDoor
namespace Go.Proofs.YtmpjaakkjhmpmaaGreatDoor
open Go Go.RowKit Go.Maps
theorem stC_set (l : List St) (x : St) : ∀ (k : Nat), ((((stC l).set (k * 3) (.int .i64 x.1)).set (k * 3 + 1) (.int .i64 x.2.1)).set (k * 3 + 2) (.int .i64 x.2.2)) = stC (l.set k x) := by
  induction l with
  | nil => intro k; simp [stC]
  | cons y l ih =>
    intro k
    cases k with
    | zero => simp [stC, stV]
    | succ k =>
      have e1 : (k + 1) * 3 = k * 3 + 3 := by omega
      have := ih k
      rw [e1]
      simpa [stC, stV, List.set_cons_succ] using this
def cutE (g : Int) (p : List St) (i : Int) : Int := if vldB g p = true then (if i < 0 ∨ (p.length : Int) ≤ i then 7 else if i = (p.length : Int) - 1 ∨ stB (needL p) i.toNat = false then 10 else if g = 60 then 4 else 0) else 1
def CutQ (g : Int) (p : List St) (i : Int) (w : World) (e : Ending) (w' : World) : Prop :=
  ∃ u v, e = .returned (.tuple #[u, v, .int .i64 (cutE g p i)]) ∧ StepsAt w' u (if cutE g p i = 0 then trimL (p.take (i.toNat + 1)) else []) ∧ StepsAt w' v (if cutE g p i = 0 then trimL (cutS p i.toNat g) else []) ∧ Below w.heap.size w w'
set_option maxHeartbeats 4000000 in
set_option maxRecDepth 100000 in
theorem short_Cut (g : Int) (v : Value) (p : List St) (i : Int) (w : World) (hv : StepsAt w v p) :
    Calls Tryz.prog 23 #[.int .i64 g, v, .int .i64 i] w fun e w' => CutQ g p i w e w' := by
  have HV := hid (short_valid g v p w hv)
  have HP := hid hv
  obtain ⟨pa, pc, rfl, hpc, -⟩ := hv.open
  clear hv
  unfold CutQ
  cases hb : vldB g p
  · have hE : vldE g p = 1 := by unfold vldE; rw [hb]; rfl
    have hE2 : cutE g p i = 1 := by unfold cutE; rw [hb]; rfl
    rw [hE] at HV
    rw [hE2]
    clear hb hE HP hE2
    go_enter Tryz.func23, Tryz.ntmps23
    go_wp2_with fail
    refine HV.out.mono ?_
    rintro e w1 ⟨rfl, hb1⟩
    go_wp2
    go_ret3
    exact ⟨_, _, rfl, StepsAt.nil _, StepsAt.nil _, hb1⟩
  have hE : vldE g p = 0 := by unfold vldE; rw [hb]; rfl
  have hp : proofB g p = true := by unfold vldB at hb; rw [Bool.and_eq_true] at hb; exact hb.2
  have hE2 : cutE g p i = (if i < 0 ∨ (p.length : Int) ≤ i then 7 else if i = (p.length : Int) - 1 ∨ stB (needL p) i.toNat = false then 10 else if g = 60 then 4 else 0) := by unfold cutE; rw [hb]; rfl
  have h60 := proof60 hp
  have h1 := proof1 hp
  have hg0 : 0 ≤ g := by unfold vldB at hb; rw [Bool.and_eq_true] at hb; exact (inB_true.1 hb.1).1
  rw [hE] at HV
  rw [hE2]
  have HPR := hid hp
  clear hb hE hE2 hp
  by_cases hi0 : i < 0
  · rw [if_pos (Or.inl hi0)]
    clear HPR
    go_enter Tryz.func23, Tryz.ntmps23
    go_wp2_with fail
    refine HV.out.mono ?_
    rintro e w1 ⟨rfl, hb1⟩
    go_wp2
    go_ret3
    exact ⟨_, _, rfl, StepsAt.nil _, StepsAt.nil _, hb1⟩
  by_cases hi1 : (p.length : Int) ≤ i
  · rw [if_pos (Or.inr hi1)]
    clear HPR
    go_enter Tryz.func23, Tryz.ntmps23
    go_wp2_with fail
    refine HV.out.mono ?_
    rintro e w1 ⟨rfl, hb1⟩
    go_wp2
    go_ret3
    exact ⟨_, _, rfl, StepsAt.nil _, StepsAt.nil _, hb1⟩
  rw [if_neg (fun h => h.elim hi0 hi1)]
  obtain ⟨k, rfl⟩ : ∃ k : Nat, i = k := ⟨i.toNat, by omega⟩
  have hk : k < p.length := by omega
  rw [Int.toNat_natCast]
  obtain ⟨m, hm⟩ : ∃ m, p.length = m + 1 := ⟨p.length - 1, by omega⟩
  have HM := hid hm
  have y5 : IntKind.i64.wrap (((m + 1 : Nat) : Int) - 1) = (m : Int) := by rw [IntWalk.i64_in _ (by omega)]; omega
  have y6 : (((m + 1 : Nat) : Int) - 1) = (m : Int) := by omega
  rw [hm] at HV
  simp only [hm] at hpc hi1 hk h60 ⊢
  have hm60 : m ≤ 59 := by omega
  clear hm h1
  by_cases hkm : k = m
  · have e1 : (k : Int) = (m : Int) := by omega
    have c1 : ((k : Int) == (m : Int)) = true := by rw [e1]; simp
    rw [if_pos (Or.inl (by rw [y6]; exact e1))]
    clear HPR hkm
    go_enter Tryz.func23, Tryz.ntmps23
    go_wp2_with fail
    refine HV.out.mono ?_
    rintro e w1 ⟨rfl, hb1⟩
    go_wp2
    go_ret3
    exact ⟨_, _, rfl, StepsAt.nil _, StepsAt.nil _, hb1⟩
  have c1 : ((k : Int) == (m : Int)) = false := by rw [beq_eq_false_iff_ne]; omega
  have hne : ¬ (k : Int) = ((m + 1 : Nat) : Int) - 1 := by omega
  have HN := hid (fun (X : World) (hX : Below w.heap.size w X) => short_needed g (.slice pa (m + 1) pc) p X (by have h := HP.out.below hX; rw [HM.out] at h; exact h) HPR.out)
  have hle : k ≤ m := by omega
  cases hz : stB (needL p) k
  · rw [if_pos (Or.inr rfl)]
    have HZ := hid hz
    clear hz hne hkm
    go_enter Tryz.func23, Tryz.ntmps23
    go_wp2_with fail
    refine HV.out.mono ?_
    rintro e w1 ⟨rfl, hb1⟩
    have K := hid (HN.out w1 hb1)
    have HB1 := hid hb1
    clear hb1
    go_wp2_with fail
    refine K.out.mono ?_
    rintro e w2 ⟨q, rfl, hq, hown, hb2⟩
    have HB2 := hid (HB1.out.trans (hb2.mono HB1.out.size))
    have c2 := hown.cellAt k (by rw [HM.out]; omega)
    rw [bools_at (by rw [needL_len, HM.out]; exact hk), HZ.out] at c2
    rw [HM.out]
    clear hown hb2 K hq
    go_wp2
    go_ret3
    exact ⟨_, _, rfl, StepsAt.nil _, StepsAt.nil _, HB2.out⟩
  rw [if_neg (show ¬ ((k : Int) = ((m + 1 : Nat) : Int) - 1 ∨ true = false) from fun h => h.elim hne (fun h => by cases h))]
  have HZ := hid hz
  clear hz hne hkm
  by_cases hg : g = 60
  · have c3 : (g == 60) = true := by rw [hg]; rfl
    rw [if_pos hg]
    clear hg
    go_enter Tryz.func23, Tryz.ntmps23
    go_wp2_with fail
    refine HV.out.mono ?_
    rintro e w1 ⟨rfl, hb1⟩
    have K := hid (HN.out w1 hb1)
    have HB1 := hid hb1
    clear hb1
    go_wp2_with fail
    refine K.out.mono ?_
    rintro e w2 ⟨q, rfl, hq, hown, hb2⟩
    have HB2 := hid (HB1.out.trans (hb2.mono HB1.out.size))
    have c2 := hown.cellAt k (by rw [HM.out]; omega)
    rw [bools_at (by rw [needL_len, HM.out]; exact hk), HZ.out] at c2
    rw [HM.out]
    clear hown hb2 K hq
    go_wp2
    go_ret3
    exact ⟨_, _, rfl, StepsAt.nil _, StepsAt.nil _, HB2.out⟩
  have c3 : (g == 60) = false := by rw [beq_eq_false_iff_ne]; exact hg
  rw [if_neg hg, if_pos rfl, if_pos rfl]
  have HGB := hid (proofB_take HPR.out (k := k + 1) (by omega) (by rw [HM.out]; omega))
  have HCV : Hid (proofB (g + 1) (cutS p k g) = true) := hid (by obtain ⟨n, rfl⟩ : ∃ n : Nat, g = n := ⟨g.toNat, by omega⟩; exact cut_valid HPR.out k)
  clear hg
  go_enter Tryz.func23, Tryz.ntmps23
  go_wp2_with fail
  refine HV.out.mono ?_
  rintro e w1 ⟨rfl, hb1⟩
  have K := hid (HN.out w1 hb1)
  have HB1 := hid hb1
  clear hb1
  go_wp2_with fail
  refine K.out.mono ?_
  rintro e w2 ⟨q, rfl, hq, hown, hb2⟩
  have HB2 := hid (HB1.out.trans (hb2.mono HB1.out.size))
  have c2 := hown.cellAt k (by rw [HM.out]; omega)
  rw [bools_at (by rw [needL_len, HM.out]; exact hk), HZ.out] at c2
  rw [HM.out]
  clear hown hb2 K hq
  have HCL := hid (sl_Clone_steps (.slice pa (m + 1) pc) (m + 1) (stC p) w2 (by have h := HP.out.below HB2.out; unfold StepsAt at h; rw [HM.out] at h; exact h) (stC_one p) (by omega))
  go_wp2_with fail
  refine HCL.out.mono ?_
  rintro e w3 ⟨u3, rfl, hown3, hb3⟩
  have HB3 := hid (HB2.out.trans (hb3.mono HB2.out.size))
  obtain ⟨c, cap, rfl⟩ : ∃ c cap, u3 = .slice (some ⟨c, 0, none⟩) (m + 1) cap := by
    rcases hown3.2 with ⟨rfl, h⟩ | ⟨c, cap, cur, rfl, -⟩
    · omega
    · exact ⟨c, cap, rfl⟩
  have hc0 : w2.heap.size ≤ c := (hown3.lt c rfl).1
  have hlen : (stC p).length = (m + 1) * 3 := by rw [stC_len, HM.out]
  have f0 := hown3.frozenAt (k * 3)
  have e0 := hown3.cellAt (k * 3) (by omega)
  rw [List.getElem?_eq_getElem (by omega)] at e0
  obtain ⟨z0, hz0⟩ : ∃ z, (stC p)[k * 3]'(by omega) = z := ⟨_, rfl⟩
  rw [hz0] at e0
  have s1 := (hown3.stored (k * 3) (.int .i64 1)).1
  have f1 := s1.frozenAt (k * 3 + 1)
  have e1 := s1.cellAt (k * 3 + 1) (by omega)
  rw [List.getElem?_eq_getElem (by rw [List.length_set]; omega)] at e1
  obtain ⟨z1, hz1⟩ : ∃ z, ((stC p).set (k * 3) (.int .i64 1))[k * 3 + 1]'(by rw [List.length_set]; omega) = z := ⟨_, rfl⟩
  rw [hz1] at e1
  have s2 := (s1.stored (k * 3 + 1) (.int .i64 g)).1
  have f2 := s2.frozenAt (k * 3 + 2)
  have e2 := s2.cellAt (k * 3 + 2) (by omega)
  rw [List.getElem?_eq_getElem (by rw [List.length_set, List.length_set]; omega)] at e2
  obtain ⟨z2, hz2⟩ : ∃ z, (((stC p).set (k * 3) (.int .i64 1)).set (k * 3 + 1) (.int .i64 g))[k * 3 + 2]'(by rw [List.length_set, List.length_set]; omega) = z := ⟨_, rfl⟩
  rw [hz2] at e2
  have s3 := (s2.stored (k * 3 + 2) (.int .i64 0)).1
  have e3 := stC_set p (1, g, 0) k
  dsimp only at e3
  rw [e3] at s3
  have HS3 := hid s3
  have HBX := hid (show Below w2.heap.size w2 (((w3.setCell ⟨c, k * 3, none⟩ (.int .i64 1)).setCell ⟨c, k * 3 + 1, none⟩ (.int .i64 g)).setCell ⟨c, k * 3 + 2, none⟩ (.int .i64 0)) from ((hb3.setCell (p := ⟨c, k * 3, none⟩) hc0 _).setCell (p := ⟨c, k * 3 + 1, none⟩) hc0 _).setCell (p := ⟨c, k * 3 + 2, none⟩) hc0 _)
  clear hown3 s1 s2 s3 e3 hz0 hz1 hz2 hlen hb3 HCL
  go_wp2_with fail
  obtain ⟨X, hX⟩ : ∃ X, ((w3.setCell ⟨c, k * 3, none⟩ (.int .i64 1)).setCell ⟨c, k * 3 + 1, none⟩ (.int .i64 g)).setCell ⟨c, k * 3 + 2, none⟩ (.int .i64 0) = X := ⟨_, rfl⟩
  rw [hX] at HS3 HBX ⊢
  have HBX2 := hid (HB2.out.trans (HBX.out.mono HB2.out.size))
  have hcl : (cutS p k g).length = m + 1 := by unfold cutS; rw [List.length_set, HM.out]
  have HSC : Hid (StepsAt X (.slice (some ⟨c, 0, none⟩) (m + 1) cap) (cutS p k g)) := hid (by
    have h := RowK.of_owns HS3.out (by omega)
    unfold StepsAt
    rw [hcl]
    exact h)
  have HT1 := hid (short_trimmed g (.slice pa (k + 1) pc) (p.take (k + 1)) X (StepsAt.take (by have h := HP.out.below HBX2.out; rw [HM.out] at h; exact h) (k + 1) (by rw [HM.out]; omega)) HGB.out)
  clear hX HBX HS3 f0 f1 f2 e0 e1 e2
  refine HT1.out.mono ?_
  rintro e w5 ⟨u5, rfl, hu5, hb5⟩
  have HU5 := hid hu5
  have HB5 := hid (HBX2.out.trans (hb5.mono HBX2.out.size))
  have HT2 := hid (short_trimmed (g + 1) (.slice (some ⟨c, 0, none⟩) (m + 1) cap) (cutS p k g) w5 (HSC.out.below hb5) HCV.out)
  obtain ⟨a5, c5, rfl, -⟩ := hu5.open
  clear hu5 hb5 HT1 HSC
  go_wp2_with fail
  refine HT2.out.mono ?_
  rintro e w6 ⟨u6, rfl, hu6, hb6⟩
  have HU6 := hid hu6
  have HB6 := hid (HB5.out.trans (hb6.mono HB5.out.size))
  have HU5' := hid (HU5.out.below hb6)
  obtain ⟨a6, c6, rfl, -⟩ := hu6.open
  clear hu6 hb6 HT2 HU5
  go_wp2
  go_ret3
  exact ⟨_, _, rfl, HU5'.out, HU6.out, HB6.out⟩
end Go.Proofs.YtmpjaakkjhmpmaaGreatDoor
namespace Go.Proofs.YtmpjaakkjhmpmaaGreatDoor
open Go Go.RowKit Go.Maps
theorem vldE_0 {g : Int} {p : List St} (h : vldB g p = true) : vldE g p = 0 := by unfold vldE; rw [h]; rfl
theorem vldE_1 {g : Int} {p : List St} (h : vldB g p = false) : vldE g p = 1 := by unfold vldE; rw [h]; rfl
end Go.Proofs.YtmpjaakkjhmpmaaGreatDoor
namespace Go.Proofs.YtmpjaakkjhmpmaaGreatDoor
open Go Go.RowKit Go.Maps Go.Shelf
attribute [local go_sem] Oper.semAt_some
theorem cell3_new7 (w : World) (a b c : Value) (T : TypeId) : (w.alloc (.cells #[a, b, c] T)).cell? ⟨w.heap.size, 0, none⟩ = some a ∧ (w.alloc (.cells #[a, b, c] T)).cell? ⟨w.heap.size, 1, none⟩ = some b ∧ (w.alloc (.cells #[a, b, c] T)).cell? ⟨w.heap.size, 2, none⟩ = some c := by
  refine ⟨?_, ?_, ?_⟩ <;> rw [World.cell?_alloc_new] <;> rfl
end Go.Proofs.YtmpjaakkjhmpmaaGreatDoor
namespace Go.Proofs.YtmpjaakkjhmpmaaGreatDoor
open Go Go.RowKit Go.Maps
def MP : Int := 1000000000000001
def capA (p : List St) (i : Nat) : Int := min (cntA p i) MP
def capL (p : List St) (k : Nat) : List Int := (List.range k).map (capA p)
theorem capL_succ (p : List St) (k : Nat) : capL p (k + 1) = capL p k ++ [capA p k] := by unfold capL; rw [List.range_succ, List.map_append]; rfl
theorem capL_at {p : List St} {k i : Nat} (h : i < k) : ((capL p k).map (Value.int .i64))[i]? = some (.int .i64 (capA p i)) := by
  unfold capL
  simp [h]
theorem cap_det {a b : Int} (ha : 1 ≤ a) (hb : 1 ≤ b) : min (1 + (a + b)) MP = min (min a MP + min b MP + 1) MP := by unfold MP; omega
theorem kernel_Count1 (a b : Int) (X : World) (ha : 0 ≤ a ∧ a ≤ 1000000000000001) (hb : 0 ≤ b ∧ b ≤ 1000000000000001) :
    Calls Tryz.prog 85 #[.int .i64 a, .int .i64 b] X fun e X' => e = .returned (.int .i64 (min (a + b + 1) 1000000000000001)) ∧ X' = X := by
  have q1 : IntKind.i64.wrap (a + b) = a + b := IntWalk.i64_in _ (by omega)
  have q2 : IntKind.i64.wrap (a + b + 1) = a + b + 1 := IntWalk.i64_in _ (by omega)
  go_enter Tryz.func85, Tryz.ntmps85
  go_wp2
  go_ret
  exact ⟨rfl, rfl⟩
set_option maxHeartbeats 4000000 in
set_option maxRecDepth 100000 in
theorem kernel_up (g : Int) (v : Value) (p : List St) (w : World) (hv : StepsAt w v p) (hg : proofB g p = true) :
    Calls Tryz.prog 84 #[v, .func (.func 85) #[] #[]] w fun e w' => e = .returned (.int .i64 (capA p (p.length - 1))) ∧ Below w.heap.size w w' := by
  have h60 := proof60 hg
  have h1 := proof1 hg
  have HBK := hid (back_of hg)
  have HSA := hid (fun (i : Nat) (hi : i < p.length) => st_at hg hi)
  have HCS := hid (fun (k : Nat) (hk : k < p.length) => cnt_small (back_of hg) h60 hk)
  obtain ⟨pa, pc, rfl, hc, hl, -, HC⟩ := hv.open
  have HC' := hid HC
  obtain ⟨CL, hCL⟩ : ∃ C, capA p (p.length - 1) = C := ⟨_, rfl⟩
  rw [hCL]
  have HCL := hid hCL
  clear HC hv hg hCL
  go_enter Tryz.func84, Tryz.ntmps84
  go_wp2
  go_loopw [5, 11] (fun uo kv wr => ∃ k : Nat, k ≤ p.length ∧ kv = .int .i64 k ∧ wr.ownsRow w.heap.size 3 1 uo k ((capL p k).map (Value.int .i64)) ∧ Below w.heap.size w wr) (fun _ kv _ => p.length - (intOf kv).toNat)
  case atStart => exact ⟨0, by omega, rfl, World.ownsRow_nil _ _ _ _, Below.refl _ _⟩
  case round =>
    obtain ⟨k, hk, rfl, hown, hb⟩ := hrel
    have hsz := hb.size
    by_cases hlt : k < p.length
    · obtain ⟨eg, hx⟩ := HSA.out k hlt
      obtain ⟨xb, xo, rfl, y0, y1, y2⟩ := HC'.out k hlt
      have x0 := (hb.cell (World.block_lt_of_cell? _ _ y0)).trans y0
      have x1 := (hb.cell (World.block_lt_of_cell? _ _ y1)).trans y1
      have x2 := (hb.cell (World.block_lt_of_cell? _ _ y2)).trans y2
      have hcs := capL_succ p k
      have hdet := fun h => cntA_det HBK.out hlt h
      have hcit := fun h => cntA_cite (p := p) (i := k) h
      rw [eg] at hdet hcit
      obtain ⟨x, hxx⟩ : ∃ x, p[k] = x := ⟨_, rfl⟩
      rw [hxx] at x0 x1 x2 hx hdet hcit
      clear y0 y1 y2 hxx eg
      rcases hx with ⟨h1, -⟩ | ⟨h1, h2, h3, h4, h5⟩
      · rw [h1] at x0
        have HS : Hid (capL p (k + 1) = capL p k ++ [1]) := hid (by rw [hcs]; unfold capA; rw [hcit (by omega)]; rfl)
        obtain ⟨y, hy⟩ : ∃ y, x.2.1 = y := ⟨_, rfl⟩
        obtain ⟨z, hz⟩ : ∃ z, x.2.2 = z := ⟨_, rfl⟩
        rw [hy] at x1
        rw [hz] at x2
        have hbX := hb.alloc hsz (.cells #[.int .i64 1, .int .i64 y, .int .i64 z] 57)
        have HB := hid (hbX.alloc hbX.size (.cells #[.int .i64 1] 3))
        have HO := hid ((hown.alloc (.cells #[.int .i64 1, .int .i64 y, .int .i64 z] 57)).alloc (.cells #[.int .i64 1] 3))
        have HSRC := hid (row_one_new (wr.alloc (.cells #[.int .i64 1, .int .i64 y, .int .i64 z] 57)) (.int .i64 1) 3)
        rw [World.size_alloc] at HSRC
        clear hcs hdet hcit hy hz h1 hown hb hbX
        go_wp2_with (at_builtin; refine wpList_append_row rfl _ _ 33 rfl w.heap.size 3 el_int Tryz.underlying33 rfl (by decide) _ _ _ rfl HO.out _ 1 [.int .i64 1] rfl HSRC.out (oneCell_one rfl) (by omega) (by omega) HB.out.size ?_; intro v' w4 hown4 hgrow4 _)
        go_roundw
        case rel =>
          refine ⟨k + 1, by omega, by go_num, ?_, HB.out.grown hgrow4 HB.out.size (fun q hq => (HO.out.lt q hq).1)⟩
          rw [HS.out, List.map_append]; exact hown4
        case measure => simp [intOf]; omega
      · have hd := hdet h1
        obtain ⟨A, hA⟩ : ∃ A, nA x = A := ⟨_, rfl⟩
        obtain ⟨B, hBq⟩ : ∃ B, nB x = B := ⟨_, rfl⟩
        rw [hA] at h2 h4 hd
        rw [hBq] at h3 h5 hd
        have ba := HCS.out A (by omega)
        have bb := HCS.out B (by omega)
        obtain ⟨oq, oc, rfl⟩ : ∃ q c, u5 = .slice (some ⟨q, 0, none⟩) k c := by
          rcases hown.2 with ⟨rfl, h⟩ | ⟨c, cap, cur, rfl, -⟩
          · omega
          · exact ⟨c, cap, rfl⟩
        have cA := hown.cellAt A (by omega)
        rw [capL_at h4] at cA
        have cB := hown.cellAt B (by omega)
        rw [capL_at h5] at cB
        have hcap : capA p k = min (capA p A + capA p B + 1) MP := by unfold capA; rw [hd]; exact cap_det ba.1 bb.1
        have bA : 0 ≤ capA p A ∧ capA p A ≤ 1000000000000001 := by unfold capA MP; omega
        have bB : 0 ≤ capA p B ∧ capA p B ≤ 1000000000000001 := by unfold capA MP; omega
        obtain ⟨a, ha⟩ : ∃ a, capA p A = a := ⟨_, rfl⟩
        obtain ⟨b, hbq⟩ : ∃ b, capA p B = b := ⟨_, rfl⟩
        rw [ha] at cA hcap bA
        rw [hbq] at cB hcap bB
        obtain ⟨m, hm⟩ : ∃ m, min (a + b + 1) MP = m := ⟨_, rfl⟩
        rw [hm] at hcap
        have HS : Hid (capL p (k + 1) = capL p k ++ [m]) := hid (by rw [hcs, hcap])
        have HF := fun (X : World) => hid (show Calls Tryz.prog 85 #[.int .i64 a, .int .i64 b] X fun e X' => e = .returned (.int .i64 m) ∧ X' = X from hm ▸ kernel_Count1 a b X bA bB)
        rw [h1] at x0
        rw [h2] at x1
        rw [h3] at x2
        obtain ⟨X, hX⟩ : ∃ X, wr.alloc (.cells #[.int .i64 2, .int .i64 (A : Int), .int .i64 (B : Int)] 57) = X := ⟨_, rfl⟩
        have hba : Below wr.heap.size wr X := hX ▸ (Below.refl _ _).alloc (Nat.le_refl _) _
        have hdd := cell3_new7 wr (.int .i64 2) (.int .i64 (A : Int)) (.int .i64 (B : Int)) 57
        have hoX := hown.alloc (.cells #[.int .i64 2, .int .i64 (A : Int), .int .i64 (B : Int)] 57)
        have hbX := hb.alloc hsz (.cells #[.int .i64 2, .int .i64 (A : Int), .int .i64 (B : Int)] 57)
        rw [hX] at hdd hoX hbX
        have hdd' := hid hdd
        have cA' := (hba.cell (World.block_lt_of_cell? _ _ cA)).trans cA
        have cB' := (hba.cell (World.block_lt_of_cell? _ _ cB)).trans cB
        have HCC := hid (And.intro cA' cB')
        have HOX := hid hoX
        have HBX := hid hbX
        have HXE := hid hX
        clear hcs hdet hcit h1 h2 h3 hA hBq ha hbq hown hb hd hcap hm bA bB ba bb cA cB cA' cB' hX hba hdd hoX hbX
        go_wp2
        rw [HXE.out]
        obtain ⟨cA, cB⟩ := HCC.out
        obtain ⟨d0, d1, d2⟩ := hdd'.out
        clear x0 x1 x2 HXE HCC
        go_quiet ((go_at_call 85; exact Calls.quiet_of_same (HF _).out))
        obtain ⟨Y, hY⟩ : ∃ Y, X.drewN nq = Y := ⟨_, rfl⟩
        have hoY := owns_below HOX.out (below_self_drewN X nq)
        have hbY := below_drewN HBX.out nq
        rw [hY] at hoY hbY ⊢
        have HB := hid (hbY.alloc hbY.size (.cells #[.int .i64 m] 3))
        have HO := hid (hoY.alloc (.cells #[.int .i64 m] 3))
        have HSRC := hid (row_one_new Y (.int .i64 m) 3)
        clear hY hoY hbY cA cB d0 d1 d2 HF
        go_wp2_with (at_builtin; refine wpList_append_row rfl _ _ 33 rfl w.heap.size 3 el_int Tryz.underlying33 rfl (by decide) _ _ _ rfl HO.out _ 1 [.int .i64 m] rfl HSRC.out (oneCell_one rfl) (by omega) (by omega) HB.out.size ?_; intro v' w4 hown4 hgrow4 _)
        go_roundw
        case rel =>
          refine ⟨k + 1, by omega, by go_num, ?_, HB.out.grown hgrow4 HB.out.size (fun q hq => (HO.out.lt q hq).1)⟩
          rw [HS.out, List.map_append]; exact hown4
        case measure => simp [intOf]; omega
    · have hkl : k = p.length := by omega
      subst hkl
      obtain ⟨oq, oc, rfl⟩ : ∃ q c, u5 = .slice (some ⟨q, 0, none⟩) p.length c := by
        rcases hown.2 with ⟨rfl, h⟩ | ⟨c, cap, cur, rfl, -⟩
        · omega
        · exact ⟨c, cap, rfl⟩
      obtain ⟨m, hm⟩ : ∃ m, p.length = m + 1 := ⟨p.length - 1, by omega⟩
      have cA := hown.cellAt m (by omega)
      rw [capL_at (by omega)] at cA
      have y8 : IntKind.i64.wrap (((m + 1 : Nat) : Int) - 1) = (m : Int) := by rw [IntWalk.i64_in _ (by omega)]; omega
      have y9 : (((m + 1 : Nat) : Int) - 1) = (m : Int) := by omega
      have hm60 : m ≤ 59 := by omega
      have e : p.length - 1 = m := by omega
      have hcl := HCL.out
      rw [e] at hcl
      rw [hcl] at cA
      simp only [hm]
      have HB := hid hb
      clear hown hb hm e hcl
      go_wp2
      go_ret
      exact ⟨rfl, HB.out⟩
def KctQ (g : Int) (p : List St) (w : World) (e : Ending) (w' : World) : Prop := ∃ n er : Int, e = .returned (.tuple #[.int .i64 n, .int .i64 er]) ∧ (er = 0 → n = cntA p (p.length - 1) ∧ n ≤ 1000000000000000) ∧ Below w.heap.size w w'
theorem kernel_Count (g : Int) (v : Value) (p : List St) (w : World) (hv : StepsAt w v p) (hg : 0 ≤ g ∧ g ≤ 60) (hp : proofB g p = true) :
    Calls Tryz.prog 40 #[.int .i64 g, v] w fun e w' => KctQ g p w e w' := by
  have HV := hid (kernel_ValidProof g v p w hg hv)
  rw [hp] at HV
  have HU := hid (fun (X : World) (hX : Below w.heap.size w X) => kernel_up g v p X (hv.below hX) hp)
  obtain ⟨pa, pc, rfl, -⟩ := hv.open
  have HCP := hid (show capA p (p.length - 1) = min (cntA p (p.length - 1)) MP from rfl)
  obtain ⟨c, hc⟩ : ∃ c, capA p (p.length - 1) = c := ⟨_, rfl⟩
  rw [hc] at HU HCP
  clear hv hc
  unfold KctQ
  go_enter Tryz.func40, Tryz.ntmps40
  go_wp2_with fail
  refine HV.out.mono ?_
  rintro e w1 ⟨rfl, hb1⟩
  have HB1 := hid hb1
  have K := hid (HU.out w1 hb1)
  clear hb1 HV HU
  go_wp2_with fail
  refine K.out.mono ?_
  rintro e w2 ⟨rfl, hb2⟩
  have HB2 := hid (HB1.out.trans (hb2.mono HB1.out.size))
  clear hb2 K
  by_cases hgt : 1000000000000000 < c
  · have q1 : c > 1000000000000000 := hgt
    clear hgt
    go_wp2
    go_ret2
    exact ⟨_, _, rfl, (fun h => by cases h), HB2.out⟩
  · have q1 : ¬ c > 1000000000000000 := hgt
    have HN : Hid (c = cntA p (p.length - 1) ∧ c ≤ 1000000000000000) := hid (by
      have := HCP.out
      unfold MP at this
      omega)
    clear hgt
    go_wp2
    go_ret2
    exact ⟨_, _, rfl, fun _ => HN.out, HB2.out⟩
end Go.Proofs.YtmpjaakkjhmpmaaGreatDoor
