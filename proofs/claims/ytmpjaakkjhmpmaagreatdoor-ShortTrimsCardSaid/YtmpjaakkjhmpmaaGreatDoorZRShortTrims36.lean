/-
  WHAT IT HOLDS: contracts of valid, said and Good of package short, of Run of the reference of layer 4, of run, Good and valid of the reference of layer 7. Conditions: the arguments read as data; a small sign, small lists.
  WHAT IT HOLDS: contract of needed of package short: which steps are needed. Conditions: the steps read as data; the proof is valid.
  WHAT IT HOLDS: contract of times of package short: how often each step comes in the tree of the last one. Conditions: the steps read as data; the proof is valid.
  WHAT IT HOLDS: plain words on proofs that are trimmed and merged twice: the second time changes nothing; what they say. No program in sight.
  WHAT IT HOLDS: plain words on givens that no step of a proof cites: which are cited, the proof without the others, and that it comes back when it is moved. No program in sight.
  WHAT IT HOLDS: contract of split of package short: the givens that steps cite, and the others. Conditions: the steps read as data; the proof is valid.
  WHAT IT HOLDS: plain words on steps that are changed in place, one by one, and on where a number stands in a list. No program in sight.
  WHAT IT HOLDS: contracts of Run of the reference of layer 4, of run, Good and valid of the reference of layer 7, of Good of package short. Conditions: the arguments read as data; a small sign, small lists.
-/
import Derived.BigQuiet
import Derived.Test.YtmpjaakkjhmpmaaGreatDoorZRShortTrims30
import Derived.Test.YtmpjaakkjhmpmaaGreatDoorZRShortTrims35
import Derived.Test.YtmpjaakkjhmpmaaGreatDoorZRShortTrims28
import Derived.Test.YtmpjaakkjhmpmaaGreatDoorZRShortTrims2
import Derived.Test.YtmpjaakkjhmpmaaGreatDoorZRShortTrims0
import Derived.Test.YtmpjaakkjhmpmaaGreatDoorZRShortTrims14
namespace Go.Proofs.YtmpjaakkjhmpmaaGreatDoor
open Go Go.RowKit Go.Maps
def vldB (g : Int) (p : List St) : Bool := inB g 0 60 && proofB g p
def vldE (g : Int) (p : List St) : Int := if vldB g p = true then 0 else 1
/-- what all steps say: an error if the arguments are not valid, or a step says nothing. -/
def SaidQ (s : Sg) (g : List (List Int)) (p : List St) (l : List (List Int)) (er : Int) : Prop :=
  (askedB s g p = false ∧ l = [] ∧ er = 1) ∨ (askedB s g p = true ∧ ∃ l' e', RunR s g p l' e' ∧ ((e' = 0 ∧ l = l' ∧ er = 0) ∨ (e' ≠ 0 ∧ l = [] ∧ er = 11)))
theorem SaidQ.unique {s : Sg} {g : List (List Int)} {p : List St} {l l' : List (List Int)} {e e' : Int} (h : SaidQ s g p l e) (k : SaidQ s g p l' e') : l = l' ∧ e = e' := by
  rcases h with ⟨h1, rfl, rfl⟩ | ⟨h1, a, x, h2, h3⟩
  · rcases k with ⟨-, rfl, rfl⟩ | ⟨k1, -⟩
    · exact ⟨rfl, rfl⟩
    · rw [h1] at k1; cases k1
  · rcases k with ⟨k1, -⟩ | ⟨k1, b, y, k2, k3⟩
    · rw [h1] at k1; cases k1
    · obtain ⟨rfl, rfl⟩ := h2.unique k2
      rcases h3 with ⟨e, rfl, rfl⟩ | ⟨e, rfl, rfl⟩ <;> rcases k3 with ⟨f, rfl, rfl⟩ | ⟨f, rfl, rfl⟩
      · exact ⟨rfl, rfl⟩
      · exact absurd e f
      · exact absurd f e
      · exact ⟨rfl, rfl⟩
/-- a good proof. -/
theorem SaidQ.good {s : Sg} {g : List (List Int)} {p : List St} {l : List (List Int)} (h : SaidQ s g p l 0) : askedB s g p = true ∧ RunR s g p l 0 := by
  rcases h with ⟨-, -, h⟩ | ⟨h1, a, x, h2, ⟨rfl, rfl, -⟩ | ⟨-, -, h⟩⟩
  · cases h
  · exact ⟨h1, h2⟩
  · cases h
set_option maxHeartbeats 1000000 in
theorem short_valid (g : Int) (v : Value) (p : List St) (w : World) (hp : StepsAt w v p) :
    Calls Tryz.prog 56 #[.int .i64 g, v] w fun e w' => e = .returned (.int .i64 (vldE g p)) ∧ Below w.heap.size w w' := by
  have HV := hid (fun (h : 0 ≤ g ∧ g ≤ 60) => kernel_ValidProof g v p w h hp)
  obtain ⟨a, cap, rfl, -⟩ := hp.open
  clear hp
  by_cases h1 : g < 0
  · have HF : Hid (vldE g p = 1) := hid (by unfold vldE vldB; rw [inB_false.2 (Or.inl h1)]; rfl)
    clear HV
    go_enter Tryz.func56, Tryz.ntmps56
    go_wp2
    go_ret
    exact ⟨congrArg (fun z : Int => Ending.returned (.int .i64 z)) HF.out.symm, Below.refl _ _⟩
  by_cases h2 : 60 < g
  · have HF : Hid (vldE g p = 1) := hid (by unfold vldE vldB; rw [inB_false.2 (Or.inr h2)]; rfl)
    clear HV
    go_enter Tryz.func56, Tryz.ntmps56
    go_wp2
    go_ret
    exact ⟨congrArg (fun z : Int => Ending.returned (.int .i64 z)) HF.out.symm, Below.refl _ _⟩
  have HK := hid (HV.out ⟨by omega, by omega⟩)
  have hi : inB g 0 60 = true := inB_true.2 ⟨by omega, by omega⟩
  clear HV
  cases hb : proofB g p
  · have HF : Hid (vldE g p = 1) := hid (by unfold vldE vldB; rw [hb, Bool.and_false]; rfl)
    rw [hb] at HK
    clear hb
    go_enter Tryz.func56, Tryz.ntmps56
    go_wp2_with fail
    refine HK.out.mono ?_
    rintro e w1 ⟨rfl, hb1⟩
    go_wp2
    go_ret
    exact ⟨congrArg (fun z : Int => Ending.returned (.int .i64 z)) HF.out.symm, hb1⟩
  · have HF : Hid (vldE g p = 0) := hid (by unfold vldE vldB; rw [hb, hi]; rfl)
    rw [hb] at HK
    clear hb
    go_enter Tryz.func56, Tryz.ntmps56
    go_wp2_with fail
    refine HK.out.mono ?_
    rintro e w1 ⟨rfl, hb1⟩
    go_wp2
    go_ret
    exact ⟨congrArg (fun z : Int => Ending.returned (.int .i64 z)) HF.out.symm, hb1⟩
set_option maxHeartbeats 2000000 in
theorem short_said (vs vg vp : Value) (s : Sg) (g : List (List Int)) (p : List St) (w : World) (hs : SignAt w vs s) (hg : Terms w vg g) (hp : StepsAt w vp p) (hs1 : s.length ≤ 1000) :
    Calls Tryz.prog 60 #[vs, vg, vp] w fun e w' => ∃ u l er, e = .returned (.tuple #[u, .int .i64 er]) ∧ SaidQ s g p l er ∧ Terms w' u l ∧ Below w.heap.size w w' := by
  have HG := hid (kernel_ValidGivens vs vg s g w hs hg hs1)
  have HP := hid (fun (h : (0 : Int) ≤ (g.length : Int) ∧ (g.length : Int) ≤ 60) (X : World) (hX : Below w.heap.size w X) => kernel_ValidProof (g.length : Int) vp p X h (hp.below hX))
  have HR := hid (fun (X : World) (hX : Below w.heap.size w X) => kernel_Run vs vg vp s g p X (hs.below hX) (hg.below hX) (hp.below hX) hs1)
  obtain ⟨sa, sc, rfl, -⟩ := hs.open
  obtain ⟨ga, gc, rfl, -⟩ := hg.open
  obtain ⟨pa, pc, rfl, -⟩ := hp.open
  clear hs hg hp hs1
  cases e1 : givensB s g
  · have HF : Hid (SaidQ s g p [] 1) := hid (Or.inl ⟨by unfold askedB; rw [e1]; rfl, rfl, rfl⟩)
    rw [e1] at HG
    clear e1
    go_enter Tryz.func60, Tryz.ntmps60
    go_wp2_with fail
    refine HG.out.mono ?_
    rintro e w1 ⟨rfl, hb1⟩
    go_wp2
    go_ret2
    exact ⟨_, _, _, rfl, HF.out, terms_nilK _, hb1⟩
  have h60 : g.length ≤ 60 := by
    have h := e1
    unfold givensB at h
    rw [Bool.and_eq_true, Bool.and_eq_true, decide_eq_true_eq] at h
    exact h.1.2
  have HP1 := hid (HP.out ⟨by omega, by omega⟩)
  rw [e1] at HG
  have HAS : Hid (askedB s g p = proofB g.length p) := hid (by unfold askedB; rw [e1]; rfl)
  clear e1 HP
  cases e2 : proofB g.length p
  · have HF : Hid (SaidQ s g p [] 1) := hid (Or.inl ⟨HAS.out.trans e2, rfl, rfl⟩)
    simp only [e2] at HP1
    clear e2
    go_enter Tryz.func60, Tryz.ntmps60
    go_wp2_with fail
    refine HG.out.mono ?_
    rintro e w1 ⟨rfl, hb1⟩
    have HB1 := hid hb1
    have K1 := hid (HP1.out w1 hb1)
    clear hb1
    go_wp2_with fail
    refine K1.out.mono ?_
    rintro e w2 ⟨rfl, hb2⟩
    go_wp2
    go_ret2
    exact ⟨_, _, _, rfl, HF.out, terms_nilK _, HB1.out.trans (hb2.mono HB1.out.size)⟩
  simp only [e2] at HP1
  have HASK := hid (HAS.out.trans e2)
  clear e2 HAS
  go_enter Tryz.func60, Tryz.ntmps60
  go_wp2_with fail
  refine HG.out.mono ?_
  rintro e w1 ⟨rfl, hb1⟩
  have HB1 := hid hb1
  have K1 := hid (HP1.out w1 hb1)
  clear hb1
  go_wp2_with fail
  refine K1.out.mono ?_
  rintro e w2 ⟨rfl, hb2⟩
  have HB2 := hid (HB1.out.trans (hb2.mono HB1.out.size))
  have K2 := hid (HR.out w2 HB2.out)
  clear hb2
  go_wp2_with fail
  refine K2.out.mono ?_
  rintro e w3 ⟨u, l, n, er, rfl, hq, hT, hb3⟩
  have HB3 := hid (HB2.out.trans (hb3.mono HB2.out.size))
  have HT := hid hT
  obtain ⟨ua, uc, rfl, -⟩ := hT.open
  have HQ : Hid (RunR s g p l er) := hid (by
    rcases hq with ⟨h, -⟩ | ⟨-, h, -⟩
    · rw [HASK.out] at h; cases h
    · exact h)
  clear hq hT hb3
  by_cases h0 : er = 0
  · subst h0
    have HF : Hid (SaidQ s g p l 0) := hid (Or.inr ⟨HASK.out, l, 0, HQ.out, Or.inl ⟨rfl, rfl, rfl⟩⟩)
    go_wp2
    go_ret2
    exact ⟨_, _, _, rfl, HF.out, HT.out, HB3.out⟩
  · have n0 : (er != 0) = true := by simpa using h0
    have HF : Hid (SaidQ s g p [] 11) := hid (Or.inr ⟨HASK.out, l, er, HQ.out, Or.inr ⟨h0, rfl, rfl⟩⟩)
    clear h0
    go_wp2
    go_ret2
    exact ⟨_, _, _, rfl, HF.out, terms_nilK _, HB3.out⟩
end Go.Proofs.YtmpjaakkjhmpmaaGreatDoor
namespace Go.Proofs.YtmpjaakkjhmpmaaGreatDoor
open Go Go.RowKit Go.Maps
theorem bools_at {b : List Bool} {i : Nat} (h : i < b.length) : (b.map Value.bool)[i]? = some (.bool (stB b i)) := by
  rw [List.getElem?_map, List.getElem?_eq_getElem h]
  unfold stB
  rw [List.getD_eq_getElem?_getD, List.getElem?_eq_getElem h]; rfl
/-- the step of a valid proof, its numbers as natural ones. -/
theorem st_at {g : Int} {p : List St} (h : proofB g p = true) {i : Nat} (hi : i < p.length) : p.getD i st0 = p[i] ∧ ((p[i].1 = 1 ∧ 0 ≤ p[i].2.1 ∧ p[i].2.1 < g) ∨ (p[i].1 = 2 ∧ p[i].2.1 = (nA p[i] : Int) ∧ p[i].2.2 = (nB p[i] : Int) ∧ nA p[i] < i ∧ nB p[i] < i)) := by
  have e : p.getD i st0 = p[i] := by rw [List.getD_eq_getElem?_getD, List.getElem?_eq_getElem hi]; rfl
  refine ⟨e, ?_⟩
  rcases right_step (proofB_at h hi) with ⟨c1, c2, c3⟩ | ⟨c1, c2, c3, c4, c5⟩
  · exact Or.inl ⟨c1, c2, c3⟩
  · exact Or.inr ⟨c1, by unfold nA; omega, by unfold nB; omega, by unfold nA; omega, by unfold nB; omega⟩
def NedQ (p : List St) (w : World) (e : Ending) (w' : World) : Prop := ∃ q, e = .returned (.slice (some ⟨q, 0, none⟩) p.length p.length) ∧ w.heap.size ≤ q ∧ w'.ownsRow w.heap.size 4 1 (.slice (some ⟨q, 0, none⟩) p.length p.length) p.length ((needL p).map Value.bool) ∧ Below w.heap.size w w'
set_option maxHeartbeats 4000000 in
set_option maxRecDepth 100000 in
theorem short_needed (g : Int) (v : Value) (p : List St) (w : World) (hp : StepsAt w v p) (hg : proofB g p = true) :
    Calls Tryz.prog 65 #[v] w fun e w' => NedQ p w e w' := by
  have h60 := proof60 hg
  have h1 := proof1 hg
  have HSA := hid (fun (i : Nat) (hi : i < p.length) => st_at hg hi)
  have HND := hid (show needL p = needF p p.length (need0 p) from rfl)
  have HN0 := hid (show need0 p = (List.replicate p.length false).set (p.length - 1) true from rfl)
  obtain ⟨pa, pc, rfl, hc, hl, -, HC⟩ := hp.open
  have HC' := hid HC
  unfold NedQ
  obtain ⟨nd, hnd⟩ : ∃ nd, needL p = nd := ⟨_, rfl⟩
  rw [hnd] at HND ⊢
  obtain ⟨n0, hn0⟩ : ∃ n0, need0 p = n0 := ⟨_, rfl⟩
  rw [hn0] at HND HN0
  obtain ⟨m, hm⟩ : ∃ m, p.length = m + 1 := ⟨p.length - 1, by omega⟩
  have HM := hid hm
  simp only [hm, Nat.add_sub_cancel] at HND HN0 hc hl h60 ⊢
  clear hnd hn0 hm hg hp HC h1
  have hw0 : IntKind.i64.wrap (((m + 1 : Nat) : Int) - 1) = m := by rw [IntWalk.i64_in _ (by omega)]; omega
  have q0 : (((m + 1 : Nat) : Int) - 1) = m := by omega
  go_enter Tryz.func65, Tryz.ntmps65
  go_wp2_with (at_make; refine wpList_make_row rfl _ _ 82 rfl w.heap.size 4 el_bool Tryz.underlying82 rfl (m + 1) rfl rfl (by omega) (by omega) (by simp) ?_; intro q w1 hq0 hq1 hown1 hgrow1; have hc1 := hown1.cellAt m (by omega); have hf1 := hown1.frozenAt m)
  have hb1 : Below w.heap.size w w1 := (Below.refl _ _).grown hgrow1 (by simp) (fun _ h => by cases h)
  have hst1 := (hown1.stored m (.bool true)).1
  have hbs1 : Below w.heap.size w (w1.setCell ⟨q, m, none⟩ (.bool true)) := hb1.setCell (p := ⟨q, m, none⟩) hq0 _
  rw [← List.map_replicate, ← List.map_set, ← HN0.out] at hst1
  have hlen0 : n0.length = m + 1 := by rw [HN0.out]; simp
  have HST := hid hst1
  have HBS := hid hbs1
  obtain ⟨W, hW⟩ : ∃ W, w1.setCell ⟨q, m, none⟩ (.bool true) = W := ⟨_, rfl⟩
  have HW := hid hW
  rw [hW] at HST HBS
  clear hown1 hgrow1 hst1 hbs1 hb1 hc1 hf1 hw0 q0
  (try rw [HW.out])
  clear hW HW
  go_loopw [4] (fun kv wr => ∃ (k : Int) (b : List Bool), -1 ≤ k ∧ k ≤ m ∧ kv = .int .i64 k ∧ b.length = m + 1 ∧ needF p (k + 1).toNat b = nd ∧ wr.ownsRow w.heap.size 4 1 (.slice (some ⟨q, 0, none⟩) (m + 1) (m + 1)) (m + 1) (b.map Value.bool) ∧ Below w.heap.size w wr) (fun kv _ => (intOf kv + 1).toNat)
  case atStart => exact ⟨m, n0, by omega, by omega, rfl, hlen0, by rw [HND.out]; congr 1, HST.out, HBS.out⟩
  case round =>
    clear HST HBS hlen0 HN0 HND
    obtain ⟨k, b, hk0, hk1, rfl, hbl, hnf, hown, hb⟩ := hrel
    by_cases hlt : 0 ≤ k
    case neg =>
      obtain rfl : k = -1 := by omega
      have e : b = nd := hnf
      subst e
      have HOWN := hid hown
      have HB := hid hb
      clear hown hb hnf
      go_wp2
      go_ret
      exact ⟨q, rfl, hq0, HOWN.out, HB.out⟩
    obtain ⟨i, rfl⟩ : ∃ i : Nat, k = i := ⟨k.toNat, by omega⟩
    have him : i < m + 1 := by omega
    have hip : i < p.length := by have := HM.out; omega
    obtain ⟨eg, hx⟩ := HSA.out i hip
    have hnf' : needF p i (mkN p[i] i b) = nd := by rw [← hnf, ← eg]; rfl
    obtain ⟨xb, xo, rfl, y0, y1, y2⟩ := HC'.out i hip
    have x0 := (hb.cell (World.block_lt_of_cell? _ _ y0)).trans y0
    have x1 := (hb.cell (World.block_lt_of_cell? _ _ y1)).trans y1
    have x2 := (hb.cell (World.block_lt_of_cell? _ _ y2)).trans y2
    obtain ⟨x, hxx⟩ : ∃ x, p[i] = x := ⟨_, rfl⟩
    rw [hxx] at x0 x1 x2 hx hnf'
    have hc1 := hown.cellAt i (by omega)
    rw [bools_at (by omega)] at hc1
    have HNF := hid hnf'
    have HOWN := hid hown
    have HB := hid hb
    have HBLN := hid hbl
    have q1 : IntKind.i64.wrap ((i : Int) - 1) = (i : Int) - 1 := IntWalk.i64_in _ (by omega)
    clear hnf hnf' hown hb hxx eg y0 y1 y2
    have skip : mkN x i b = b → ∃ (k : Int) (b : List Bool), -1 ≤ k ∧ k ≤ (m : Int) ∧ Value.int .i64 ((i : Int) - 1) = .int .i64 k ∧ b.length = m + 1 ∧ needF p (k + 1).toNat b = nd ∧ wr.ownsRow w.heap.size 4 1 (.slice (some ⟨q, 0, none⟩) (m + 1) (m + 1)) (m + 1) (b.map Value.bool) ∧ Below w.heap.size w wr := fun h =>
      ⟨(i : Int) - 1, b, by omega, by omega, rfl, HBLN.out, by rw [show ((i : Int) - 1 + 1).toNat = i by omega, ← HNF.out, h], HOWN.out, HB.out⟩
    have HSK := hid skip
    clear skip
    cases hs : stB b i
    · have HE : Hid (mkN x i b = b) := hid (by unfold mkN; rw [if_neg (fun h => by have h1 : stB b i = true := h.1; rw [hs] at h1; cases h1)])
      rw [hs] at hc1
      clear hx hs
      go_wp2
      go_roundw
      case rel => exact HSK.out HE.out
      case measure => simp [intOf]
    rw [hs] at hc1
    rcases hx with ⟨hx1, -, -⟩ | ⟨hx1, ha, hbb, ha', hb'⟩
    · have HE : Hid (mkN x i b = b) := hid (by unfold mkN; rw [if_neg (fun h => by omega)])
      rw [hx1] at x0
      clear hs hx1
      go_wp2
      go_roundw
      case rel => exact HSK.out HE.out
      case measure => simp [intOf]
    have HE : Hid (mkN x i b = (b.set (nA x) true).set (nB x) true) := hid (by unfold mkN; rw [if_pos ⟨hs, hx1⟩])
    rw [hx1] at x0
    rw [ha] at x1
    rw [hbb] at x2
    obtain ⟨A, hA⟩ : ∃ A, nA x = A := ⟨_, rfl⟩
    obtain ⟨B, hBq⟩ : ∃ B, nB x = B := ⟨_, rfl⟩
    rw [hA] at x1 ha' HE
    rw [hBq] at x2 hb' HE
    clear hA hBq ha hbb hx1 hs
    have hcA := HOWN.out.cellAt A (by omega)
    rw [bools_at (by omega)] at hcA
    have hfA := HOWN.out.frozenAt A
    have hst := (HOWN.out.stored A (.bool true)).1
    have hcB := hst.cellAt B (by omega)
    rw [← List.map_set, bools_at (by rw [List.length_set]; omega)] at hcB
    have hfB := hst.frozenAt B
    have hst2 := (hst.stored B (.bool true)).1
    rw [← List.map_set, ← List.map_set] at hst2
    have HST2 := hid hst2
    have HBS2 := hid (show Below w.heap.size w ((wr.setCell ⟨q, A, none⟩ (.bool true)).setCell ⟨q, B, none⟩ (.bool true)) from (HB.out.setCell (p := ⟨q, A, none⟩) hq0 _).setCell (p := ⟨q, B, none⟩) hq0 _)
    clear hst hst2
    go_wp2
    go_region
    go_wp2
    go_roundw
    case rel =>
      refine ⟨(i : Int) - 1, (b.set A true).set B true, by omega, by omega, rfl, by rw [List.length_set, List.length_set]; exact HBLN.out, by rw [show ((i : Int) - 1 + 1).toNat = i by omega, ← HNF.out, HE.out], ?_, ?_⟩
      · first | exact HST2.out | exact owns_below HST2.out (below_self_drewN _ _)
      · first | exact HBS2.out | exact below_drewN HBS2.out _
    case measure => simp [intOf]
end Go.Proofs.YtmpjaakkjhmpmaaGreatDoor
namespace Go.Proofs.YtmpjaakkjhmpmaaGreatDoor
open Go Go.RowKit Go.Maps
def tmA (b : List Int) (i : Nat) : Int := b.getD i 0
/-- what one step does to the numbers: sums as the machine makes them. -/
def mkT (x : St) (i : Nat) (b : List Int) : List Int := if x.1 = 2 then (b.set (nA x) (IntKind.i64.wrap (tmA b (nA x) + tmA b i))).set (nB x) (IntKind.i64.wrap (tmA (b.set (nA x) (IntKind.i64.wrap (tmA b (nA x) + tmA b i))) (nB x) + tmA (b.set (nA x) (IntKind.i64.wrap (tmA b (nA x) + tmA b i))) i)) else b
def tmF (p : List St) : Nat → List Int → List Int
  | 0, b => b
  | i + 1, b => tmF p i (mkT (p.getD i st0) i b)
def tm0 (p : List St) : List Int := (List.replicate p.length 0).set (p.length - 1) 1
def timL (p : List St) : List Int := tmF p p.length (tm0 p)
theorem tms_at {b : List Int} {i : Nat} (h : i < b.length) : (b.map (Value.int .i64))[i]? = some (.int .i64 (tmA b i)) := by
  rw [List.getElem?_map, List.getElem?_eq_getElem h]
  unfold tmA
  rw [List.getD_eq_getElem?_getD, List.getElem?_eq_getElem h]; rfl
def TmsQ (p : List St) (w : World) (e : Ending) (w' : World) : Prop := ∃ q, e = .returned (.slice (some ⟨q, 0, none⟩) p.length p.length) ∧ w.heap.size ≤ q ∧ w'.ownsRow w.heap.size 3 1 (.slice (some ⟨q, 0, none⟩) p.length p.length) p.length ((timL p).map (Value.int .i64)) ∧ Below w.heap.size w w'
set_option maxHeartbeats 4000000 in
set_option maxRecDepth 100000 in
theorem short_times (g : Int) (v : Value) (p : List St) (w : World) (hp : StepsAt w v p) (hg : proofB g p = true) :
    Calls Tryz.prog 79 #[v] w fun e w' => TmsQ p w e w' := by
  have h60 := proof60 hg
  have h1 := proof1 hg
  have HSA := hid (fun (i : Nat) (hi : i < p.length) => st_at hg hi)
  have HND := hid (show timL p = tmF p p.length (tm0 p) from rfl)
  have HN0 := hid (show tm0 p = (List.replicate p.length 0).set (p.length - 1) 1 from rfl)
  obtain ⟨pa, pc, rfl, hc, hl, -, HC⟩ := hp.open
  have HC' := hid HC
  unfold TmsQ
  obtain ⟨nd, hnd⟩ : ∃ nd, timL p = nd := ⟨_, rfl⟩
  rw [hnd] at HND ⊢
  obtain ⟨n0, hn0⟩ : ∃ n0, tm0 p = n0 := ⟨_, rfl⟩
  rw [hn0] at HND HN0
  obtain ⟨m, hm⟩ : ∃ m, p.length = m + 1 := ⟨p.length - 1, by omega⟩
  have HM := hid hm
  simp only [hm, Nat.add_sub_cancel] at HND HN0 hc hl h60 ⊢
  clear hnd hn0 hm hg hp HC h1
  have hw0 : IntKind.i64.wrap (((m + 1 : Nat) : Int) - 1) = m := by rw [IntWalk.i64_in _ (by omega)]; omega
  have q0 : (((m + 1 : Nat) : Int) - 1) = m := by omega
  go_enter Tryz.func79, Tryz.ntmps79
  go_wp2_with (at_make; refine wpList_make_row rfl _ _ 33 rfl w.heap.size 3 el_int Tryz.underlying33 rfl (m + 1) rfl rfl (by omega) (by omega) (by simp) ?_; intro q w1 hq0 hq1 hown1 hgrow1; have hc1 := hown1.cellAt m (by omega); have hf1 := hown1.frozenAt m)
  have hb1 : Below w.heap.size w w1 := (Below.refl _ _).grown hgrow1 (by simp) (fun _ h => by cases h)
  have hst1 := (hown1.stored m (.int .i64 1)).1
  have hbs1 : Below w.heap.size w (w1.setCell ⟨q, m, none⟩ (.int .i64 1)) := hb1.setCell (p := ⟨q, m, none⟩) hq0 _
  rw [← List.map_replicate, ← List.map_set, ← HN0.out] at hst1
  have hlen0 : n0.length = m + 1 := by rw [HN0.out]; simp
  have HST := hid hst1
  have HBS := hid hbs1
  obtain ⟨W, hW⟩ : ∃ W, w1.setCell ⟨q, m, none⟩ (.int .i64 1) = W := ⟨_, rfl⟩
  have HW := hid hW
  rw [hW] at HST HBS
  clear hown1 hgrow1 hst1 hbs1 hb1 hc1 hf1 hw0 q0
  (try rw [HW.out])
  clear hW HW
  go_loopw [4] (fun kv wr => ∃ (k : Int) (b : List Int), -1 ≤ k ∧ k ≤ m ∧ kv = .int .i64 k ∧ b.length = m + 1 ∧ tmF p (k + 1).toNat b = nd ∧ wr.ownsRow w.heap.size 3 1 (.slice (some ⟨q, 0, none⟩) (m + 1) (m + 1)) (m + 1) (b.map (Value.int .i64)) ∧ Below w.heap.size w wr) (fun kv _ => (intOf kv + 1).toNat)
  case atStart => exact ⟨m, n0, by omega, by omega, rfl, hlen0, by rw [HND.out]; congr 1, HST.out, HBS.out⟩
  case round =>
    clear HST HBS hlen0 HN0 HND
    obtain ⟨k, b, hk0, hk1, rfl, hbl, hnf, hown, hb⟩ := hrel
    by_cases hlt : 0 ≤ k
    case neg =>
      obtain rfl : k = -1 := by omega
      have e : b = nd := hnf
      subst e
      have HOWN := hid hown
      have HB := hid hb
      clear hown hb hnf
      go_wp2
      go_ret
      exact ⟨q, rfl, hq0, HOWN.out, HB.out⟩
    obtain ⟨i, rfl⟩ : ∃ i : Nat, k = i := ⟨k.toNat, by omega⟩
    have him : i < m + 1 := by omega
    have hip : i < p.length := by have := HM.out; omega
    obtain ⟨eg, hx⟩ := HSA.out i hip
    have hnf' : tmF p i (mkT p[i] i b) = nd := by rw [← hnf, ← eg]; rfl
    obtain ⟨xb, xo, rfl, y0, y1, y2⟩ := HC'.out i hip
    have x0 := (hb.cell (World.block_lt_of_cell? _ _ y0)).trans y0
    have x1 := (hb.cell (World.block_lt_of_cell? _ _ y1)).trans y1
    have x2 := (hb.cell (World.block_lt_of_cell? _ _ y2)).trans y2
    obtain ⟨x, hxx⟩ : ∃ x, p[i] = x := ⟨_, rfl⟩
    rw [hxx] at x0 x1 x2 hx hnf'
    have hc1 := hown.cellAt i (by omega)
    rw [tms_at (by omega)] at hc1
    have HNF := hid hnf'
    have HOWN := hid hown
    have HB := hid hb
    have HBLN := hid hbl
    have q1 : IntKind.i64.wrap ((i : Int) - 1) = (i : Int) - 1 := IntWalk.i64_in _ (by omega)
    have hxq := World.block_lt_of_cell? _ _ y0
    clear hnf hnf' hown hb hxx eg y0 y1 y2
    have skip : mkT x i b = b → ∃ (k : Int) (b : List Int), -1 ≤ k ∧ k ≤ (m : Int) ∧ Value.int .i64 ((i : Int) - 1) = .int .i64 k ∧ b.length = m + 1 ∧ tmF p (k + 1).toNat b = nd ∧ wr.ownsRow w.heap.size 3 1 (.slice (some ⟨q, 0, none⟩) (m + 1) (m + 1)) (m + 1) (b.map (Value.int .i64)) ∧ Below w.heap.size w wr := fun h =>
      ⟨(i : Int) - 1, b, by omega, by omega, rfl, HBLN.out, by rw [show ((i : Int) - 1 + 1).toNat = i by omega, ← HNF.out, h], HOWN.out, HB.out⟩
    have HSK := hid skip
    clear skip
    rcases hx with ⟨hx1, -, -⟩ | ⟨hx1, ha, hbb, ha', hb'⟩
    · have HE : Hid (mkT x i b = b) := hid (by unfold mkT; rw [if_neg (fun h => by omega)])
      rw [hx1] at x0
      clear hx1
      go_wp2
      go_roundw
      case rel => exact HSK.out HE.out
      case measure => simp [intOf]
    rw [hx1] at x0
    rw [ha] at x1
    rw [hbb] at x2
    obtain ⟨A, hA⟩ : ∃ A, nA x = A := ⟨_, rfl⟩
    obtain ⟨B, hBq⟩ : ∃ B, nB x = B := ⟨_, rfl⟩
    rw [hA] at x1 ha'
    rw [hBq] at x2 hb'
    obtain ⟨z1, hz1⟩ : ∃ z, IntKind.i64.wrap (tmA b A + tmA b i) = z := ⟨_, rfl⟩
    obtain ⟨b1, hb1⟩ : ∃ b1, b.set A z1 = b1 := ⟨_, rfl⟩
    obtain ⟨z2, hz2⟩ : ∃ z, IntKind.i64.wrap (tmA b1 B + tmA b1 i) = z := ⟨_, rfl⟩
    obtain ⟨b2, hb2⟩ : ∃ b2, b1.set B z2 = b2 := ⟨_, rfl⟩
    have HE : Hid (mkT x i b = b2) := hid (by unfold mkT; rw [if_pos hx1, hA, hBq, hz1, hb1, hz2, hb2])
    have hl1 : b1.length = m + 1 := by rw [← hb1, List.length_set]; exact HBLN.out
    have hl2 : b2.length = m + 1 := by rw [← hb2, List.length_set]; exact hl1
    have hcA := HOWN.out.cellAt A (by omega)
    rw [tms_at (by omega)] at hcA
    have hfA := HOWN.out.frozenAt A
    have hst := (HOWN.out.stored A (.int .i64 (z1))).1
    rw [← List.map_set, hb1] at hst
    have hci2 := hst.cellAt i (by omega)
    rw [tms_at (by omega)] at hci2
    have hcB := hst.cellAt B (by omega)
    rw [tms_at (by omega)] at hcB
    have hfB := hst.frozenAt B
    have hst2 := (hst.stored B (.int .i64 (z2))).1
    rw [← List.map_set, hb2] at hst2
    have HL2 := hid hl2
    have HST2 := hid hst2
    have HBS2 := hid (show Below w.heap.size w ((wr.setCell ⟨q, A, none⟩ (.int .i64 (z1))).setCell ⟨q, B, none⟩ (.int .i64 (z2))) from (HB.out.setCell (p := ⟨q, A, none⟩) hq0 _).setCell (p := ⟨q, B, none⟩) hq0 _)
    have oth : ∀ (c : Nat) (a : Addr) (v : Value), wr.cell? ⟨xb, c, none⟩ = some v → a.block = q → xb ≠ q → ∀ u, (wr.setCell a u).cell? ⟨xb, c, none⟩ = some v := fun c a v h h1 h2 u => (World.cell?_of_block (Below.heap_setCell _ _ _ _ (fun e => h2 (by rw [← h1]; exact e)))).trans h
    clear hst hst2 hA hBq ha hbb hx1 hb1 hb2 hl1 hl2
    go_wp2
    go_region
    obtain ⟨W5, hW5⟩ : ∃ W5, (wr.setCell ⟨q, A, none⟩ (.int .i64 (z1))).drew = W5 := ⟨_, rfl⟩
    have hne : xb ≠ q := by have h : xb < w.heap.size := hxq; omega
    have j2 : W5.cell? ⟨xb, xo + i * 3 + 2, none⟩ = some (.int .i64 (B : Int)) := hW5 ▸ oth _ ⟨q, A, none⟩ _ x2 rfl hne _
    have ji : W5.cell? ⟨q, i, none⟩ = some (.int .i64 (tmA b1 i)) := hW5 ▸ hci2
    have jB : W5.cell? ⟨q, B, none⟩ = some (.int .i64 (tmA b1 B)) := hW5 ▸ hcB
    have jf : W5.frozen? ⟨q, B, none⟩ = false := hW5 ▸ hfB
    rw [hW5]
    have HW5 := hid hW5
    clear hW5 hci2 hcB hfB hcA hfA x0 x1 x2 oth hc1
    go_wp2
    go_region
    go_wp2
    go_roundw
    case rel =>
      refine ⟨(i : Int) - 1, b2, by omega, by omega, rfl, HL2.out, by rw [show ((i : Int) - 1 + 1).toNat = i by omega, ← HNF.out, HE.out], ?_, ?_⟩
      · rw [← HW5.out]; exact owns_below HST2.out (below_self_drewN _ 2)
      · rw [← HW5.out]; exact below_drewN HBS2.out 2
    case measure => simp [intOf]
end Go.Proofs.YtmpjaakkjhmpmaaGreatDoor
namespace Go.Proofs.YtmpjaakkjhmpmaaGreatDoor
open Go Go.RowKit
/-- a needed step is the last one, or one that a needed step detaches. -/
def JustN (p : List St) (b : List Bool) : Prop := ∀ i, b.getD i false = true → i = p.length - 1 ∨ ∃ j, j < p.length ∧ i < j ∧ b.getD j false = true ∧ (p.getD j st0).1 = 2 ∧ (nA (p.getD j st0) = i ∨ nB (p.getD j st0) = i)
theorem set_get {b : List Bool} {A i : Nat} (h : (b.set A true).getD i false = true) : b.getD i false = true ∨ A = i := by
  rw [List.getD_eq_getElem?_getD, List.getElem?_set] at h
  split at h
  · exact Or.inr (by assumption)
  · exact Or.inl (by rw [List.getD_eq_getElem?_getD]; exact h)
theorem mkN_just {p : List St} (hp : backP p) {m : Nat} (hm : m < p.length) {b : List Bool} (h : JustN p b) : JustN p (mkN (p.getD m st0) m b) := by
  intro i hi
  have old : b.getD i false = true → i = p.length - 1 ∨ ∃ j, j < p.length ∧ i < j ∧ (mkN (p.getD m st0) m b).getD j false = true ∧ (p.getD j st0).1 = 2 ∧ (nA (p.getD j st0) = i ∨ nB (p.getD j st0) = i) := fun h0 => by
    rcases h i h0 with h1 | ⟨j, h1, h2, h3, h4⟩
    · exact Or.inl h1
    · exact Or.inr ⟨j, h1, h2, mkN_keep h3, h4⟩
  by_cases hc : b.getD m false = true ∧ (p.getD m st0).1 = 2
  · obtain ⟨ha, hb⟩ := hp m hm hc.2
    have e : mkN (p.getD m st0) m b = (b.set (nA (p.getD m st0)) true).set (nB (p.getD m st0)) true := by unfold mkN; rw [if_pos hc]
    have hi' := hi
    rw [e] at hi'
    rcases set_get hi' with h1 | h1
    · rcases set_get h1 with h2 | h2
      · exact old h2
      · exact Or.inr ⟨m, hm, by omega, mkN_keep hc.1, hc.2, Or.inl h2⟩
    · exact Or.inr ⟨m, hm, by omega, mkN_keep hc.1, hc.2, Or.inr h1⟩
  · have e : mkN (p.getD m st0) m b = b := by unfold mkN; rw [if_neg hc]
    rw [e] at hi
    exact old hi
theorem needF_just {p : List St} (hp : backP p) : ∀ (m : Nat) (b : List Bool), m ≤ p.length → JustN p b → JustN p (needF p m b)
  | 0, _, _, h => h
  | m + 1, b, hm, h => by rw [needF]; exact needF_just hp m _ (by omega) (mkN_just hp (by omega) h)
theorem need_from {p : List St} (hp : backP p) : JustN p (needL p) := by
  refine needF_just hp p.length _ (Nat.le_refl _) fun i hi => Or.inl ?_
  unfold need0 at hi
  rcases set_get hi with h | h
  · rw [List.getD_eq_getElem?_getD] at h
    by_cases hl : i < p.length
    · simp [hl] at h
    · rw [List.getElem?_eq_none (by simp; omega)] at h; cases h
  · omega
theorem reb_get (p : List St) (b : List Bool) (f : Nat → Nat) {i : Nat} (hs : stB b i = true) : ∀ {k : Nat}, i < k → (rebL p b f k).getD (posS b i) st0 = mvS b f (p.getD i st0)
  | 0, h => absurd h (Nat.not_lt_zero _)
  | k + 1, h => by
    by_cases e : i = k
    · subst e
      rw [rebL, if_pos hs, List.getD_eq_getElem?_getD, List.getElem?_append_right (by rw [rebL_len]; exact Nat.le_refl _), rebL_len, Nat.sub_self]; rfl
    · have := posS_lt b (show i < k by omega) hs
      rw [rebL, List.getD_eq_getElem?_getD, List.getElem?_append_left (by rw [rebL_len]; exact this), ← List.getD_eq_getElem?_getD]
      exact reb_get p b f hs (by omega)
theorem posS_inv (b : List Bool) : ∀ {n t : Nat}, t < posS b n → ∃ i, i < n ∧ stB b i = true ∧ posS b i = t
  | 0, t, h => absurd h (Nat.not_lt_zero _)
  | n + 1, t, h => by
    by_cases ht : t < posS b n
    · obtain ⟨i, h1, h2⟩ := posS_inv b ht
      exact ⟨i, by omega, h2⟩
    · rw [posS] at h
      by_cases hs : stB b n = true
      · rw [if_pos hs] at h; exact ⟨n, by omega, hs, by omega⟩
      · rw [if_neg hs] at h; omega
theorem posS_all {b : List Bool} : ∀ {k : Nat}, (∀ t, t < k → stB b t = true) → posS b k = k
  | 0, _ => rfl
  | k + 1, h => by rw [posS, posS_all (fun t ht => h t (by omega)), if_pos (h k (by omega))]
theorem reb_all {g : Int} {q : List St} (hq : proofB g q = true) {b : List Bool} {f : Nat → Nat} (hb : ∀ t, t < q.length → stB b t = true) (hf : ∀ t, t < q.length → f t = t) : ∀ {k : Nat}, k ≤ q.length → rebL q b f k = q.take k
  | 0, _ => rfl
  | k + 1, hk => by
    obtain ⟨eg, hx⟩ := st_at hq (show k < q.length by omega)
    have hm : mvS b f q[k] = q[k] := by
      unfold mvS
      rcases hx with ⟨h1, -⟩ | ⟨h1, h2, h3, h4, h5⟩
      · rw [if_neg (by omega)]
      · rw [if_pos h1, hf _ (by omega), hf _ (by omega), posS_all (fun t ht => hb t (by omega)), posS_all (fun t ht => hb t (by omega)), ← h2, ← h3, ← h1]
    rw [rebL, if_pos (hb k (by omega)), reb_all hq hb hf (by omega), List.take_succ_eq_append_getElem (by omega), eg, hm]
theorem trim_need {g : Int} {p : List St} (hp : proofB g p = true) (hq : proofB g (trimL p) = true) : ∀ (d i : Nat), p.length - i = d → i < p.length → stB (needL p) i = true → stB (needL (trimL p)) (posS (needL p) i) = true := by
  have hb := back_of hp
  have hbq := back_of hq
  have h1 := proof1 hp
  have h1q := proof1 hq
  have hlq : (trimL p).length = posS (needL p) p.length := rebL_len _ _ _ _
  have hlast : posS (needL p) p.length = posS (needL p) (p.length - 1) + 1 := by
    obtain ⟨m, hm⟩ : ∃ m, p.length = m + 1 := ⟨p.length - 1, by omega⟩
    have this : stB (needL p) (p.length - 1) = true := need_last (p := p) (by omega)
    rw [hm, Nat.add_sub_cancel] at this ⊢
    rw [posS, if_pos this]
  intro d
  induction d using Nat.strongRecOn with
  | ind d ih =>
    intro i hd hi hs
    rcases need_from hb i hs with e | ⟨j, j1, j2, j3, j4, j5⟩
    · have := need_last (p := trimL p) (by omega)
      rw [hlq, hlast, Nat.add_sub_cancel, ← e] at this
      exact this
    · have hj := ih (p.length - j) (by omega) j rfl j1 j3
      have hg : (trimL p).getD (posS (needL p) j) st0 = mvS (needL p) id (p.getD j st0) := reb_get p (needL p) id j3 j1
      have hm : mvS (needL p) id (p.getD j st0) = (2, (posS (needL p) (nA (p.getD j st0)) : Int), (posS (needL p) (nB (p.getD j st0)) : Int)) := by unfold mvS; rw [if_pos j4]; rfl
      rw [hm] at hg
      have hlt : posS (needL p) j < (trimL p).length := by rw [hlq]; exact posS_lt _ j1 j3
      obtain ⟨k1, k2⟩ := need_step hbq hlt hj (by rw [hg])
      rw [hg] at k1 k2
      have e1 : nA ((2, (posS (needL p) (nA (p.getD j st0)) : Int), (posS (needL p) (nB (p.getD j st0)) : Int)) : St) = posS (needL p) (nA (p.getD j st0)) := by unfold nA; simp
      have e2 : nB ((2, (posS (needL p) (nA (p.getD j st0)) : Int), (posS (needL p) (nB (p.getD j st0)) : Int)) : St) = posS (needL p) (nB (p.getD j st0)) := by unfold nB; simp
      rw [e1] at k1
      rw [e2] at k2
      rcases j5 with e | e
      · rw [e] at k1; exact k1
      · rw [e] at k2; exact k2
theorem trim_twice {g : Int} {p : List St} (hp : proofB g p = true) (hq : proofB g (trimL p) = true) : trimL (trimL p) = trimL p := by
  have hall : ∀ t, t < (trimL p).length → stB (needL (trimL p)) t = true := fun t ht => by
    have hlq : (trimL p).length = posS (needL p) p.length := rebL_len _ _ _ _
    obtain ⟨i, h1, h2, h3⟩ := posS_inv (needL p) (by rw [← hlq]; exact ht)
    rw [← h3]
    exact trim_need hp hq _ i rfl h1 h2
  have h := reb_all hq hall (f := id) (fun t _ => rfl) (Nat.le_refl _)
  rw [List.take_length] at h
  exact h
theorem trim_len (p : List St) : (trimL p).length ≤ p.length := by unfold trimL; rw [rebL_len]; exact posS_le _ _
/-- no two are the same. -/
def NdL (l : List (List Int)) : Prop := ∀ i j, i < l.length → j < l.length → l.getD i [] = l.getD j [] → i = j
theorem nd_reb {l : List (List Int)} {b : List Bool} {k : Nat} (h : ∀ i j, i < k → j < k → stB b i = true → stB b j = true → l.getD i [] = l.getD j [] → i = j) : NdL (lrL l b k) := by
  intro i j hi hj e
  rw [lrL_len] at hi hj
  obtain ⟨i', i1, i2, i3⟩ := posS_inv b hi
  obtain ⟨j', j1, j2, j3⟩ := posS_inv b hj
  rw [← i3, ← j3, lrL_at l b i2 k i1, lrL_at l b j2 k j1] at e
  rw [← i3, ← j3, h i' j' i1 j1 i2 j2 e]
theorem frN_get {l : List (List Int)} {j : Nat} (h : j < l.length) : l.getD (frN l j) [] = l.getD j [] := by
  obtain ⟨hk, e⟩ := frN_same h
  rw [List.getD_eq_getElem?_getD, List.getD_eq_getElem?_getD, List.getElem?_eq_getElem hk, List.getElem?_eq_getElem h, e]
theorem nd_fr {l : List (List Int)} {k : Nat} (hk : k ≤ l.length) : NdL (lrL l (frB l) k) := nd_reb fun i j hi hj h1 h2 e => by
  rw [frB_at (by omega)] at h1 h2
  have h1 := of_decide_eq_true h1
  have h2 := of_decide_eq_true h2
  have e1 : l[i]'(by omega) = l[j]'(by omega) := by
    rw [List.getD_eq_getElem?_getD, List.getD_eq_getElem?_getD, List.getElem?_eq_getElem (show i < l.length by omega), List.getElem?_eq_getElem (show j < l.length by omega)] at e
    exact e
  rw [frN_at (show i < l.length by omega)] at h1
  rw [frN_at (show j < l.length by omega), ← e1] at h2
  omega
theorem nd_sub {l : List (List Int)} (h : NdL l) {b : List Bool} {k : Nat} (hk : k ≤ l.length) : NdL (lrL l b k) := nd_reb fun i j hi hj _ _ e => h i j (by omega) (by omega) e
theorem nd_id {l : List (List Int)} (h : NdL l) {i : Nat} (hi : i < l.length) : frN l i = i := h _ _ (by have := frN_le hi; omega) hi (frN_get hi)
theorem mrg_nd {g : Int} {p : List St} {l : List (List Int)} (hp : proofB g p = true) (hl : l.length = p.length) (h : NdL l) : mrgP p l = p := by
  have h1 := proof1 hp
  rw [mrgP_eq hl (by omega)]
  have e : lastF p l + 1 = p.length := by unfold lastF; rw [nd_id h (by omega)]; omega
  rw [e, reb_all hp (fun t ht => by rw [frB_at (by omega), nd_id h (by omega)]; simp) (fun t ht => nd_id h (by omega)) (Nat.le_refl _), List.take_length]
/-- what the merged proof says. -/
theorem mrg_run {s : Sg} {g : List (List Int)} {p : List St} {l : List (List Int)} (h : RunR s g p l 0) (hp : proofB g.length p = true) :
    ∃ lc, RunR s g (mrgP p l) lc 0 ∧ NdL lc ∧ lc.getLast? = some (l.getD (p.length - 1) []) ∧ proofB g.length (mrgP p l) = true ∧ (mrgP p l).length ≤ p.length := by
  have hl := run_len h
  have h1 := proof1 hp
  have hle := frN_le (l := l) (i := p.length - 1) (by omega)
  have hst := frB_fr (l := l) (i := p.length - 1) (by omega)
  have hlt : lastF p l + 1 ≤ p.length := by unfold lastF; omega
  rw [mrgP_eq hl (by omega)]
  refine ⟨lrL l (frB l) (lastF p l + 1), reb_run h hp (ok_fr hp hl) (fun j hj => frN_get (by omega)) hlt, nd_fr (by omega), ?_, reb_valid hp (ok_fr hp hl) hlt (Nat.lt_succ_self _) hst, ?_⟩
  · show (lrL l (frB l) (frN l (p.length - 1) + 1)).getLast? = _
    rw [lrL_last _ _ hst, frN_get (by omega)]
  · rw [rebL_len]; have := posS_le (frB l) (lastF p l + 1); omega
/-- what a trimmed proof says, no two of it the same if no two were. -/
theorem trim_run {s : Sg} {g : List (List Int)} {p : List St} {l : List (List Int)} (h : RunR s g p l 0) (hp : proofB g.length p = true) :
    ∃ lx, RunR s g (trimL p) lx 0 ∧ (NdL l → NdL lx) ∧ lx.getLast? = some (l.getD (p.length - 1) []) ∧ proofB g.length (trimL p) = true := by
  have hl := run_len h
  have h1 := proof1 hp
  obtain ⟨m, hm⟩ : ∃ m, p.length = m + 1 := ⟨p.length - 1, by omega⟩
  have hn : stB (needL p) (p.length - 1) = true := need_last (p := p) (by omega)
  rw [hm, Nat.add_sub_cancel] at hn
  refine ⟨lrL l (needL p) p.length, reb_run h hp (ok_need hp) (fun j hj => rfl) (Nat.le_refl _), fun hnd => nd_sub hnd (by omega), ?_, reb_valid hp (ok_need hp) (Nat.le_refl _) (show m < p.length by omega) hn⟩
  rw [hm, Nat.add_sub_cancel, lrL_last _ _ hn]
end Go.Proofs.YtmpjaakkjhmpmaaGreatDoor
namespace Go.Proofs.YtmpjaakkjhmpmaaGreatDoor
open Go Go.RowKit
end Go.Proofs.YtmpjaakkjhmpmaaGreatDoor
namespace Go.Proofs.YtmpjaakkjhmpmaaGreatDoor
open Go Go.RowKit Go.Maps
end Go.Proofs.YtmpjaakkjhmpmaaGreatDoor
namespace Go.Proofs.YtmpjaakkjhmpmaaGreatDoor
open Go Go.RowKit
end Go.Proofs.YtmpjaakkjhmpmaaGreatDoor
namespace Go.Proofs.YtmpjaakkjhmpmaaGreatDoor
open Go Go.RowKit Go.Maps
set_option maxHeartbeats 2000000 in
theorem ref4_Run (vs vg vp : Value) (s : Sg) (g : List (List Int)) (p : List St) (w : World) (hs : SignAt w vs s) (hg : Terms w vg g) (hp : StepsAt w vp p) :
    Calls Tryz.prog 89 #[vs, vg, vp] w fun e w' => ∃ u l n er, e = .returned (.tuple #[u, .int .i64 n, .int .i64 er]) ∧ RunQ s g p l n er ∧ Terms w' u l ∧ Below w.heap.size w w' := by
  have HA := hid (ref4_right vs vg vp s g p w hs hg hp)
  have HR := hid (fun (h : askedB s g p = true) (X : World) (hX : Below w.heap.size w X) => ref4_run vs vg vp s g p X h (hs.below hX) (hg.below hX) (hp.below hX))
  obtain ⟨sa, sc, rfl, -⟩ := hs.open
  obtain ⟨ga, gc, rfl, -⟩ := hg.open
  obtain ⟨pa, pc, rfl, -⟩ := hp.open
  clear hs hg hp
  cases hask : askedB s g p
  · rw [hask] at HA
    have HQ : Hid (RunQ s g p [] 0 1) := hid (Or.inl ⟨hask, rfl, rfl, rfl⟩)
    clear hask HR
    go_enter Tryz.func89, Tryz.ntmps89
    go_wp2_with fail
    refine HA.out.mono ?_
    rintro e w1 ⟨rfl, hb1⟩
    go_wp2
    go_ret3
    exact ⟨_, _, _, _, rfl, HQ.out, terms_nilK _, hb1⟩
  rw [hask] at HA
  have HR1 := hid (HR.out hask)
  have HAS := hid hask
  clear hask HR
  go_enter Tryz.func89, Tryz.ntmps89
  go_wp2_with fail
  refine HA.out.mono ?_
  rintro e w1 ⟨rfl, hb1⟩
  have HB1 := hid hb1
  have K1 := hid (HR1.out w1 hb1)
  clear hb1
  go_wp2_with fail
  refine K1.out.mono ?_
  rintro e w2 ⟨u, l, er, hr, rfl, hT, hb2⟩
  have HB2 := hid (HB1.out.trans (hb2.mono HB1.out.size))
  have HT := hid hT
  have HRR := hid hr
  obtain ⟨ua, uc, rfl, -, hul, -⟩ := hT.open
  clear hr hT hb2
  by_cases h0 : er = 0
  · subst h0
    have HQ : Hid (RunQ s g p l (-1) 0) := hid (Or.inr ⟨HAS.out, HRR.out, rfl⟩)
    go_wp2
    go_ret3
    exact ⟨_, _, _, _, rfl, HQ.out, HT.out, HB2.out⟩
  · have n0 : (er != 0) = true := by simpa using h0
    have HQ : Hid (RunQ s g p l l.length er) := hid (Or.inr ⟨HAS.out, HRR.out, by rw [if_neg h0]⟩)
    clear h0
    go_wp2
    go_ret3
    exact ⟨_, _, _, _, rfl, HQ.out, HT.out, HB2.out⟩
set_option maxHeartbeats 2000000 in
theorem ref7_run (vs vg vp : Value) (s : Sg) (g : List (List Int)) (p : List St) (w : World) (hs : SignAt w vs s) (hg : Terms w vg g) (hp : StepsAt w vp p) (hs1 : s.length ≤ 1000) :
    Calls Tryz.prog 62 #[vs, vg, vp] w fun e w' => ∃ u l er, e = .returned (.tuple #[u, .int .i64 er]) ∧ SaidQ s g p l er ∧ Terms w' u l ∧ Below w.heap.size w w' := by
  have HSG := hid ((ref1_ValidSign vs s w hs).mono (fun e w1 ⟨h, n, hn⟩ => (show e = Ending.returned (.bool (signB s)) ∧ Below w.heap.size w w1 from ⟨h, hn ▸ below_self_drewN _ _⟩)))
  have HG := hid (fun (X : World) (hX : Below w.heap.size w X) => ref4_ValidGivens vs vg s g X (hs.below hX) (hg.below hX))
  have HP := hid (fun (h : (0 : Int) ≤ (g.length : Int) ∧ (g.length : Int) ≤ 60) (X : World) (hX : Below w.heap.size w X) => ref4_ValidProof (g.length : Int) vp p X h (hp.below hX))
  have HR := hid (fun (X : World) (hX : Below w.heap.size w X) => ref4_Run vs vg vp s g p X (hs.below hX) (hg.below hX) (hp.below hX))
  obtain ⟨sa, sc, rfl, -⟩ := hs.open
  obtain ⟨ga, gc, rfl, -⟩ := hg.open
  obtain ⟨pa, pc, rfl, -⟩ := hp.open
  clear hs hg hp hs1
  cases e0 : signB s
  · have HF : Hid (SaidQ s g p [] 1) := hid (Or.inl ⟨by unfold askedB givensB; rw [e0]; rfl, rfl, rfl⟩)
    rw [e0] at HSG
    clear e0
    go_enter Tryz.func62, Tryz.ntmps62
    go_wp2_with fail
    refine HSG.out.mono ?_
    rintro e w1 ⟨rfl, hb1⟩
    go_wp2
    go_ret2
    exact ⟨_, _, _, rfl, HF.out, terms_nilK _, hb1⟩
  rw [e0] at HSG
  clear e0
  cases e1 : givensB s g
  · have HF : Hid (SaidQ s g p [] 1) := hid (Or.inl ⟨by unfold askedB; rw [e1]; rfl, rfl, rfl⟩)
    simp only [e1] at HG
    clear e1
    go_enter Tryz.func62, Tryz.ntmps62
    go_wp2_with fail
    refine HSG.out.mono ?_
    rintro e w1 ⟨rfl, hb1⟩
    have HB1 := hid hb1
    have K1 := hid (HG.out w1 hb1)
    clear hb1
    go_wp2_with fail
    refine K1.out.mono ?_
    rintro e w2 ⟨rfl, hb2⟩
    go_wp2
    go_ret2
    exact ⟨_, _, _, rfl, HF.out, terms_nilK _, HB1.out.trans (hb2.mono HB1.out.size)⟩
  have h60 : g.length ≤ 60 := by
    have h := e1
    unfold givensB at h
    rw [Bool.and_eq_true, Bool.and_eq_true, decide_eq_true_eq] at h
    exact h.1.2
  have HP1 := hid (HP.out ⟨by omega, by omega⟩)
  simp only [e1] at HG
  have HAS : Hid (askedB s g p = proofB g.length p) := hid (by unfold askedB; rw [e1]; rfl)
  clear e1 HP
  cases e2 : proofB g.length p
  · have HF : Hid (SaidQ s g p [] 1) := hid (Or.inl ⟨HAS.out.trans e2, rfl, rfl⟩)
    simp only [e2] at HP1
    clear e2
    go_enter Tryz.func62, Tryz.ntmps62
    go_wp2_with fail
    refine HSG.out.mono ?_
    rintro e w1 ⟨rfl, hb1⟩
    have HB1 := hid hb1
    have K1 := hid (HG.out w1 hb1)
    clear hb1
    go_wp2_with fail
    refine K1.out.mono ?_
    rintro e w2 ⟨rfl, hb2⟩
    have HB2 := hid (HB1.out.trans (hb2.mono HB1.out.size))
    have K2 := hid (HP1.out w2 HB2.out)
    clear hb2
    go_wp2_with fail
    refine K2.out.mono ?_
    rintro e w3 ⟨rfl, hb3⟩
    go_wp2
    go_ret2
    exact ⟨_, _, _, rfl, HF.out, terms_nilK _, HB2.out.trans (hb3.mono HB2.out.size)⟩
  simp only [e2] at HP1
  have HASK := hid (HAS.out.trans e2)
  clear e2 HAS
  go_enter Tryz.func62, Tryz.ntmps62
  go_wp2_with fail
  refine HSG.out.mono ?_
  rintro e w1 ⟨rfl, hb1⟩
  have HB1 := hid hb1
  have K1 := hid (HG.out w1 hb1)
  clear hb1
  go_wp2_with fail
  refine K1.out.mono ?_
  rintro e w2 ⟨rfl, hb2⟩
  have HB2 := hid (HB1.out.trans (hb2.mono HB1.out.size))
  have K2 := hid (HP1.out w2 HB2.out)
  clear hb2
  go_wp2_with fail
  refine K2.out.mono ?_
  rintro e w3 ⟨rfl, hb3⟩
  have HB3 := hid (HB2.out.trans (hb3.mono HB2.out.size))
  have K3 := hid (HR.out w3 HB3.out)
  clear hb3
  go_wp2_with fail
  refine K3.out.mono ?_
  rintro e w4 ⟨u, l, n, er, rfl, hq, hT, hb4⟩
  have HB4 := hid (HB3.out.trans (hb4.mono HB3.out.size))
  have HT := hid hT
  obtain ⟨ua, uc, rfl, -⟩ := hT.open
  have HQ : Hid (RunR s g p l er) := hid (by
    rcases hq with ⟨h, -⟩ | ⟨-, h, -⟩
    · rw [HASK.out] at h; cases h
    · exact h)
  clear hq hT hb4
  by_cases h0 : er = 0
  · subst h0
    have HF : Hid (SaidQ s g p l 0) := hid (Or.inr ⟨HASK.out, l, 0, HQ.out, Or.inl ⟨rfl, rfl, rfl⟩⟩)
    go_wp2
    go_ret2
    exact ⟨_, _, _, rfl, HF.out, HT.out, HB4.out⟩
  · have n0 : (er != 0) = true := by simpa using h0
    have HF : Hid (SaidQ s g p [] 11) := hid (Or.inr ⟨HASK.out, l, er, HQ.out, Or.inr ⟨h0, rfl, rfl⟩⟩)
    clear h0
    go_wp2
    go_ret2
    exact ⟨_, _, _, rfl, HF.out, terms_nilK _, HB4.out⟩
set_option maxHeartbeats 1000000 in
theorem short_Good (vs vg vp : Value) (s : Sg) (g : List (List Int)) (p : List St) (w : World) (hs : SignAt w vs s) (hg : Terms w vg g) (hp : StepsAt w vp p) (hs1 : s.length ≤ 1000) :
    Calls Tryz.prog 18 #[vs, vg, vp] w fun e w' => ∃ l er, SaidQ s g p l er ∧ e = .returned (.bool (decide (er = 0))) ∧ Below w.heap.size w w' := by
  have HS := hid (short_said vs vg vp s g p w hs hg hp hs1)
  clear hs hg hp
  go_enter Tryz.func18, Tryz.ntmps18
  go_wp2_with fail
  refine HS.out.mono ?_
  rintro e w1 ⟨u, l, er, rfl, hq, -, hb1⟩
  have HQ := hid hq
  clear hq
  by_cases h0 : er = 0
  · have n0 : (er == 0) = true := by simpa using h0
    have d0 : decide (er = 0) = true := by simpa using h0
    go_wp2
    go_ret
    exact ⟨l, er, HQ.out, ret_bool d0.symm, hb1⟩
  · have n0 : (er == 0) = false := by simpa using h0
    have d0 : decide (er = 0) = false := by simpa using h0
    go_wp2
    go_ret
    exact ⟨l, er, HQ.out, ret_bool d0.symm, hb1⟩
set_option maxHeartbeats 1000000 in
theorem ref7_Good (vs vg vp : Value) (s : Sg) (g : List (List Int)) (p : List St) (w : World) (hs : SignAt w vs s) (hg : Terms w vg g) (hp : StepsAt w vp p) (hs1 : s.length ≤ 1000) :
    Calls Tryz.prog 19 #[vs, vg, vp] w fun e w' => ∃ l er, SaidQ s g p l er ∧ e = .returned (.bool (decide (er = 0))) ∧ Below w.heap.size w w' := by
  have HS := hid (ref7_run vs vg vp s g p w hs hg hp hs1)
  clear hs hg hp
  go_enter Tryz.func19, Tryz.ntmps19
  go_wp2_with fail
  refine HS.out.mono ?_
  rintro e w1 ⟨u, l, er, rfl, hq, -, hb1⟩
  have HQ := hid hq
  clear hq
  by_cases h0 : er = 0
  · have n0 : (er == 0) = true := by simpa using h0
    have d0 : decide (er = 0) = true := by simpa using h0
    go_wp2
    go_ret
    exact ⟨l, er, HQ.out, ret_bool d0.symm, hb1⟩
  · have n0 : (er == 0) = false := by simpa using h0
    have d0 : decide (er = 0) = false := by simpa using h0
    go_wp2
    go_ret
    exact ⟨l, er, HQ.out, ret_bool d0.symm, hb1⟩
set_option maxHeartbeats 1000000 in
theorem ref7_valid (g : Int) (v : Value) (p : List St) (w : World) (hp : StepsAt w v p) :
    Calls Tryz.prog 58 #[.int .i64 g, v] w fun e w' => e = .returned (.bool (vldB g p)) ∧ Below w.heap.size w w' := by
  have HV := hid (fun (h : 0 ≤ g ∧ g ≤ 60) => ref4_ValidProof g v p w h hp)
  obtain ⟨a, cap, rfl, -⟩ := hp.open
  clear hp
  by_cases h1 : 0 ≤ g
  case neg =>
    have HF : Hid (vldB g p = false) := hid (by unfold vldB; rw [inB_false.2 (Or.inl (by omega))]; rfl)
    clear HV
    go_enter Tryz.func58, Tryz.ntmps58
    go_wp2
    go_ret
    exact ⟨ret_bool HF.out.symm, Below.refl _ _⟩
  by_cases h2 : g ≤ 60
  case neg =>
    have HF : Hid (vldB g p = false) := hid (by unfold vldB; rw [inB_false.2 (Or.inr (by omega))]; rfl)
    clear HV
    go_enter Tryz.func58, Tryz.ntmps58
    go_wp2
    go_ret
    exact ⟨ret_bool HF.out.symm, Below.refl _ _⟩
  have HK := hid (HV.out ⟨by omega, by omega⟩)
  have HF : Hid (vldB g p = proofB g p) := hid (by unfold vldB; rw [inB_true.2 ⟨by omega, by omega⟩]; rfl)
  clear HV
  go_enter Tryz.func58, Tryz.ntmps58
  go_wp2_with fail
  refine HK.out.mono ?_
  rintro e w1 ⟨rfl, hb1⟩
  go_wp2
  go_ret
  exact ⟨ret_bool HF.out.symm, hb1⟩
end Go.Proofs.YtmpjaakkjhmpmaaGreatDoor
