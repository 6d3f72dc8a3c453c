/-
  WHAT IT HOLDS: contract of needed of package short: which steps are needed. Conditions: the steps read as data; the proof is valid.
  WHAT IT HOLDS: contract of times of package short: how often each step comes in the tree of the last one. Conditions: the steps read as data; the proof is valid.
  WHAT IT HOLDS: plain words on givens that no step of a proof cites: which are cited, the proof without the others, and that it comes back when it is moved. No program in sight.
  WHAT IT HOLDS: contract of split of package short: the givens that steps cite, and the others. Conditions: the steps read as data; the proof is valid.
  WHAT IT HOLDS: plain words on steps that are changed in place, one by one, and on where a number stands in a list. No program in sight.
-/
import Derived.BigQuiet
import Derived.Test.YtmpjaakkjhmpmaaGreatDoorZRShortDrops34
import Derived.Test.YtmpjaakkjhmpmaaGreatDoorZRShortDrops2
import Derived.Test.YtmpjaakkjhmpmaaGreatDoorZRShortDrops0
import Derived.Test.YtmpjaakkjhmpmaaGreatDoorZRShortDrops14
namespace Go.Proofs.YtmpjaakkjhmpmaaGreatDoor
open Go Go.RowKit Go.Maps
theorem bools_at {b : List Bool} {i : Nat} (h : i < b.length) : (b.map Value.bool)[i]? = some (.bool (stB b i)) := by
  rw [List.getElem?_map, List.getElem?_eq_getElem h]
  unfold stB
  rw [List.getD_eq_getElem?_getD, List.getElem?_eq_getElem h]; rfl
/-- the step of a valid proof, its numbers as natural ones. -/
theorem st_at {g : Int} {p : List St} (h : proofB g p = true) {i : Nat} (hi : i < p.length) : p.getD i st0 = p[i] ∧ ((p[i].1 = 1 ∧ 0 ≤ p[i].2.1 ∧ p[i].2.1 < g) ∨ (p[i].1 = 2 ∧ p[i].2.1 = (nA p[i] : Int) ∧ p[i].2.2 = (nB p[i] : Int) ∧ nA p[i] < i ∧ nB p[i] < i)) := by
  have e : p.getD i st0 = p[i] := by rw [List.getD_eq_getElem?_getD, List.getElem?_eq_getElem hi]; rfl
  refine ⟨e, ?_⟩
  rcases right_step (proofB_at h hi) with ⟨c1, c2, c3⟩ | ⟨c1, c2, c3, c4, c5⟩
  · exact Or.inl ⟨c1, c2, c3⟩
  · exact Or.inr ⟨c1, by unfold nA; omega, by unfold nB; omega, by unfold nA; omega, by unfold nB; omega⟩
def NedQ (p : List St) (w : World) (e : Ending) (w' : World) : Prop := ∃ q, e = .returned (.slice (some ⟨q, 0, none⟩) p.length p.length) ∧ w.heap.size ≤ q ∧ w'.ownsRow w.heap.size 4 1 (.slice (some ⟨q, 0, none⟩) p.length p.length) p.length ((needL p).map Value.bool) ∧ Below w.heap.size w w'
set_option maxHeartbeats 4000000 in
set_option maxRecDepth 100000 in
theorem short_needed (g : Int) (v : Value) (p : List St) (w : World) (hp : StepsAt w v p) (hg : proofB g p = true) :
    Calls Tryz.prog 65 #[v] w fun e w' => NedQ p w e w' := by
  have h60 := proof60 hg
  have h1 := proof1 hg
  have HSA := hid (fun (i : Nat) (hi : i < p.length) => st_at hg hi)
  have HND := hid (show needL p = needF p p.length (need0 p) from rfl)
  have HN0 := hid (show need0 p = (List.replicate p.length false).set (p.length - 1) true from rfl)
  obtain ⟨pa, pc, rfl, hc, hl, -, HC⟩ := hp.open
  have HC' := hid HC
  unfold NedQ
  obtain ⟨nd, hnd⟩ : ∃ nd, needL p = nd := ⟨_, rfl⟩
  rw [hnd] at HND ⊢
  obtain ⟨n0, hn0⟩ : ∃ n0, need0 p = n0 := ⟨_, rfl⟩
  rw [hn0] at HND HN0
  obtain ⟨m, hm⟩ : ∃ m, p.length = m + 1 := ⟨p.length - 1, by omega⟩
  have HM := hid hm
  simp only [hm, Nat.add_sub_cancel] at HND HN0 hc hl h60 ⊢
  clear hnd hn0 hm hg hp HC h1
  have hw0 : IntKind.i64.wrap (((m + 1 : Nat) : Int) - 1) = m := by rw [IntWalk.i64_in _ (by omega)]; omega
  have q0 : (((m + 1 : Nat) : Int) - 1) = m := by omega
  go_enter Tryz.func65, Tryz.ntmps65
  go_wp2_with (at_make; refine wpList_make_row rfl _ _ 82 rfl w.heap.size 4 el_bool Tryz.underlying82 rfl (m + 1) rfl rfl (by omega) (by omega) (by simp) ?_; intro q w1 hq0 hq1 hown1 hgrow1; have hc1 := hown1.cellAt m (by omega); have hf1 := hown1.frozenAt m)
  have hb1 : Below w.heap.size w w1 := (Below.refl _ _).grown hgrow1 (by simp) (fun _ h => by cases h)
  have hst1 := (hown1.stored m (.bool true)).1
  have hbs1 : Below w.heap.size w (w1.setCell ⟨q, m, none⟩ (.bool true)) := hb1.setCell (p := ⟨q, m, none⟩) hq0 _
  rw [← List.map_replicate, ← List.map_set, ← HN0.out] at hst1
  have hlen0 : n0.length = m + 1 := by rw [HN0.out]; simp
  have HST := hid hst1
  have HBS := hid hbs1
  obtain ⟨W, hW⟩ : ∃ W, w1.setCell ⟨q, m, none⟩ (.bool true) = W := ⟨_, rfl⟩
  have HW := hid hW
  rw [hW] at HST HBS
  clear hown1 hgrow1 hst1 hbs1 hb1 hc1 hf1 hw0 q0
  (try rw [HW.out])
  clear hW HW
  go_loopw [4] (fun kv wr => ∃ (k : Int) (b : List Bool), -1 ≤ k ∧ k ≤ m ∧ kv = .int .i64 k ∧ b.length = m + 1 ∧ needF p (k + 1).toNat b = nd ∧ wr.ownsRow w.heap.size 4 1 (.slice (some ⟨q, 0, none⟩) (m + 1) (m + 1)) (m + 1) (b.map Value.bool) ∧ Below w.heap.size w wr) (fun kv _ => (intOf kv + 1).toNat)
  case atStart => exact ⟨m, n0, by omega, by omega, rfl, hlen0, by rw [HND.out]; congr 1, HST.out, HBS.out⟩
  case round =>
    clear HST HBS hlen0 HN0 HND
    obtain ⟨k, b, hk0, hk1, rfl, hbl, hnf, hown, hb⟩ := hrel
    by_cases hlt : 0 ≤ k
    case neg =>
      obtain rfl : k = -1 := by omega
      have e : b = nd := hnf
      subst e
      have HOWN := hid hown
      have HB := hid hb
      clear hown hb hnf
      go_wp2
      go_ret
      exact ⟨q, rfl, hq0, HOWN.out, HB.out⟩
    obtain ⟨i, rfl⟩ : ∃ i : Nat, k = i := ⟨k.toNat, by omega⟩
    have him : i < m + 1 := by omega
    have hip : i < p.length := by have := HM.out; omega
    obtain ⟨eg, hx⟩ := HSA.out i hip
    have hnf' : needF p i (mkN p[i] i b) = nd := by rw [← hnf, ← eg]; rfl
    obtain ⟨xb, xo, rfl, y0, y1, y2⟩ := HC'.out i hip
    have x0 := (hb.cell (World.block_lt_of_cell? _ _ y0)).trans y0
    have x1 := (hb.cell (World.block_lt_of_cell? _ _ y1)).trans y1
    have x2 := (hb.cell (World.block_lt_of_cell? _ _ y2)).trans y2
    obtain ⟨x, hxx⟩ : ∃ x, p[i] = x := ⟨_, rfl⟩
    rw [hxx] at x0 x1 x2 hx hnf'
    have hc1 := hown.cellAt i (by omega)
    rw [bools_at (by omega)] at hc1
    have HNF := hid hnf'
    have HOWN := hid hown
    have HB := hid hb
    have HBLN := hid hbl
    have q1 : IntKind.i64.wrap ((i : Int) - 1) = (i : Int) - 1 := IntWalk.i64_in _ (by omega)
    clear hnf hnf' hown hb hxx eg y0 y1 y2
    have skip : mkN x i b = b → ∃ (k : Int) (b : List Bool), -1 ≤ k ∧ k ≤ (m : Int) ∧ Value.int .i64 ((i : Int) - 1) = .int .i64 k ∧ b.length = m + 1 ∧ needF p (k + 1).toNat b = nd ∧ wr.ownsRow w.heap.size 4 1 (.slice (some ⟨q, 0, none⟩) (m + 1) (m + 1)) (m + 1) (b.map Value.bool) ∧ Below w.heap.size w wr := fun h =>
      ⟨(i : Int) - 1, b, by omega, by omega, rfl, HBLN.out, by rw [show ((i : Int) - 1 + 1).toNat = i by omega, ← HNF.out, h], HOWN.out, HB.out⟩
    have HSK := hid skip
    clear skip
    cases hs : stB b i
    · have HE : Hid (mkN x i b = b) := hid (by unfold mkN; rw [if_neg (fun h => by have h1 : stB b i = true := h.1; rw [hs] at h1; cases h1)])
      rw [hs] at hc1
      clear hx hs
      go_wp2
      go_roundw
      case rel => exact HSK.out HE.out
      case measure => simp [intOf]
    rw [hs] at hc1
    rcases hx with ⟨hx1, -, -⟩ | ⟨hx1, ha, hbb, ha', hb'⟩
    · have HE : Hid (mkN x i b = b) := hid (by unfold mkN; rw [if_neg (fun h => by omega)])
      rw [hx1] at x0
      clear hs hx1
      go_wp2
      go_roundw
      case rel => exact HSK.out HE.out
      case measure => simp [intOf]
    have HE : Hid (mkN x i b = (b.set (nA x) true).set (nB x) true) := hid (by unfold mkN; rw [if_pos ⟨hs, hx1⟩])
    rw [hx1] at x0
    rw [ha] at x1
    rw [hbb] at x2
    obtain ⟨A, hA⟩ : ∃ A, nA x = A := ⟨_, rfl⟩
    obtain ⟨B, hBq⟩ : ∃ B, nB x = B := ⟨_, rfl⟩
    rw [hA] at x1 ha' HE
    rw [hBq] at x2 hb' HE
    clear hA hBq ha hbb hx1 hs
    have hcA := HOWN.out.cellAt A (by omega)
    rw [bools_at (by omega)] at hcA
    have hfA := HOWN.out.frozenAt A
    have hst := (HOWN.out.stored A (.bool true)).1
    have hcB := hst.cellAt B (by omega)
    rw [← List.map_set, bools_at (by rw [List.length_set]; omega)] at hcB
    have hfB := hst.frozenAt B
    have hst2 := (hst.stored B (.bool true)).1
    rw [← List.map_set, ← List.map_set] at hst2
    have HST2 := hid hst2
    have HBS2 := hid (show Below w.heap.size w ((wr.setCell ⟨q, A, none⟩ (.bool true)).setCell ⟨q, B, none⟩ (.bool true)) from (HB.out.setCell (p := ⟨q, A, none⟩) hq0 _).setCell (p := ⟨q, B, none⟩) hq0 _)
    clear hst hst2
    go_wp2
    go_region
    go_wp2
    go_roundw
    case rel =>
      refine ⟨(i : Int) - 1, (b.set A true).set B true, by omega, by omega, rfl, by rw [List.length_set, List.length_set]; exact HBLN.out, by rw [show ((i : Int) - 1 + 1).toNat = i by omega, ← HNF.out, HE.out], ?_, ?_⟩
      · first | exact HST2.out | exact owns_below HST2.out (below_self_drewN _ _)
      · first | exact HBS2.out | exact below_drewN HBS2.out _
    case measure => simp [intOf]
end Go.Proofs.YtmpjaakkjhmpmaaGreatDoor
namespace Go.Proofs.YtmpjaakkjhmpmaaGreatDoor
open Go Go.RowKit Go.Maps
def tmA (b : List Int) (i : Nat) : Int := b.getD i 0
/-- what one step does to the numbers: sums as the machine makes them. -/
def mkT (x : St) (i : Nat) (b : List Int) : List Int := if x.1 = 2 then (b.set (nA x) (IntKind.i64.wrap (tmA b (nA x) + tmA b i))).set (nB x) (IntKind.i64.wrap (tmA (b.set (nA x) (IntKind.i64.wrap (tmA b (nA x) + tmA b i))) (nB x) + tmA (b.set (nA x) (IntKind.i64.wrap (tmA b (nA x) + tmA b i))) i)) else b
def tmF (p : List St) : Nat → List Int → List Int
  | 0, b => b
  | i + 1, b => tmF p i (mkT (p.getD i st0) i b)
def tm0 (p : List St) : List Int := (List.replicate p.length 0).set (p.length - 1) 1
def timL (p : List St) : List Int := tmF p p.length (tm0 p)
theorem tms_at {b : List Int} {i : Nat} (h : i < b.length) : (b.map (Value.int .i64))[i]? = some (.int .i64 (tmA b i)) := by
  rw [List.getElem?_map, List.getElem?_eq_getElem h]
  unfold tmA
  rw [List.getD_eq_getElem?_getD, List.getElem?_eq_getElem h]; rfl
def TmsQ (p : List St) (w : World) (e : Ending) (w' : World) : Prop := ∃ q, e = .returned (.slice (some ⟨q, 0, none⟩) p.length p.length) ∧ w.heap.size ≤ q ∧ w'.ownsRow w.heap.size 3 1 (.slice (some ⟨q, 0, none⟩) p.length p.length) p.length ((timL p).map (Value.int .i64)) ∧ Below w.heap.size w w'
set_option maxHeartbeats 4000000 in
set_option maxRecDepth 100000 in
theorem short_times (g : Int) (v : Value) (p : List St) (w : World) (hp : StepsAt w v p) (hg : proofB g p = true) :
    Calls Tryz.prog 79 #[v] w fun e w' => TmsQ p w e w' := by
  have h60 := proof60 hg
  have h1 := proof1 hg
  have HSA := hid (fun (i : Nat) (hi : i < p.length) => st_at hg hi)
  have HND := hid (show timL p = tmF p p.length (tm0 p) from rfl)
  have HN0 := hid (show tm0 p = (List.replicate p.length 0).set (p.length - 1) 1 from rfl)
  obtain ⟨pa, pc, rfl, hc, hl, -, HC⟩ := hp.open
  have HC' := hid HC
  unfold TmsQ
  obtain ⟨nd, hnd⟩ : ∃ nd, timL p = nd := ⟨_, rfl⟩
  rw [hnd] at HND ⊢
  obtain ⟨n0, hn0⟩ : ∃ n0, tm0 p = n0 := ⟨_, rfl⟩
  rw [hn0] at HND HN0
  obtain ⟨m, hm⟩ : ∃ m, p.length = m + 1 := ⟨p.length - 1, by omega⟩
  have HM := hid hm
  simp only [hm, Nat.add_sub_cancel] at HND HN0 hc hl h60 ⊢
  clear hnd hn0 hm hg hp HC h1
  have hw0 : IntKind.i64.wrap (((m + 1 : Nat) : Int) - 1) = m := by rw [IntWalk.i64_in _ (by omega)]; omega
  have q0 : (((m + 1 : Nat) : Int) - 1) = m := by omega
  go_enter Tryz.func79, Tryz.ntmps79
  go_wp2_with (at_make; refine wpList_make_row rfl _ _ 33 rfl w.heap.size 3 el_int Tryz.underlying33 rfl (m + 1) rfl rfl (by omega) (by omega) (by simp) ?_; intro q w1 hq0 hq1 hown1 hgrow1; have hc1 := hown1.cellAt m (by omega); have hf1 := hown1.frozenAt m)
  have hb1 : Below w.heap.size w w1 := (Below.refl _ _).grown hgrow1 (by simp) (fun _ h => by cases h)
  have hst1 := (hown1.stored m (.int .i64 1)).1
  have hbs1 : Below w.heap.size w (w1.setCell ⟨q, m, none⟩ (.int .i64 1)) := hb1.setCell (p := ⟨q, m, none⟩) hq0 _
  rw [← List.map_replicate, ← List.map_set, ← HN0.out] at hst1
  have hlen0 : n0.length = m + 1 := by rw [HN0.out]; simp
  have HST := hid hst1
  have HBS := hid hbs1
  obtain ⟨W, hW⟩ : ∃ W, w1.setCell ⟨q, m, none⟩ (.int .i64 1) = W := ⟨_, rfl⟩
  have HW := hid hW
  rw [hW] at HST HBS
  clear hown1 hgrow1 hst1 hbs1 hb1 hc1 hf1 hw0 q0
  (try rw [HW.out])
  clear hW HW
  go_loopw [4] (fun kv wr => ∃ (k : Int) (b : List Int), -1 ≤ k ∧ k ≤ m ∧ kv = .int .i64 k ∧ b.length = m + 1 ∧ tmF p (k + 1).toNat b = nd ∧ wr.ownsRow w.heap.size 3 1 (.slice (some ⟨q, 0, none⟩) (m + 1) (m + 1)) (m + 1) (b.map (Value.int .i64)) ∧ Below w.heap.size w wr) (fun kv _ => (intOf kv + 1).toNat)
  case atStart => exact ⟨m, n0, by omega, by omega, rfl, hlen0, by rw [HND.out]; congr 1, HST.out, HBS.out⟩
  case round =>
    clear HST HBS hlen0 HN0 HND
    obtain ⟨k, b, hk0, hk1, rfl, hbl, hnf, hown, hb⟩ := hrel
    by_cases hlt : 0 ≤ k
    case neg =>
      obtain rfl : k = -1 := by omega
      have e : b = nd := hnf
      subst e
      have HOWN := hid hown
      have HB := hid hb
      clear hown hb hnf
      go_wp2
      go_ret
      exact ⟨q, rfl, hq0, HOWN.out, HB.out⟩
    obtain ⟨i, rfl⟩ : ∃ i : Nat, k = i := ⟨k.toNat, by omega⟩
    have him : i < m + 1 := by omega
    have hip : i < p.length := by have := HM.out; omega
    obtain ⟨eg, hx⟩ := HSA.out i hip
    have hnf' : tmF p i (mkT p[i] i b) = nd := by rw [← hnf, ← eg]; rfl
    obtain ⟨xb, xo, rfl, y0, y1, y2⟩ := HC'.out i hip
    have x0 := (hb.cell (World.block_lt_of_cell? _ _ y0)).trans y0
    have x1 := (hb.cell (World.block_lt_of_cell? _ _ y1)).trans y1
    have x2 := (hb.cell (World.block_lt_of_cell? _ _ y2)).trans y2
    obtain ⟨x, hxx⟩ : ∃ x, p[i] = x := ⟨_, rfl⟩
    rw [hxx] at x0 x1 x2 hx hnf'
    have hc1 := hown.cellAt i (by omega)
    rw [tms_at (by omega)] at hc1
    have HNF := hid hnf'
    have HOWN := hid hown
    have HB := hid hb
    have HBLN := hid hbl
    have q1 : IntKind.i64.wrap ((i : Int) - 1) = (i : Int) - 1 := IntWalk.i64_in _ (by omega)
    have hxq := World.block_lt_of_cell? _ _ y0
    clear hnf hnf' hown hb hxx eg y0 y1 y2
    have skip : mkT x i b = b → ∃ (k : Int) (b : List Int), -1 ≤ k ∧ k ≤ (m : Int) ∧ Value.int .i64 ((i : Int) - 1) = .int .i64 k ∧ b.length = m + 1 ∧ tmF p (k + 1).toNat b = nd ∧ wr.ownsRow w.heap.size 3 1 (.slice (some ⟨q, 0, none⟩) (m + 1) (m + 1)) (m + 1) (b.map (Value.int .i64)) ∧ Below w.heap.size w wr := fun h =>
      ⟨(i : Int) - 1, b, by omega, by omega, rfl, HBLN.out, by rw [show ((i : Int) - 1 + 1).toNat = i by omega, ← HNF.out, h], HOWN.out, HB.out⟩
    have HSK := hid skip
    clear skip
    rcases hx with ⟨hx1, -, -⟩ | ⟨hx1, ha, hbb, ha', hb'⟩
    · have HE : Hid (mkT x i b = b) := hid (by unfold mkT; rw [if_neg (fun h => by omega)])
      rw [hx1] at x0
      clear hx1
      go_wp2
      go_roundw
      case rel => exact HSK.out HE.out
      case measure => simp [intOf]
    rw [hx1] at x0
    rw [ha] at x1
    rw [hbb] at x2
    obtain ⟨A, hA⟩ : ∃ A, nA x = A := ⟨_, rfl⟩
    obtain ⟨B, hBq⟩ : ∃ B, nB x = B := ⟨_, rfl⟩
    rw [hA] at x1 ha'
    rw [hBq] at x2 hb'
    obtain ⟨z1, hz1⟩ : ∃ z, IntKind.i64.wrap (tmA b A + tmA b i) = z := ⟨_, rfl⟩
    obtain ⟨b1, hb1⟩ : ∃ b1, b.set A z1 = b1 := ⟨_, rfl⟩
    obtain ⟨z2, hz2⟩ : ∃ z, IntKind.i64.wrap (tmA b1 B + tmA b1 i) = z := ⟨_, rfl⟩
    obtain ⟨b2, hb2⟩ : ∃ b2, b1.set B z2 = b2 := ⟨_, rfl⟩
    have HE : Hid (mkT x i b = b2) := hid (by unfold mkT; rw [if_pos hx1, hA, hBq, hz1, hb1, hz2, hb2])
    have hl1 : b1.length = m + 1 := by rw [← hb1, List.length_set]; exact HBLN.out
    have hl2 : b2.length = m + 1 := by rw [← hb2, List.length_set]; exact hl1
    have hcA := HOWN.out.cellAt A (by omega)
    rw [tms_at (by omega)] at hcA
    have hfA := HOWN.out.frozenAt A
    have hst := (HOWN.out.stored A (.int .i64 (z1))).1
    rw [← List.map_set, hb1] at hst
    have hci2 := hst.cellAt i (by omega)
    rw [tms_at (by omega)] at hci2
    have hcB := hst.cellAt B (by omega)
    rw [tms_at (by omega)] at hcB
    have hfB := hst.frozenAt B
    have hst2 := (hst.stored B (.int .i64 (z2))).1
    rw [← List.map_set, hb2] at hst2
    have HL2 := hid hl2
    have HST2 := hid hst2
    have HBS2 := hid (show Below w.heap.size w ((wr.setCell ⟨q, A, none⟩ (.int .i64 (z1))).setCell ⟨q, B, none⟩ (.int .i64 (z2))) from (HB.out.setCell (p := ⟨q, A, none⟩) hq0 _).setCell (p := ⟨q, B, none⟩) hq0 _)
    have oth : ∀ (c : Nat) (a : Addr) (v : Value), wr.cell? ⟨xb, c, none⟩ = some v → a.block = q → xb ≠ q → ∀ u, (wr.setCell a u).cell? ⟨xb, c, none⟩ = some v := fun c a v h h1 h2 u => (World.cell?_of_block (Below.heap_setCell _ _ _ _ (fun e => h2 (by rw [← h1]; exact e)))).trans h
    clear hst hst2 hA hBq ha hbb hx1 hb1 hb2 hl1 hl2
    go_wp2
    go_region
    obtain ⟨W5, hW5⟩ : ∃ W5, (wr.setCell ⟨q, A, none⟩ (.int .i64 (z1))).drew = W5 := ⟨_, rfl⟩
    have hne : xb ≠ q := by have h : xb < w.heap.size := hxq; omega
    have j2 : W5.cell? ⟨xb, xo + i * 3 + 2, none⟩ = some (.int .i64 (B : Int)) := hW5 ▸ oth _ ⟨q, A, none⟩ _ x2 rfl hne _
    have ji : W5.cell? ⟨q, i, none⟩ = some (.int .i64 (tmA b1 i)) := hW5 ▸ hci2
    have jB : W5.cell? ⟨q, B, none⟩ = some (.int .i64 (tmA b1 B)) := hW5 ▸ hcB
    have jf : W5.frozen? ⟨q, B, none⟩ = false := hW5 ▸ hfB
    rw [hW5]
    have HW5 := hid hW5
    clear hW5 hci2 hcB hfB hcA hfA x0 x1 x2 oth hc1
    go_wp2
    go_region
    go_wp2
    go_roundw
    case rel =>
      refine ⟨(i : Int) - 1, b2, by omega, by omega, rfl, HL2.out, by rw [show ((i : Int) - 1 + 1).toNat = i by omega, ← HNF.out, HE.out], ?_, ?_⟩
      · rw [← HW5.out]; exact owns_below HST2.out (below_self_drewN _ 2)
      · rw [← HW5.out]; exact below_drewN HBS2.out 2
    case measure => simp [intOf]
end Go.Proofs.YtmpjaakkjhmpmaaGreatDoor
namespace Go.Proofs.YtmpjaakkjhmpmaaGreatDoor
open Go Go.RowKit
/-- whether a step cites a given. -/
def citS (i : Nat) (x : St) : Bool := decide (x.1 = 1) && decide (x.2.1 = (i : Int))
def citB (p : List St) (i : Nat) : Bool := p.any (citS i)
/-- the givens that steps cite, and the others. -/
def usedG (g : Nat) (p : List St) : List Nat := (List.range g).filter fun i => citB p i
def unusedG (g : Nat) (p : List St) : List Nat := (List.range g).filter fun i => !citB p i
theorem used_unused (g : Nat) (p : List St) : (usedG g p).length + (unusedG g p).length = g := by
  unfold usedG unusedG
  have h : ∀ (l : List Nat) (f : Nat → Bool), (l.filter f).length + (l.filter fun i => !f i).length = l.length := by
    intro l f
    induction l with
    | nil => rfl
    | cons a l ih => cases h : f a <;> simp [h] <;> omega
  rw [h, List.length_range]
theorem usedG_mem {g : Nat} {p : List St} {i : Nat} : i ∈ usedG g p ↔ i < g ∧ citB p i = true := by
  unfold usedG
  rw [List.mem_filter, List.mem_range]
/-- where a number stands in a list first. -/
def ixN (l : List Nat) (x : Nat) : Nat := l.findIdx fun y => decide (y = x)
theorem ixN_at {l : List Nat} {x : Nat} (h : x ∈ l) : ixN l x < l.length ∧ l.getD (ixN l x) 0 = x := by
  have hlt : ixN l x < l.length := List.findIdx_lt_length_of_exists ⟨x, h, by simp⟩
  refine ⟨hlt, ?_⟩
  have := List.findIdx_getElem (w := hlt)
  rw [List.getD_eq_getElem?_getD, List.getElem?_eq_getElem hlt]
  exact of_decide_eq_true this
/-- a step without the givens that go. -/
def drpS (u : List Nat) (x : St) : St := if x.1 = 1 then (1, (ixN u (nA x) : Int), x.2.2) else x
def drpP (g : Nat) (p : List St) : List St := p.map (drpS (usedG g p))
def movS7 (t : List Nat) (x : St) : St := if x.1 = 1 then (1, (t.getD (nA x) 0 : Int), x.2.2) else x
theorem cit_in {g : Nat} {p : List St} (hp : proofB g p = true) {k : Nat} (hk : k < p.length) (h1 : p[k].1 = 1) : nA p[k] ∈ usedG g p ∧ p[k].2.1 = (nA p[k] : Int) := by
  obtain ⟨-, h | h⟩ := st_at hp hk
  · have e : p[k].2.1 = (nA p[k] : Int) := by unfold nA; omega
    refine ⟨usedG_mem.2 ⟨by omega, ?_⟩, e⟩
    unfold citB
    rw [List.any_eq_true]
    refine ⟨p[k], List.getElem_mem hk, ?_⟩
    unfold citS
    rw [decide_eq_true h1, decide_eq_true e]; rfl
  · omega
theorem drp_one {g : Nat} {p : List St} (hp : proofB g p = true) {k : Nat} (hk : k < p.length) : movS7 (usedG g p) (drpS (usedG g p) p[k]) = p[k] := by
  unfold drpS
  by_cases h1 : p[k].1 = 1
  · obtain ⟨hm, e⟩ := cit_in hp hk h1
    rw [if_pos h1]
    unfold movS7
    rw [if_pos rfl]
    have h2 : nA (1, (ixN (usedG g p) (nA p[k]) : Int), p[k].2.2) = ixN (usedG g p) (nA p[k]) := by unfold nA; simp
    rw [h2, (ixN_at hm).2, ← e]
    generalize p[k] = x at h1
    obtain ⟨a, b, c⟩ := x
    simp only at h1 ⊢
    rw [h1]
  · rw [if_neg h1]
    unfold movS7
    rw [if_neg h1]
theorem drp_back {g : Nat} {p : List St} (hp : proofB g p = true) : (drpP g p).map (movS7 (usedG g p)) = p := by
  unfold drpP
  rw [List.map_map]
  apply List.ext_getElem (by simp)
  intro k hk hk2
  rw [List.getElem_map, Function.comp]
  exact drp_one hp hk2
theorem drp_at {g : Nat} {p : List St} {k : Nat} (hk : k < p.length) (hk' : k < (drpP g p).length) : (drpP g p)[k] = drpS (usedG g p) p[k] := by
  simp [drpP]
theorem drp_valid {g : Nat} {p : List St} (hp : proofB g p = true) : proofB (usedG g p).length (drpP g p) = true := by
  have h60 := proof60 hp
  have h1 := proof1 hp
  have hl : (drpP g p).length = p.length := by unfold drpP; simp
  rw [proofB_all (fun k hk => ?_)]
  · rw [hl]; exact inB_true.2 (by omega)
  have hk' : k < p.length := by omega
  have hr := proofB_at hp hk'
  rw [drp_at hk' hk]
  unfold drpS
  by_cases h1 : p[k].1 = 1
  · obtain ⟨hm, e⟩ := cit_in hp hk' h1
    rw [if_pos h1]
    have hlt := (ixN_at hm).1
    unfold rightB at hr ⊢
    rw [if_pos h1] at hr
    rw [if_pos rfl]
    rw [Bool.and_eq_true] at hr ⊢
    exact ⟨inB_true.2 (by simp only; omega), hr.2⟩
  · rw [if_neg h1]
    unfold rightB at hr ⊢
    rw [if_neg h1] at hr ⊢
    exact hr
theorem usedG_lt {g : Nat} {p : List St} : ∀ n ∈ usedG g p, n < g := fun n h => (usedG_mem.1 h).1
theorem usedG_len {g : Nat} {p : List St} : (usedG g p).length ≤ g := by have := used_unused g p; omega
end Go.Proofs.YtmpjaakkjhmpmaaGreatDoor
namespace Go.Proofs.YtmpjaakkjhmpmaaGreatDoor
open Go Go.RowKit Go.Maps
def natO (l : List Nat) : List Int := l.map fun n : Nat => (n : Int)
theorem natO_snoc (l : List Nat) (x : Nat) : natO (l ++ [x]) = natO l ++ [(x : Int)] := by unfold natO; simp
theorem natO_len (l : List Nat) : (natO l).length = l.length := by unfold natO; simp
def citL (g : Nat) (p : List St) : List Bool := (List.range g).map (citB p)
theorem citL_len (g : Nat) (p : List St) : (citL g p).length = g := by unfold citL; simp
theorem citL_at {g : Nat} {p : List St} {i : Nat} (h : i < g) : ((citL g p).map Value.bool)[i]? = some (.bool (citB p i)) := by
  unfold citL
  simp [h]
theorem citB_snoc (p : List St) (x : St) (i : Nat) : citB (p ++ [x]) i = (citB p i || citS i x) := by unfold citB; simp
theorem citL_yes {g : Nat} {p : List St} {k : Nat} (hk : k < p.length) (h1 : p[k].1 = 1) {A : Nat} (hA : p[k].2.1 = (A : Int)) : (citL g (p.take k)).set A true = citL g (p.take (k + 1)) := by
  apply List.ext_getElem (by rw [List.length_set, citL_len, citL_len])
  intro i hi hi2
  have e1 : ∀ (m : List St) (h : i < (citL g m).length), (citL g m)[i] = citB m i := fun m h => by simp [citL]
  rw [List.getElem_set, e1 _ hi2, List.take_succ_eq_append_getElem hk, citB_snoc]
  split
  · rename_i e; subst e
    unfold citS
    rw [decide_eq_true h1, decide_eq_true hA]; simp
  · rename_i e
    rw [e1]
    have : citS i p[k] = false := by unfold citS; rw [decide_eq_false (p := p[k].2.1 = (i : Int)) (by omega)]; simp
    rw [this]; simp
theorem citL_no {g : Nat} {p : List St} {k : Nat} (hk : k < p.length) (h1 : p[k].1 ≠ 1) : citL g (p.take (k + 1)) = citL g (p.take k) := by
  unfold citL
  apply List.map_congr_left
  intro i _
  rw [List.take_succ_eq_append_getElem hk, citB_snoc]
  unfold citS
  rw [decide_eq_false h1]; simp
theorem citL_0 (g : Nat) (p : List St) : citL g (p.take 0) = List.replicate g false := by
  unfold citL citB
  simp [List.map_const']
set_option maxHeartbeats 4000000 in
set_option maxRecDepth 100000 in
theorem short_split (g : Nat) (v : Value) (p : List St) (w : World) (hv : StepsAt w v p) (hg : proofB g p = true) (h60 : g ≤ 60) :
    Calls Tryz.prog 67 #[.int .i64 (g : Int), v] w fun e w' => ∃ u1 u2, e = .returned (.tuple #[u1, u2]) ∧ w'.ownsRow w.heap.size 3 1 u1 (unusedG g p).length ((natO (unusedG g p)).map (Value.int .i64)) ∧ w'.ownsRow w.heap.size 3 1 u2 (usedG g p).length ((natO (usedG g p)).map (Value.int .i64)) ∧ Below w.heap.size w w' := by
  have hp60 := proof60 hg
  have HSA := hid (fun (i : Nat) (hi : i < p.length) => (st_at hg hi).2)
  obtain ⟨pa, pc, rfl, hc, hl, -, HC⟩ := hv.open
  have HC' := hid HC
  clear HC hv hg
  go_enter Tryz.func67, Tryz.ntmps67
  go_wp2_with (at_make; refine wpList_make_row rfl _ _ 82 rfl w.heap.size 4 el_bool Tryz.underlying82 rfl g rfl rfl (by omega) (by omega) (by simp) ?_; intro q w1 hq0 hq1 hown1 hgrow1)
  have HB1 := hid ((Below.refl _ _).grown hgrow1 (by simp) (fun _ h => by cases h) : Below w.heap.size w w1)
  have HO1 := hid hown1
  clear hown1 hgrow1
  go_loopw [15] (fun kv wr => ∃ k : Nat, k ≤ p.length ∧ kv = .int .i64 k ∧ wr.ownsRow w.heap.size 4 1 (.slice (some ⟨q, 0, none⟩) g g) g ((citL g (p.take k)).map Value.bool) ∧ Below w.heap.size w wr) (fun kv _ => p.length - (intOf kv).toNat)
  case atStart => exact ⟨0, by omega, rfl, by rw [citL_0]; simpa using HO1.out, HB1.out⟩
  case round =>
    clear HO1 HB1
    obtain ⟨k, hk, rfl, hown, hb⟩ := hrel
    by_cases hlt : k < p.length
    · obtain ⟨xb, xo, rfl, y0, y1, y2⟩ := HC'.out k hlt
      have x0 := (hb.cell (World.block_lt_of_cell? _ _ y0)).trans y0
      have x1 := (hb.cell (World.block_lt_of_cell? _ _ y1)).trans y1
      have x2 := (hb.cell (World.block_lt_of_cell? _ _ y2)).trans y2
      have hx := HSA.out k hlt
      obtain ⟨z, hz⟩ : ∃ z, p[k].2.2 = z := ⟨_, rfl⟩
      rw [hz] at x2
      have HB := hid hb
      have hsz := hb.size
      rcases hx with ⟨h1, h2, h3⟩ | ⟨h1, -⟩
      · obtain ⟨A, hA⟩ : ∃ A : Nat, p[k].2.1 = A := ⟨p[k].2.1.toNat, by omega⟩
        have HY := hid (citL_yes (g := g) hlt h1 hA)
        rw [h1] at x0
        rw [hA] at x1
        have hAg : A < g := by omega
        have hownX := hown.alloc (.cells #[.int .i64 1, .int .i64 (A : Int), .int .i64 z] 57)
        have cA := hownX.cellAt A (by omega)
        rw [citL_at hAg] at cA
        have fA := hownX.frozenAt A
        have hst := (hownX.stored A (.bool true)).1
        rw [← List.map_set, HY.out] at hst
        have HST := hid hst
        have HBX := hid ((hb.alloc hsz (.cells #[.int .i64 1, .int .i64 (A : Int), .int .i64 z] 57)).setCell (p := ⟨q, A, none⟩) hq0 (.bool true))
        clear y0 y1 y2 hown hb hst hownX hA hz h1 h2 h3
        go_wp2
        go_roundw
        case rel => exact ⟨k + 1, by omega, by go_num, HST.out, HBX.out⟩
        case measure => simp [intOf]; omega
      · have HY := hid (citL_no (g := g) hlt (by omega))
        rw [h1] at x0
        obtain ⟨A, hA⟩ : ∃ A, p[k].2.1 = A := ⟨_, rfl⟩
        rw [hA] at x1
        have HOX := hid (hown.alloc (.cells #[.int .i64 2, .int .i64 A, .int .i64 z] 57))
        have HBX := hid (hb.alloc hsz (.cells #[.int .i64 2, .int .i64 A, .int .i64 z] 57))
        clear y0 y1 y2 hown hb hA hz h1
        go_wp2
        go_roundw
        case rel => exact ⟨k + 1, by omega, by go_num, by rw [HY.out]; exact HOX.out, HBX.out⟩
        case measure => simp [intOf]; omega
    · have hkl : k = p.length := by omega
      subst hkl
      rw [List.take_of_length_le (Nat.le_refl _)] at hown
      have HOWN := hid hown
      have HB := hid hb
      clear hown hb
      go_wp2
      go_loopw [4, 5, 29] (fun uu us kv w2 => ∃ k : Nat, k ≤ g ∧ kv = .int .i64 k ∧ w2.ownsRow w.heap.size 4 1 (.slice (some ⟨q, 0, none⟩) g g) g ((citL g p).map Value.bool) ∧ w2.ownsRow w.heap.size 3 1 uu (unusedG k p).length ((natO (unusedG k p)).map (Value.int .i64)) ∧ w2.ownsRow w.heap.size 3 1 us (usedG k p).length ((natO (usedG k p)).map (Value.int .i64)) ∧
        (∀ b, uu.ownBlock = some b → us.ownBlock ≠ some b) ∧ Below w.heap.size w w2) (fun _ _ kv _ => g - (intOf kv).toNat)
      case atStart => exact ⟨0, by omega, rfl, HOWN.out, World.ownsRow_nil _ _ _ _, World.ownsRow_nil _ _ _ _, fun b h => by simp [Value.ownBlock] at h, HB.out⟩
      case round =>
        clear HOWN HB
        obtain ⟨k, hk, rfl, hown, huu, hus, hap, hb⟩ := hrel
        have hsz := hb.size
        by_cases hlt : k < g
        · have hc1 := hown.cellAt k (by omega)
          rw [citL_at hlt] at hc1
          have hU := used_unused k p
          cases hz : citB p k
          · have HS : Hid (unusedG (k + 1) p = unusedG k p ++ [k] ∧ usedG (k + 1) p = usedG k p) := hid (by unfold unusedG usedG; rw [List.range_succ]; simp [hz])
            rw [hz] at hc1
            have hb1 := hb.alloc hsz (.cells #[.int .i64 (k : Int)] 3)
            have HOWN := hid (hown.alloc (.cells #[.int .i64 (k : Int)] 3))
            have HUU := hid (huu.alloc (.cells #[.int .i64 (k : Int)] 3))
            have HUS := hid (hus.alloc (.cells #[.int .i64 (k : Int)] 3))
            have HAP := hid hap
            have HB := hid hb1
            have HNE := hid (fun b h => owns_ne7 (huu) hown (by decide) (b := b) h)
            clear hz hown huu hus hap hb hb1
            go_wp2_with (at_builtin; refine wpList_append_lie rfl _ _ 33 rfl w.heap.size 3 el_int Tryz.underlying33 rfl (by decide) _ _ _ rfl HUU.out _ 1 [.int .i64 (k : Int)] rfl (row_one_new _ _ _) (oneCell_one rfl) (by omega) (by omega) (by omega) (by simp; omega) _ rfl ?_; intro g2 c2 w3 hown3 hgrow3 hat3 hlt3)
            go_roundw
            case rel =>
              refine ⟨k + 1, by omega, by go_num, owns_kept7 HOWN.out HUU.out (by decide) hgrow3, ?_, ?_, ?_, HB.out.grown hgrow3 (by have := HB.out.size; omega) (fun q hq => (HUU.out.lt q hq).1)⟩
              · rw [HS.out.1, List.length_append, natO_snoc, List.map_append]
                exact hown3
              · rw [HS.out.2]
                exact HUS.out.kept hgrow3 (own_ap7 fun b hb hu => HAP.out b hu hb)
              · intro b hb hus'
                simp only [Value.ownBlock, Option.some.injEq] at hb
                subst hb
                rcases hat3 with h | h
                · exact HAP.out _ h hus'
                · have := (HUS.out.lt _ hus').2
                  omega
            case measure => simp [intOf]; omega
          · have HS : Hid (unusedG (k + 1) p = unusedG k p ∧ usedG (k + 1) p = usedG k p ++ [k]) := hid (by unfold unusedG usedG; rw [List.range_succ]; simp [hz])
            rw [hz] at hc1
            have hb1 := hb.alloc hsz (.cells #[.int .i64 (k : Int)] 3)
            have HOWN := hid (hown.alloc (.cells #[.int .i64 (k : Int)] 3))
            have HUU := hid (huu.alloc (.cells #[.int .i64 (k : Int)] 3))
            have HUS := hid (hus.alloc (.cells #[.int .i64 (k : Int)] 3))
            have HAP := hid hap
            have HB := hid hb1
            clear hz hown huu hus hap hb hb1
            go_wp2_with (at_builtin; refine wpList_append_lie rfl _ _ 33 rfl w.heap.size 3 el_int Tryz.underlying33 rfl (by decide) _ _ _ rfl HUS.out _ 1 [.int .i64 (k : Int)] rfl (row_one_new _ _ _) (oneCell_one rfl) (by omega) (by omega) (by omega) (by simp; omega) _ rfl ?_; intro g2 c2 w3 hown3 hgrow3 hat3 hlt3)
            go_roundw
            case rel =>
              refine ⟨k + 1, by omega, by go_num, owns_kept7 HOWN.out HUS.out (by decide) hgrow3, ?_, ?_, ?_, HB.out.grown hgrow3 (by have := HB.out.size; omega) (fun q hq => (HUS.out.lt q hq).1)⟩
              · rw [HS.out.1]
                exact HUU.out.kept hgrow3 (own_ap7 fun b hb hu => HAP.out b hb hu)
              · rw [HS.out.2, List.length_append, natO_snoc, List.map_append]
                exact hown3
              · intro b hb hus'
                simp only [Value.ownBlock, Option.some.injEq] at hus'
                subst hus'
                rcases hat3 with h | h
                · exact HAP.out _ hb h
                · have := (HUU.out.lt _ hb).2
                  omega
            case measure => simp [intOf]; omega
        · have hkl : k = g := by omega
          subst hkl
          have HUU := hid huu
          have HUS := hid hus
          have HB := hid hb
          clear hown huu hus hap hb
          go_wp2
          go_ret2
          exact ⟨_, _, rfl, HUU.out, HUS.out, HB.out⟩
end Go.Proofs.YtmpjaakkjhmpmaaGreatDoor
namespace Go.Proofs.YtmpjaakkjhmpmaaGreatDoor
open Go Go.RowKit
/-- the steps of which the first k are changed. -/
def mpL (f : St → St) (p : List St) (k : Nat) : List St := (p.take k).map f ++ p.drop k
theorem mpL_len (f : St → St) (p : List St) (k : Nat) : (mpL f p k).length = p.length := by
  unfold mpL
  rw [List.length_append, List.length_map, List.length_take, List.length_drop]
  omega
theorem mpL_0 (f : St → St) (p : List St) : mpL f p 0 = p := by simp [mpL]
theorem mpL_all (f : St → St) (p : List St) : mpL f p p.length = p.map f := by simp [mpL]
theorem mpL_get (f : St → St) (p : List St) {k : Nat} (hk : k < p.length) : (mpL f p k)[k]? = some p[k] := by
  unfold mpL
  rw [List.getElem?_append_right (by rw [List.length_map, List.length_take]; omega), List.length_map, List.length_take, Nat.min_eq_left (by omega), Nat.sub_self, List.getElem?_drop, Nat.add_zero, List.getElem?_eq_getElem hk]
theorem mpL_at (f : St → St) (p : List St) {k : Nat} (hk : k < p.length) (h : k < (mpL f p k).length) : (mpL f p k)[k] = p[k] := by
  have h2 := mpL_get f p hk
  rw [List.getElem?_eq_getElem h] at h2
  exact Option.some.inj h2
theorem mpL_succ (f : St → St) (p : List St) {k : Nat} (hk : k < p.length) : mpL f p (k + 1) = (mpL f p k).set k (f p[k]) := by
  unfold mpL
  have h1 : ((p.take k).map f).length = k := by rw [List.length_map, List.length_take]; omega
  rw [List.set_append_right _ _ (by omega), h1, Nat.sub_self, List.take_succ_eq_append_getElem hk, List.map_append, List.drop_eq_getElem_cons hk, List.set_cons_zero]
  simp
theorem mpL_same (f : St → St) (p : List St) {k : Nat} (hk : k < p.length) (h : f p[k] = p[k]) : mpL f p (k + 1) = mpL f p k := by
  rw [mpL_succ f p hk, h]
  have e : (mpL f p k)[k]'(by rw [mpL_len]; exact hk) = p[k] := mpL_at f p hk _
  rw [← e]
  exact List.set_getElem_self _
theorem stC_setA (l : List St) (a : Int) : ∀ (k : Nat) (x : St), l[k]? = some x → (stC l).set (k * 3 + 1) (.int .i64 a) = stC (l.set k (x.1, a, x.2.2)) := by
  induction l with
  | nil => intro k x h; simp at h
  | cons y l ih =>
    intro k x h
    cases k with
    | zero =>
      obtain rfl : y = x := by simpa using h
      simp [stC, stV]
    | succ k =>
      have e1 : (k + 1) * 3 + 1 = k * 3 + 1 + 3 := by omega
      have := ih k x (by simpa using h)
      rw [e1]
      simpa [stC, stV, List.set_cons_succ] using this
theorem ixN_eq {l : List Nat} {x k : Nat} (hk : k < l.length) (h1 : l.getD k 0 = x) (h2 : ∀ j, j < k → l.getD j 0 ≠ x) : ixN l x = k := by
  unfold ixN
  rw [List.findIdx_eq hk]
  refine ⟨?_, fun j hj => ?_⟩
  · rw [List.getD_eq_getElem?_getD, List.getElem?_eq_getElem hk] at h1
    exact decide_eq_true h1
  · have h := h2 j hj
    rw [List.getD_eq_getElem?_getD, List.getElem?_eq_getElem (show j < l.length by omega)] at h
    exact decide_eq_false h
end Go.Proofs.YtmpjaakkjhmpmaaGreatDoor
