/-
  WHAT IT HOLDS: contract of needed of package short: which steps are needed. Conditions: the steps read as data; the proof is valid.
  WHAT IT HOLDS: contract of times of package short: how often each step comes in the tree of the last one. Conditions: the steps read as data; the proof is valid.
  WHAT IT HOLDS: contracts of strings.Compare, of byName of package blame, of slices.SortFunc and slices.IsSortedFunc at entries with it. Conditions: the arguments read as data.
  WHAT IT HOLDS: contracts of slices.IsSortedFunc at entries, of Edition and Sorted of package blame. Conditions: the arguments read as data; small signs, small libraries.
  WHAT IT HOLDS: how a row of entries of the call's own turns where an entry is set or taken out; the contract of slices.Delete at entries, one taken out. Conditions: the row is the call's own.
  WHAT IT HOLDS: how a list of changes of the call's own lies while it grows; boxes whose cells are told by a list. No program's walk in sight.
  WHAT IT HOLDS: contract of the iterator that staying of package short hands back: the steps that stay, with their indexes. Conditions: the steps read as data; the function says which stay, and only reads.
  WHAT IT HOLDS: what rebuilt of package short holds between its rounds: the steps so far in a row of its own, and a map of their places. No program's walk in sight.
-/
import Derived.BigQuiet
import Derived.Lib.Strings
import Derived.Lib.Bytealg
import Derived.Deep.RegionLaw
import Derived.Lib.SliceRun
import Derived.Test.YtmpjaakkjhmpmaaGreatDoorZRShortCites35
import Derived.Test.YtmpjaakkjhmpmaaGreatDoorZRShortCites2
import Derived.Test.YtmpjaakkjhmpmaaGreatDoorZRShortCites34
import Derived.Test.YtmpjaakkjhmpmaaGreatDoorZRShortCites37
import Derived.Test.YtmpjaakkjhmpmaaGreatDoorZRShortCites13
import Derived.Test.YtmpjaakkjhmpmaaGreatDoorZRShortCites14
import Derived.Test.YtmpjaakkjhmpmaaGreatDoorZRShortCites33
import Derived.Test.YtmpjaakkjhmpmaaGreatDoorZRShortCites9
namespace Go.Proofs.YtmpjaakkjhmpmaaGreatDoor
open Go Go.RowKit Go.Maps
theorem bools_at {b : List Bool} {i : Nat} (h : i < b.length) : (b.map Value.bool)[i]? = some (.bool (stB b i)) := by
  rw [List.getElem?_map, List.getElem?_eq_getElem h]
  unfold stB
  rw [List.getD_eq_getElem?_getD, List.getElem?_eq_getElem h]; rfl
/-- the step of a valid proof, its numbers as natural ones. -/
theorem st_at {g : Int} {p : List St} (h : proofB g p = true) {i : Nat} (hi : i < p.length) : p.getD i st0 = p[i] ∧ ((p[i].1 = 1 ∧ 0 ≤ p[i].2.1 ∧ p[i].2.1 < g) ∨ (p[i].1 = 2 ∧ p[i].2.1 = (nA p[i] : Int) ∧ p[i].2.2 = (nB p[i] : Int) ∧ nA p[i] < i ∧ nB p[i] < i)) := by
  have e : p.getD i st0 = p[i] := by rw [List.getD_eq_getElem?_getD, List.getElem?_eq_getElem hi]; rfl
  refine ⟨e, ?_⟩
  rcases right_step (proofB_at h hi) with ⟨c1, c2, c3⟩ | ⟨c1, c2, c3, c4, c5⟩
  · exact Or.inl ⟨c1, c2, c3⟩
  · exact Or.inr ⟨c1, by unfold nA; omega, by unfold nB; omega, by unfold nA; omega, by unfold nB; omega⟩
def NedQ (p : List St) (w : World) (e : Ending) (w' : World) : Prop := ∃ q, e = .returned (.slice (some ⟨q, 0, none⟩) p.length p.length) ∧ w.heap.size ≤ q ∧ w'.ownsRow w.heap.size 4 1 (.slice (some ⟨q, 0, none⟩) p.length p.length) p.length ((needL p).map Value.bool) ∧ Below w.heap.size w w'
set_option maxHeartbeats 4000000 in
set_option maxRecDepth 100000 in
theorem short_needed (g : Int) (v : Value) (p : List St) (w : World) (hp : StepsAt w v p) (hg : proofB g p = true) :
    Calls Tryz.prog 65 #[v] w fun e w' => NedQ p w e w' := by
  have h60 := proof60 hg
  have h1 := proof1 hg
  have HSA := hid (fun (i : Nat) (hi : i < p.length) => st_at hg hi)
  have HND := hid (show needL p = needF p p.length (need0 p) from rfl)
  have HN0 := hid (show need0 p = (List.replicate p.length false).set (p.length - 1) true from rfl)
  obtain ⟨pa, pc, rfl, hc, hl, -, HC⟩ := hp.open
  have HC' := hid HC
  unfold NedQ
  obtain ⟨nd, hnd⟩ : ∃ nd, needL p = nd := ⟨_, rfl⟩
  rw [hnd] at HND ⊢
  obtain ⟨n0, hn0⟩ : ∃ n0, need0 p = n0 := ⟨_, rfl⟩
  rw [hn0] at HND HN0
  obtain ⟨m, hm⟩ : ∃ m, p.length = m + 1 := ⟨p.length - 1, by omega⟩
  have HM := hid hm
  simp only [hm, Nat.add_sub_cancel] at HND HN0 hc hl h60 ⊢
  clear hnd hn0 hm hg hp HC h1
  have hw0 : IntKind.i64.wrap (((m + 1 : Nat) : Int) - 1) = m := by rw [IntWalk.i64_in _ (by omega)]; omega
  have q0 : (((m + 1 : Nat) : Int) - 1) = m := by omega
  go_enter Tryz.func65, Tryz.ntmps65
  go_wp2_with (at_make; refine wpList_make_row rfl _ _ 82 rfl w.heap.size 4 el_bool Tryz.underlying82 rfl (m + 1) rfl rfl (by omega) (by omega) (by simp) ?_; intro q w1 hq0 hq1 hown1 hgrow1; have hc1 := hown1.cellAt m (by omega); have hf1 := hown1.frozenAt m)
  have hb1 : Below w.heap.size w w1 := (Below.refl _ _).grown hgrow1 (by simp) (fun _ h => by cases h)
  have hst1 := (hown1.stored m (.bool true)).1
  have hbs1 : Below w.heap.size w (w1.setCell ⟨q, m, none⟩ (.bool true)) := hb1.setCell (p := ⟨q, m, none⟩) hq0 _
  rw [← List.map_replicate, ← List.map_set, ← HN0.out] at hst1
  have hlen0 : n0.length = m + 1 := by rw [HN0.out]; simp
  have HST := hid hst1
  have HBS := hid hbs1
  obtain ⟨W, hW⟩ : ∃ W, w1.setCell ⟨q, m, none⟩ (.bool true) = W := ⟨_, rfl⟩
  have HW := hid hW
  rw [hW] at HST HBS
  clear hown1 hgrow1 hst1 hbs1 hb1 hc1 hf1 hw0 q0
  (try rw [HW.out])
  clear hW HW
  go_loopw [4] (fun kv wr => ∃ (k : Int) (b : List Bool), -1 ≤ k ∧ k ≤ m ∧ kv = .int .i64 k ∧ b.length = m + 1 ∧ needF p (k + 1).toNat b = nd ∧ wr.ownsRow w.heap.size 4 1 (.slice (some ⟨q, 0, none⟩) (m + 1) (m + 1)) (m + 1) (b.map Value.bool) ∧ Below w.heap.size w wr) (fun kv _ => (intOf kv + 1).toNat)
  case atStart => exact ⟨m, n0, by omega, by omega, rfl, hlen0, by rw [HND.out]; congr 1, HST.out, HBS.out⟩
  case round =>
    clear HST HBS hlen0 HN0 HND
    obtain ⟨k, b, hk0, hk1, rfl, hbl, hnf, hown, hb⟩ := hrel
    by_cases hlt : 0 ≤ k
    case neg =>
      obtain rfl : k = -1 := by omega
      have e : b = nd := hnf
      subst e
      have HOWN := hid hown
      have HB := hid hb
      clear hown hb hnf
      go_wp2
      go_ret
      exact ⟨q, rfl, hq0, HOWN.out, HB.out⟩
    obtain ⟨i, rfl⟩ : ∃ i : Nat, k = i := ⟨k.toNat, by omega⟩
    have him : i < m + 1 := by omega
    have hip : i < p.length := by have := HM.out; omega
    obtain ⟨eg, hx⟩ := HSA.out i hip
    have hnf' : needF p i (mkN p[i] i b) = nd := by rw [← hnf, ← eg]; rfl
    obtain ⟨xb, xo, rfl, y0, y1, y2⟩ := HC'.out i hip
    have x0 := (hb.cell (World.block_lt_of_cell? _ _ y0)).trans y0
    have x1 := (hb.cell (World.block_lt_of_cell? _ _ y1)).trans y1
    have x2 := (hb.cell (World.block_lt_of_cell? _ _ y2)).trans y2
    obtain ⟨x, hxx⟩ : ∃ x, p[i] = x := ⟨_, rfl⟩
    rw [hxx] at x0 x1 x2 hx hnf'
    have hc1 := hown.cellAt i (by omega)
    rw [bools_at (by omega)] at hc1
    have HNF := hid hnf'
    have HOWN := hid hown
    have HB := hid hb
    have HBLN := hid hbl
    have q1 : IntKind.i64.wrap ((i : Int) - 1) = (i : Int) - 1 := IntWalk.i64_in _ (by omega)
    clear hnf hnf' hown hb hxx eg y0 y1 y2
    have skip : mkN x i b = b → ∃ (k : Int) (b : List Bool), -1 ≤ k ∧ k ≤ (m : Int) ∧ Value.int .i64 ((i : Int) - 1) = .int .i64 k ∧ b.length = m + 1 ∧ needF p (k + 1).toNat b = nd ∧ wr.ownsRow w.heap.size 4 1 (.slice (some ⟨q, 0, none⟩) (m + 1) (m + 1)) (m + 1) (b.map Value.bool) ∧ Below w.heap.size w wr := fun h =>
      ⟨(i : Int) - 1, b, by omega, by omega, rfl, HBLN.out, by rw [show ((i : Int) - 1 + 1).toNat = i by omega, ← HNF.out, h], HOWN.out, HB.out⟩
    have HSK := hid skip
    clear skip
    cases hs : stB b i
    · have HE : Hid (mkN x i b = b) := hid (by unfold mkN; rw [if_neg (fun h => by have h1 : stB b i = true := h.1; rw [hs] at h1; cases h1)])
      rw [hs] at hc1
      clear hx hs
      go_wp2
      go_roundw
      case rel => exact HSK.out HE.out
      case measure => simp [intOf]
    rw [hs] at hc1
    rcases hx with ⟨hx1, -, -⟩ | ⟨hx1, ha, hbb, ha', hb'⟩
    · have HE : Hid (mkN x i b = b) := hid (by unfold mkN; rw [if_neg (fun h => by omega)])
      rw [hx1] at x0
      clear hs hx1
      go_wp2
      go_roundw
      case rel => exact HSK.out HE.out
      case measure => simp [intOf]
    have HE : Hid (mkN x i b = (b.set (nA x) true).set (nB x) true) := hid (by unfold mkN; rw [if_pos ⟨hs, hx1⟩])
    rw [hx1] at x0
    rw [ha] at x1
    rw [hbb] at x2
    obtain ⟨A, hA⟩ : ∃ A, nA x = A := ⟨_, rfl⟩
    obtain ⟨B, hBq⟩ : ∃ B, nB x = B := ⟨_, rfl⟩
    rw [hA] at x1 ha' HE
    rw [hBq] at x2 hb' HE
    clear hA hBq ha hbb hx1 hs
    have hcA := HOWN.out.cellAt A (by omega)
    rw [bools_at (by omega)] at hcA
    have hfA := HOWN.out.frozenAt A
    have hst := (HOWN.out.stored A (.bool true)).1
    have hcB := hst.cellAt B (by omega)
    rw [← List.map_set, bools_at (by rw [List.length_set]; omega)] at hcB
    have hfB := hst.frozenAt B
    have hst2 := (hst.stored B (.bool true)).1
    rw [← List.map_set, ← List.map_set] at hst2
    have HST2 := hid hst2
    have HBS2 := hid (show Below w.heap.size w ((wr.setCell ⟨q, A, none⟩ (.bool true)).setCell ⟨q, B, none⟩ (.bool true)) from (HB.out.setCell (p := ⟨q, A, none⟩) hq0 _).setCell (p := ⟨q, B, none⟩) hq0 _)
    clear hst hst2
    go_wp2
    go_region
    go_wp2
    go_roundw
    case rel =>
      refine ⟨(i : Int) - 1, (b.set A true).set B true, by omega, by omega, rfl, by rw [List.length_set, List.length_set]; exact HBLN.out, by rw [show ((i : Int) - 1 + 1).toNat = i by omega, ← HNF.out, HE.out], ?_, ?_⟩
      · first | exact HST2.out | exact owns_below HST2.out (below_self_drewN _ _)
      · first | exact HBS2.out | exact below_drewN HBS2.out _
    case measure => simp [intOf]
end Go.Proofs.YtmpjaakkjhmpmaaGreatDoor
namespace Go.Proofs.YtmpjaakkjhmpmaaGreatDoor
open Go Go.RowKit Go.Maps
def tmA (b : List Int) (i : Nat) : Int := b.getD i 0
/-- what one step does to the numbers: sums as the machine makes them. -/
def mkT (x : St) (i : Nat) (b : List Int) : List Int := if x.1 = 2 then (b.set (nA x) (IntKind.i64.wrap (tmA b (nA x) + tmA b i))).set (nB x) (IntKind.i64.wrap (tmA (b.set (nA x) (IntKind.i64.wrap (tmA b (nA x) + tmA b i))) (nB x) + tmA (b.set (nA x) (IntKind.i64.wrap (tmA b (nA x) + tmA b i))) i)) else b
def tmF (p : List St) : Nat → List Int → List Int
  | 0, b => b
  | i + 1, b => tmF p i (mkT (p.getD i st0) i b)
def tm0 (p : List St) : List Int := (List.replicate p.length 0).set (p.length - 1) 1
def timL (p : List St) : List Int := tmF p p.length (tm0 p)
theorem tms_at {b : List Int} {i : Nat} (h : i < b.length) : (b.map (Value.int .i64))[i]? = some (.int .i64 (tmA b i)) := by
  rw [List.getElem?_map, List.getElem?_eq_getElem h]
  unfold tmA
  rw [List.getD_eq_getElem?_getD, List.getElem?_eq_getElem h]; rfl
def TmsQ (p : List St) (w : World) (e : Ending) (w' : World) : Prop := ∃ q, e = .returned (.slice (some ⟨q, 0, none⟩) p.length p.length) ∧ w.heap.size ≤ q ∧ w'.ownsRow w.heap.size 3 1 (.slice (some ⟨q, 0, none⟩) p.length p.length) p.length ((timL p).map (Value.int .i64)) ∧ Below w.heap.size w w'
set_option maxHeartbeats 4000000 in
set_option maxRecDepth 100000 in
theorem short_times (g : Int) (v : Value) (p : List St) (w : World) (hp : StepsAt w v p) (hg : proofB g p = true) :
    Calls Tryz.prog 79 #[v] w fun e w' => TmsQ p w e w' := by
  have h60 := proof60 hg
  have h1 := proof1 hg
  have HSA := hid (fun (i : Nat) (hi : i < p.length) => st_at hg hi)
  have HND := hid (show timL p = tmF p p.length (tm0 p) from rfl)
  have HN0 := hid (show tm0 p = (List.replicate p.length 0).set (p.length - 1) 1 from rfl)
  obtain ⟨pa, pc, rfl, hc, hl, -, HC⟩ := hp.open
  have HC' := hid HC
  unfold TmsQ
  obtain ⟨nd, hnd⟩ : ∃ nd, timL p = nd := ⟨_, rfl⟩
  rw [hnd] at HND ⊢
  obtain ⟨n0, hn0⟩ : ∃ n0, tm0 p = n0 := ⟨_, rfl⟩
  rw [hn0] at HND HN0
  obtain ⟨m, hm⟩ : ∃ m, p.length = m + 1 := ⟨p.length - 1, by omega⟩
  have HM := hid hm
  simp only [hm, Nat.add_sub_cancel] at HND HN0 hc hl h60 ⊢
  clear hnd hn0 hm hg hp HC h1
  have hw0 : IntKind.i64.wrap (((m + 1 : Nat) : Int) - 1) = m := by rw [IntWalk.i64_in _ (by omega)]; omega
  have q0 : (((m + 1 : Nat) : Int) - 1) = m := by omega
  go_enter Tryz.func79, Tryz.ntmps79
  go_wp2_with (at_make; refine wpList_make_row rfl _ _ 33 rfl w.heap.size 3 el_int Tryz.underlying33 rfl (m + 1) rfl rfl (by omega) (by omega) (by simp) ?_; intro q w1 hq0 hq1 hown1 hgrow1; have hc1 := hown1.cellAt m (by omega); have hf1 := hown1.frozenAt m)
  have hb1 : Below w.heap.size w w1 := (Below.refl _ _).grown hgrow1 (by simp) (fun _ h => by cases h)
  have hst1 := (hown1.stored m (.int .i64 1)).1
  have hbs1 : Below w.heap.size w (w1.setCell ⟨q, m, none⟩ (.int .i64 1)) := hb1.setCell (p := ⟨q, m, none⟩) hq0 _
  rw [← List.map_replicate, ← List.map_set, ← HN0.out] at hst1
  have hlen0 : n0.length = m + 1 := by rw [HN0.out]; simp
  have HST := hid hst1
  have HBS := hid hbs1
  obtain ⟨W, hW⟩ : ∃ W, w1.setCell ⟨q, m, none⟩ (.int .i64 1) = W := ⟨_, rfl⟩
  have HW := hid hW
  rw [hW] at HST HBS
  clear hown1 hgrow1 hst1 hbs1 hb1 hc1 hf1 hw0 q0
  (try rw [HW.out])
  clear hW HW
  go_loopw [4] (fun kv wr => ∃ (k : Int) (b : List Int), -1 ≤ k ∧ k ≤ m ∧ kv = .int .i64 k ∧ b.length = m + 1 ∧ tmF p (k + 1).toNat b = nd ∧ wr.ownsRow w.heap.size 3 1 (.slice (some ⟨q, 0, none⟩) (m + 1) (m + 1)) (m + 1) (b.map (Value.int .i64)) ∧ Below w.heap.size w wr) (fun kv _ => (intOf kv + 1).toNat)
  case atStart => exact ⟨m, n0, by omega, by omega, rfl, hlen0, by rw [HND.out]; congr 1, HST.out, HBS.out⟩
  case round =>
    clear HST HBS hlen0 HN0 HND
    obtain ⟨k, b, hk0, hk1, rfl, hbl, hnf, hown, hb⟩ := hrel
    by_cases hlt : 0 ≤ k
    case neg =>
      obtain rfl : k = -1 := by omega
      have e : b = nd := hnf
      subst e
      have HOWN := hid hown
      have HB := hid hb
      clear hown hb hnf
      go_wp2
      go_ret
      exact ⟨q, rfl, hq0, HOWN.out, HB.out⟩
    obtain ⟨i, rfl⟩ : ∃ i : Nat, k = i := ⟨k.toNat, by omega⟩
    have him : i < m + 1 := by omega
    have hip : i < p.length := by have := HM.out; omega
    obtain ⟨eg, hx⟩ := HSA.out i hip
    have hnf' : tmF p i (mkT p[i] i b) = nd := by rw [← hnf, ← eg]; rfl
    obtain ⟨xb, xo, rfl, y0, y1, y2⟩ := HC'.out i hip
    have x0 := (hb.cell (World.block_lt_of_cell? _ _ y0)).trans y0
    have x1 := (hb.cell (World.block_lt_of_cell? _ _ y1)).trans y1
    have x2 := (hb.cell (World.block_lt_of_cell? _ _ y2)).trans y2
    obtain ⟨x, hxx⟩ : ∃ x, p[i] = x := ⟨_, rfl⟩
    rw [hxx] at x0 x1 x2 hx hnf'
    have hc1 := hown.cellAt i (by omega)
    rw [tms_at (by omega)] at hc1
    have HNF := hid hnf'
    have HOWN := hid hown
    have HB := hid hb
    have HBLN := hid hbl
    have q1 : IntKind.i64.wrap ((i : Int) - 1) = (i : Int) - 1 := IntWalk.i64_in _ (by omega)
    have hxq := World.block_lt_of_cell? _ _ y0
    clear hnf hnf' hown hb hxx eg y0 y1 y2
    have skip : mkT x i b = b → ∃ (k : Int) (b : List Int), -1 ≤ k ∧ k ≤ (m : Int) ∧ Value.int .i64 ((i : Int) - 1) = .int .i64 k ∧ b.length = m + 1 ∧ tmF p (k + 1).toNat b = nd ∧ wr.ownsRow w.heap.size 3 1 (.slice (some ⟨q, 0, none⟩) (m + 1) (m + 1)) (m + 1) (b.map (Value.int .i64)) ∧ Below w.heap.size w wr := fun h =>
      ⟨(i : Int) - 1, b, by omega, by omega, rfl, HBLN.out, by rw [show ((i : Int) - 1 + 1).toNat = i by omega, ← HNF.out, h], HOWN.out, HB.out⟩
    have HSK := hid skip
    clear skip
    rcases hx with ⟨hx1, -, -⟩ | ⟨hx1, ha, hbb, ha', hb'⟩
    · have HE : Hid (mkT x i b = b) := hid (by unfold mkT; rw [if_neg (fun h => by omega)])
      rw [hx1] at x0
      clear hx1
      go_wp2
      go_roundw
      case rel => exact HSK.out HE.out
      case measure => simp [intOf]
    rw [hx1] at x0
    rw [ha] at x1
    rw [hbb] at x2
    obtain ⟨A, hA⟩ : ∃ A, nA x = A := ⟨_, rfl⟩
    obtain ⟨B, hBq⟩ : ∃ B, nB x = B := ⟨_, rfl⟩
    rw [hA] at x1 ha'
    rw [hBq] at x2 hb'
    obtain ⟨z1, hz1⟩ : ∃ z, IntKind.i64.wrap (tmA b A + tmA b i) = z := ⟨_, rfl⟩
    obtain ⟨b1, hb1⟩ : ∃ b1, b.set A z1 = b1 := ⟨_, rfl⟩
    obtain ⟨z2, hz2⟩ : ∃ z, IntKind.i64.wrap (tmA b1 B + tmA b1 i) = z := ⟨_, rfl⟩
    obtain ⟨b2, hb2⟩ : ∃ b2, b1.set B z2 = b2 := ⟨_, rfl⟩
    have HE : Hid (mkT x i b = b2) := hid (by unfold mkT; rw [if_pos hx1, hA, hBq, hz1, hb1, hz2, hb2])
    have hl1 : b1.length = m + 1 := by rw [← hb1, List.length_set]; exact HBLN.out
    have hl2 : b2.length = m + 1 := by rw [← hb2, List.length_set]; exact hl1
    have hcA := HOWN.out.cellAt A (by omega)
    rw [tms_at (by omega)] at hcA
    have hfA := HOWN.out.frozenAt A
    have hst := (HOWN.out.stored A (.int .i64 (z1))).1
    rw [← List.map_set, hb1] at hst
    have hci2 := hst.cellAt i (by omega)
    rw [tms_at (by omega)] at hci2
    have hcB := hst.cellAt B (by omega)
    rw [tms_at (by omega)] at hcB
    have hfB := hst.frozenAt B
    have hst2 := (hst.stored B (.int .i64 (z2))).1
    rw [← List.map_set, hb2] at hst2
    have HL2 := hid hl2
    have HST2 := hid hst2
    have HBS2 := hid (show Below w.heap.size w ((wr.setCell ⟨q, A, none⟩ (.int .i64 (z1))).setCell ⟨q, B, none⟩ (.int .i64 (z2))) from (HB.out.setCell (p := ⟨q, A, none⟩) hq0 _).setCell (p := ⟨q, B, none⟩) hq0 _)
    have oth : ∀ (c : Nat) (a : Addr) (v : Value), wr.cell? ⟨xb, c, none⟩ = some v → a.block = q → xb ≠ q → ∀ u, (wr.setCell a u).cell? ⟨xb, c, none⟩ = some v := fun c a v h h1 h2 u => (World.cell?_of_block (Below.heap_setCell _ _ _ _ (fun e => h2 (by rw [← h1]; exact e)))).trans h
    clear hst hst2 hA hBq ha hbb hx1 hb1 hb2 hl1 hl2
    go_wp2
    go_region
    obtain ⟨W5, hW5⟩ : ∃ W5, (wr.setCell ⟨q, A, none⟩ (.int .i64 (z1))).drew = W5 := ⟨_, rfl⟩
    have hne : xb ≠ q := by have h : xb < w.heap.size := hxq; omega
    have j2 : W5.cell? ⟨xb, xo + i * 3 + 2, none⟩ = some (.int .i64 (B : Int)) := hW5 ▸ oth _ ⟨q, A, none⟩ _ x2 rfl hne _
    have ji : W5.cell? ⟨q, i, none⟩ = some (.int .i64 (tmA b1 i)) := hW5 ▸ hci2
    have jB : W5.cell? ⟨q, B, none⟩ = some (.int .i64 (tmA b1 B)) := hW5 ▸ hcB
    have jf : W5.frozen? ⟨q, B, none⟩ = false := hW5 ▸ hfB
    rw [hW5]
    have HW5 := hid hW5
    clear hW5 hci2 hcB hfB hcA hfA x0 x1 x2 oth hc1
    go_wp2
    go_region
    go_wp2
    go_roundw
    case rel =>
      refine ⟨(i : Int) - 1, b2, by omega, by omega, rfl, HL2.out, by rw [show ((i : Int) - 1 + 1).toNat = i by omega, ← HNF.out, HE.out], ?_, ?_⟩
      · rw [← HW5.out]; exact owns_below HST2.out (below_self_drewN _ 2)
      · rw [← HW5.out]; exact below_drewN HBS2.out 2
    case measure => simp [intOf]
end Go.Proofs.YtmpjaakkjhmpmaaGreatDoor
namespace Go.Proofs.YtmpjaakkjhmpmaaGreatDoor
open Go Go.RowKit Go.Maps
abbrev EV := En × V3
instance : Inhabited EV := ⟨(en0, (.slice none 0 0, .slice none 0 0, .slice none 0 0))⟩
end Go.Proofs.YtmpjaakkjhmpmaaGreatDoor
namespace Go.Proofs.YtmpjaakkjhmpmaaGreatDoor
open Go Go.RowKit Go.Maps
end Go.Proofs.YtmpjaakkjhmpmaaGreatDoor
namespace Go.Proofs.YtmpjaakkjhmpmaaGreatDoor
open Go Go.RowKit Go.Maps
end Go.Proofs.YtmpjaakkjhmpmaaGreatDoor
namespace Go.Proofs.YtmpjaakkjhmpmaaGreatDoor
open Go Go.RowKit Go.Maps
/-- a box that holds a list of values. -/
structure BX (w : World) (b : Nat) (xs : List Value) : Prop where
  c : ∀ (j : Nat) (h : j < xs.length), w.cell? ⟨b, j, none⟩ = some xs[j]
  z : ∀ j, w.frozen? ⟨b, j, none⟩ = false
theorem BX.new (w : World) (xs : List Value) (t : TypeId) : BX (w.alloc (.cells xs.toArray t)) w.heap.size xs := by
  refine ⟨fun j h => ?_, fun j => ?_⟩
  · rw [World.cell?_alloc_new]; simp [h]
  · unfold World.frozen? World.alloc
    simp
theorem BX.block {w w' : World} {b : Nat} {xs : List Value} (h : BX w b xs) (hb : w'.heap[b]? = w.heap[b]?) : BX w' b xs :=
  ⟨fun j hj => (World.cell?_of_block hb).trans (h.c j hj), fun j => by
    have := h.z j
    unfold World.frozen? at this ⊢
    rw [hb]; exact this⟩
theorem BX.lt {w : World} {b : Nat} {xs : List Value} (h : BX w b xs) (h0 : 0 < xs.length) : b < w.heap.size := World.block_lt_of_cell? _ _ (h.c 0 h0)
theorem BX.below {w w' : World} {b : Nat} {xs : List Value} (h : BX w b xs) (h0 : 0 < xs.length) (hb : Below w.heap.size w w') : BX w' b xs := h.block (hb.block b (h.lt h0))
theorem BX.set {w : World} {b : Nat} {xs : List Value} (h : BX w b xs) {k : Nat} (hk : k < xs.length) (y : Value) : BX (w.setCell ⟨b, k, none⟩ y) b (xs.set k y) := by
  have hin := World.cell?_setCells_in b [y] k w (by
    intro j hj
    match j, hj with
    | 0, _ => show (w.cell? ⟨b, k, none⟩).isSome = true; rw [h.c k hk]; rfl)
  have hout := fun (o : Nat) (ho : o ≠ k) => World.cell?_setCells_out b [y] k w ⟨b, o, none⟩ (fun _ _ => by simp; omega)
  have hf := fun j => World.frozen?_setCells b [y] k w ⟨b, j, none⟩
  refine ⟨fun j hj => ?_, fun j => (hf j).trans (h.z j)⟩
  rw [List.length_set] at hj
  by_cases e : j = k
  · subst e
    rw [List.getElem_set_self]
    exact hin 0 (by simp)
  · rw [List.getElem_set_ne (by omega)]
    exact (hout j e).trans (h.c j hj)
end Go.Proofs.YtmpjaakkjhmpmaaGreatDoor
namespace Go.Proofs.YtmpjaakkjhmpmaaGreatDoor
open Go Go.RowKit Go.Maps Go.Shelf
attribute [local go_sem] Oper.semAt_some
/-- a step with its index. -/
abbrev SE := Nat × St
def seX (x : SE) : Array Value := #[.int .i64 x.1, .agg #[.int .i64 x.2.1, .int .i64 x.2.2.1, .int .i64 x.2.2.2]]
def stayL (p : List St) (b : List Bool) : Nat → List SE
  | 0 => []
  | k + 1 => stayL p b k ++ (if stB b k = true then [(k, p.getD k st0)] else [])
def seE (p : List St) (b : List Bool) (pre : List SE) (x : SE) (_ : Nat → Prop) (_ : World) : Prop := x.1 < p.length ∧ stB b x.1 = true ∧ x.2 = p.getD x.1 st0 ∧ pre = stayL p b x.1
/-- a function value that says which steps stay. -/
def StayC (fs : Nat) (lbs : Array Value) (n : Nat) (b : List Bool) (wb : World) : Prop := ∀ X, Below wb.heap.size wb X → ∀ i : Nat, i < n → Calls Tryz.prog fs (#[.int .i64 i] ++ lbs) X fun e X' => e = .returned (.bool (stB b i)) ∧ X = X'
set_option maxHeartbeats 4000000 in
set_option maxRecDepth 100000 in
theorem staying_seq (bp bs fs : Nat) (lbs : Array Value) (v : Value) (p : List St) (b : List Bool) (wb w0 : World) (hv : StepsAt wb v p) (hst : StayC fs lbs p.length b wb) (heg : ∀ args (X : World), (callFunc fs args).run Tryz.prog X = .ok (.enter fs args) X) (hb : Below wb.heap.size wb w0) (hc : w0.cell? ⟨bp, 0, none⟩ = some v) (hd : w0.cell? ⟨bs, 0, none⟩ = some (.func (.func fs) #[] lbs)) :
    SeqG Tryz.prog 179 #[.pointer (some ⟨bp, 0, none⟩), .pointer (some ⟨bs, 0, none⟩)] seX (seE p b) (fun xs => xs = stayL p b p.length) (fun k => k < wb.heap.size ∨ k = bp ∨ k = bs) w0 := fun l' J Jx M0 W hW hM0 hJ hJx hY h0 => by
  have c1 := (hW.cell (World.block_lt_of_cell? _ _ hc)).trans hc
  have c2 := (hW.cell (World.block_lt_of_cell? _ _ hd)).trans hd
  have hbW := hb.trans (hW.mono hb.size)
  refine callsIn_of_wp Tryz.func179 rfl trivial ?_ rfl
  simp only [Tryz.ntmps179, List.size_toArray, List.length_cons, List.length_nil, Nat.reduceAdd, Nat.reduceSub, Array.replicate_succ, Array.replicate_zero, List.push_toArray, List.append_toArray, List.nil_append, List.cons_append]
  have HJ := hid hJ
  have HY := hid hY
  have HSTC := hid hst
  clear hJ hJx hY hst
  obtain ⟨pa, pc, rfl, -, ll, -, HC⟩ := hv.open
  have HC' := hid HC
  have HST : Hid (J [] M0 W ∧ (∀ q, M0 q → wb.heap.size ≤ q ∧ q ≠ bp ∧ q ≠ bs ∧ q < W.heap.size) ∧ Below wb.heap.size wb W ∧ W.cell? ⟨bp, 0, none⟩ = some (.slice pa p.length pc) ∧ W.cell? ⟨bs, 0, none⟩ = some (.func (.func fs) #[] lbs)) :=
    hid ⟨h0, fun q hq => by
      have := hM0 q hq
      exact ⟨by have h := this.1; omega, fun h => this.1 (Or.inr (Or.inl h)), fun h => this.1 (Or.inr (Or.inr h)), this.2⟩, hbW, c1, c2⟩
  clear HC hv h0 hM0 hW hb hc hd hbW
  gi_wp2
  clear c1 c2
  gi_loopw [8] (fun kv wr => ∃ (k : Nat) (M : Nat → Prop), k ≤ p.length ∧ kv = .int .i64 k ∧ (J (stayL p b k) M wr ∧ (∀ q, M q → wb.heap.size ≤ q ∧ q ≠ bp ∧ q ≠ bs ∧ q < wr.heap.size) ∧ Below wb.heap.size wb wr ∧ wr.cell? ⟨bp, 0, none⟩ = some (.slice pa p.length pc) ∧ wr.cell? ⟨bs, 0, none⟩ = some (.func (.func fs) #[] lbs))) (fun kv _ => p.length - (intOf kv).toNat)
  case atStart => exact ⟨0, M0, by omega, rfl, HST.out⟩
  case round =>
    clear HST
    obtain ⟨k, M, hk, rfl, hJ1, hM1, hbr, cx, cy⟩ := hrel
    have hsz := hbr.size
    have hbl := World.block_lt_of_cell? _ _ cx
    have hbl2 := World.block_lt_of_cell? _ _ cy
    by_cases hlt : k < p.length
    case neg =>
      have hkl : k = p.length := by omega
      subst hkl
      have HJ1 := hid hJ1
      clear hJ1
      gi_wp2
      go_end0
      exact ⟨⟨_, rfl⟩, .inl ⟨M, HJ1.out⟩⟩
    obtain ⟨xb, xo, rfl, y0, y1, y2⟩ := HC'.out k hlt
    have x0 := (hbr.cell (World.block_lt_of_cell? _ _ y0)).trans y0
    have x1 := (hbr.cell (World.block_lt_of_cell? _ _ y1)).trans y1
    have x2 := (hbr.cell (World.block_lt_of_cell? _ _ y2)).trans y2
    have eg : p.getD k st0 = p[k] := by rw [List.getD_eq_getElem?_getD, List.getElem?_eq_getElem hlt]; rfl
    have HNX : Hid (stayL p b (k + 1) = stayL p b k ++ (if stB b k = true then [(k, p[k])] else [])) := hid (by rw [stayL, eg])
    have HEG := hid eg
    obtain ⟨x, hx⟩ : ∃ x, p[k] = x := ⟨_, rfl⟩
    rw [hx] at x0 x1 x2 HNX HEG
    have hBX := BX.new wr [.int .i64 x.1, .int .i64 x.2.1, .int .i64 x.2.2] 57
    obtain ⟨wa, hwa⟩ : ∃ wa, wr.alloc (.cells #[.int .i64 x.1, .int .i64 x.2.1, .int .i64 x.2.2] 57) = wa := ⟨_, rfl⟩
    have hwa' : wr.alloc (.cells ([.int .i64 x.1, .int .i64 x.2.1, .int .i64 x.2.2] : List Value).toArray 57) = wa := hwa
    rw [hwa'] at hBX
    have hba : Below wr.heap.size wr wa := hwa ▸ (Below.refl _ _).alloc (Nat.le_refl _) _
    have hsa : wr.heap.size < wa.heap.size := by rw [← hwa]; simp
    have b0 : wa.cell? ⟨wr.heap.size, 0, none⟩ = some (.int .i64 x.1) := hBX.c 0 (by simp)
    have b1 : wa.cell? ⟨wr.heap.size, 1, none⟩ = some (.int .i64 x.2.1) := hBX.c 1 (by simp)
    have b2 : wa.cell? ⟨wr.heap.size, 2, none⟩ = some (.int .i64 x.2.2) := hBX.c 2 (by simp)
    have cya := (hba.cell hbl2).trans cy
    have HCXA := hid ((hba.cell hbl).trans cx)
    have HCYA := hid cya
    have HBA := hid (hbr.trans (hba.mono hsz))
    have HJA := hid (HJ.out _ _ _ _ hJ1 hba)
    have HMA := hid (fun q (hq : M q) => (show wb.heap.size ≤ q ∧ q ≠ bp ∧ q ≠ bs ∧ q < wr.heap.size from hM1 q hq))
    have HL := hid (show bp < wr.heap.size ∧ bs < wr.heap.size from ⟨hbl, hbl2⟩)
    have HSA := hid hsa
    have HCALL := hid (HSTC.out wa (hbr.trans (hba.mono hsz)) k hlt)
    have HWA := hid hwa
    clear hx hwa hwa' hBX hba hsa hJ1 hM1 hbr cy hbl hbl2 y0 y1 y2 eg hsz
    gi_wp2_with (rw [HWA.out])
    refine ⟨trivial, (callsIn_wide.2 HCALL.out).mono ?_⟩
    rintro e w2 ⟨rfl, rfl⟩
    cases hs : stB b k
    · have HN2 : Hid (stayL p b (k + 1) = stayL p b k) := hid (by rw [HNX.out, hs]; simp)
      clear hs HCALL HY cya
      gi_wp2
      refine ⟨fun f h => (by cases h), ?_⟩
      gi_wp2
      go_roundw
      case rel => exact ⟨k + 1, M, by omega, by go_num, by rw [HN2.out]; exact ⟨HJA.out, fun q hq => by have h1 := HMA.out q hq; have h2 := HSA.out; exact ⟨h1.1, h1.2.1, h1.2.2.1, by omega⟩, HBA.out, HCXA.out, HCYA.out⟩⟩
      case measure => simp [intOf]; omega
    have HN2 : Hid (stayL p b (k + 1) = stayL p b k ++ [(k, x)]) := hid (by rw [HNX.out, hs]; simp)
    obtain ⟨fn, tmps, assign, body, hy, hR⟩ := HY.out (stayL p b k) (k, x) M wa HJA.out ⟨hlt, hs, HEG.out.symm, rfl⟩
    dsimp only [seX] at hy
    have HRR := hid hR
    clear hs HCALL cya hR
    gi_wp2
    refine HRR.out.mono ?_
    rintro e W3 ⟨M3, hM3, hM3b, hkb, ⟨rfl, hJ3⟩ | ⟨rfl, hJx3⟩⟩
    · have hbb3 : Below wb.heap.size wb W3 := HBA.out.trans (hkb.below HBA.out.size (fun q hq => (HMA.out q hq).1))
      have hsa := HSA.out
      have hl := HL.out
      have hba := HBA.out.size
      have HST3 : Hid (J (stayL p b (k + 1)) M3 W3 ∧ (∀ q, M3 q → wb.heap.size ≤ q ∧ q ≠ bp ∧ q ≠ bs ∧ q < W3.heap.size) ∧ Below wb.heap.size wb W3 ∧ W3.cell? ⟨bp, 0, none⟩ = some (.slice (some ⟨xb, xo, none⟩) p.length pc) ∧ W3.cell? ⟨bs, 0, none⟩ = some (.func (.func fs) #[] lbs)) := by
        refine hid ⟨by rw [HN2.out]; exact hJ3, fun q hq => ?_, hbb3, (World.cell?_of_block (hkb.same bp (by omega) (fun h => (HMA.out _ h).2.1 rfl))).trans HCXA.out, (World.cell?_of_block (hkb.same bs (by omega) (fun h => (HMA.out _ h).2.2.1 rfl))).trans HCYA.out⟩
        have hqb := hM3b q hq
        rcases hM3 q hq with h1 | h1
        · have := HMA.out q h1
          exact ⟨this.1, this.2.1, this.2.2.1, hqb⟩
        · exact ⟨by omega, by omega, by omega, hqb⟩
      clear hJ3 hM3 hM3b hkb hbb3 hsa hl hba
      gi_wp2
      go_roundw
      case rel => exact ⟨k + 1, M3, by omega, by go_num, HST3.out⟩
      case measure => simp [intOf]; omega
    · gi_wp2
      refine bodyPost_ret (results_none rfl _ _ _) rfl ?_
      exact ⟨⟨_, rfl⟩, .inr ⟨_, M3, hJx3⟩⟩
theorem short_staying (a : Option Addr) (n c fs : Nat) (lbs : Array Value) (w : World) :
    Calls Tryz.prog 145 #[.slice a n c, .func (.func fs) #[] lbs] w fun e w' => e = .returned (.func (.func 179) #[] #[.pointer (some ⟨w.heap.size, 0, none⟩), .pointer (some ⟨w.heap.size + 1, 0, none⟩)]) ∧ (w.alloc (.cells #[.slice a n c] 25)).alloc (.cells #[.func (.func fs) #[] lbs] 90) = w' := by
  go_enter Tryz.func145, Tryz.ntmps145
  go_wp2
  go_ret
  exact ⟨rfl, rfl⟩
end Go.Proofs.YtmpjaakkjhmpmaaGreatDoor
namespace Go.Proofs.YtmpjaakkjhmpmaaGreatDoor
open Go Go.RowKit Go.Maps
def mI (b : List Bool) (pre : List SE) (j : Int) : Option Int := if j ∈ pre.map (fun y => (y.1 : Int)) then some (posS b j.toNat : Int) else none
def rbL (b : List Bool) (f : Nat → Nat) (pre : List SE) : List St := pre.map fun y => mvS b f y.2
theorem rbL_snoc (b : List Bool) (f : Nat → Nat) (pre : List SE) (x : SE) : rbL b f (pre ++ [x]) = rbL b f pre ++ [mvS b f x.2] := by unfold rbL; simp
theorem rbL_stay (p : List St) (b : List Bool) (f : Nat → Nat) : ∀ k, rbL b f (stayL p b k) = rebL p b f k
  | 0 => rfl
  | k + 1 => by
    rw [stayL, rebL]
    split
    · rw [rbL_snoc, rbL_stay p b f k]
    · rw [List.append_nil, List.append_nil, rbL_stay p b f k]
theorem stayL_len (p : List St) (b : List Bool) : ∀ k, (stayL p b k).length = posS b k
  | 0 => rfl
  | k + 1 => by
    rw [stayL, posS, List.length_append, stayL_len p b k]
    split <;> simp
theorem stayL_mem (p : List St) (b : List Bool) (j : Nat) : ∀ k, (j : Int) ∈ (stayL p b k).map (fun y => (y.1 : Int)) ↔ j < k ∧ stB b j = true
  | 0 => by simp [stayL]
  | k + 1 => by
    rw [stayL, List.map_append, List.mem_append, stayL_mem p b j k]
    by_cases hs : stB b k = true
    · rw [if_pos hs]
      simp only [List.map_cons, List.map_nil, List.mem_singleton]
      constructor
      · rintro (⟨h1, h2⟩ | h)
        · exact ⟨by omega, h2⟩
        · have e : j = k := by omega
          subst e; exact ⟨by omega, hs⟩
      · rintro ⟨h1, h2⟩
        by_cases e : j = k
        · exact Or.inr (by omega)
        · exact Or.inl ⟨by omega, h2⟩
    · rw [if_neg hs]
      simp only [List.map_nil, List.not_mem_nil, or_false]
      constructor
      · rintro ⟨h1, h2⟩; exact ⟨by omega, h2⟩
      · rintro ⟨h1, h2⟩
        refine ⟨?_, h2⟩
        by_cases e : j = k
        · subst e; exact absurd h2 hs
        · omega
theorem mI_snoc (b : List Bool) (pre : List SE) (x : SE) : (fun y => if y = (x.1 : Int) then some (posS b x.1 : Int) else mI b pre y) = mI b (pre ++ [x]) := by
  funext y
  unfold mI
  by_cases e : y = (x.1 : Int)
  · subst e; simp
  · have h : y ∈ (pre ++ [x]).map (fun y => (y.1 : Int)) ↔ y ∈ pre.map (fun y => (y.1 : Int)) := by
      rw [List.map_append, List.mem_append]
      simp only [List.map_cons, List.map_nil, List.mem_singleton, e, or_false]
    rw [if_neg e]
    by_cases hy : y ∈ pre.map (fun y => (y.1 : Int))
    · rw [if_pos hy, if_pos (h.2 hy)]
    · rw [if_neg hy, if_neg (fun hh => hy (h.1 hh))]
theorem mI_stay {p : List St} {b : List Bool} {k j : Nat} (h : j < k) (hs : stB b j = true) : mI b (stayL p b k) (j : Int) = some (posS b j : Int) := by
  unfold mI
  rw [if_pos ((stayL_mem p b j k).2 ⟨h, hs⟩), Int.toNat_natCast]
theorem stC_snoc (l : List St) (x : St) : stC (l ++ [x]) = stC l ++ stV x := by unfold stC; simp
structure RbI (b : List Bool) (f : Nat → Nat) (wb : World) (B bo ba bx mb : Nat) (bv : Value) (pre : List SE) (M : Nat → Prop) (W : World) : Prop where
  out : ∃ uo, W.cell? ⟨bo, 0, none⟩ = some uo ∧ W.ownsRow B 57 3 uo pre.length (stC (rbL b f pre)) ∧ ∀ q, uo.ownBlock = some q → M q
  fo : W.frozen? ⟨bo, 0, none⟩ = false
  ca : W.cell? ⟨ba, 0, none⟩ = some (.map (some mb))
  cx : W.cell? ⟨bx, 0, none⟩ = some bv
  mp : ∃ n, MapK Tryz.prog 3 eI (Value.int .i64) W mb n (mI b pre)
  bel : Below wb.heap.size wb W
  mm : M bo ∧ M mb
theorem RbI.kb {b : List Bool} {f : Nat → Nat} {wb : World} {B bo ba bx mb : Nat} {bv : Value} {pre : List SE} {M T : Nat → Prop} {W W' : World} (h : RbI b f wb B bo ba bx mb bv pre M W) (hk : Kb T W W') (ho : ¬ T bo) (ha : ¬ T ba) (hx : ¬ T bx) (hm : ¬ T mb) (hr : ∀ q, M q → B ≤ q → ¬ T q) (hw : ∀ q, q < wb.heap.size → ¬ T q) : RbI b f wb B bo ba bx mb bv pre M W' := by
  obtain ⟨⟨uo, a1, a2, a3⟩, a4, a5, a6, ⟨n, a7⟩, a8, a9⟩ := h
  have e1 := hk.same _ (World.block_lt_of_cell? _ _ a1) ho
  exact ⟨⟨uo, cell_same a1 e1, ownsRow_frm a2 (fun q hq => hk.same q (a2.lt q hq).2 (hr q (a3 q hq) (a2.lt q hq).1)), a3⟩, (World.frozen?_of_block e1).trans a4, cell_same a5 (hk.same _ (World.block_lt_of_cell? _ _ a5) ha), cell_same a6 (hk.same _ (World.block_lt_of_cell? _ _ a6) hx),
    ⟨n, a7.of_block (hk.same _ a7.lt hm)⟩, a8.trans ⟨hk.os, hk.tape, hk.output, hk.size, fun q hq => hk.same q (Nat.lt_of_lt_of_le hq a8.size) (hw q hq)⟩, a9⟩
theorem RbI.grw {b : List Bool} {f : Nat → Nat} {wb : World} {B bo ba bx mb : Nat} {bv : Value} (hB : wb.heap.size ≤ B) (h1 : bo < B) (h2 : ba < B) (h3 : bx < B) (h4 : mb < B) (pre : List SE) : Grw B (RbI b f wb B bo ba bx mb bv pre) where
  grow := fun M W W' h hb => h.kb (T := fun _ => False) (Kb.of_below hb) (fun h => h) (fun h => h) (fun h => h) (fun h => h) (fun _ _ _ h => h) (fun _ _ h => h)
  turn := fun M W o o' _ _ h hm => h.kb (T := fun q => q = B + 1) (Kb.put (M := fun q => q = B + 1) _ rfl) (fun h => by omega) (fun h => by omega) (fun h => by omega) (fun h => by omega) (fun q hq _ h => hm (h ▸ hq)) (fun q hq h => by omega)
theorem RbI.push {b : List Bool} {f : Nat → Nat} {wb : World} {B bo ba bx mb : Nat} {bv : Value} {pre : List SE} {M : Nat → Prop} {W W6 W7 : World} {uo : Value} (h : RbI b f wb B bo ba bx mb bv pre M W) {x : SE}
    (hB : wb.heap.size ≤ B) (h1 : bo < B) (h2 : ba < B) (h3 : bx < B) (h4 : mb < B) (d1 : bo ≠ mb) (d2 : ba ≠ bo) (d3 : ba ≠ mb) (d4 : bx ≠ bo) (d5 : bx ≠ mb) (hwo : wb.heap.size ≤ bo) (hwm : wb.heap.size ≤ mb) {S : Nat} (hBS : B ≤ S) (hSW : S ≤ W.heap.size) (hMl : ∀ q, M q → q < S)
    (k6 : Kb (fun q => q = mb ∨ S ≤ q) W W6) (m6 : ∃ n, MapK Tryz.prog 3 eI (Value.int .i64) W6 mb n (mI b (pre ++ [x])))
    (c0 : W.cell? ⟨bo, 0, none⟩ = some uo) (hrow : W.ownsRow B 57 3 uo pre.length (stC (rbL b f pre))) (hM : ∀ q, uo.ownBlock = some q → M q)
    {g cap : Nat} (hown : W7.ownsRow B 57 3 (.slice (some ⟨g, 0, none⟩) (pre.length + 1) cap) (pre.length + 1) (stC (rbL b f pre) ++ stV (mvS b f x.2))) (hg : W6.grownBy W7 uo.ownBlock) (hat : uo.ownBlock = some g ∨ g = W6.heap.size) (hlt : g < W7.heap.size) :
    ∃ M' : Nat → Prop, (∀ q, M' q → (M q ∨ S ≤ q) ∧ q < (W7.setCell ⟨bo, 0, none⟩ (.slice (some ⟨g, 0, none⟩) (pre.length + 1) cap)).heap.size) ∧
      Kb (fun q => M q ∨ S ≤ q) W (W7.setCell ⟨bo, 0, none⟩ (.slice (some ⟨g, 0, none⟩) (pre.length + 1) cap)) ∧
      RbI b f wb B bo ba bx mb bv (pre ++ [x]) M' (W7.setCell ⟨bo, 0, none⟩ (.slice (some ⟨g, 0, none⟩) (pre.length + 1) cap)) := by
  have hs67 := hg.size
  have hs06 := k6.size
  have hor : ∀ q, uo.ownBlock = some q → B ≤ q ∧ q < S := fun q hq => ⟨(hrow.lt q hq).1, hMl q (hM q hq)⟩
  have k7 : Kb (fun q => q = mb ∨ (M q ∧ B ≤ q) ∨ S ≤ q) W W7 := (k6.mono (M' := fun q => q = mb ∨ (M q ∧ B ≤ q) ∨ S ≤ q) (fun q _ hq => hq.imp id Or.inr)).trans (Kb.grown (M := fun q => q = mb ∨ (M q ∧ B ≤ q) ∨ S ≤ q) hg (fun q hq => Or.inl (Or.inr (Or.inl ⟨hM q hq, (hrow.lt q hq).1⟩)))) (fun q hq => Or.inl hq)
  have kf : Kb (fun q => q = bo ∨ q = mb ∨ (M q ∧ B ≤ q) ∨ S ≤ q) W (W7.setCell ⟨bo, 0, none⟩ (.slice (some ⟨g, 0, none⟩) (pre.length + 1) cap)) :=
    (k7.mono (M' := fun q => q = bo ∨ q = mb ∨ (M q ∧ B ≤ q) ∨ S ≤ q) (fun q _ hq => Or.inr hq)).trans (Kb.setCell (M := fun q => q = bo) _ rfl) (fun q hq => Or.inl (Or.inl hq))
  have hbol : bo < W.heap.size := by omega
  have e0 : W7.heap[bo]? = W.heap[bo]? := k7.same _ hbol (fun h => by omega)
  have c7 : W7.cell? ⟨bo, 0, none⟩ = some uo := cell_same c0 e0
  obtain ⟨-, a4, a5, a6, -, a8, a9⟩ := h
  have hsz : (W7.setCell ⟨bo, 0, none⟩ (.slice (some ⟨g, 0, none⟩) (pre.length + 1) cap)).heap.size = W7.heap.size := by simp [World.setCell]
  have hlen : (pre ++ [x]).length = pre.length + 1 := by rw [List.length_append]; rfl
  have hgB := hown.lt g rfl
  obtain ⟨n6, m6⟩ := m6
  have m7 : MapK Tryz.prog 3 eI (Value.int .i64) (W7.setCell ⟨bo, 0, none⟩ (.slice (some ⟨g, 0, none⟩) (pre.length + 1) cap)) mb n6 (mI b (pre ++ [x])) :=
    m6.of_block ((Below.heap_setCell _ _ _ _ (fun e => d1 e.symm)).trans (hg.block mb m6.lt (fun e => by have := (hor mb e.symm).1; omega)))
  refine ⟨fun q => M q ∨ (S ≤ q ∧ q < W7.heap.size), fun q hq => ?_, kf.mono fun q _ hq => ?_, ⟨⟨_, World.cell?_setCell_same' _ _ _ (by rw [c7]; rfl), ?_, fun q hq => ?_⟩, (World.frozen?_setCell _ _ _ _).trans ((World.frozen?_of_block e0).trans a4),
    cell_same a5 (kf.same _ (World.block_lt_of_cell? _ _ a5) (fun h => by have h' : ba = bo ∨ ba = mb ∨ (M ba ∧ B ≤ ba) ∨ S ≤ ba := h; omega)), cell_same a6 (kf.same _ (World.block_lt_of_cell? _ _ a6) (fun h => by have h' : bx = bo ∨ bx = mb ∨ (M bx ∧ B ≤ bx) ∨ S ≤ bx := h; omega)), ⟨n6, m7⟩,
    a8.trans ⟨kf.os, kf.tape, kf.output, kf.size, fun q hq => kf.same q (Nat.lt_of_lt_of_le hq a8.size) (fun h => by omega)⟩, ⟨Or.inl a9.1, Or.inl a9.2⟩⟩⟩
  · rw [hsz]
    rcases hq with hq | hq
    · exact ⟨Or.inl hq, by have := hMl q hq; omega⟩
    · exact ⟨Or.inr hq.1, hq.2⟩
  · rcases hq with rfl | rfl | hq | hq
    · exact Or.inl a9.1
    · exact Or.inl a9.2
    · exact Or.inl hq.1
    · exact Or.inr hq
  · rw [hlen, rbL_snoc, stC_snoc]
    refine ownsRow_frm hown fun q hq => Below.heap_setCell _ _ _ _ (fun e => ?_)
    have h8 : q = bo := e
    have := (hown.lt q hq).1
    omega
  · have h9 : g = q := by simpa [Value.ownBlock] using hq
    subst h9
    rcases hat with h | h
    · exact Or.inl (hM g h)
    · exact Or.inr ⟨by omega, hlt⟩
end Go.Proofs.YtmpjaakkjhmpmaaGreatDoor
