/-
  WHAT IT HOLDS: contracts of strings.Compare, of byName of package blame, of slices.SortFunc and slices.IsSortedFunc at entries with it. Conditions: the arguments read as data.
  WHAT IT HOLDS: contracts of slices.IsSortedFunc at entries, of Edition and Sorted of package blame. Conditions: the arguments read as data; small signs, small libraries.
  WHAT IT HOLDS: how a row of entries of the call's own turns where an entry is set or taken out; the contract of slices.Delete at entries, one taken out. Conditions: the row is the call's own.
  WHAT IT HOLDS: how a list of changes of the call's own lies while it grows; boxes whose cells are told by a list. No program's walk in sight.
  WHAT IT HOLDS: contract of the iterator that staying of package short hands back: the steps that stay, with their indexes. Conditions: the steps read as data; the function says which stay, and only reads.
  WHAT IT HOLDS: what rebuilt of package short holds between its rounds: the steps so far in a row of its own, and a map of their places. No program's walk in sight.
-/
import Derived.Lib.Strings
import Derived.Lib.Bytealg
import Derived.Deep.RegionLaw
import Derived.Lib.SliceRun
import Derived.Test.YtmpjaakkjhmpmaaGreatDoorZRShortTimes33
import Derived.Test.YtmpjaakkjhmpmaaGreatDoorZRShortTimes37
import Derived.Test.YtmpjaakkjhmpmaaGreatDoorZRShortTimes14
import Derived.Test.YtmpjaakkjhmpmaaGreatDoorZRShortTimes15
import Derived.Test.YtmpjaakkjhmpmaaGreatDoorZRShortTimes34
import Derived.Test.YtmpjaakkjhmpmaaGreatDoorZRShortTimes27
import Derived.Test.YtmpjaakkjhmpmaaGreatDoorZRShortTimes13
namespace Go.Proofs.YtmpjaakkjhmpmaaGreatDoor
open Go Go.RowKit Go.Maps
abbrev EV := En × V3
instance : Inhabited EV := ⟨(en0, (.slice none 0 0, .slice none 0 0, .slice none 0 0))⟩
end Go.Proofs.YtmpjaakkjhmpmaaGreatDoor
namespace Go.Proofs.YtmpjaakkjhmpmaaGreatDoor
open Go Go.RowKit Go.Maps
end Go.Proofs.YtmpjaakkjhmpmaaGreatDoor
namespace Go.Proofs.YtmpjaakkjhmpmaaGreatDoor
open Go Go.RowKit Go.Maps
end Go.Proofs.YtmpjaakkjhmpmaaGreatDoor
namespace Go.Proofs.YtmpjaakkjhmpmaaGreatDoor
open Go Go.RowKit Go.Maps
/-- a box that holds a list of values. -/
structure BX (w : World) (b : Nat) (xs : List Value) : Prop where
  c : ∀ (j : Nat) (h : j < xs.length), w.cell? ⟨b, j, none⟩ = some xs[j]
  z : ∀ j, w.frozen? ⟨b, j, none⟩ = false
theorem BX.new (w : World) (xs : List Value) (t : TypeId) : BX (w.alloc (.cells xs.toArray t)) w.heap.size xs := by
  refine ⟨fun j h => ?_, fun j => ?_⟩
  · rw [World.cell?_alloc_new]; simp [h]
  · unfold World.frozen? World.alloc
    simp
theorem BX.block {w w' : World} {b : Nat} {xs : List Value} (h : BX w b xs) (hb : w'.heap[b]? = w.heap[b]?) : BX w' b xs :=
  ⟨fun j hj => (World.cell?_of_block hb).trans (h.c j hj), fun j => by
    have := h.z j
    unfold World.frozen? at this ⊢
    rw [hb]; exact this⟩
theorem BX.lt {w : World} {b : Nat} {xs : List Value} (h : BX w b xs) (h0 : 0 < xs.length) : b < w.heap.size := World.block_lt_of_cell? _ _ (h.c 0 h0)
theorem BX.below {w w' : World} {b : Nat} {xs : List Value} (h : BX w b xs) (h0 : 0 < xs.length) (hb : Below w.heap.size w w') : BX w' b xs := h.block (hb.block b (h.lt h0))
theorem BX.set {w : World} {b : Nat} {xs : List Value} (h : BX w b xs) {k : Nat} (hk : k < xs.length) (y : Value) : BX (w.setCell ⟨b, k, none⟩ y) b (xs.set k y) := by
  have hin := World.cell?_setCells_in b [y] k w (by
    intro j hj
    match j, hj with
    | 0, _ => show (w.cell? ⟨b, k, none⟩).isSome = true; rw [h.c k hk]; rfl)
  have hout := fun (o : Nat) (ho : o ≠ k) => World.cell?_setCells_out b [y] k w ⟨b, o, none⟩ (fun _ _ => by simp; omega)
  have hf := fun j => World.frozen?_setCells b [y] k w ⟨b, j, none⟩
  refine ⟨fun j hj => ?_, fun j => (hf j).trans (h.z j)⟩
  rw [List.length_set] at hj
  by_cases e : j = k
  · subst e
    rw [List.getElem_set_self]
    exact hin 0 (by simp)
  · rw [List.getElem_set_ne (by omega)]
    exact (hout j e).trans (h.c j hj)
end Go.Proofs.YtmpjaakkjhmpmaaGreatDoor
namespace Go.Proofs.YtmpjaakkjhmpmaaGreatDoor
open Go Go.RowKit Go.Maps Go.Shelf
attribute [local go_sem] Oper.semAt_some
/-- a step with its index. -/
abbrev SE := Nat × St
def seX (x : SE) : Array Value := #[.int .i64 x.1, .agg #[.int .i64 x.2.1, .int .i64 x.2.2.1, .int .i64 x.2.2.2]]
def stayL (p : List St) (b : List Bool) : Nat → List SE
  | 0 => []
  | k + 1 => stayL p b k ++ (if stB b k = true then [(k, p.getD k st0)] else [])
def seE (p : List St) (b : List Bool) (pre : List SE) (x : SE) (_ : Nat → Prop) (_ : World) : Prop := x.1 < p.length ∧ stB b x.1 = true ∧ x.2 = p.getD x.1 st0 ∧ pre = stayL p b x.1
/-- a function value that says which steps stay. -/
def StayC (fs : Nat) (lbs : Array Value) (n : Nat) (b : List Bool) (wb : World) : Prop := ∀ X, Below wb.heap.size wb X → ∀ i : Nat, i < n → Calls Tryz.prog fs (#[.int .i64 i] ++ lbs) X fun e X' => e = .returned (.bool (stB b i)) ∧ X = X'
set_option maxHeartbeats 4000000 in
set_option maxRecDepth 100000 in
theorem staying_seq (bp bs fs : Nat) (lbs : Array Value) (v : Value) (p : List St) (b : List Bool) (wb w0 : World) (hv : StepsAt wb v p) (hst : StayC fs lbs p.length b wb) (heg : ∀ args (X : World), (callFunc fs args).run Tryz.prog X = .ok (.enter fs args) X) (hb : Below wb.heap.size wb w0) (hc : w0.cell? ⟨bp, 0, none⟩ = some v) (hd : w0.cell? ⟨bs, 0, none⟩ = some (.func (.func fs) #[] lbs)) :
    SeqG Tryz.prog 179 #[.pointer (some ⟨bp, 0, none⟩), .pointer (some ⟨bs, 0, none⟩)] seX (seE p b) (fun xs => xs = stayL p b p.length) (fun k => k < wb.heap.size ∨ k = bp ∨ k = bs) w0 := fun l' J Jx M0 W hW hM0 hJ hJx hY h0 => by
  have c1 := (hW.cell (World.block_lt_of_cell? _ _ hc)).trans hc
  have c2 := (hW.cell (World.block_lt_of_cell? _ _ hd)).trans hd
  have hbW := hb.trans (hW.mono hb.size)
  refine callsIn_of_wp Tryz.func179 rfl trivial ?_ rfl
  simp only [Tryz.ntmps179, List.size_toArray, List.length_cons, List.length_nil, Nat.reduceAdd, Nat.reduceSub, Array.replicate_succ, Array.replicate_zero, List.push_toArray, List.append_toArray, List.nil_append, List.cons_append]
  have HJ := hid hJ
  have HY := hid hY
  have HSTC := hid hst
  clear hJ hJx hY hst
  obtain ⟨pa, pc, rfl, -, ll, -, HC⟩ := hv.open
  have HC' := hid HC
  have HST : Hid (J [] M0 W ∧ (∀ q, M0 q → wb.heap.size ≤ q ∧ q ≠ bp ∧ q ≠ bs ∧ q < W.heap.size) ∧ Below wb.heap.size wb W ∧ W.cell? ⟨bp, 0, none⟩ = some (.slice pa p.length pc) ∧ W.cell? ⟨bs, 0, none⟩ = some (.func (.func fs) #[] lbs)) :=
    hid ⟨h0, fun q hq => by
      have := hM0 q hq
      exact ⟨by have h := this.1; omega, fun h => this.1 (Or.inr (Or.inl h)), fun h => this.1 (Or.inr (Or.inr h)), this.2⟩, hbW, c1, c2⟩
  clear HC hv h0 hM0 hW hb hc hd hbW
  gi_wp2
  clear c1 c2
  gi_loopw [8] (fun kv wr => ∃ (k : Nat) (M : Nat → Prop), k ≤ p.length ∧ kv = .int .i64 k ∧ (J (stayL p b k) M wr ∧ (∀ q, M q → wb.heap.size ≤ q ∧ q ≠ bp ∧ q ≠ bs ∧ q < wr.heap.size) ∧ Below wb.heap.size wb wr ∧ wr.cell? ⟨bp, 0, none⟩ = some (.slice pa p.length pc) ∧ wr.cell? ⟨bs, 0, none⟩ = some (.func (.func fs) #[] lbs))) (fun kv _ => p.length - (intOf kv).toNat)
  case atStart => exact ⟨0, M0, by omega, rfl, HST.out⟩
  case round =>
    clear HST
    obtain ⟨k, M, hk, rfl, hJ1, hM1, hbr, cx, cy⟩ := hrel
    have hsz := hbr.size
    have hbl := World.block_lt_of_cell? _ _ cx
    have hbl2 := World.block_lt_of_cell? _ _ cy
    by_cases hlt : k < p.length
    case neg =>
      have hkl : k = p.length := by omega
      subst hkl
      have HJ1 := hid hJ1
      clear hJ1
      gi_wp2
      go_end0
      exact ⟨⟨_, rfl⟩, .inl ⟨M, HJ1.out⟩⟩
    obtain ⟨xb, xo, rfl, y0, y1, y2⟩ := HC'.out k hlt
    have x0 := (hbr.cell (World.block_lt_of_cell? _ _ y0)).trans y0
    have x1 := (hbr.cell (World.block_lt_of_cell? _ _ y1)).trans y1
    have x2 := (hbr.cell (World.block_lt_of_cell? _ _ y2)).trans y2
    have eg : p.getD k st0 = p[k] := by rw [List.getD_eq_getElem?_getD, List.getElem?_eq_getElem hlt]; rfl
    have HNX : Hid (stayL p b (k + 1) = stayL p b k ++ (if stB b k = true then [(k, p[k])] else [])) := hid (by rw [stayL, eg])
    have HEG := hid eg
    obtain ⟨x, hx⟩ : ∃ x, p[k] = x := ⟨_, rfl⟩
    rw [hx] at x0 x1 x2 HNX HEG
    have hBX := BX.new wr [.int .i64 x.1, .int .i64 x.2.1, .int .i64 x.2.2] 57
    obtain ⟨wa, hwa⟩ : ∃ wa, wr.alloc (.cells #[.int .i64 x.1, .int .i64 x.2.1, .int .i64 x.2.2] 57) = wa := ⟨_, rfl⟩
    have hwa' : wr.alloc (.cells ([.int .i64 x.1, .int .i64 x.2.1, .int .i64 x.2.2] : List Value).toArray 57) = wa := hwa
    rw [hwa'] at hBX
    have hba : Below wr.heap.size wr wa := hwa ▸ (Below.refl _ _).alloc (Nat.le_refl _) _
    have hsa : wr.heap.size < wa.heap.size := by rw [← hwa]; simp
    have b0 : wa.cell? ⟨wr.heap.size, 0, none⟩ = some (.int .i64 x.1) := hBX.c 0 (by simp)
    have b1 : wa.cell? ⟨wr.heap.size, 1, none⟩ = some (.int .i64 x.2.1) := hBX.c 1 (by simp)
    have b2 : wa.cell? ⟨wr.heap.size, 2, none⟩ = some (.int .i64 x.2.2) := hBX.c 2 (by simp)
    have cya := (hba.cell hbl2).trans cy
    have HCXA := hid ((hba.cell hbl).trans cx)
    have HCYA := hid cya
    have HBA := hid (hbr.trans (hba.mono hsz))
    have HJA := hid (HJ.out _ _ _ _ hJ1 hba)
    have HMA := hid (fun q (hq : M q) => (show wb.heap.size ≤ q ∧ q ≠ bp ∧ q ≠ bs ∧ q < wr.heap.size from hM1 q hq))
    have HL := hid (show bp < wr.heap.size ∧ bs < wr.heap.size from ⟨hbl, hbl2⟩)
    have HSA := hid hsa
    have HCALL := hid (HSTC.out wa (hbr.trans (hba.mono hsz)) k hlt)
    have HWA := hid hwa
    clear hx hwa hwa' hBX hba hsa hJ1 hM1 hbr cy hbl hbl2 y0 y1 y2 eg hsz
    gi_wp2_with (rw [HWA.out])
    refine ⟨trivial, (callsIn_wide.2 HCALL.out).mono ?_⟩
    rintro e w2 ⟨rfl, rfl⟩
    cases hs : stB b k
    · have HN2 : Hid (stayL p b (k + 1) = stayL p b k) := hid (by rw [HNX.out, hs]; simp)
      clear hs HCALL HY cya
      gi_wp2
      refine ⟨fun f h => (by cases h), ?_⟩
      gi_wp2
      go_roundw
      case rel => exact ⟨k + 1, M, by omega, by go_num, by rw [HN2.out]; exact ⟨HJA.out, fun q hq => by have h1 := HMA.out q hq; have h2 := HSA.out; exact ⟨h1.1, h1.2.1, h1.2.2.1, by omega⟩, HBA.out, HCXA.out, HCYA.out⟩⟩
      case measure => simp [intOf]; omega
    have HN2 : Hid (stayL p b (k + 1) = stayL p b k ++ [(k, x)]) := hid (by rw [HNX.out, hs]; simp)
    obtain ⟨fn, tmps, assign, body, hy, hR⟩ := HY.out (stayL p b k) (k, x) M wa HJA.out ⟨hlt, hs, HEG.out.symm, rfl⟩
    dsimp only [seX] at hy
    have HRR := hid hR
    clear hs HCALL cya hR
    gi_wp2
    refine HRR.out.mono ?_
    rintro e W3 ⟨M3, hM3, hM3b, hkb, ⟨rfl, hJ3⟩ | ⟨rfl, hJx3⟩⟩
    · have hbb3 : Below wb.heap.size wb W3 := HBA.out.trans (hkb.below HBA.out.size (fun q hq => (HMA.out q hq).1))
      have hsa := HSA.out
      have hl := HL.out
      have hba := HBA.out.size
      have HST3 : Hid (J (stayL p b (k + 1)) M3 W3 ∧ (∀ q, M3 q → wb.heap.size ≤ q ∧ q ≠ bp ∧ q ≠ bs ∧ q < W3.heap.size) ∧ Below wb.heap.size wb W3 ∧ W3.cell? ⟨bp, 0, none⟩ = some (.slice (some ⟨xb, xo, none⟩) p.length pc) ∧ W3.cell? ⟨bs, 0, none⟩ = some (.func (.func fs) #[] lbs)) := by
        refine hid ⟨by rw [HN2.out]; exact hJ3, fun q hq => ?_, hbb3, (World.cell?_of_block (hkb.same bp (by omega) (fun h => (HMA.out _ h).2.1 rfl))).trans HCXA.out, (World.cell?_of_block (hkb.same bs (by omega) (fun h => (HMA.out _ h).2.2.1 rfl))).trans HCYA.out⟩
        have hqb := hM3b q hq
        rcases hM3 q hq with h1 | h1
        · have := HMA.out q h1
          exact ⟨this.1, this.2.1, this.2.2.1, hqb⟩
        · exact ⟨by omega, by omega, by omega, hqb⟩
      clear hJ3 hM3 hM3b hkb hbb3 hsa hl hba
      gi_wp2
      go_roundw
      case rel => exact ⟨k + 1, M3, by omega, by go_num, HST3.out⟩
      case measure => simp [intOf]; omega
    · gi_wp2
      refine bodyPost_ret (results_none rfl _ _ _) rfl ?_
      exact ⟨⟨_, rfl⟩, .inr ⟨_, M3, hJx3⟩⟩
theorem short_staying (a : Option Addr) (n c fs : Nat) (lbs : Array Value) (w : World) :
    Calls Tryz.prog 145 #[.slice a n c, .func (.func fs) #[] lbs] w fun e w' => e = .returned (.func (.func 179) #[] #[.pointer (some ⟨w.heap.size, 0, none⟩), .pointer (some ⟨w.heap.size + 1, 0, none⟩)]) ∧ (w.alloc (.cells #[.slice a n c] 25)).alloc (.cells #[.func (.func fs) #[] lbs] 90) = w' := by
  go_enter Tryz.func145, Tryz.ntmps145
  go_wp2
  go_ret
  exact ⟨rfl, rfl⟩
end Go.Proofs.YtmpjaakkjhmpmaaGreatDoor
namespace Go.Proofs.YtmpjaakkjhmpmaaGreatDoor
open Go Go.RowKit Go.Maps
def mI (b : List Bool) (pre : List SE) (j : Int) : Option Int := if j ∈ pre.map (fun y => (y.1 : Int)) then some (posS b j.toNat : Int) else none
def rbL (b : List Bool) (f : Nat → Nat) (pre : List SE) : List St := pre.map fun y => mvS b f y.2
theorem rbL_snoc (b : List Bool) (f : Nat → Nat) (pre : List SE) (x : SE) : rbL b f (pre ++ [x]) = rbL b f pre ++ [mvS b f x.2] := by unfold rbL; simp
theorem rbL_stay (p : List St) (b : List Bool) (f : Nat → Nat) : ∀ k, rbL b f (stayL p b k) = rebL p b f k
  | 0 => rfl
  | k + 1 => by
    rw [stayL, rebL]
    split
    · rw [rbL_snoc, rbL_stay p b f k]
    · rw [List.append_nil, List.append_nil, rbL_stay p b f k]
theorem stayL_len (p : List St) (b : List Bool) : ∀ k, (stayL p b k).length = posS b k
  | 0 => rfl
  | k + 1 => by
    rw [stayL, posS, List.length_append, stayL_len p b k]
    split <;> simp
theorem stayL_mem (p : List St) (b : List Bool) (j : Nat) : ∀ k, (j : Int) ∈ (stayL p b k).map (fun y => (y.1 : Int)) ↔ j < k ∧ stB b j = true
  | 0 => by simp [stayL]
  | k + 1 => by
    rw [stayL, List.map_append, List.mem_append, stayL_mem p b j k]
    by_cases hs : stB b k = true
    · rw [if_pos hs]
      simp only [List.map_cons, List.map_nil, List.mem_singleton]
      constructor
      · rintro (⟨h1, h2⟩ | h)
        · exact ⟨by omega, h2⟩
        · have e : j = k := by omega
          subst e; exact ⟨by omega, hs⟩
      · rintro ⟨h1, h2⟩
        by_cases e : j = k
        · exact Or.inr (by omega)
        · exact Or.inl ⟨by omega, h2⟩
    · rw [if_neg hs]
      simp only [List.map_nil, List.not_mem_nil, or_false]
      constructor
      · rintro ⟨h1, h2⟩; exact ⟨by omega, h2⟩
      · rintro ⟨h1, h2⟩
        refine ⟨?_, h2⟩
        by_cases e : j = k
        · subst e; exact absurd h2 hs
        · omega
theorem mI_snoc (b : List Bool) (pre : List SE) (x : SE) : (fun y => if y = (x.1 : Int) then some (posS b x.1 : Int) else mI b pre y) = mI b (pre ++ [x]) := by
  funext y
  unfold mI
  by_cases e : y = (x.1 : Int)
  · subst e; simp
  · have h : y ∈ (pre ++ [x]).map (fun y => (y.1 : Int)) ↔ y ∈ pre.map (fun y => (y.1 : Int)) := by
      rw [List.map_append, List.mem_append]
      simp only [List.map_cons, List.map_nil, List.mem_singleton, e, or_false]
    rw [if_neg e]
    by_cases hy : y ∈ pre.map (fun y => (y.1 : Int))
    · rw [if_pos hy, if_pos (h.2 hy)]
    · rw [if_neg hy, if_neg (fun hh => hy (h.1 hh))]
theorem mI_stay {p : List St} {b : List Bool} {k j : Nat} (h : j < k) (hs : stB b j = true) : mI b (stayL p b k) (j : Int) = some (posS b j : Int) := by
  unfold mI
  rw [if_pos ((stayL_mem p b j k).2 ⟨h, hs⟩), Int.toNat_natCast]
theorem stC_snoc (l : List St) (x : St) : stC (l ++ [x]) = stC l ++ stV x := by unfold stC; simp
structure RbI (b : List Bool) (f : Nat → Nat) (wb : World) (B bo ba bx mb : Nat) (bv : Value) (pre : List SE) (M : Nat → Prop) (W : World) : Prop where
  out : ∃ uo, W.cell? ⟨bo, 0, none⟩ = some uo ∧ W.ownsRow B 57 3 uo pre.length (stC (rbL b f pre)) ∧ ∀ q, uo.ownBlock = some q → M q
  fo : W.frozen? ⟨bo, 0, none⟩ = false
  ca : W.cell? ⟨ba, 0, none⟩ = some (.map (some mb))
  cx : W.cell? ⟨bx, 0, none⟩ = some bv
  mp : ∃ n, MapK Tryz.prog 3 eI (Value.int .i64) W mb n (mI b pre)
  bel : Below wb.heap.size wb W
  mm : M bo ∧ M mb
theorem RbI.kb {b : List Bool} {f : Nat → Nat} {wb : World} {B bo ba bx mb : Nat} {bv : Value} {pre : List SE} {M T : Nat → Prop} {W W' : World} (h : RbI b f wb B bo ba bx mb bv pre M W) (hk : Kb T W W') (ho : ¬ T bo) (ha : ¬ T ba) (hx : ¬ T bx) (hm : ¬ T mb) (hr : ∀ q, M q → B ≤ q → ¬ T q) (hw : ∀ q, q < wb.heap.size → ¬ T q) : RbI b f wb B bo ba bx mb bv pre M W' := by
  obtain ⟨⟨uo, a1, a2, a3⟩, a4, a5, a6, ⟨n, a7⟩, a8, a9⟩ := h
  have e1 := hk.same _ (World.block_lt_of_cell? _ _ a1) ho
  exact ⟨⟨uo, cell_same a1 e1, ownsRow_frm a2 (fun q hq => hk.same q (a2.lt q hq).2 (hr q (a3 q hq) (a2.lt q hq).1)), a3⟩, (World.frozen?_of_block e1).trans a4, cell_same a5 (hk.same _ (World.block_lt_of_cell? _ _ a5) ha), cell_same a6 (hk.same _ (World.block_lt_of_cell? _ _ a6) hx),
    ⟨n, a7.of_block (hk.same _ a7.lt hm)⟩, a8.trans ⟨hk.os, hk.tape, hk.output, hk.size, fun q hq => hk.same q (Nat.lt_of_lt_of_le hq a8.size) (hw q hq)⟩, a9⟩
theorem RbI.grw {b : List Bool} {f : Nat → Nat} {wb : World} {B bo ba bx mb : Nat} {bv : Value} (hB : wb.heap.size ≤ B) (h1 : bo < B) (h2 : ba < B) (h3 : bx < B) (h4 : mb < B) (pre : List SE) : Grw B (RbI b f wb B bo ba bx mb bv pre) where
  grow := fun M W W' h hb => h.kb (T := fun _ => False) (Kb.of_below hb) (fun h => h) (fun h => h) (fun h => h) (fun h => h) (fun _ _ _ h => h) (fun _ _ h => h)
  turn := fun M W o o' _ _ h hm => h.kb (T := fun q => q = B + 1) (Kb.put (M := fun q => q = B + 1) _ rfl) (fun h => by omega) (fun h => by omega) (fun h => by omega) (fun h => by omega) (fun q hq _ h => hm (h ▸ hq)) (fun q hq h => by omega)
theorem RbI.push {b : List Bool} {f : Nat → Nat} {wb : World} {B bo ba bx mb : Nat} {bv : Value} {pre : List SE} {M : Nat → Prop} {W W6 W7 : World} {uo : Value} (h : RbI b f wb B bo ba bx mb bv pre M W) {x : SE}
    (hB : wb.heap.size ≤ B) (h1 : bo < B) (h2 : ba < B) (h3 : bx < B) (h4 : mb < B) (d1 : bo ≠ mb) (d2 : ba ≠ bo) (d3 : ba ≠ mb) (d4 : bx ≠ bo) (d5 : bx ≠ mb) (hwo : wb.heap.size ≤ bo) (hwm : wb.heap.size ≤ mb) {S : Nat} (hBS : B ≤ S) (hSW : S ≤ W.heap.size) (hMl : ∀ q, M q → q < S)
    (k6 : Kb (fun q => q = mb ∨ S ≤ q) W W6) (m6 : ∃ n, MapK Tryz.prog 3 eI (Value.int .i64) W6 mb n (mI b (pre ++ [x])))
    (c0 : W.cell? ⟨bo, 0, none⟩ = some uo) (hrow : W.ownsRow B 57 3 uo pre.length (stC (rbL b f pre))) (hM : ∀ q, uo.ownBlock = some q → M q)
    {g cap : Nat} (hown : W7.ownsRow B 57 3 (.slice (some ⟨g, 0, none⟩) (pre.length + 1) cap) (pre.length + 1) (stC (rbL b f pre) ++ stV (mvS b f x.2))) (hg : W6.grownBy W7 uo.ownBlock) (hat : uo.ownBlock = some g ∨ g = W6.heap.size) (hlt : g < W7.heap.size) :
    ∃ M' : Nat → Prop, (∀ q, M' q → (M q ∨ S ≤ q) ∧ q < (W7.setCell ⟨bo, 0, none⟩ (.slice (some ⟨g, 0, none⟩) (pre.length + 1) cap)).heap.size) ∧
      Kb (fun q => M q ∨ S ≤ q) W (W7.setCell ⟨bo, 0, none⟩ (.slice (some ⟨g, 0, none⟩) (pre.length + 1) cap)) ∧
      RbI b f wb B bo ba bx mb bv (pre ++ [x]) M' (W7.setCell ⟨bo, 0, none⟩ (.slice (some ⟨g, 0, none⟩) (pre.length + 1) cap)) := by
  have hs67 := hg.size
  have hs06 := k6.size
  have hor : ∀ q, uo.ownBlock = some q → B ≤ q ∧ q < S := fun q hq => ⟨(hrow.lt q hq).1, hMl q (hM q hq)⟩
  have k7 : Kb (fun q => q = mb ∨ (M q ∧ B ≤ q) ∨ S ≤ q) W W7 := (k6.mono (M' := fun q => q = mb ∨ (M q ∧ B ≤ q) ∨ S ≤ q) (fun q _ hq => hq.imp id Or.inr)).trans (Kb.grown (M := fun q => q = mb ∨ (M q ∧ B ≤ q) ∨ S ≤ q) hg (fun q hq => Or.inl (Or.inr (Or.inl ⟨hM q hq, (hrow.lt q hq).1⟩)))) (fun q hq => Or.inl hq)
  have kf : Kb (fun q => q = bo ∨ q = mb ∨ (M q ∧ B ≤ q) ∨ S ≤ q) W (W7.setCell ⟨bo, 0, none⟩ (.slice (some ⟨g, 0, none⟩) (pre.length + 1) cap)) :=
    (k7.mono (M' := fun q => q = bo ∨ q = mb ∨ (M q ∧ B ≤ q) ∨ S ≤ q) (fun q _ hq => Or.inr hq)).trans (Kb.setCell (M := fun q => q = bo) _ rfl) (fun q hq => Or.inl (Or.inl hq))
  have hbol : bo < W.heap.size := by omega
  have e0 : W7.heap[bo]? = W.heap[bo]? := k7.same _ hbol (fun h => by omega)
  have c7 : W7.cell? ⟨bo, 0, none⟩ = some uo := cell_same c0 e0
  obtain ⟨-, a4, a5, a6, -, a8, a9⟩ := h
  have hsz : (W7.setCell ⟨bo, 0, none⟩ (.slice (some ⟨g, 0, none⟩) (pre.length + 1) cap)).heap.size = W7.heap.size := by simp [World.setCell]
  have hlen : (pre ++ [x]).length = pre.length + 1 := by rw [List.length_append]; rfl
  have hgB := hown.lt g rfl
  obtain ⟨n6, m6⟩ := m6
  have m7 : MapK Tryz.prog 3 eI (Value.int .i64) (W7.setCell ⟨bo, 0, none⟩ (.slice (some ⟨g, 0, none⟩) (pre.length + 1) cap)) mb n6 (mI b (pre ++ [x])) :=
    m6.of_block ((Below.heap_setCell _ _ _ _ (fun e => d1 e.symm)).trans (hg.block mb m6.lt (fun e => by have := (hor mb e.symm).1; omega)))
  refine ⟨fun q => M q ∨ (S ≤ q ∧ q < W7.heap.size), fun q hq => ?_, kf.mono fun q _ hq => ?_, ⟨⟨_, World.cell?_setCell_same' _ _ _ (by rw [c7]; rfl), ?_, fun q hq => ?_⟩, (World.frozen?_setCell _ _ _ _).trans ((World.frozen?_of_block e0).trans a4),
    cell_same a5 (kf.same _ (World.block_lt_of_cell? _ _ a5) (fun h => by have h' : ba = bo ∨ ba = mb ∨ (M ba ∧ B ≤ ba) ∨ S ≤ ba := h; omega)), cell_same a6 (kf.same _ (World.block_lt_of_cell? _ _ a6) (fun h => by have h' : bx = bo ∨ bx = mb ∨ (M bx ∧ B ≤ bx) ∨ S ≤ bx := h; omega)), ⟨n6, m7⟩,
    a8.trans ⟨kf.os, kf.tape, kf.output, kf.size, fun q hq => kf.same q (Nat.lt_of_lt_of_le hq a8.size) (fun h => by omega)⟩, ⟨Or.inl a9.1, Or.inl a9.2⟩⟩⟩
  · rw [hsz]
    rcases hq with hq | hq
    · exact ⟨Or.inl hq, by have := hMl q hq; omega⟩
    · exact ⟨Or.inr hq.1, hq.2⟩
  · rcases hq with rfl | rfl | hq | hq
    · exact Or.inl a9.1
    · exact Or.inl a9.2
    · exact Or.inl hq.1
    · exact Or.inr hq
  · rw [hlen, rbL_snoc, stC_snoc]
    refine ownsRow_frm hown fun q hq => Below.heap_setCell _ _ _ _ (fun e => ?_)
    have h8 : q = bo := e
    have := (hown.lt q hq).1
    omega
  · have h9 : g = q := by simpa [Value.ownBlock] using hq
    subst h9
    rcases hat with h | h
    · exact Or.inl (hM g h)
    · exact Or.inr ⟨by omega, hlt⟩
end Go.Proofs.YtmpjaakkjhmpmaaGreatDoor
