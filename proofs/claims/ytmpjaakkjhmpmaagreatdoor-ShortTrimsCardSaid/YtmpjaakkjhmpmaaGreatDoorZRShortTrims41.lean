/-
  WHAT IT HOLDS: contracts of strings.Compare, of byName of package blame, of slices.SortFunc and slices.IsSortedFunc at entries with it. Conditions: the arguments read as data.
  WHAT IT HOLDS: contracts of slices.IsSortedFunc at entries, of Edition and Sorted of package blame. Conditions: the arguments read as data; small signs, small libraries.
  WHAT IT HOLDS: how a row of entries of the call's own turns where an entry is set or taken out; the contract of slices.Delete at entries, one taken out. Conditions: the row is the call's own.
  WHAT IT HOLDS: how a list of changes of the call's own lies while it grows; boxes whose cells are told by a list. No program's walk in sight.
  WHAT IT HOLDS: contract of the iterator that staying of package short hands back: the steps that stay, with their indexes. Conditions: the steps read as data; the function says which stay, and only reads.
  WHAT IT HOLDS: what rebuilt of package short holds between its rounds: the steps so far in a row of its own, and a map of their places. No program's walk in sight.
  WHAT IT HOLDS: contract of rebuilt of package short: the steps that stay, moved, and where they stand. Conditions: the steps read as data; the proof is valid; the functions say which steps stay and what they become, and only read; what stays is made of what stays.
  WHAT IT HOLDS: contracts of trimmed and Trimmed of package short. Conditions: the steps read as data.
-/
import Derived.Lib.Strings
import Derived.Lib.Bytealg
import Derived.Deep.RegionLaw
import Derived.Lib.SliceRun
import Derived.Test.YtmpjaakkjhmpmaaGreatDoorZRShortTrims35
import Derived.Test.YtmpjaakkjhmpmaaGreatDoorZRShortTrims39
import Derived.Test.YtmpjaakkjhmpmaaGreatDoorZRShortTrims14
import Derived.Test.YtmpjaakkjhmpmaaGreatDoorZRShortTrims15
import Derived.Test.YtmpjaakkjhmpmaaGreatDoorZRShortTrims36
import Derived.Test.YtmpjaakkjhmpmaaGreatDoorZRShortTrims33
import Derived.Test.YtmpjaakkjhmpmaaGreatDoorZRShortTrims12
import Derived.Test.YtmpjaakkjhmpmaaGreatDoorZRShortTrims40
import Derived.Test.YtmpjaakkjhmpmaaGreatDoorZRShortTrims20
namespace Go.Proofs.YtmpjaakkjhmpmaaGreatDoor
open Go Go.RowKit Go.Maps
abbrev EV := En × V3
instance : Inhabited EV := ⟨(en0, (.slice none 0 0, .slice none 0 0, .slice none 0 0))⟩
end Go.Proofs.YtmpjaakkjhmpmaaGreatDoor
namespace Go.Proofs.YtmpjaakkjhmpmaaGreatDoor
open Go Go.RowKit Go.Maps
end Go.Proofs.YtmpjaakkjhmpmaaGreatDoor
namespace Go.Proofs.YtmpjaakkjhmpmaaGreatDoor
open Go Go.RowKit Go.Maps
end Go.Proofs.YtmpjaakkjhmpmaaGreatDoor
namespace Go.Proofs.YtmpjaakkjhmpmaaGreatDoor
open Go Go.RowKit Go.Maps
/-- a box that holds a list of values. -/
structure BX (w : World) (b : Nat) (xs : List Value) : Prop where
  c : ∀ (j : Nat) (h : j < xs.length), w.cell? ⟨b, j, none⟩ = some xs[j]
  z : ∀ j, w.frozen? ⟨b, j, none⟩ = false
theorem BX.new (w : World) (xs : List Value) (t : TypeId) : BX (w.alloc (.cells xs.toArray t)) w.heap.size xs := by
  refine ⟨fun j h => ?_, fun j => ?_⟩
  · rw [World.cell?_alloc_new]; simp [h]
  · unfold World.frozen? World.alloc
    simp
theorem BX.block {w w' : World} {b : Nat} {xs : List Value} (h : BX w b xs) (hb : w'.heap[b]? = w.heap[b]?) : BX w' b xs :=
  ⟨fun j hj => (World.cell?_of_block hb).trans (h.c j hj), fun j => by
    have := h.z j
    unfold World.frozen? at this ⊢
    rw [hb]; exact this⟩
theorem BX.lt {w : World} {b : Nat} {xs : List Value} (h : BX w b xs) (h0 : 0 < xs.length) : b < w.heap.size := World.block_lt_of_cell? _ _ (h.c 0 h0)
theorem BX.below {w w' : World} {b : Nat} {xs : List Value} (h : BX w b xs) (h0 : 0 < xs.length) (hb : Below w.heap.size w w') : BX w' b xs := h.block (hb.block b (h.lt h0))
theorem BX.set {w : World} {b : Nat} {xs : List Value} (h : BX w b xs) {k : Nat} (hk : k < xs.length) (y : Value) : BX (w.setCell ⟨b, k, none⟩ y) b (xs.set k y) := by
  have hin := World.cell?_setCells_in b [y] k w (by
    intro j hj
    match j, hj with
    | 0, _ => show (w.cell? ⟨b, k, none⟩).isSome = true; rw [h.c k hk]; rfl)
  have hout := fun (o : Nat) (ho : o ≠ k) => World.cell?_setCells_out b [y] k w ⟨b, o, none⟩ (fun _ _ => by simp; omega)
  have hf := fun j => World.frozen?_setCells b [y] k w ⟨b, j, none⟩
  refine ⟨fun j hj => ?_, fun j => (hf j).trans (h.z j)⟩
  rw [List.length_set] at hj
  by_cases e : j = k
  · subst e
    rw [List.getElem_set_self]
    exact hin 0 (by simp)
  · rw [List.getElem_set_ne (by omega)]
    exact (hout j e).trans (h.c j hj)
end Go.Proofs.YtmpjaakkjhmpmaaGreatDoor
namespace Go.Proofs.YtmpjaakkjhmpmaaGreatDoor
open Go Go.RowKit Go.Maps Go.Shelf
attribute [local go_sem] Oper.semAt_some
/-- a step with its index. -/
abbrev SE := Nat × St
def seX (x : SE) : Array Value := #[.int .i64 x.1, .agg #[.int .i64 x.2.1, .int .i64 x.2.2.1, .int .i64 x.2.2.2]]
def stayL (p : List St) (b : List Bool) : Nat → List SE
  | 0 => []
  | k + 1 => stayL p b k ++ (if stB b k = true then [(k, p.getD k st0)] else [])
def seE (p : List St) (b : List Bool) (pre : List SE) (x : SE) (_ : Nat → Prop) (_ : World) : Prop := x.1 < p.length ∧ stB b x.1 = true ∧ x.2 = p.getD x.1 st0 ∧ pre = stayL p b x.1
/-- a function value that says which steps stay. -/
def StayC (fs : Nat) (lbs : Array Value) (n : Nat) (b : List Bool) (wb : World) : Prop := ∀ X, Below wb.heap.size wb X → ∀ i : Nat, i < n → Calls Tryz.prog fs (#[.int .i64 i] ++ lbs) X fun e X' => e = .returned (.bool (stB b i)) ∧ X = X'
set_option maxHeartbeats 4000000 in
set_option maxRecDepth 100000 in
theorem staying_seq (bp bs fs : Nat) (lbs : Array Value) (v : Value) (p : List St) (b : List Bool) (wb w0 : World) (hv : StepsAt wb v p) (hst : StayC fs lbs p.length b wb) (heg : ∀ args (X : World), (callFunc fs args).run Tryz.prog X = .ok (.enter fs args) X) (hb : Below wb.heap.size wb w0) (hc : w0.cell? ⟨bp, 0, none⟩ = some v) (hd : w0.cell? ⟨bs, 0, none⟩ = some (.func (.func fs) #[] lbs)) :
    SeqG Tryz.prog 179 #[.pointer (some ⟨bp, 0, none⟩), .pointer (some ⟨bs, 0, none⟩)] seX (seE p b) (fun xs => xs = stayL p b p.length) (fun k => k < wb.heap.size ∨ k = bp ∨ k = bs) w0 := fun l' J Jx M0 W hW hM0 hJ hJx hY h0 => by
  have c1 := (hW.cell (World.block_lt_of_cell? _ _ hc)).trans hc
  have c2 := (hW.cell (World.block_lt_of_cell? _ _ hd)).trans hd
  have hbW := hb.trans (hW.mono hb.size)
  refine callsIn_of_wp Tryz.func179 rfl trivial ?_ rfl
  simp only [Tryz.ntmps179, List.size_toArray, List.length_cons, List.length_nil, Nat.reduceAdd, Nat.reduceSub, Array.replicate_succ, Array.replicate_zero, List.push_toArray, List.append_toArray, List.nil_append, List.cons_append]
  have HJ := hid hJ
  have HY := hid hY
  have HSTC := hid hst
  clear hJ hJx hY hst
  obtain ⟨pa, pc, rfl, -, ll, -, HC⟩ := hv.open
  have HC' := hid HC
  have HST : Hid (J [] M0 W ∧ (∀ q, M0 q → wb.heap.size ≤ q ∧ q ≠ bp ∧ q ≠ bs ∧ q < W.heap.size) ∧ Below wb.heap.size wb W ∧ W.cell? ⟨bp, 0, none⟩ = some (.slice pa p.length pc) ∧ W.cell? ⟨bs, 0, none⟩ = some (.func (.func fs) #[] lbs)) :=
    hid ⟨h0, fun q hq => by
      have := hM0 q hq
      exact ⟨by have h := this.1; omega, fun h => this.1 (Or.inr (Or.inl h)), fun h => this.1 (Or.inr (Or.inr h)), this.2⟩, hbW, c1, c2⟩
  clear HC hv h0 hM0 hW hb hc hd hbW
  gi_wp2
  clear c1 c2
  gi_loopw [8] (fun kv wr => ∃ (k : Nat) (M : Nat → Prop), k ≤ p.length ∧ kv = .int .i64 k ∧ (J (stayL p b k) M wr ∧ (∀ q, M q → wb.heap.size ≤ q ∧ q ≠ bp ∧ q ≠ bs ∧ q < wr.heap.size) ∧ Below wb.heap.size wb wr ∧ wr.cell? ⟨bp, 0, none⟩ = some (.slice pa p.length pc) ∧ wr.cell? ⟨bs, 0, none⟩ = some (.func (.func fs) #[] lbs))) (fun kv _ => p.length - (intOf kv).toNat)
  case atStart => exact ⟨0, M0, by omega, rfl, HST.out⟩
  case round =>
    clear HST
    obtain ⟨k, M, hk, rfl, hJ1, hM1, hbr, cx, cy⟩ := hrel
    have hsz := hbr.size
    have hbl := World.block_lt_of_cell? _ _ cx
    have hbl2 := World.block_lt_of_cell? _ _ cy
    by_cases hlt : k < p.length
    case neg =>
      have hkl : k = p.length := by omega
      subst hkl
      have HJ1 := hid hJ1
      clear hJ1
      gi_wp2
      go_end0
      exact ⟨⟨_, rfl⟩, .inl ⟨M, HJ1.out⟩⟩
    obtain ⟨xb, xo, rfl, y0, y1, y2⟩ := HC'.out k hlt
    have x0 := (hbr.cell (World.block_lt_of_cell? _ _ y0)).trans y0
    have x1 := (hbr.cell (World.block_lt_of_cell? _ _ y1)).trans y1
    have x2 := (hbr.cell (World.block_lt_of_cell? _ _ y2)).trans y2
    have eg : p.getD k st0 = p[k] := by rw [List.getD_eq_getElem?_getD, List.getElem?_eq_getElem hlt]; rfl
    have HNX : Hid (stayL p b (k + 1) = stayL p b k ++ (if stB b k = true then [(k, p[k])] else [])) := hid (by rw [stayL, eg])
    have HEG := hid eg
    obtain ⟨x, hx⟩ : ∃ x, p[k] = x := ⟨_, rfl⟩
    rw [hx] at x0 x1 x2 HNX HEG
    have hBX := BX.new wr [.int .i64 x.1, .int .i64 x.2.1, .int .i64 x.2.2] 57
    obtain ⟨wa, hwa⟩ : ∃ wa, wr.alloc (.cells #[.int .i64 x.1, .int .i64 x.2.1, .int .i64 x.2.2] 57) = wa := ⟨_, rfl⟩
    have hwa' : wr.alloc (.cells ([.int .i64 x.1, .int .i64 x.2.1, .int .i64 x.2.2] : List Value).toArray 57) = wa := hwa
    rw [hwa'] at hBX
    have hba : Below wr.heap.size wr wa := hwa ▸ (Below.refl _ _).alloc (Nat.le_refl _) _
    have hsa : wr.heap.size < wa.heap.size := by rw [← hwa]; simp
    have b0 : wa.cell? ⟨wr.heap.size, 0, none⟩ = some (.int .i64 x.1) := hBX.c 0 (by simp)
    have b1 : wa.cell? ⟨wr.heap.size, 1, none⟩ = some (.int .i64 x.2.1) := hBX.c 1 (by simp)
    have b2 : wa.cell? ⟨wr.heap.size, 2, none⟩ = some (.int .i64 x.2.2) := hBX.c 2 (by simp)
    have cya := (hba.cell hbl2).trans cy
    have HCXA := hid ((hba.cell hbl).trans cx)
    have HCYA := hid cya
    have HBA := hid (hbr.trans (hba.mono hsz))
    have HJA := hid (HJ.out _ _ _ _ hJ1 hba)
    have HMA := hid (fun q (hq : M q) => (show wb.heap.size ≤ q ∧ q ≠ bp ∧ q ≠ bs ∧ q < wr.heap.size from hM1 q hq))
    have HL := hid (show bp < wr.heap.size ∧ bs < wr.heap.size from ⟨hbl, hbl2⟩)
    have HSA := hid hsa
    have HCALL := hid (HSTC.out wa (hbr.trans (hba.mono hsz)) k hlt)
    have HWA := hid hwa
    clear hx hwa hwa' hBX hba hsa hJ1 hM1 hbr cy hbl hbl2 y0 y1 y2 eg hsz
    gi_wp2_with (rw [HWA.out])
    refine ⟨trivial, (callsIn_wide.2 HCALL.out).mono ?_⟩
    rintro e w2 ⟨rfl, rfl⟩
    cases hs : stB b k
    · have HN2 : Hid (stayL p b (k + 1) = stayL p b k) := hid (by rw [HNX.out, hs]; simp)
      clear hs HCALL HY cya
      gi_wp2
      refine ⟨fun f h => (by cases h), ?_⟩
      gi_wp2
      go_roundw
      case rel => exact ⟨k + 1, M, by omega, by go_num, by rw [HN2.out]; exact ⟨HJA.out, fun q hq => by have h1 := HMA.out q hq; have h2 := HSA.out; exact ⟨h1.1, h1.2.1, h1.2.2.1, by omega⟩, HBA.out, HCXA.out, HCYA.out⟩⟩
      case measure => simp [intOf]; omega
    have HN2 : Hid (stayL p b (k + 1) = stayL p b k ++ [(k, x)]) := hid (by rw [HNX.out, hs]; simp)
    obtain ⟨fn, tmps, assign, body, hy, hR⟩ := HY.out (stayL p b k) (k, x) M wa HJA.out ⟨hlt, hs, HEG.out.symm, rfl⟩
    dsimp only [seX] at hy
    have HRR := hid hR
    clear hs HCALL cya hR
    gi_wp2
    refine HRR.out.mono ?_
    rintro e W3 ⟨M3, hM3, hM3b, hkb, ⟨rfl, hJ3⟩ | ⟨rfl, hJx3⟩⟩
    · have hbb3 : Below wb.heap.size wb W3 := HBA.out.trans (hkb.below HBA.out.size (fun q hq => (HMA.out q hq).1))
      have hsa := HSA.out
      have hl := HL.out
      have hba := HBA.out.size
      have HST3 : Hid (J (stayL p b (k + 1)) M3 W3 ∧ (∀ q, M3 q → wb.heap.size ≤ q ∧ q ≠ bp ∧ q ≠ bs ∧ q < W3.heap.size) ∧ Below wb.heap.size wb W3 ∧ W3.cell? ⟨bp, 0, none⟩ = some (.slice (some ⟨xb, xo, none⟩) p.length pc) ∧ W3.cell? ⟨bs, 0, none⟩ = some (.func (.func fs) #[] lbs)) := by
        refine hid ⟨by rw [HN2.out]; exact hJ3, fun q hq => ?_, hbb3, (World.cell?_of_block (hkb.same bp (by omega) (fun h => (HMA.out _ h).2.1 rfl))).trans HCXA.out, (World.cell?_of_block (hkb.same bs (by omega) (fun h => (HMA.out _ h).2.2.1 rfl))).trans HCYA.out⟩
        have hqb := hM3b q hq
        rcases hM3 q hq with h1 | h1
        · have := HMA.out q h1
          exact ⟨this.1, this.2.1, this.2.2.1, hqb⟩
        · exact ⟨by omega, by omega, by omega, hqb⟩
      clear hJ3 hM3 hM3b hkb hbb3 hsa hl hba
      gi_wp2
      go_roundw
      case rel => exact ⟨k + 1, M3, by omega, by go_num, HST3.out⟩
      case measure => simp [intOf]; omega
    · gi_wp2
      refine bodyPost_ret (results_none rfl _ _ _) rfl ?_
      exact ⟨⟨_, rfl⟩, .inr ⟨_, M3, hJx3⟩⟩
theorem short_staying (a : Option Addr) (n c fs : Nat) (lbs : Array Value) (w : World) :
    Calls Tryz.prog 145 #[.slice a n c, .func (.func fs) #[] lbs] w fun e w' => e = .returned (.func (.func 179) #[] #[.pointer (some ⟨w.heap.size, 0, none⟩), .pointer (some ⟨w.heap.size + 1, 0, none⟩)]) ∧ (w.alloc (.cells #[.slice a n c] 25)).alloc (.cells #[.func (.func fs) #[] lbs] 90) = w' := by
  go_enter Tryz.func145, Tryz.ntmps145
  go_wp2
  go_ret
  exact ⟨rfl, rfl⟩
end Go.Proofs.YtmpjaakkjhmpmaaGreatDoor
namespace Go.Proofs.YtmpjaakkjhmpmaaGreatDoor
open Go Go.RowKit Go.Maps
def mI (b : List Bool) (pre : List SE) (j : Int) : Option Int := if j ∈ pre.map (fun y => (y.1 : Int)) then some (posS b j.toNat : Int) else none
def rbL (b : List Bool) (f : Nat → Nat) (pre : List SE) : List St := pre.map fun y => mvS b f y.2
theorem rbL_snoc (b : List Bool) (f : Nat → Nat) (pre : List SE) (x : SE) : rbL b f (pre ++ [x]) = rbL b f pre ++ [mvS b f x.2] := by unfold rbL; simp
theorem rbL_stay (p : List St) (b : List Bool) (f : Nat → Nat) : ∀ k, rbL b f (stayL p b k) = rebL p b f k
  | 0 => rfl
  | k + 1 => by
    rw [stayL, rebL]
    split
    · rw [rbL_snoc, rbL_stay p b f k]
    · rw [List.append_nil, List.append_nil, rbL_stay p b f k]
theorem stayL_len (p : List St) (b : List Bool) : ∀ k, (stayL p b k).length = posS b k
  | 0 => rfl
  | k + 1 => by
    rw [stayL, posS, List.length_append, stayL_len p b k]
    split <;> simp
theorem stayL_mem (p : List St) (b : List Bool) (j : Nat) : ∀ k, (j : Int) ∈ (stayL p b k).map (fun y => (y.1 : Int)) ↔ j < k ∧ stB b j = true
  | 0 => by simp [stayL]
  | k + 1 => by
    rw [stayL, List.map_append, List.mem_append, stayL_mem p b j k]
    by_cases hs : stB b k = true
    · rw [if_pos hs]
      simp only [List.map_cons, List.map_nil, List.mem_singleton]
      constructor
      · rintro (⟨h1, h2⟩ | h)
        · exact ⟨by omega, h2⟩
        · have e : j = k := by omega
          subst e; exact ⟨by omega, hs⟩
      · rintro ⟨h1, h2⟩
        by_cases e : j = k
        · exact Or.inr (by omega)
        · exact Or.inl ⟨by omega, h2⟩
    · rw [if_neg hs]
      simp only [List.map_nil, List.not_mem_nil, or_false]
      constructor
      · rintro ⟨h1, h2⟩; exact ⟨by omega, h2⟩
      · rintro ⟨h1, h2⟩
        refine ⟨?_, h2⟩
        by_cases e : j = k
        · subst e; exact absurd h2 hs
        · omega
theorem mI_snoc (b : List Bool) (pre : List SE) (x : SE) : (fun y => if y = (x.1 : Int) then some (posS b x.1 : Int) else mI b pre y) = mI b (pre ++ [x]) := by
  funext y
  unfold mI
  by_cases e : y = (x.1 : Int)
  · subst e; simp
  · have h : y ∈ (pre ++ [x]).map (fun y => (y.1 : Int)) ↔ y ∈ pre.map (fun y => (y.1 : Int)) := by
      rw [List.map_append, List.mem_append]
      simp only [List.map_cons, List.map_nil, List.mem_singleton, e, or_false]
    rw [if_neg e]
    by_cases hy : y ∈ pre.map (fun y => (y.1 : Int))
    · rw [if_pos hy, if_pos (h.2 hy)]
    · rw [if_neg hy, if_neg (fun hh => hy (h.1 hh))]
theorem mI_stay {p : List St} {b : List Bool} {k j : Nat} (h : j < k) (hs : stB b j = true) : mI b (stayL p b k) (j : Int) = some (posS b j : Int) := by
  unfold mI
  rw [if_pos ((stayL_mem p b j k).2 ⟨h, hs⟩), Int.toNat_natCast]
theorem stC_snoc (l : List St) (x : St) : stC (l ++ [x]) = stC l ++ stV x := by unfold stC; simp
structure RbI (b : List Bool) (f : Nat → Nat) (wb : World) (B bo ba bx mb : Nat) (bv : Value) (pre : List SE) (M : Nat → Prop) (W : World) : Prop where
  out : ∃ uo, W.cell? ⟨bo, 0, none⟩ = some uo ∧ W.ownsRow B 57 3 uo pre.length (stC (rbL b f pre)) ∧ ∀ q, uo.ownBlock = some q → M q
  fo : W.frozen? ⟨bo, 0, none⟩ = false
  ca : W.cell? ⟨ba, 0, none⟩ = some (.map (some mb))
  cx : W.cell? ⟨bx, 0, none⟩ = some bv
  mp : ∃ n, MapK Tryz.prog 3 eI (Value.int .i64) W mb n (mI b pre)
  bel : Below wb.heap.size wb W
  mm : M bo ∧ M mb
theorem RbI.kb {b : List Bool} {f : Nat → Nat} {wb : World} {B bo ba bx mb : Nat} {bv : Value} {pre : List SE} {M T : Nat → Prop} {W W' : World} (h : RbI b f wb B bo ba bx mb bv pre M W) (hk : Kb T W W') (ho : ¬ T bo) (ha : ¬ T ba) (hx : ¬ T bx) (hm : ¬ T mb) (hr : ∀ q, M q → B ≤ q → ¬ T q) (hw : ∀ q, q < wb.heap.size → ¬ T q) : RbI b f wb B bo ba bx mb bv pre M W' := by
  obtain ⟨⟨uo, a1, a2, a3⟩, a4, a5, a6, ⟨n, a7⟩, a8, a9⟩ := h
  have e1 := hk.same _ (World.block_lt_of_cell? _ _ a1) ho
  exact ⟨⟨uo, cell_same a1 e1, ownsRow_frm a2 (fun q hq => hk.same q (a2.lt q hq).2 (hr q (a3 q hq) (a2.lt q hq).1)), a3⟩, (World.frozen?_of_block e1).trans a4, cell_same a5 (hk.same _ (World.block_lt_of_cell? _ _ a5) ha), cell_same a6 (hk.same _ (World.block_lt_of_cell? _ _ a6) hx),
    ⟨n, a7.of_block (hk.same _ a7.lt hm)⟩, a8.trans ⟨hk.os, hk.tape, hk.output, hk.size, fun q hq => hk.same q (Nat.lt_of_lt_of_le hq a8.size) (hw q hq)⟩, a9⟩
theorem RbI.grw {b : List Bool} {f : Nat → Nat} {wb : World} {B bo ba bx mb : Nat} {bv : Value} (hB : wb.heap.size ≤ B) (h1 : bo < B) (h2 : ba < B) (h3 : bx < B) (h4 : mb < B) (pre : List SE) : Grw B (RbI b f wb B bo ba bx mb bv pre) where
  grow := fun M W W' h hb => h.kb (T := fun _ => False) (Kb.of_below hb) (fun h => h) (fun h => h) (fun h => h) (fun h => h) (fun _ _ _ h => h) (fun _ _ h => h)
  turn := fun M W o o' _ _ h hm => h.kb (T := fun q => q = B + 1) (Kb.put (M := fun q => q = B + 1) _ rfl) (fun h => by omega) (fun h => by omega) (fun h => by omega) (fun h => by omega) (fun q hq _ h => hm (h ▸ hq)) (fun q hq h => by omega)
theorem RbI.push {b : List Bool} {f : Nat → Nat} {wb : World} {B bo ba bx mb : Nat} {bv : Value} {pre : List SE} {M : Nat → Prop} {W W6 W7 : World} {uo : Value} (h : RbI b f wb B bo ba bx mb bv pre M W) {x : SE}
    (hB : wb.heap.size ≤ B) (h1 : bo < B) (h2 : ba < B) (h3 : bx < B) (h4 : mb < B) (d1 : bo ≠ mb) (d2 : ba ≠ bo) (d3 : ba ≠ mb) (d4 : bx ≠ bo) (d5 : bx ≠ mb) (hwo : wb.heap.size ≤ bo) (hwm : wb.heap.size ≤ mb) {S : Nat} (hBS : B ≤ S) (hSW : S ≤ W.heap.size) (hMl : ∀ q, M q → q < S)
    (k6 : Kb (fun q => q = mb ∨ S ≤ q) W W6) (m6 : ∃ n, MapK Tryz.prog 3 eI (Value.int .i64) W6 mb n (mI b (pre ++ [x])))
    (c0 : W.cell? ⟨bo, 0, none⟩ = some uo) (hrow : W.ownsRow B 57 3 uo pre.length (stC (rbL b f pre))) (hM : ∀ q, uo.ownBlock = some q → M q)
    {g cap : Nat} (hown : W7.ownsRow B 57 3 (.slice (some ⟨g, 0, none⟩) (pre.length + 1) cap) (pre.length + 1) (stC (rbL b f pre) ++ stV (mvS b f x.2))) (hg : W6.grownBy W7 uo.ownBlock) (hat : uo.ownBlock = some g ∨ g = W6.heap.size) (hlt : g < W7.heap.size) :
    ∃ M' : Nat → Prop, (∀ q, M' q → (M q ∨ S ≤ q) ∧ q < (W7.setCell ⟨bo, 0, none⟩ (.slice (some ⟨g, 0, none⟩) (pre.length + 1) cap)).heap.size) ∧
      Kb (fun q => M q ∨ S ≤ q) W (W7.setCell ⟨bo, 0, none⟩ (.slice (some ⟨g, 0, none⟩) (pre.length + 1) cap)) ∧
      RbI b f wb B bo ba bx mb bv (pre ++ [x]) M' (W7.setCell ⟨bo, 0, none⟩ (.slice (some ⟨g, 0, none⟩) (pre.length + 1) cap)) := by
  have hs67 := hg.size
  have hs06 := k6.size
  have hor : ∀ q, uo.ownBlock = some q → B ≤ q ∧ q < S := fun q hq => ⟨(hrow.lt q hq).1, hMl q (hM q hq)⟩
  have k7 : Kb (fun q => q = mb ∨ (M q ∧ B ≤ q) ∨ S ≤ q) W W7 := (k6.mono (M' := fun q => q = mb ∨ (M q ∧ B ≤ q) ∨ S ≤ q) (fun q _ hq => hq.imp id Or.inr)).trans (Kb.grown (M := fun q => q = mb ∨ (M q ∧ B ≤ q) ∨ S ≤ q) hg (fun q hq => Or.inl (Or.inr (Or.inl ⟨hM q hq, (hrow.lt q hq).1⟩)))) (fun q hq => Or.inl hq)
  have kf : Kb (fun q => q = bo ∨ q = mb ∨ (M q ∧ B ≤ q) ∨ S ≤ q) W (W7.setCell ⟨bo, 0, none⟩ (.slice (some ⟨g, 0, none⟩) (pre.length + 1) cap)) :=
    (k7.mono (M' := fun q => q = bo ∨ q = mb ∨ (M q ∧ B ≤ q) ∨ S ≤ q) (fun q _ hq => Or.inr hq)).trans (Kb.setCell (M := fun q => q = bo) _ rfl) (fun q hq => Or.inl (Or.inl hq))
  have hbol : bo < W.heap.size := by omega
  have e0 : W7.heap[bo]? = W.heap[bo]? := k7.same _ hbol (fun h => by omega)
  have c7 : W7.cell? ⟨bo, 0, none⟩ = some uo := cell_same c0 e0
  obtain ⟨-, a4, a5, a6, -, a8, a9⟩ := h
  have hsz : (W7.setCell ⟨bo, 0, none⟩ (.slice (some ⟨g, 0, none⟩) (pre.length + 1) cap)).heap.size = W7.heap.size := by simp [World.setCell]
  have hlen : (pre ++ [x]).length = pre.length + 1 := by rw [List.length_append]; rfl
  have hgB := hown.lt g rfl
  obtain ⟨n6, m6⟩ := m6
  have m7 : MapK Tryz.prog 3 eI (Value.int .i64) (W7.setCell ⟨bo, 0, none⟩ (.slice (some ⟨g, 0, none⟩) (pre.length + 1) cap)) mb n6 (mI b (pre ++ [x])) :=
    m6.of_block ((Below.heap_setCell _ _ _ _ (fun e => d1 e.symm)).trans (hg.block mb m6.lt (fun e => by have := (hor mb e.symm).1; omega)))
  refine ⟨fun q => M q ∨ (S ≤ q ∧ q < W7.heap.size), fun q hq => ?_, kf.mono fun q _ hq => ?_, ⟨⟨_, World.cell?_setCell_same' _ _ _ (by rw [c7]; rfl), ?_, fun q hq => ?_⟩, (World.frozen?_setCell _ _ _ _).trans ((World.frozen?_of_block e0).trans a4),
    cell_same a5 (kf.same _ (World.block_lt_of_cell? _ _ a5) (fun h => by have h' : ba = bo ∨ ba = mb ∨ (M ba ∧ B ≤ ba) ∨ S ≤ ba := h; omega)), cell_same a6 (kf.same _ (World.block_lt_of_cell? _ _ a6) (fun h => by have h' : bx = bo ∨ bx = mb ∨ (M bx ∧ B ≤ bx) ∨ S ≤ bx := h; omega)), ⟨n6, m7⟩,
    a8.trans ⟨kf.os, kf.tape, kf.output, kf.size, fun q hq => kf.same q (Nat.lt_of_lt_of_le hq a8.size) (fun h => by omega)⟩, ⟨Or.inl a9.1, Or.inl a9.2⟩⟩⟩
  · rw [hsz]
    rcases hq with hq | hq
    · exact ⟨Or.inl hq, by have := hMl q hq; omega⟩
    · exact ⟨Or.inr hq.1, hq.2⟩
  · rcases hq with rfl | rfl | hq | hq
    · exact Or.inl a9.1
    · exact Or.inl a9.2
    · exact Or.inl hq.1
    · exact Or.inr hq
  · rw [hlen, rbL_snoc, stC_snoc]
    refine ownsRow_frm hown fun q hq => Below.heap_setCell _ _ _ _ (fun e => ?_)
    have h8 : q = bo := e
    have := (hown.lt q hq).1
    omega
  · have h9 : g = q := by simpa [Value.ownBlock] using hq
    subst h9
    rcases hat with h | h
    · exact Or.inl (hM g h)
    · exact Or.inr ⟨by omega, hlt⟩
end Go.Proofs.YtmpjaakkjhmpmaaGreatDoor
namespace Go.Proofs.YtmpjaakkjhmpmaaGreatDoor
open Go Go.RowKit Go.Maps Go.Shelf
attribute [local go_sem] Oper.semAt_some
theorem row_one_st (w : World) (y : St) (t : TypeId) : RowK (w.alloc (.cells #[.int .i64 y.1, .int .i64 y.2.1, .int .i64 y.2.2] t)) (.slice (some ⟨w.heap.size, 0, none⟩) 1 1) 3 1 (stV y) := by
  refine ⟨rfl, _, _, rfl, Nat.le_refl _, by omega, (fun h => by cases h), fun j u hj => ⟨_, _, rfl, ?_⟩⟩
  rw [World.cell?_alloc_new, Nat.zero_add]
  simpa [stV] using hj
/-- a function value that says what a step becomes. -/
def BecC (fb : Nat) (lbb : Array Value) (n : Nat) (f : Nat → Nat) (wb : World) : Prop := ∀ X, Below wb.heap.size wb X → ∀ i : Nat, i < n → Calls Tryz.prog fb (#[.int .i64 i] ++ lbb) X fun e X' => e = .returned (.int .i64 (f i)) ∧ X = X'
def RebQ (p : List St) (b : List Bool) (f : Nat → Nat) (w : World) (e : Ending) (w' : World) : Prop := ∃ u mb n, e = .returned (.tuple #[u, .map (some mb)]) ∧ StepsAt w' u (rebL p b f p.length) ∧ MapK Tryz.prog 3 eI (Value.int .i64) w' mb n (mI b (stayL p b p.length)) ∧ Below w.heap.size w w'
set_option maxHeartbeats 8000000 in
set_option maxRecDepth 100000 in
theorem short_rebuilt (g : Int) (v : Value) (fs fb : Nat) (lbs lbb : Array Value) (p : List St) (b : List Bool) (f : Nat → Nat) (w : World) (hv : StepsAt w v p) (hg : proofB g p = true) (ok : OKR p b f) (hst : StayC fs lbs p.length b w) (hbc : BecC fb lbb p.length f w)
    (heg : ∀ args (X : World), (callFunc fs args).run Tryz.prog X = .ok (.enter fs args) X) (heg2 : ∀ args (X : World), (callFunc fb args).run Tryz.prog X = .ok (.enter fb args) X) :
    Calls Tryz.prog 105 #[v, .func (.func fs) #[] lbs, .func (.func fb) #[] lbb] w fun e w' => RebQ p b f w e w' := by
  have HP := hid hv
  have HG := hid hg
  have HOK := hid ok
  have HSTC := hid hst
  have HBC := hid hbc
  have h60 := proof60 hg
  obtain ⟨pa, pc, rfl, -⟩ := hv.open
  clear hv hg ok hst hbc
  have hmm := @run_makeMap Tryz.prog
  refine calls_marks Tryz.func105 rfl ?_
  simp only [Tryz.ntmps105, List.size_toArray, List.length_cons, List.length_nil, Nat.reduceAdd, Nat.reduceSub, Array.replicate_succ, Array.replicate_zero, List.push_toArray, List.append_toArray, List.nil_append, List.cons_append]
  go_wp2_with (go_at_call 145; refine (short_staying _ _ _ _ _ _).mono ?_; rintro e w4 ⟨rfl, rfl⟩)
  clear hmm
  obtain ⟨A1, hA1⟩ : ∃ A, w.alloc (.cells #[.func (.func fb) #[] lbb] 128) = A := ⟨_, rfl⟩
  have k1 := cell_new1 w (.func (.func fb) #[] lbb) 128
  have z1 : A1.heap.size = w.heap.size + 1 := by rw [← hA1]; simp
  have b1 : Below w.heap.size w A1 := hA1 ▸ (Below.refl _ _).alloc (Nat.le_refl _) _
  rw [hA1] at k1 ⊢
  obtain ⟨A2, hA2⟩ : ∃ A, A1.alloc (.cells #[.slice none 0 0] 25) = A := ⟨_, rfl⟩
  have k2 := BX.new A1 [.slice none 0 0] 25
  have z2 : A2.heap.size = A1.heap.size + 1 := by rw [← hA2]; simp
  have b2 : Below A1.heap.size A1 A2 := hA2 ▸ (Below.refl _ _).alloc (Nat.le_refl _) _
  have hA2' : A1.alloc (.cells ([.slice none 0 0] : List Value).toArray 25) = A2 := hA2
  rw [hA2'] at k2
  rw [hA2]
  obtain ⟨A3, hA3⟩ : ∃ A, A2.alloc (.map #[] 0) = A := ⟨_, rfl⟩
  have k3 := MapK.made Tryz.prog 3 eI (Value.int .i64) A2
  have z3 : A3.heap.size = A2.heap.size + 1 := by rw [← hA3]; simp
  have b3 : Below A2.heap.size A2 A3 := hA3 ▸ (Below.refl _ _).alloc (Nat.le_refl _) _
  rw [hA3] at k3 ⊢
  obtain ⟨A4, hA4⟩ : ∃ A, A3.alloc (.cells #[.map (some (w.heap.size + 1 + 1))] 125) = A := ⟨_, rfl⟩
  have k4 := cell_new1 A3 (.map (some (w.heap.size + 1 + 1))) 125
  have z4 : A4.heap.size = A3.heap.size + 1 := by rw [← hA4]; simp
  have b4 : Below A3.heap.size A3 A4 := hA4 ▸ (Below.refl _ _).alloc (Nat.le_refl _) _
  rw [hA4] at k4 ⊢
  obtain ⟨A5, hA5⟩ : ∃ A, A4.alloc (.cells #[.slice pa p.length pc] 25) = A := ⟨_, rfl⟩
  have k5 := cell_new1 A4 (.slice pa p.length pc) 25
  have z5 : A5.heap.size = A4.heap.size + 1 := by rw [← hA5]; simp
  have b5 : Below A4.heap.size A4 A5 := hA5 ▸ (Below.refl _ _).alloc (Nat.le_refl _) _
  rw [hA5] at k5 ⊢
  obtain ⟨W0, hW0⟩ : ∃ A, A5.alloc (.cells #[.func (.func fs) #[] lbs] 90) = A := ⟨_, rfl⟩
  have k6 := cell_new1 A5 (.func (.func fs) #[] lbs) 90
  have z6 : W0.heap.size = A5.heap.size + 1 := by rw [← hW0]; simp
  have b6 : Below A5.heap.size A5 W0 := hW0 ▸ (Below.refl _ _).alloc (Nat.le_refl _) _
  rw [hW0] at k6 ⊢
  have b56 : Below A4.heap.size A4 W0 := b5.trans (b6.mono b5.size)
  have b46 : Below A3.heap.size A3 W0 := b4.trans (b56.mono b4.size)
  have b36 : Below A2.heap.size A2 W0 := b3.trans (b46.mono b3.size)
  have b26 : Below A1.heap.size A1 W0 := b2.trans (b36.mono b2.size)
  have b16 : Below w.heap.size w W0 := b1.trans (b26.mono b1.size)
  have y2 : A1.heap.size = w.heap.size + 1 := z1
  have y3 : A2.heap.size = w.heap.size + 1 + 1 := by omega
  have y4 : A3.heap.size = w.heap.size + 1 + 1 + 1 := by omega
  have y5 : A4.heap.size = w.heap.size + 1 + 1 + 1 + 1 := by omega
  have y6 : A5.heap.size = w.heap.size + 1 + 1 + 1 + 1 + 1 := by omega
  have hz : w.heap.size + 6 ≤ W0.heap.size := by omega
  have HST : Hid (RbI b f w W0.heap.size (w.heap.size + 1) (w.heap.size + 1 + 1 + 1) w.heap.size (w.heap.size + 1 + 1) (.func (.func fb) #[] lbb) [] (fun k => k = w.heap.size + 1 ∨ k = w.heap.size + 1 + 1) W0) := hid (by
    refine ⟨⟨.slice none 0 0, ?_, World.ownsRow_nil _ _ _ _, fun q hq => by cases hq⟩, ?_, ?_, ?_, ⟨0, ?_⟩, b16, Or.inl rfl, Or.inr rfl⟩
    · rw [← y2]; exact (b26.trans (Below.refl _ _) |> fun _ => (b36.cell (World.block_lt_of_cell? _ _ (k2.c 0 (by simp)))).trans (k2.c 0 (by simp)))
    · rw [← y2]; exact (b36.frozen (p := ⟨A1.heap.size, 0, none⟩) (World.block_lt_of_cell? _ _ (k2.c 0 (by simp)))).trans (k2.z 0)
    · rw [← y4]; exact (b56.cell (World.block_lt_of_cell? _ _ k4)).trans k4
    · exact (b26.cell (World.block_lt_of_cell? _ _ k1)).trans k1
    · rw [show mI b [] = fun _ => none from by funext j; unfold mI; simp, ← y3]
      exact k3.belowS b46)
  have c5 := (b6.cell (World.block_lt_of_cell? _ _ k5)).trans k5
  rw [y5] at c5
  rw [y6] at k6
  have HSQ := hid (staying_seq (w.heap.size + 1 + 1 + 1 + 1) (w.heap.size + 1 + 1 + 1 + 1 + 1) fs lbs (.slice pa p.length pc) p b w W0 HP.out HSTC.out heg b16 c5 k6)
  have HBW := hid b16
  clear hA1 hA2 hA2' hA3 hA4 hA5 hW0 k1 k2 k3 k4 k5 k6 z1 z2 z3 z4 z5 z6 b1 b2 b3 b4 b5 b6 b56 b46 b36 b26 b16 y2 y3 y4 y5 y6 c5
  refine wpIn_wide.1 (wpIn_rangeG (gf := 179) (lb := #[.pointer (some ⟨w.heap.size + 1 + 1 + 1 + 1, 0, none⟩), .pointer (some ⟨w.heap.size + 1 + 1 + 1 + 1 + 1, 0, none⟩)]) rfl (enters_of Tryz.func179 rfl rfl) (encs := seX) (E := seE p b) (S := fun xs => xs = stayL p b p.length)
    (N := fun k => k < w.heap.size ∨ k = w.heap.size + 1 + 1 + 1 + 1 ∨ k = w.heap.size + 1 + 1 + 1 + 1 + 1) (w0 := W0) HSQ.out (Below.refl _ _) (fun _ => rfl) ?_ ?_ ?_
    (fun pre => RbI b f w W0.heap.size (w.heap.size + 1) (w.heap.size + 1 + 1 + 1) w.heap.size (w.heap.size + 1 + 1) (.func (.func fb) #[] lbb) pre) (fun _ _ _ _ => False)
    (fun k => k = w.heap.size + 1 ∨ k = w.heap.size + 1 + 1) ?_ (fun pre => RbI.grw (by omega) (by omega) (by omega) (by omega) (by omega) pre) (fun c pre => ⟨fun _ _ _ h _ => h, fun _ _ _ _ _ _ h _ => h⟩) HST.out ?_ ?_ ?_)
  case refine_1 => exact fun _ _ _ _ _ _ _ h _ _ _ => h
  case refine_2 => exact fun _ _ _ _ _ h _ => h
  case refine_3 => rintro k (h | rfl | rfl) <;> omega
  case refine_4 => rintro k (rfl | rfl) <;> exact ⟨by rintro (h | h | h) <;> omega, by omega⟩
  case refine_5 =>
    clear HST HSQ
    rintro l' pre ⟨k, x⟩ M W hsW hM hturn
    obtain ⟨hk, hs, hx, hpre⟩ := (hturn W _ (Below.refl _ _) ⟨.deferred none, rfl⟩).2.1
    dsimp only at hk hs hx hpre
    have hpl : pre.length = posS b k := by rw [hpre, stayL_len]
    have hp60 : pre.length ≤ 60 := by have := posS_le b k; omega
    obtain ⟨eg, hst⟩ := st_at HG.out hk
    rw [← eg, ← hx] at hst
    have hok := HOK.out k hk hs
    rw [← hx] at hok
    simp only [seX]
    have hBX := BX.new W [.int .i64 x.1, .int .i64 x.2.1, .int .i64 x.2.2] 57
    obtain ⟨X, hX⟩ : ∃ X, W.alloc (.cells #[.int .i64 x.1, .int .i64 x.2.1, .int .i64 x.2.2] 57) = X := ⟨_, rfl⟩
    have hX' : W.alloc (.cells ([.int .i64 x.1, .int .i64 x.2.1, .int .i64 x.2.2] : List Value).toArray 57) = X := hX
    rw [hX'] at hBX
    have hbX : Below W.heap.size W X := hX ▸ (Below.refl _ _).alloc (Nat.le_refl _) _
    have hsX : W.heap.size + 1 ≤ X.heap.size ∧ X.heap.size ≤ W.heap.size + 1 := by rw [← hX]; simp
    have HX := hid hX
    have HBX := hid hbX
    have HBXX := hid hBX
    have HTURN := hid hturn
    have HM := hid hM
    have HPRE := hid hpre
    have HPL := hid hpl
    have HXK := hid hx
    clear hX hX' hBX hbX hturn hM hpre hpl eg hx
    gi_wp2
    rw [HX.out]
    refine ⟨HBX.out, fun W2 hT2 => ?_⟩
    obtain ⟨hI2, -, hs2⟩ := HTURN.out X W2 HBX.out hT2
    obtain ⟨o2', hW2⟩ := hT2
    have hBX2 := HBXX.out.block (w' := W2) (by rw [hW2]; exact World.putObj_heap_other (by omega))
    have HI2 := hid hI2
    obtain ⟨⟨uo, o1, o2, o3⟩, o4, o5, o6, ⟨n7, o7⟩, o8, o9⟩ := hI2
    obtain ⟨ua, uc, rfl⟩ := owns_slice o2
    obtain ⟨W3, hup0, hM3, hg3⟩ := o7.run_update (int_keyed Tryz.underlying3) eI_inj Tryz.underlying125 (k : Int) (pre.length : Int) (int_key (k : Int) (wf_small (by omega) (by omega)))
    rw [show ((pre.length : Nat) : Int) = (posS b k : Int) by rw [HPL.out], mI_snoc b pre (k, x)] at hM3
    have hup : (Instr.mapUpdate 125 (.map (some (w.heap.size + 1 + 1))) (.int .i64 k) (.int .i64 pre.length)).run Tryz.prog W2 = .ok () W3 := hup0
    have hz2 : W.heap.size + 1 ≤ W2.heap.size := by omega
    have hsame : ∀ q, q < W2.heap.size → q ≠ w.heap.size + 1 + 1 → W3.heap[q]? = W2.heap[q]? := fun q hq hn => hg3.block q hq (fun e => hn (Option.some.inj e))
    have hBX3 := hBX2.block (hsame _ (by omega) (by omega))
    have p1 := (World.cell?_of_block (a := ⟨w.heap.size + 1, 0, none⟩) (hsame _ (by have := World.block_lt_of_cell? _ _ o1; exact this) (by simp))).trans o1
    have p5 := (World.cell?_of_block (a := ⟨w.heap.size + 1 + 1 + 1, 0, none⟩) (hsame _ (World.block_lt_of_cell? _ _ o5) (by simp))).trans o5
    have p6 := (World.cell?_of_block (a := ⟨w.heap.size, 0, none⟩) (hsame _ (World.block_lt_of_cell? _ _ o6) (by show w.heap.size ≠ w.heap.size + 1 + 1; omega))).trans o6
    have d0 := hBX3.c 0 (by simp)
    have d1 := hBX3.c 1 (by simp)
    have d2 := hBX3.c 2 (by simp)
    simp only [List.getElem_cons_zero, List.getElem_cons_succ] at d0 d1 d2
    have HO1 := hid o1
    have HO4 := hid o4
    have HO2 := hid o2
    have HO3 := hid o3
    have HM3 := hid hM3
    have HG3 := hid hg3
    have HBX3 := hid hBX3
    have HB8 := hid o8
    clear hup0 hW2 hBX2 o2 o3 o4 o7 o8 o9 hM3 hg3 hBX3 hsame hs2
    by_cases hk2 : x.1 = 2
    case neg =>
      rcases hst with ⟨h1, -⟩ | ⟨h1, -⟩
      case inr => exact absurd h1 hk2
      have HMV : Hid (mvS b f x = x) := hid (by unfold mvS; rw [if_neg hk2])
      have hkb : (x.1 == 2) = false := by simpa using hk2
      clear hok h1 hk2
      have k5 : Kb (fun q => q = w.heap.size + 1 + 1 ∨ W.heap.size ≤ q) W2 W3 := (Kb.grown (M := fun q => q = w.heap.size + 1 + 1 ∨ W.heap.size ≤ q) HG3.out (fun q hq => by cases hq; exact Or.inl (Or.inl rfl)))
      have m5 : ∃ n, MapK Tryz.prog 3 eI (Value.int .i64) W3 (w.heap.size + 1 + 1) n (mI b (pre ++ [(k, x)])) := ⟨_, HM3.out⟩
      have hol := World.block_lt_of_cell? _ _ HO1.out
      have hoN := fun q hq => (show W0.heap.size ≤ q ∧ q < W.heap.size from ⟨(HO2.out.lt q hq).1, (HM.out q (HO3.out q hq)).2.2.1⟩)
      have e5 : W3.heap[w.heap.size + 1]? = W2.heap[w.heap.size + 1]? := k5.same _ hol (fun h => by omega)
      have q1 := cell_same HO1.out e5
      have qf := (World.frozen?_of_block (a := ⟨w.heap.size + 1, 0, none⟩) e5).trans HO4.out
      have hrow5 := ownsRow_frm HO2.out (fun q hq => k5.same q (HO2.out.lt q hq).2 (fun h => by have := hoN q hq; omega))
      have hb6 : Below W3.heap.size W3 (W3.alloc (.cells #[.int .i64 x.1, .int .i64 x.2.1, .int .i64 x.2.2] 57)) := (Below.refl _ _).alloc (Nat.le_refl _) _
      have HK6 := hid (k5.trans (Kb.of_below (M := fun q => q = w.heap.size + 1 + 1 ∨ W.heap.size ≤ q) hb6) (fun q hq => Or.inl hq))
      have HM6 : Hid (∃ n, MapK Tryz.prog 3 eI (Value.int .i64) (W3.alloc (.cells #[.int .i64 x.1, .int .i64 x.2.1, .int .i64 x.2.2] 57)) (w.heap.size + 1 + 1) n (mI b (pre ++ [(k, x)]))) := hid (by obtain ⟨n, h⟩ := m5; exact ⟨n, h.alloc _⟩)
      have HRA := hid (owns_below hrow5 hb6)
      have HSRC := hid (row_one_st W3 x 57)
      have HRN := hid hoN
      have C96 := hid ((hb6.cell (World.block_lt_of_cell? _ _ q1)).trans q1)
      have F96 := hid ((hb6.frozen (p := ⟨w.heap.size + 1, 0, none⟩) (World.block_lt_of_cell? _ _ q1)).trans qf)
      have HXZ := hid (Nat.le_trans k5.size hb6.size)
      have hW02 : W0.heap.size ≤ W2.heap.size := by omega
      clear k5 m5 hol hoN e5 qf hrow5 hb6
      (try dsimp only at HSRC HK6 HM6 HRA C96 F96 HXZ)
      gi_wp2_with (gi_at_builtin; refine wpListIn_append_lie rfl _ _ 25 rfl W0.heap.size 57 el_step Tryz.underlying25 rfl (by decide) _ pre.length (stC (rbL b f pre)) rfl HRA.out _ 1 (stV x) rfl HSRC.out (by simp [stV, Value.oneCell']) (by decide) (by omega) (by omega) (by have := HXZ.out; omega) _ rfl ?_; intro g7 c7 w7 hown7 hgrow7 hat7 hlt7; have e97 := hgrow7.block (w.heap.size + 1) (World.block_lt_of_cell? _ _ C96.out) (fun e => by have := HRN.out _ e.symm; omega); have c97 := cell_same C96.out e97; have f97 := (World.frozen?_of_block (a := ⟨w.heap.size + 1, 0, none⟩) e97).trans F96.out)
      exact RbI.push (x := (k, x)) (S := W.heap.size) HI2.out (by omega) (by omega) (by omega) (by omega) (by omega) (by omega) (by omega) (by omega) (by omega) (by omega) (by omega) (by omega) (by omega) (by omega) (fun q hq => (HM.out q hq).2.2.1) HK6.out HM6.out HO1.out HO2.out HO3.out (by dsimp only; rw [HMV.out]; exact hown7) hgrow7 hat7 hlt7
    case pos =>
      rcases hst with ⟨h1, -⟩ | ⟨-, ha, hbb, ha', hb'⟩
      · omega
      obtain ⟨⟨oa1, oa2⟩, ob1, ob2⟩ := hok hk2
      obtain ⟨A, hA⟩ : ∃ A, nA x = A := ⟨_, rfl⟩
      obtain ⟨B, hB⟩ : ∃ B, nB x = B := ⟨_, rfl⟩
      have HMV : Hid (mvS b f x = (2, (posS b (f A) : Int), (posS b (f B) : Int))) := hid (by unfold mvS; rw [if_pos hk2, hA, hB])
      rw [hA] at ha ha' oa1 oa2
      rw [hB] at hbb hb' ob1 ob2
      rw [hk2] at d0
      rw [ha] at d1
      rw [hbb] at d2
      have key : ∀ (X : World) C, MapK Tryz.prog 3 eI (Value.int .i64) X (w.heap.size + 1 + 1) (if (mI b pre (k : Int)).isSome then n7 else n7 + 1) (mI b (pre ++ [(k, x)])) → f C < k → stB b (f C) = true → (Instr.lookup 125 (.map (some (w.heap.size + 1 + 1))) (.int .i64 (f C : Int)) false).run Tryz.prog X = .ok (.int .i64 (posS b (f C) : Int)) X := fun X C h0 h1 h2 => by
        have h3 := h0.run_lookup (int_keyed Tryz.underlying3) eI_inj Tryz.underlying125 (zero_int _) (f C : Int) (int_key (f C : Int) (wf_small (by omega) (by omega))) false
        have h4 : mI b (pre ++ [(k, x)]) (f C : Int) = some (posS b (f C) : Int) := by
          rw [← mI_snoc b pre (k, x), HPRE.out]
          dsimp only
          rw [if_neg (by omega), mI_stay h1 h2]
        rw [h4] at h3
        exact h3
      have hbm : w.heap.size + 1 + 1 ≠ W.heap.size := by omega
      have hlA := key W3.drew A HM3.out.drew oa1 oa2
      have hlB := key W3.drew B HM3.out.drew ob1 ob2
      have hlB1 := key (W3.setCell ⟨W.heap.size, 1, none⟩ (.int .i64 (posS b (f A) : Int))).drew B (HM3.out.setCell (a := ⟨W.heap.size, 1, none⟩) hbm _).drew ob1 ob2
      have hlA2 := key (W3.setCell ⟨W.heap.size, 2, none⟩ (.int .i64 (posS b (f B) : Int))).drew A (HM3.out.setCell (a := ⟨W.heap.size, 2, none⟩) hbm _).drew oa1 oa2
      have oth : ∀ (q : Nat) (v : Value) (a : Addr) (u : Value), W3.cell? ⟨q, 0, none⟩ = some v → a.block ≠ q → (W3.setCell a u).cell? ⟨q, 0, none⟩ = some v := fun q v a u h hn => (World.cell?_of_block (Below.heap_setCell _ _ _ _ (fun e => hn e.symm))).trans h
      have hlA1 := key (W3.setCell ⟨W.heap.size, 1, none⟩ (.int .i64 (posS b (f A) : Int))).drew A (HM3.out.setCell (a := ⟨W.heap.size, 1, none⟩) hbm _).drew oa1 oa2
      have hlA3 := key ((W3.setCell ⟨W.heap.size, 1, none⟩ (.int .i64 (posS b (f A) : Int))).setCell ⟨W.heap.size, 2, none⟩ (.int .i64 (posS b (f B) : Int))).drew A ((HM3.out.setCell (a := ⟨W.heap.size, 1, none⟩) hbm _).setCell (a := ⟨W.heap.size, 2, none⟩) hbm _).drew oa1 oa2
      have hlB3 := key ((W3.setCell ⟨W.heap.size, 1, none⟩ (.int .i64 (posS b (f A) : Int))).setCell ⟨W.heap.size, 2, none⟩ (.int .i64 (posS b (f B) : Int))).drew B ((HM3.out.setCell (a := ⟨W.heap.size, 1, none⟩) hbm _).setCell (a := ⟨W.heap.size, 2, none⟩) hbm _).drew ob1 ob2
      have oth3 : ∀ (q : Nat) (v : Value), W3.cell? ⟨q, 0, none⟩ = some v → q ≠ W.heap.size → ((W3.setCell ⟨W.heap.size, 1, none⟩ (.int .i64 (posS b (f A) : Int))).setCell ⟨W.heap.size, 2, none⟩ (.int .i64 (posS b (f B) : Int))).cell? ⟨q, 0, none⟩ = some v := fun q v h hn => (World.cell?_of_block (Below.heap_setCell _ _ _ _ hn)).trans ((World.cell?_of_block (Below.heap_setCell _ _ _ _ hn)).trans h)
      have s3p5 := oth3 _ _ p5 (by omega)
      have s3p6 := oth3 _ _ p6 (by omega)
      have s1p5 := oth _ _ ⟨W.heap.size, 1, none⟩ (.int .i64 (posS b (f A) : Int)) p5 (by show W.heap.size ≠ _; omega)
      have s1p6 := oth _ _ ⟨W.heap.size, 1, none⟩ (.int .i64 (posS b (f A) : Int)) p6 (by show W.heap.size ≠ _; omega)
      have s2p5 := oth _ _ ⟨W.heap.size, 2, none⟩ (.int .i64 (posS b (f B) : Int)) p5 (by show W.heap.size ≠ _; omega)
      have s2p6 := oth _ _ ⟨W.heap.size, 2, none⟩ (.int .i64 (posS b (f B) : Int)) p6 (by show W.heap.size ≠ _; omega)
      have HBA := hid (fun (X : World) (hX : Below w.heap.size w X) => HBC.out X hX A (by omega))
      have HBB := hid (fun (X : World) (hX : Below w.heap.size w X) => HBC.out X hX B (by omega))
      have HB3 := hid (show Below w.heap.size w W3 from HB8.out.grown HG3.out HB8.out.size (fun q hq => by cases hq; omega))
      have hmo : Tryz.prog.follows .mixedOrders = true := by kernel_rfl
      have z1 := HBX3.out.z 1
      have z2 := HBX3.out.z 2
      have hk2' := hk2
      clear key hok hk2 ha hbb oa1 oa2 ob1 ob2 hA hB
      gi_wp2
      refine anyT.beginIn (T := (fun X' => X'.cell? ⟨w.heap.size + 1 + 1 + 1, 0, none⟩ = some (.map (some (w.heap.size + 1 + 1))) ∧ X'.cell? ⟨w.heap.size, 0, none⟩ = some (.func (.func fb) #[] lbb) ∧ (Instr.lookup 125 (.map (some (w.heap.size + 1 + 1))) (.int .i64 (f A : Int)) false).run Tryz.prog X' = .ok (.int .i64 (posS b (f A) : Int)) X' ∧ (Instr.lookup 125 (.map (some (w.heap.size + 1 + 1))) (.int .i64 (f B : Int)) false).run Tryz.prog X' = .ok (.int .i64 (posS b (f B) : Int)) X')) (S := (fun X' => X'.cell? ⟨W.heap.size, 1, none⟩ = some (.int .i64 (A : Int)) ∧ X'.cell? ⟨W.heap.size, 2, none⟩ = some (.int .i64 (B : Int)))) (k := 13) (by kernel_rfl) (by kernel_rfl) ?_ ?_ (fun hT hS => ?_)
      · exact ⟨p5, p6, hlA, hlB⟩
      · exact ⟨d1, d2⟩
      refine anyT.takeT (i := 0) (oi := { dst := some 25, op := Op.load 125 (Operand.tmp 9), type := 125, pos := _, after := _, guard := none }) (v := ?_) rfl (by kernel_rfl) (by kernel_rfl) (by kernel_rfl) (by decide) (fun _ _ _ h => h) (Or.inl ⟨by rfl, ?_⟩) hT (fun _ => hS) ?_
      rotate_left
      · (intro w hSw; (try dsimp only at hSw); go_simp; (try with_reducible rfl))
      (try simp only [Act.put, List.setIfInBounds_toArray, List.set_cons_zero, List.set_cons_succ])
      refine anyT.takeT (i := 1) (oi := { dst := some 26, op := Op.load 128 (Operand.tmp 5), type := 128, pos := _, after := _, guard := none }) (v := ?_) rfl (by kernel_rfl) (by kernel_rfl) (by kernel_rfl) (by decide) (fun _ _ _ h => h) (Or.inl ⟨by rfl, ?_⟩) hT (fun _ => hS) ?_
      rotate_left
      · (intro w hSw; (try dsimp only at hSw); go_simp; (try with_reducible rfl))
      (try simp only [Act.put, List.setIfInBounds_toArray, List.set_cons_zero, List.set_cons_succ])
      refine anyT.takeT (i := 2) (oi := { dst := some 27, op := Op.fieldAddr 57 (Operand.tmp 11) 1, type := 0, pos := _, after := _, guard := none }) (v := ?_) rfl (by kernel_rfl) (by kernel_rfl) (by kernel_rfl) (by decide) (fun _ _ _ h => h) (Or.inl ⟨by rfl, ?_⟩) hT (fun _ => hS) ?_
      rotate_left
      · (intro w hSw; (try dsimp only at hSw); go_simp; (try with_reducible rfl))
      (try simp only [Act.put, List.setIfInBounds_toArray, List.set_cons_zero, List.set_cons_succ])
      refine anyT.take (i := 3) (oi := { dst := some 28, op := Op.load 3 (Operand.tmp 27), type := 3, pos := _, after := _, guard := none }) (v := ?_) rfl (by kernel_rfl) (by kernel_rfl) (by kernel_rfl) (by kernel_rfl) (by kernel_rfl) (by decide) (fun _ _ _ h => h) (Or.inl ⟨by rfl, ?_⟩) hT hS ?_
      rotate_left
      · (intro w hSw; (try dsimp only at hSw); go_simp; (try with_reducible rfl))
      (try simp only [Act.put, List.setIfInBounds_toArray, List.set_cons_zero, List.set_cons_succ])
      refine anyT.takeT (i := 6) (oi := { dst := some 31, op := Op.load 125 (Operand.tmp 9), type := 125, pos := _, after := _, guard := none }) (v := ?_) rfl (by kernel_rfl) (by kernel_rfl) (by kernel_rfl) (by decide) (fun _ _ _ h => h) (Or.inl ⟨by rfl, ?_⟩) hT (fun _ => hS) ?_
      rotate_left
      · (intro w hSw; (try dsimp only at hSw); go_simp; (try with_reducible rfl))
      (try simp only [Act.put, List.setIfInBounds_toArray, List.set_cons_zero, List.set_cons_succ])
      refine anyT.takeT (i := 7) (oi := { dst := some 32, op := Op.load 128 (Operand.tmp 5), type := 128, pos := _, after := _, guard := none }) (v := ?_) rfl (by kernel_rfl) (by kernel_rfl) (by kernel_rfl) (by decide) (fun _ _ _ h => h) (Or.inl ⟨by rfl, ?_⟩) hT (fun _ => hS) ?_
      rotate_left
      · (intro w hSw; (try dsimp only at hSw); go_simp; (try with_reducible rfl))
      (try simp only [Act.put, List.setIfInBounds_toArray, List.set_cons_zero, List.set_cons_succ])
      refine anyT.takeT (i := 8) (oi := { dst := some 33, op := Op.fieldAddr 57 (Operand.tmp 11) 2, type := 0, pos := _, after := _, guard := none }) (v := ?_) rfl (by kernel_rfl) (by kernel_rfl) (by kernel_rfl) (by decide) (fun _ _ _ h => h) (Or.inl ⟨by rfl, ?_⟩) hT (fun _ => hS) ?_
      rotate_left
      · (intro w hSw; (try dsimp only at hSw); go_simp; (try with_reducible rfl))
      (try simp only [Act.put, List.setIfInBounds_toArray, List.set_cons_zero, List.set_cons_succ])
      refine anyT.take (i := 9) (oi := { dst := some 34, op := Op.load 3 (Operand.tmp 33), type := 3, pos := _, after := _, guard := none }) (v := ?_) rfl (by kernel_rfl) (by kernel_rfl) (by kernel_rfl) (by kernel_rfl) (by kernel_rfl) (by decide) (fun _ _ _ h => h) (Or.inl ⟨by rfl, ?_⟩) hT hS ?_
      rotate_left
      · (intro w hSw; (try dsimp only at hSw); go_simp; (try with_reducible rfl))
      (try simp only [Act.put, List.setIfInBounds_toArray, List.set_cons_zero, List.set_cons_succ])
      refine anyT.one (i := 4) (o := { dst := some 29, op := Op.call { callee := Callee.value (Operand.tmp 26), args := #[Operand.tmp 28], argTypes := #[3] }, type := 3, pos := _, after := _, guard := none }) (by kernel_rfl) rfl (fun K hK => ?_)
      (try go_simp)
      refine (HBA.out _ (Below.drew HB3.out)).mono ?_; rintro e w' ⟨rfl, rfl⟩
      refine hK.out _ _ ⟨hT, fun _ => hS⟩ ?_
      clear hK K
      (try simp only [Act.put, List.setIfInBounds_toArray, List.set_cons_zero, List.set_cons_succ])
      refine anyT.takeT (i := 5) (oi := { dst := some 30, op := Op.lookup 125 (Operand.tmp 25) (Operand.tmp 29) false, type := 3, pos := _, after := _, guard := none }) (v := ?_) rfl (by kernel_rfl) (by kernel_rfl) (by kernel_rfl) (by decide) (fun _ _ _ h => h) (Or.inl ⟨by rfl, ?_⟩) hT (fun _ => hS) ?_
      rotate_left
      · (intro w hSw; (try dsimp only at hSw); go_simp; (try with_reducible rfl))
      (try simp only [Act.put, List.setIfInBounds_toArray, List.set_cons_zero, List.set_cons_succ])
      refine anyT.takeT (i := 12) (oi := { dst := some 37, op := Op.fieldAddr 57 (Operand.tmp 11) 1, type := 0, pos := _, after := _, guard := none }) (v := ?_) rfl (by kernel_rfl) (by kernel_rfl) (by kernel_rfl) (by decide) (fun _ _ _ h => h) (Or.inl ⟨by rfl, ?_⟩) hT (fun _ => hS) ?_
      rotate_left
      · (intro w hSw; (try dsimp only at hSw); go_simp; (try with_reducible rfl))
      (try simp only [Act.put, List.setIfInBounds_toArray, List.set_cons_zero, List.set_cons_succ])
      refine anyT.one (i := 10) (o := { dst := some 35, op := Op.call { callee := Callee.value (Operand.tmp 32), args := #[Operand.tmp 34], argTypes := #[3] }, type := 3, pos := _, after := _, guard := none }) (by kernel_rfl) rfl (fun K hK => ?_)
      (try go_simp)
      refine (HBB.out _ (Below.drew HB3.out)).mono ?_; rintro e w' ⟨rfl, rfl⟩
      refine hK.out _ _ ⟨hT, fun _ => hS⟩ ?_
      clear hK K
      (try simp only [Act.put, List.setIfInBounds_toArray, List.set_cons_zero, List.set_cons_succ])
      refine anyT.takeT (i := 11) (oi := { dst := some 36, op := Op.lookup 125 (Operand.tmp 31) (Operand.tmp 35) false, type := 3, pos := _, after := _, guard := none }) (v := ?_) rfl (by kernel_rfl) (by kernel_rfl) (by kernel_rfl) (by decide) (fun _ _ _ h => h) (Or.inl ⟨by rfl, ?_⟩) hT (fun _ => hS) ?_
      rotate_left
      · (intro w hSw; (try dsimp only at hSw); go_simp; (try with_reducible rfl))
      (try simp only [Act.put, List.setIfInBounds_toArray, List.set_cons_zero, List.set_cons_succ])
      refine anyT.one (i := 13) (o := { dst := none, op := Op.store 3 (Operand.tmp 37) (Operand.tmp 30), type := 0, pos := _, after := _, guard := none }) (by kernel_rfl) rfl (fun K hK => ?_)
      (try go_simp)
      refine hK.out _ _ ⟨⟨s1p5, s1p6, hlA1, hlB1⟩, fun h => absurd h (by decide)⟩ ?_
      clear hK K
      (try simp only [Act.put, List.setIfInBounds_toArray, List.set_cons_zero, List.set_cons_succ])
      refine anyT.one (i := 14) (o := { dst := some 38, op := Op.fieldAddr 57 (Operand.tmp 11) 2, type := 0, pos := _, after := _, guard := none }) (by kernel_rfl) rfl (fun K hK => ?_)
      (try go_simp)
      refine hK.out _ _ ⟨⟨s1p5, s1p6, hlA1, hlB1⟩, fun h => absurd h (by decide)⟩ ?_
      clear hK K
      (try simp only [Act.put, List.setIfInBounds_toArray, List.set_cons_zero, List.set_cons_succ])
      refine anyT.one (i := 15) (o := { dst := none, op := Op.store 3 (Operand.tmp 38) (Operand.tmp 36), type := 0, pos := _, after := _, guard := none }) (by kernel_rfl) rfl (fun K hK => ?_)
      (try go_simp)
      refine hK.out _ _ ⟨⟨s3p5, s3p6, hlA3, hlB3⟩, fun h => absurd h (by decide)⟩ ?_
      clear hK K
      (try simp only [Act.put, List.setIfInBounds_toArray, List.set_cons_zero, List.set_cons_succ])
      refine anyT.done (by kernel_rfl) ?_ _
      refine ⟨by simp, ?_⟩
      obtain ⟨W5, hW5⟩ : ∃ W5, ((W3.setCell ⟨W.heap.size, 1, none⟩ (.int .i64 (posS b (f A) : Int))).setCell ⟨W.heap.size, 2, none⟩ (.int .i64 (posS b (f B) : Int))).drew = W5 := ⟨_, rfl⟩
      have k5 : Kb (fun q => q = w.heap.size + 1 + 1 ∨ W.heap.size ≤ q) W2 W5 := hW5 ▸ (((Kb.grown (M := fun q => q = w.heap.size + 1 + 1 ∨ W.heap.size ≤ q) HG3.out (fun q hq => by cases hq; exact Or.inl (Or.inl rfl))).trans (Kb.setCell (M := fun q => q = w.heap.size + 1 + 1 ∨ W.heap.size ≤ q) (p := ⟨W.heap.size, 1, none⟩) _ (Or.inr (Nat.le_refl _))) (fun q hq => Or.inl hq)).trans (Kb.setCell (M := fun q => q = w.heap.size + 1 + 1 ∨ W.heap.size ≤ q) (p := ⟨W.heap.size, 2, none⟩) _ (Or.inr (Nat.le_refl _))) (fun q hq => Or.inl hq)).trans (Kb.of_below (M := fun q => q = w.heap.size + 1 + 1 ∨ W.heap.size ≤ q) (Below.drew (Below.refl _ _))) (fun q hq => Or.inl hq)
      have m5 : ∃ n, MapK Tryz.prog 3 eI (Value.int .i64) W5 (w.heap.size + 1 + 1) n (mI b (pre ++ [(k, x)])) := hW5 ▸ ⟨_, ((HM3.out.setCell (a := ⟨W.heap.size, 1, none⟩) (by show w.heap.size + 1 + 1 ≠ W.heap.size; omega) _).setCell (a := ⟨W.heap.size, 2, none⟩) (by show w.heap.size + 1 + 1 ≠ W.heap.size; omega) _).drew⟩
      have hb3 := (HBX3.out.set (k := 1) (by simp) (.int .i64 (posS b (f A) : Int))).set (k := 2) (by simp) (.int .i64 (posS b (f B) : Int))
      have g0 : (((W3.setCell ⟨W.heap.size, 1, none⟩ (.int .i64 (posS b (f A) : Int))).setCell ⟨W.heap.size, 2, none⟩ (.int .i64 (posS b (f B) : Int))).drew).cell? ⟨W.heap.size, 0, none⟩ = some (.int .i64 2) := (hb3.c 0 (by simp)).trans (by simp [hk2'])
      have g1 : (((W3.setCell ⟨W.heap.size, 1, none⟩ (.int .i64 (posS b (f A) : Int))).setCell ⟨W.heap.size, 2, none⟩ (.int .i64 (posS b (f B) : Int))).drew).cell? ⟨W.heap.size, 1, none⟩ = some (.int .i64 (posS b (f A) : Int)) := (hb3.c 1 (by simp)).trans (by simp)
      have g2 : (((W3.setCell ⟨W.heap.size, 1, none⟩ (.int .i64 (posS b (f A) : Int))).setCell ⟨W.heap.size, 2, none⟩ (.int .i64 (posS b (f B) : Int))).drew).cell? ⟨W.heap.size, 2, none⟩ = some (.int .i64 (posS b (f B) : Int)) := (hb3.c 2 (by simp)).trans (by simp)
      rw [hW5] at g0 g1 g2 ⊢
      have hol := World.block_lt_of_cell? _ _ HO1.out
      have hoN := fun q hq => (show W0.heap.size ≤ q ∧ q < W.heap.size from ⟨(HO2.out.lt q hq).1, (HM.out q (HO3.out q hq)).2.2.1⟩)
      have e5 : W5.heap[w.heap.size + 1]? = W2.heap[w.heap.size + 1]? := k5.same _ hol (fun h => by omega)
      have q1 := cell_same HO1.out e5
      have qf := (World.frozen?_of_block (a := ⟨w.heap.size + 1, 0, none⟩) e5).trans HO4.out
      have hrow5 := ownsRow_frm HO2.out (fun q hq => k5.same q (HO2.out.lt q hq).2 (fun h => by have := hoN q hq; omega))
      have hb6 : Below W5.heap.size W5 (W5.alloc (.cells #[.int .i64 2, .int .i64 (posS b (f A) : Int), .int .i64 (posS b (f B) : Int)] 57)) := (Below.refl _ _).alloc (Nat.le_refl _) _
      have HK6 := hid (k5.trans (Kb.of_below (M := fun q => q = w.heap.size + 1 + 1 ∨ W.heap.size ≤ q) hb6) (fun q hq => Or.inl hq))
      have HM6 : Hid (∃ n, MapK Tryz.prog 3 eI (Value.int .i64) (W5.alloc (.cells #[.int .i64 2, .int .i64 (posS b (f A) : Int), .int .i64 (posS b (f B) : Int)] 57)) (w.heap.size + 1 + 1) n (mI b (pre ++ [(k, x)]))) := hid (by obtain ⟨n, h⟩ := m5; exact ⟨n, h.alloc _⟩)
      have HRA := hid (owns_below hrow5 hb6)
      have HSRC := hid (row_one_st W5 (2, (posS b (f A) : Int), (posS b (f B) : Int)) 57)
      have HRN := hid hoN
      have C96 := hid ((hb6.cell (World.block_lt_of_cell? _ _ q1)).trans q1)
      have F96 := hid ((hb6.frozen (p := ⟨w.heap.size + 1, 0, none⟩) (World.block_lt_of_cell? _ _ q1)).trans qf)
      have HXZ := hid (Nat.le_trans k5.size hb6.size)
      have hW02 : W0.heap.size ≤ W2.heap.size := by omega
      clear hW5 k5 m5 hol hoN e5 qf hrow5 hb6
      (try dsimp only at HSRC HK6 HM6 HRA C96 F96 HXZ)
      gi_wp2_with (gi_at_builtin; refine wpListIn_append_lie rfl _ _ 25 rfl W0.heap.size 57 el_step Tryz.underlying25 rfl (by decide) _ pre.length (stC (rbL b f pre)) rfl HRA.out _ 1 (stV (2, (posS b (f A) : Int), (posS b (f B) : Int))) rfl HSRC.out (by simp [stV, Value.oneCell']) (by decide) (by omega) (by omega) (by have := HXZ.out; omega) _ rfl ?_; intro g7 c7 w7 hown7 hgrow7 hat7 hlt7; have e97 := hgrow7.block (w.heap.size + 1) (World.block_lt_of_cell? _ _ C96.out) (fun e => by have := HRN.out _ e.symm; omega); have c97 := cell_same C96.out e97; have f97 := (World.frozen?_of_block (a := ⟨w.heap.size + 1, 0, none⟩) e97).trans F96.out)
      exact RbI.push (x := (k, x)) (S := W.heap.size) HI2.out (by omega) (by omega) (by omega) (by omega) (by omega) (by omega) (by omega) (by omega) (by omega) (by omega) (by omega) (by omega) (by omega) (by omega) (fun q hq => (HM.out q hq).2.2.1) HK6.out HM6.out HO1.out HO2.out HO3.out (by dsimp only; rw [HMV.out]; exact hown7) hgrow7 hat7 hlt7
  case refine_6 =>
    clear HST HSQ
    rintro xs M W rfl hI hD hMD
    obtain ⟨⟨uo, o1, o2, o3⟩, o4, o5, o6, ⟨n7, o7⟩, o8, o9⟩ := hI
    have hxl : (stayL p b p.length).length = (rebL p b f p.length).length := by rw [rebL_len, stayL_len]
    have hle : (rebL p b f p.length).length ≤ 60 := by rw [rebL_len]; have := posS_le b p.length; omega
    rw [rbL_stay, hxl] at o2
    obtain ⟨ua, uc, rfl⟩ := owns_slice o2
    have HRW := hid (show StepsAt W _ (rebL p b f p.length) from RowK.of_owns o2 (by omega))
    have HDD := hid hD
    have HO7 := hid o7
    have HO8 := hid o8
    clear o2 o3 o4 o6 o7 o8 hxl hle hD
    go_wp2
    go_quiet (fail)
    go_wp2
    have hD2 : (W.drewN nq).heap[W0.heap.size]? = some (.deferred (some [])) := HDD.out
    have e1 := putObj_cell (o' := .deferred none) hD2 rfl (show (W.drewN nq).cell? _ = _ from o1)
    have e2 := putObj_cell (o' := .deferred none) hD2 rfl (show (W.drewN nq).cell? _ = _ from o5)
    refine leave_mark (v := .tuple #[.slice ua (rebL p b f p.length).length uc, .map (some (w.heap.size + 1 + 1))]) hD2 (by simp [results, Tryz.results105, go_sem, e1, e2]) ?_
    exact ⟨_, _, n7, rfl, putObj_rowK (o' := .deferred none) hD2 rfl (HRW.out.below (below_self_drewN W nq)), (HO7.out.drewN nq).of_block (World.putObj_heap_other (by omega)), putObj_below (.deferred none) (below_drewN HO8.out nq) (by omega)⟩
  case refine_7 =>
    intro c pre M W h
    exact h.elim
end Go.Proofs.YtmpjaakkjhmpmaaGreatDoor
namespace Go.Proofs.YtmpjaakkjhmpmaaGreatDoor
open Go Go.RowKit Go.Maps
theorem short_trim1 (q bq n : Nat) (z : Bool) (i : Nat) (X : World) (hn : n ≤ 1000) (hc : X.cell? ⟨bq, 0, none⟩ = some (.slice (some ⟨q, 0, none⟩) n n)) (hi : i < n) (hv : X.cell? ⟨q, i, none⟩ = some (.bool z)) :
    Calls Tryz.prog 106 #[.int .i64 i, .pointer (some ⟨bq, 0, none⟩)] X fun e X' => e = .returned (.bool z) ∧ X = X' := by
  go_enter Tryz.func106, Tryz.ntmps106
  go_wp2
  go_ret
  exact ⟨rfl, rfl⟩
theorem short_itself (i : Int) (X : World) : Calls Tryz.prog 107 #[.int .i64 i] X fun e X' => e = .returned (.int .i64 i) ∧ X = X' := by
  go_enter Tryz.func107, Tryz.ntmps107
  go_wp2
  go_ret
  exact ⟨rfl, rfl⟩
set_option maxHeartbeats 4000000 in
set_option maxRecDepth 100000 in
theorem short_trimmed (g : Int) (v : Value) (p : List St) (w : World) (hv : StepsAt w v p) (hg : proofB g p = true) :
    Calls Tryz.prog 57 #[v] w fun e w' => ∃ u, e = .returned u ∧ StepsAt w' u (trimL p) ∧ Below w.heap.size w w' := by
  have h60 := proof60 hg
  have HN := hid (short_needed g v p w hv hg)
  have HP := hid hv
  have HG := hid hg
  obtain ⟨pa, pc, rfl, -⟩ := hv.open
  clear hv hg
  go_enter Tryz.func57, Tryz.ntmps57
  go_wp2_with fail
  refine HN.out.mono ?_
  rintro e w1 ⟨q, rfl, hq, hown, hb1⟩
  have k1 := cell_new1 w1 (.slice (some ⟨q, 0, none⟩) p.length p.length) 82
  obtain ⟨W1, hW1⟩ : ∃ W1, w1.alloc (.cells #[.slice (some ⟨q, 0, none⟩) p.length p.length] 82) = W1 := ⟨_, rfl⟩
  have b1 : Below w1.heap.size w1 W1 := hW1 ▸ (Below.refl _ _).alloc (Nat.le_refl _) _
  rw [hW1] at k1
  have hbw : Below w.heap.size w W1 := hb1.trans (b1.mono hb1.size)
  have HST : Hid (StayC 106 #[.pointer (some ⟨w1.heap.size, 0, none⟩)] p.length (needL p) W1) := hid (fun X hX i hi => by
    have c0 := (hX.cell (World.block_lt_of_cell? _ _ k1)).trans k1
    have c1 := hown.cellAt i (by omega)
    rw [bools_at (by rw [needL_len]; exact hi)] at c1
    have c2 := (b1.cell (World.block_lt_of_cell? _ _ c1)).trans c1
    have c3 := (hX.cell (World.block_lt_of_cell? _ _ c2)).trans c2
    exact short_trim1 q w1.heap.size p.length (stB (needL p) i) i X (by omega) c0 hi c3)
  have HBC : Hid (BecC 107 #[] p.length id W1) := hid (fun X _ i _ => short_itself (i : Int) X)
  have HR := hid (short_rebuilt g (.slice pa p.length pc) 106 107 #[.pointer (some ⟨w1.heap.size, 0, none⟩)] #[] p (needL p) id W1 (HP.out.below hbw) HG.out (ok_need HG.out) HST.out HBC.out (enters_of Tryz.func106 rfl rfl) (enters_of Tryz.func107 rfl rfl))
  have HB := hid hbw
  have HW := hid hW1
  clear hown hb1 k1 b1 hbw hW1 HST HBC
  go_wp2_with (rw [HW.out])
  refine HR.out.mono ?_
  rintro e w2 ⟨u, mb, n, rfl, hu, -, hb2⟩
  have HB2 := hid (HB.out.trans (hb2.mono HB.out.size))
  have HU := hid hu
  obtain ⟨ua, uc, rfl, -⟩ := hu.open
  clear hu hb2
  go_wp2
  go_ret
  exact ⟨_, rfl, HU.out, HB2.out⟩
def TrmQ (g : Int) (p : List St) (w : World) (e : Ending) (w' : World) : Prop := ∃ u, e = .returned (.tuple #[u, .int .i64 (vldE g p)]) ∧ StepsAt w' u (if vldB g p = true then trimL p else []) ∧ Below w.heap.size w w'
set_option maxHeartbeats 2000000 in
theorem short_Trimmed (g : Int) (v : Value) (p : List St) (w : World) (hv : StepsAt w v p) :
    Calls Tryz.prog 12 #[.int .i64 g, v] w fun e w' => TrmQ g p w e w' := by
  have HV := hid (short_valid g v p w hv)
  have HP := hid hv
  obtain ⟨pa, pc, rfl, -⟩ := hv.open
  clear hv
  unfold TrmQ
  cases hb : vldB g p
  · have hE : vldE g p = 1 := by unfold vldE; rw [hb]; rfl
    rw [hE] at HV ⊢
    clear hb hE HP
    go_enter Tryz.func12, Tryz.ntmps12
    go_wp2_with fail
    refine HV.out.mono ?_
    rintro e w1 ⟨rfl, hb1⟩
    go_wp2
    go_ret2
    exact ⟨_, rfl, StepsAt.nil _, hb1⟩
  · have hE : vldE g p = 0 := by unfold vldE; rw [hb]; rfl
    have hp : proofB g p = true := by unfold vldB at hb; rw [Bool.and_eq_true] at hb; exact hb.2
    have HT := hid (fun (X : World) (hX : Below w.heap.size w X) => short_trimmed g (.slice pa p.length pc) p X (HP.out.below hX) hp)
    rw [hE] at HV ⊢
    clear hb hE hp HP
    go_enter Tryz.func12, Tryz.ntmps12
    go_wp2_with fail
    refine HV.out.mono ?_
    rintro e w1 ⟨rfl, hb1⟩
    have HB1 := hid hb1
    have K := hid (HT.out w1 hb1)
    clear hb1
    go_wp2_with fail
    refine K.out.mono ?_
    rintro e w2 ⟨u, rfl, hu, hb2⟩
    have HB2 := hid (HB1.out.trans (hb2.mono HB1.out.size))
    have HU := hid hu
    obtain ⟨ua, uc, rfl, -⟩ := hu.open
    clear hu hb2
    go_wp2
    go_ret2
    exact ⟨_, rfl, HU.out, HB2.out⟩
end Go.Proofs.YtmpjaakkjhmpmaaGreatDoor
