/-
  WHAT IT HOLDS: contracts of named, says, Along and There of the reference of layer 8. Conditions: the arguments read as data; small signs, small libraries.
  WHAT IT HOLDS: the contract of Moved of the reference of layer 8. Conditions: the arguments read as data; small signs, small libraries.
  WHAT IT HOLDS: the contract of copied of package carry. Conditions: the argument reads as data; it is small.
  WHAT IT HOLDS: the contract of copied of the reference of layer 8. Conditions: the argument reads as data; it is small.
  WHAT IT HOLDS: how a library of the call's own memory lies while it grows; contracts of each of package carry. Conditions: the arguments read as data; small signs, small libraries; the function value that is handed in does what f says to an entry of the call's own.
  WHAT IT HOLDS: the contract of Added of package carry. Conditions: the arguments read as data; small signs, small libraries.
  WHAT IT HOLDS: contracts of cmp.Compare at strings, of the comparison of Equivalences of package carry, and of slices.SortFunc at pairs of names of the call's own. Conditions: the arguments read as data.
  WHAT IT HOLDS: plain words on editions: ascending libraries, changes, what a change makes of an edition, and that it is undone. No program in sight.
  WHAT IT HOLDS: plain words on plays of changes, and that changes which name each other nowhere are apart. No program in sight.
  WHAT IT HOLDS: how changes lie: a change, lists of changes, and parts of them. No program's walk in sight.
  WHAT IT HOLDS: contracts of Valid and valid of package blame: whether changes are valid. Conditions: the arguments read as data; small signs.
  WHAT IT HOLDS: plain words on the difference of two editions: played in one it makes the other one. No program in sight.
  WHAT IT HOLDS: contract of the iterator that pairs of package carry hands back, and of pairs. Conditions: the arguments read as data.
  WHAT IT HOLDS: contract of Equivalences of package carry. Conditions: the arguments read as data; small signs, small libraries.
  WHAT IT HOLDS: the contract of Moved of package carry once more: its entry lies in memory of the call's own. Conditions: the arguments read as data; small signs, small libraries, short names.
  WHAT IT HOLDS: contract of the iterator slices.Backward at changes: it hands over the places and the changes, the last first. Conditions: the slice reads as changes.
  WHAT IT HOLDS: from an input as the rows read it to the predicates that the walks use: a change, a slice of changes. Over any program.
-/
import Derived.Deep.RegionHeld3
import Derived.Laws.Cover1
import Derived.Shelf.SlSortCmp.NoneTotal
import Derived.Test.YtlbjbmpkaniojaaGreatZRBlameMarks22
import Derived.Test.YtlbjbmpkaniojaaGreatZRBlameMarks24
import Derived.Test.YtlbjbmpkaniojaaGreatZRBlameMarks25
import Derived.Test.YtlbjbmpkaniojaaGreatZRBlameMarks27
import Derived.Test.YtlbjbmpkaniojaaGreatZRBlameMarks18
import Derived.Test.YtlbjbmpkaniojaaGreatZRBlameMarks13
import Derived.Test.YtlbjbmpkaniojaaGreatZRBlameMarks4
import Derived.Test.YtlbjbmpkaniojaaGreatZRBlameMarks23
import Derived.Test.YtlbjbmpkaniojaaGreatZRBlameMarks15
import Derived.Test.YtlbjbmpkaniojaaGreatZRBlameMarks16
import Derived.Test.YtlbjbmpkaniojaaGreatZRBlameMarks26
import Derived.Test.YtlbjbmpkaniojaaGreatZRBlameMarks28
import Derived.Test.YtlbjbmpkaniojaaGreatZRBlameMarks30
import Derived.Test.YtlbjbmpkaniojaaGreatZRBlameMarks14
import Derived.Test.YtlbjbmpkaniojaaGreatZRBlameMarks31
namespace Go.Proofs.YtlbjbmpkaniojaaGreat
open Go Go.RowKit Go.Maps
end Go.Proofs.YtlbjbmpkaniojaaGreat
namespace Go.Proofs.YtlbjbmpkaniojaaGreat
open Go Go.RowKit Go.Maps
end Go.Proofs.YtlbjbmpkaniojaaGreat
namespace Go.Proofs.YtlbjbmpkaniojaaGreat
open Go Go.RowKit Go.Maps
/-- an entry of the call's own memory: its slices lie in blocks from 'base' on. -/
structure EntO (w : World) (base : Nat) (vS vU vP : Value) (x : En) : Prop where
  s : w.ownsRow base 3 1 vS x.says.length (x.says.map (Value.int .i64))
  u : w.ownsRow base 9 1 vU x.uses.length (x.uses.map Value.string)
  p : w.ownsRow base 105 3 vP x.proof.length (stC x.proof)
  ls : x.says.length ≤ 1000
  lu : x.uses.length ≤ 1000
  lp : x.proof.length ≤ 1000
  nu : ∀ n ∈ x.uses, n.size ≤ 140737488355328
  n1 : x.name.size ≤ 140737488355328
  n2 : x.who.size ≤ 140737488355328
theorem EntO.ent {w : World} {base : Nat} {vS vU vP : Value} {x : En} (h : EntO w base vS vU vP x) : EntAt w vS vU vP x :=
  ⟨Ints.of_owns h.s (by have := h.ls; omega), ⟨RowK.of_owns h.u (by have := h.lu; omega), h.nu⟩, RowK.of_owns h.p (by have := h.lp; omega), h.n1, h.n2⟩
theorem EntO.blocks {w W' : World} {base base' : Nat} {vS vU vP : Value} {x : En} (h : EntO w base vS vU vP x) (hb : base' ≤ base) (hs : ∀ q, base ≤ q → q < w.heap.size → W'.heap[q]? = w.heap[q]?) : EntO W' base' vS vU vP x :=
  ⟨owns_base (owns_blocks h.s fun q h1 h2 _ => hs q h1 h2) hb, owns_base (owns_blocks h.u fun q h1 h2 _ => hs q h1 h2) hb, owns_base (owns_blocks h.p fun q h1 h2 _ => hs q h1 h2) hb, h.ls, h.lu, h.lp, h.nu, h.n1, h.n2⟩
/-- the value of an entry of the call's own. -/
def EnO (w : World) (base : Nat) (v : Value) (x : En) : Prop := ∃ vS vU vP, v = .agg #[.string x.name, .string x.who, vS, vU, vP] ∧ EntO w base vS vU vP x
theorem C5.set3 {w : World} {b : Nat} {x0 x1 x2 x3 x4 : Value} (h : C5 w b x0 x1 x2 x3 x4) (y2 y3 y4 : Value) : C5 (((w.setCell ⟨b, 2, none⟩ y2).setCell ⟨b, 3, none⟩ y3).setCell ⟨b, 4, none⟩ y4) b x0 x1 y2 y3 y4 := by
  have e : ((w.setCell ⟨b, 2, none⟩ y2).setCell ⟨b, 3, none⟩ y3).setCell ⟨b, 4, none⟩ y4 = w.setCells b 2 [y2, y3, y4] := rfl
  have hin := World.cell?_setCells_in b [y2, y3, y4] 2 w (by
    intro j hj
    match j, hj with
    | 0, _ => show (w.cell? ⟨b, 2, none⟩).isSome = true; rw [h.c2]; rfl
    | 1, _ => show (w.cell? ⟨b, 3, none⟩).isSome = true; rw [h.c3]; rfl
    | 2, _ => show (w.cell? ⟨b, 4, none⟩).isSome = true; rw [h.c4]; rfl)
  have hout := fun (o : Nat) (ho : o < 2) => World.cell?_setCells_out b [y2, y3, y4] 2 w ⟨b, o, none⟩ (fun _ _ => Or.inl ho)
  have hf := fun j => World.frozen?_setCells b [y2, y3, y4] 2 w ⟨b, j, none⟩
  rw [e]
  exact ⟨(hout 0 (by omega)).trans h.c0, (hout 1 (by omega)).trans h.c1, hin 0 (by simp), hin 1 (by simp), hin 2 (by simp), (hf 0).trans h.z0, (hf 1).trans h.z1, (hf 2).trans h.z2, (hf 3).trans h.z3, (hf 4).trans h.z4⟩
end Go.Proofs.YtlbjbmpkaniojaaGreat
namespace Go.Proofs.YtlbjbmpkaniojaaGreat
open Go Go.RowKit Go.Maps
theorem C5.set_2 {w : World} {b : Nat} {x0 x1 x2 x3 x4 : Value} (h : C5 w b x0 x1 x2 x3 x4) (y : Value) : C5 (w.setCell ⟨b, 2, none⟩ y) b x0 x1 y x3 x4 := by
  refine ⟨?_, ?_, World.cell?_setCell_same _ _ _ h.c2, ?_, ?_, ?_, ?_, ?_, ?_, ?_⟩
  · rw [World.cell?_setCell_other _ _ _ _ (by simp)]; exact h.c0
  · rw [World.cell?_setCell_other _ _ _ _ (by simp)]; exact h.c1
  · rw [World.cell?_setCell_other _ _ _ _ (by simp)]; exact h.c3
  · rw [World.cell?_setCell_other _ _ _ _ (by simp)]; exact h.c4
  · rw [World.frozen?_setCell]; exact h.z0
  · rw [World.frozen?_setCell]; exact h.z1
  · rw [World.frozen?_setCell]; exact h.z2
  · rw [World.frozen?_setCell]; exact h.z3
  · rw [World.frozen?_setCell]; exact h.z4
theorem C5.set_3 {w : World} {b : Nat} {x0 x1 x2 x3 x4 : Value} (h : C5 w b x0 x1 x2 x3 x4) (y : Value) : C5 (w.setCell ⟨b, 3, none⟩ y) b x0 x1 x2 y x4 := by
  refine ⟨?_, ?_, ?_, World.cell?_setCell_same _ _ _ h.c3, ?_, ?_, ?_, ?_, ?_, ?_⟩
  · rw [World.cell?_setCell_other _ _ _ _ (by simp)]; exact h.c0
  · rw [World.cell?_setCell_other _ _ _ _ (by simp)]; exact h.c1
  · rw [World.cell?_setCell_other _ _ _ _ (by simp)]; exact h.c2
  · rw [World.cell?_setCell_other _ _ _ _ (by simp)]; exact h.c4
  · rw [World.frozen?_setCell]; exact h.z0
  · rw [World.frozen?_setCell]; exact h.z1
  · rw [World.frozen?_setCell]; exact h.z2
  · rw [World.frozen?_setCell]; exact h.z3
  · rw [World.frozen?_setCell]; exact h.z4
theorem lit_own {w : World} {base : Nat} {e : TypeId} (size : Nat) (h : base ≤ w.heap.size) : (w.alloc (.cells #[] e)).ownsRow base e size (.slice (some ⟨w.heap.size, 0, none⟩) 0 0) 0 [] := by
  have := World.ownsRow_lit (base := base) (e := e) (size := size) w #[] 0 h (by simp [maxLen]) (by simp)
  simpa using this
end Go.Proofs.YtlbjbmpkaniojaaGreat
namespace Go.Proofs.YtlbjbmpkaniojaaGreat
open Go Go.RowKit Go.Maps
/-- a row of entries of the call's own; what the entries hold does not lie in the row's own block. -/
structure EnS (w : World) (base : Nat) (u : Value) (vs : List V3) (l : List En) : Prop where
  top : w.ownsRow base 41 5 u l.length (ensC l vs)
  len : vs.length = l.length
  rd : ∀ W' : World, (∀ q, q < w.heap.size → some q ≠ u.ownBlock → W'.heap[q]? = w.heap[q]?) → ∀ (j : Nat) (h : j < l.length) (h' : j < vs.length), EntAt W' vs[j].1 vs[j].2.1 vs[j].2.2 l[j]
theorem EnS.nil (w : World) (base : Nat) : EnS w base (.slice none 0 0) [] [] := ⟨World.ownsRow_nil _ _ _ _, rfl, fun _ _ j h => by simp at h⟩
theorem EnS.below {w w' : World} {base : Nat} {u : Value} {vs : List V3} {l : List En} (h : EnS w base u vs l) (hb : Below w.heap.size w w') : EnS w' base u vs l :=
  ⟨owns_below h.top hb, h.len, fun W' hW => h.rd W' fun q hq hne => (hW q (Nat.lt_of_lt_of_le hq hb.size) hne).trans (hb.block q hq)⟩
theorem EnS.ents {w : World} {base : Nat} {u : Value} {vs : List V3} {l : List En} (h : EnS w base u vs l) (hl : l.length ≤ 1000) : EntsV w u vs l :=
  ⟨RowK.of_owns h.top (by omega), h.len, h.rd w fun _ _ _ => rfl⟩
theorem ensC_snoc (l : List En) (x : En) (vs : List V3) (v : V3) (h : vs.length = l.length) : ensC (l ++ [x]) (vs ++ [v]) = ensC l vs ++ enC x v := by
  rw [ensC_append l [x] vs [v] h]
  simp [ensC]
theorem EnS.push {w w1 w2 : World} {base : Nat} {u : Value} {vs : List V3} {l : List En} (h : EnS w base u vs l) (hb : Below w.heap.size w w1) {x : En} {v : V3}
    (hx : ∀ W' : World, (∀ q, q < w1.heap.size → some q ≠ u.ownBlock → W'.heap[q]? = w1.heap[q]?) → EntAt W' v.1 v.2.1 v.2.2 x)
    {g cap n : Nat} (hn : n = l.length) (hown : w2.ownsRow base 41 5 (.slice (some ⟨g, 0, none⟩) (n + 1) cap) (n + 1) (ensC l vs ++ enC x v)) (hg : w1.grownBy w2 u.ownBlock) {H : Nat} (hH : H = w1.heap.size) (hat : u.ownBlock = some g ∨ g = H) :
    EnS w2 base (.slice (some ⟨g, 0, none⟩) (n + 1) cap) (vs ++ [v]) (l ++ [x]) := by
  subst hn
  have hb1 := h.below hb
  have key : ∀ W' : World, (∀ q, q < w2.heap.size → some q ≠ (Value.slice (some ⟨g, 0, none⟩) (l.length + 1) cap).ownBlock → W'.heap[q]? = w2.heap[q]?) → ∀ q, q < w1.heap.size → some q ≠ u.ownBlock → W'.heap[q]? = w1.heap[q]? := by
    intro W' hW q hq hne
    rw [hW q (Nat.lt_of_lt_of_le hq hg.size) ?_, hg.block q hq hne]
    intro e
    have e : q = g := Option.some.inj e
    rcases hat with ha | ha
    · exact hne (by rw [ha, e])
    · omega
  refine ⟨by rw [ensC_snoc _ _ _ _ h.len]; simpa using hown, by simp [h.len], fun W' hW j hj hj' => ?_⟩
  have k1 := key W' hW
  by_cases hlt : j < l.length
  · have hv : j < vs.length := by rw [h.len]; exact hlt
    rw [List.getElem_append_left hlt, List.getElem_append_left hv]
    exact hb1.rd W' k1 j hlt hv
  · have e : j = l.length := by simp at hj; omega
    subst e
    have e1 : (l ++ [x])[l.length] = x := by simp
    have e2 : (vs ++ [v])[l.length] = v := by rw [List.getElem_append_right (by rw [h.len]; exact Nat.le_refl _)]; simp [h.len]
    rw [e1, e2]
    exact hx W' k1
theorem EnS.slice {w : World} {base : Nat} {u : Value} {vs : List V3} {l : List En} (h : EnS w base u vs l) : ∃ a c, u = .slice a l.length c := owns_slice h.top
/-- the one entry that an append is handed. -/
theorem row_one_ent (w : World) (x0 x1 x2 x3 x4 : Value) (t : TypeId) : RowK (w.alloc (.cells #[x0, x1, x2, x3, x4] t)) (.slice (some ⟨w.heap.size, 0, none⟩) 1 1) 5 1 [x0, x1, x2, x3, x4] := by
  refine ⟨rfl, _, _, rfl, Nat.le_refl _, by omega, (fun h => by cases h), fun j u hj => ⟨_, _, rfl, ?_⟩⟩
  rw [World.cell?_alloc_new, Nat.zero_add]
  simpa using hj
theorem enC_one (x : En) (a b c : Option Addr) (n m k n' m' k' : Nat) : ∀ u ∈ enC x (.slice a n n', .slice b m m', .slice c k k'), u.oneCell' = true := by
  intro u hu
  simp [enC] at hu
  rcases hu with rfl | rfl | rfl | rfl | rfl <;> rfl
/-- what an entry is asked to be, to be copied. -/
def EnSm (x : En) : Prop := 0 < x.says.length ∧ x.says.length ≤ 1000 ∧ x.uses.length ≤ 1000 ∧ x.proof.length ≤ 1000
end Go.Proofs.YtlbjbmpkaniojaaGreat
namespace Go.Proofs.YtlbjbmpkaniojaaGreat
open Go Go.RowKit Go.Maps
theorem EB.block {w w' : World} {b : Nat} {x : En} {vS vU vP : Value} (h : EB w b x vS vU vP) (hb : w'.heap[b]? = w.heap[b]?) : EB w' b x vS vU vP :=
  ⟨(World.cell?_of_block hb).trans h.c0, (World.cell?_of_block hb).trans h.c1, (World.cell?_of_block hb).trans h.c2, (World.cell?_of_block hb).trans h.c3, (World.cell?_of_block hb).trans h.c4⟩
theorem ent_sm {s : Sg} {x : En} (h : entryB s x = true) : EnSm x := by
  have h1 := entryB_iff.1 h
  have h2 := h1.len
  have h3 := (termB_T h1.says).ne
  have h4 := (termB_facts h1.says).2.2.2
  refine ⟨h3, by omega, by omega, ?_⟩
  by_cases h0 : x.proof.length = 0
  · omega
  · have := proof60 (h1.proof h0); omega
end Go.Proofs.YtlbjbmpkaniojaaGreat
namespace Go.Proofs.YtlbjbmpkaniojaaGreat
open Go Go.RowKit Go.Maps
def cpN (x y : Nm) : Int := if ltN x y then -1 else if ltN y x then 1 else 0
theorem cpN_lt {x y : Nm} : cpN x y < 0 ↔ ltN x y := by
  unfold cpN
  by_cases h : ltN x y
  · simp [h]
  · by_cases k : ltN y x <;> simp [h, k]
theorem bgtr (x y : Nm) : (Op.bytesLess x.toList y.toList || x.toList == y.toList) = !decide (ltN y x) := by
  rw [bless, bytes_eq]
  rcases ltN.tri x y with k | k | k
  · simp [k, k.asym]
  · subst k; simp [ltN.irr]
  · have hne : x ≠ y := fun e => by subst e; exact ltN.irr _ k
    simp [k, k.asym, hne]
/-- the cells of pairs of names. -/
def pC (L : List N2) : List Value := L.flatMap fun p => [.string p.1, .string p.2]
instance : Inhabited N2 := ⟨(ByteArray.empty, ByteArray.empty)⟩
theorem own_sortK {w : World} {base g n c k : Nat} {E : TypeId} {xs : List Value} (h : w.ownsRow base E k (.slice (some ⟨g, 0, none⟩) n c) n xs) (m : Nat) (d : Array Value) (hd : d.size = n * k) (os : Array Obj) :
    (Go.Proofs.sortWorld id w g 0 m d os).ownsRow base E k (.slice (some ⟨g, 0, none⟩) n c) n d.toList := by
  obtain ⟨h1, h2⟩ := h
  refine ⟨by simp [hd], ?_⟩
  rcases h2 with ⟨h2, -⟩ | ⟨g', cap, cur, r1, r2, r3, r4, r5, r6, r7⟩
  · cases h2
  · cases r1
    have hnk : n * k ≤ cur.size := by rw [r6]; exact Nat.mul_le_mul_right _ r4
    refine .inr ⟨g, c, Go.Sort.putCells id 0 d cur, rfl, r2, ?_, r4, r5, ?_, ?_⟩
    · unfold sortWorld Go.Sort.grow
      simp only
      have hlt := (Array.getElem?_eq_some_iff.1 r3).1
      rw [Array.getElem?_append_left (by rw [size_putRow]; exact hlt)]
      unfold Go.Sort.putRow Go.Sort.mapBlock
      simp only [Array.getElem?_modify]
      rw [if_pos trivial]
      show Option.map _ (w.heap[g]?) = _
      rw [r3]
      rfl
    · unfold Go.Sort.putCells; simpa using r6
    · apply List.ext_getElem?
      intro i
      rw [List.getElem?_take]
      by_cases hi : i < n * k
      · rw [if_pos (by omega)]
        unfold Go.Sort.putCells
        rw [Array.getElem?_toList, Array.getElem?_mapIdx, Array.getElem?_eq_getElem (show i < cur.size by omega), Array.getElem?_toList, Array.getElem?_eq_getElem (show i < d.size by omega)]
        simp only [Option.map_some]
        rw [if_pos ⟨Nat.zero_le _, by omega⟩, getElem!_pos d (i - 0) (by omega)]
        rfl
      · rw [if_neg (by omega), Array.getElem?_toList, Array.getElem?_eq_none (by omega)]
end Go.Proofs.YtlbjbmpkaniojaaGreat
namespace Go.Proofs.YtlbjbmpkaniojaaGreat
open Go Go.RowKit
abbrev em : Nm := ⟨#[]⟩
/-- a library in ascending order of names. -/
def AscE (l : List En) : Prop := l.Pairwise fun a b => ltN a.name b.name
instance (l : List En) : Decidable (AscE l) := inferInstanceAs (Decidable (l.Pairwise fun a b => ltN a.name b.name))
theorem AscE.unique {l m : List En} (h : AscE l) (k : AscE m) (e : ∀ x, x ∈ l ↔ x ∈ m) : l = m :=
  asc_unique (R := fun a b : En => ltN a.name b.name) (fun a => ltN.irr a.name) (fun h k => ltN.trans h k) h k e
theorem AscE.nd {l : List En} (h : AscE l) : (l.map En.name).Nodup := by
  rw [List.Nodup, List.pairwise_map]
  exact h.imp fun h e => by rw [e] at h; exact ltN.irr _ h
theorem AscE.inj {l : List En} (h : AscE l) {x y : En} (hx : x ∈ l) (hy : y ∈ l) (e : x.name = y.name) : x = y := by
  obtain ⟨i, hi, rfl⟩ := List.getElem_of_mem hx
  obtain ⟨j, hj, rfl⟩ := List.getElem_of_mem hy
  have h1 := idxN_nd h.nd hi
  have h2 := idxN_nd h.nd hj
  rw [e, h2] at h1
  cases h1
  rfl
theorem idxN_has (l : List En) (n : Nm) : (idxN l n).isSome = hasN (l.map En.name) n := by
  unfold idxN hasN
  rw [List.findIdx?_isSome]
theorem hasE_iff {l : List En} {n : Nm} : hasN (l.map En.name) n = true ↔ ∃ x ∈ l, x.name = n := by
  rw [hasN_iff, List.mem_map]
theorem hasE_no {l : List En} {n : Nm} : hasN (l.map En.name) n = false ↔ ∀ x ∈ l, x.name ≠ n := by
  rw [Bool.eq_false_iff, ne_eq, hasE_iff]
  constructor
  · intro h x hx e; exact h ⟨x, hx, e⟩
  · rintro h ⟨x, hx, e⟩; exact h x hx e
/-- an ascending list with an entry more in its place. -/
def putE (x : En) : List En → List En
  | [] => [x]
  | y :: l => if ltN x.name y.name then x :: y :: l else y :: putE x l
theorem putE_mem {x z : En} : ∀ {l : List En}, z ∈ putE x l ↔ z = x ∨ z ∈ l
  | [] => by simp [putE]
  | y :: l => by
    unfold putE
    split
    · simp
    · rw [List.mem_cons, putE_mem, List.mem_cons]; constructor <;> (intro h; rcases h with h | h | h <;> simp [h])
theorem putE_len {x : En} : ∀ {l : List En}, (putE x l).length = l.length + 1
  | [] => rfl
  | y :: l => by
    unfold putE
    split
    · rfl
    · simp [putE_len]
theorem putE_asc {x : En} : ∀ {l : List En}, AscE l → (∀ y ∈ l, y.name ≠ x.name) → AscE (putE x l)
  | [], _, _ => by simp [putE, AscE]
  | y :: l, h, hn => by
    obtain ⟨h1, h2⟩ := List.pairwise_cons.1 h
    unfold putE
    split
    · rename_i hy
      exact List.pairwise_cons.2 ⟨fun z hz => by
        rcases List.mem_cons.1 hz with rfl | hz
        · exact hy
        · exact hy.trans (h1 z hz), h⟩
    · rename_i hy
      have hyx : ltN y.name x.name := by
        rcases ltN.tri y.name x.name with k | k | k
        · exact k
        · exact (hn y (by simp) k).elim
        · exact (hy k).elim
      refine List.pairwise_cons.2 ⟨fun z hz => ?_, putE_asc h2 fun z hz => hn z (by simp [hz])⟩
      rcases putE_mem.1 hz with rfl | hz
      · exact hyx
      · exact h1 z hz
/-- a library in ascending order. -/
def srtE (l : List En) : List En := l.foldl (fun o x => putE x o) []
theorem srtE_snoc (l : List En) (x : En) : srtE (l ++ [x]) = putE x (srtE l) := by simp [srtE]
theorem srtE_mem {z : En} (l : List En) : z ∈ srtE l ↔ z ∈ l := by
  have key : ∀ (l o : List En), z ∈ l.foldl (fun o x => putE x o) o ↔ z ∈ o ∨ z ∈ l := by
    intro l
    induction l with
    | nil => intro o; simp
    | cons x l ih =>
      intro o
      rw [List.foldl_cons, ih, putE_mem, List.mem_cons]
      constructor
      · rintro ((h | h) | h) <;> simp [h]
      · rintro (h | h | h) <;> simp [h]
  rw [srtE, key]; simp
theorem srtE_len (l : List En) : (srtE l).length = l.length := by
  have key : ∀ (l o : List En), (l.foldl (fun o x => putE x o) o).length = o.length + l.length := by
    intro l
    induction l with
    | nil => intro o; simp
    | cons x l ih =>
      intro o
      rw [List.foldl_cons, ih, putE_len, List.length_cons]; omega
  rw [srtE, key]; simp
theorem srtE_asc {l : List En} (h : (l.map En.name).Nodup) : AscE (srtE l) := by
  have key : ∀ (l o : List En), AscE o → (l.map En.name).Nodup → (∀ x ∈ l, ∀ y ∈ o, y.name ≠ x.name) → AscE (l.foldl (fun o x => putE x o) o) := by
    intro l
    induction l with
    | nil => intro o h _ _; exact h
    | cons x l ih =>
      intro o h hn hd
      rw [List.foldl_cons]
      rw [List.map_cons, List.nodup_cons] at hn
      refine ih _ (putE_asc h (hd x (by simp))) hn.2 fun z hz y hy => ?_
      rcases putE_mem.1 hy with rfl | hy
      · intro e; exact hn.1 (List.mem_map.2 ⟨z, hz, e.symm⟩)
      · exact hd z (by simp [hz]) y hy
  exact key l [] (by simp [AscE]) h (by simp)
/-- what is sorted and has no name twice is the ascending list. -/
theorem srt_eq {L M pre : List En} (hp : L.Perm pre) (hs : L.Pairwise fun a b => ¬ ltN b.name a.name) (hn : (pre.map En.name).Nodup) (hm : AscE M) (e : ∀ x, x ∈ M ↔ x ∈ pre) : L = M := by
  have hn' : (L.map En.name).Nodup := (hp.map En.name).nodup_iff.2 hn
  rw [List.Nodup, List.pairwise_map] at hn'
  refine AscE.unique ((hs.and hn').imp fun {a b} ⟨h1, h2⟩ => ?_) hm fun x => by rw [hp.mem_iff, e]
  rcases ltN.tri a.name b.name with k | k | k
  · exact k
  · exact absurd k h2
  · exact absurd k h1
/-- a change: its kind, by whom it is, the names, the entry. -/
structure Chg where
  kind : Int
  who : Nm
  name : Nm
  new : Nm
  ent : En
deriving DecidableEq
def edB (s : Sg) (l : List En) : Bool := libB s l && decide (AscE l)
theorem edB_iff {s : Sg} {l : List En} : edB s l = true ↔ LibOK s l ∧ AscE l := by
  unfold edB
  rw [Bool.and_eq_true, libB_iff, decide_eq_true_eq]
def chgB (s : Sg) (c : Chg) : Bool :=
  signB s && (nmB c.who && (if c.kind = 1 ∨ c.kind = 2 then decide (c.name = em) && (decide (c.new = em) && entryB s c.ent)
    else if c.kind = 3 then nmB c.name && (nmB c.new && (decide (c.name ≠ c.new) && decide (c.ent = en0)))
    else if c.kind = 4 then nmB c.name && (decide (c.new = em) && decide (c.ent = en0)) else false))
inductive ChgOK (s : Sg) (c : Chg) : Prop where
  | put (h0 : signB s = true) (h1 : nmB c.who = true) (hk : c.kind = 1 ∨ c.kind = 2) (h2 : c.name = em) (h3 : c.new = em) (h4 : EnOK s c.ent)
  | ren (h0 : signB s = true) (h1 : nmB c.who = true) (hk : c.kind = 3) (h2 : nmB c.name = true) (h3 : nmB c.new = true) (h4 : c.name ≠ c.new) (h5 : c.ent = en0)
  | drop (h0 : signB s = true) (h1 : nmB c.who = true) (hk : c.kind = 4) (h2 : nmB c.name = true) (h3 : c.new = em) (h5 : c.ent = en0)
theorem chgB_iff {s : Sg} {c : Chg} : chgB s c = true ↔ ChgOK s c := by
  unfold chgB
  constructor
  · intro h
    rw [Bool.and_eq_true, Bool.and_eq_true] at h
    obtain ⟨h0, h1, h⟩ := h
    split at h
    · rename_i hk
      simp only [Bool.and_eq_true, decide_eq_true_eq] at h
      exact .put h0 h1 hk h.1 h.2.1 (entryB_iff.1 h.2.2)
    split at h
    · rename_i hk
      simp only [Bool.and_eq_true, decide_eq_true_eq] at h
      exact .ren h0 h1 hk h.1 h.2.1 h.2.2.1 h.2.2.2
    split at h
    · rename_i hk
      simp only [Bool.and_eq_true, decide_eq_true_eq] at h
      exact .drop h0 h1 hk h.1 h.2.1 h.2.2
    · cases h
  · intro h
    cases h with
    | put h0 h1 hk h2 h3 h4 => rw [h0, h1, if_pos hk, h2, h3, entryB_iff.2 h4]; rfl
    | ren h0 h1 hk h2 h3 h4 h5 => rw [h0, h1, if_neg (by omega), if_pos hk, h2, h3, h5]; simp [h4]
    | drop h0 h1 hk h2 h3 h5 => rw [h0, h1, if_neg (by omega), if_neg (by omega), if_pos hk, h2, h3, h5]; simp
/-- whether an entry, but the one with a name, uses a name. -/
def usedB (l : List En) (n but : Nm) : Bool := l.any fun x => decide (x.name ≠ but) && hasN x.uses n
theorem usedB_no {l : List En} {n but : Nm} : usedB l n but = false ↔ ∀ x ∈ l, x.name ≠ but → n ∉ x.uses := by
  unfold usedB
  rw [List.any_eq_false]
  constructor
  · intro h x hx hb hu
    exact h x hx (by rw [Bool.and_eq_true]; exact ⟨by simpa using hb, hasN_iff.2 hu⟩)
  · intro h x hx hc
    rw [Bool.and_eq_true] at hc
    exact h x hx (by simpa using hc.1) (hasN_iff.1 hc.2)
def subE (x y : En) : En := if y.name = x.name then x else y
def renN (n m u : Nm) : Nm := if u = n then m else u
def renE (n m : Nm) (x : En) : En := { x with name := renN n m x.name, uses := x.uses.map (renN n m) }
/-- what a change makes of an edition. -/
def doL (l : List En) (c : Chg) : List En × Int :=
  if c.kind = 1 then
    if hasN (l.map En.name) c.ent.name then ([], 6) else if 60 ≤ l.length then ([], 4) else (putE c.ent l, 0)
  else if c.kind = 2 then
    if hasN (l.map En.name) c.ent.name then if c.ent ∈ l then ([], 8) else (l.map (subE c.ent), 0) else ([], 5)
  else if c.kind = 3 then
    if hasN (l.map En.name) c.name then if hasN (l.map En.name) c.new || usedB l c.new em then ([], 6) else (srtE (l.map (renE c.name c.new)), 0) else ([], 5)
  else
    if hasN (l.map En.name) c.name then if usedB l c.name c.name then ([], 10) else (l.filter (fun x => decide (x.name ≠ c.name)), 0) else ([], 5)
def chg0 : Chg := ⟨0, em, em, em, en0⟩
theorem ChgOK.sign {s : Sg} {c : Chg} (h : ChgOK s c) : signB s = true := by cases h <;> assumption
theorem ChgOK.who {s : Sg} {c : Chg} (h : ChgOK s c) : nmB c.who = true := by cases h <;> assumption
theorem renN_inj {n m : Nm} {l : List Nm} (hm : m ∉ l) {u v : Nm} (hu : u ∈ l) (hv : v ∈ l) (e : renN n m u = renN n m v) : u = v := by
  unfold renN at e
  split at e <;> split at e
  · rename_i h1 h2; rw [h1, h2]
  · exact absurd (e ▸ hv) hm
  · exact absurd (e ▸ hu) hm
  · exact e
theorem nd_map_on {α β : Type} {f : α → β} : ∀ {l : List α}, l.Nodup → (∀ x ∈ l, ∀ y ∈ l, f x = f y → x = y) → (l.map f).Nodup
  | [], _, _ => by simp
  | x :: l, h, hf => by
    obtain ⟨h1, h2⟩ := List.nodup_cons.1 h
    rw [List.map_cons, List.nodup_cons]
    refine ⟨fun hx => ?_, nd_map_on h2 fun a ha b hb => hf a (by simp [ha]) b (by simp [hb])⟩
    obtain ⟨y, hy, e⟩ := List.mem_map.1 hx
    exact h1 (hf y (by simp [hy]) x (by simp) e ▸ hy)
theorem ren_names (n m : Nm) (l : List En) : (l.map (renE n m)).map En.name = (l.map En.name).map (renN n m) := by
  rw [List.map_map, List.map_map]; rfl
theorem ren_nd {l : List En} {n m : Nm} (h : (l.map En.name).Nodup) (hm : hasN (l.map En.name) m = false) : ((l.map (renE n m)).map En.name).Nodup := by
  rw [ren_names]
  exact nd_map_on h fun x hx y hy e => renN_inj (hasN_no.1 hm) hx hy e
theorem renE_ok {s : Sg} {x : En} {n m : Nm} (h : EnOK s x) (hm : nmB m = true) (hu : m ∉ x.uses) : EnOK s (renE n m x) where
  name := by unfold renE renN; dsimp only; split; exact hm; exact h.name
  who := h.who
  says := h.says
  can := h.can
  len := by show (x.uses.map _).length ≤ 12; rw [List.length_map]; exact h.len
  nd := nd_map_on h.nd fun a ha b hb e => renN_inj hu ha hb e
  uses := fun u hu => by
    obtain ⟨v, hv, rfl⟩ := List.mem_map.1 hu
    unfold renN; split
    · exact hm
    · exact h.uses v hv
  ax := fun h0 => by show (x.uses.map _).length = 0; rw [List.length_map]; exact h.ax h0
  proof := fun h0 => by show proofB (x.uses.map _).length x.proof = true; rw [List.length_map]; exact h.proof h0
theorem sub_names (x : En) (l : List En) : (l.map (subE x)).map En.name = l.map En.name := by
  rw [List.map_map]
  refine List.map_congr_left fun y _ => ?_
  show (subE x y).name = y.name
  unfold subE
  split
  · rename_i h; exact h.symm
  · rfl
theorem ascE_names {l m : List En} (e : l.map En.name = m.map En.name) (h : AscE l) : AscE m := by
  have h' : (l.map En.name).Pairwise ltN := List.pairwise_map.2 h
  rw [e] at h'
  exact List.pairwise_map.1 h'
theorem usedB_all {s : Sg} {l : List En} (h : LibOK s l) {n : Nm} : usedB l n em = false ↔ ∀ x ∈ l, n ∉ x.uses := by
  rw [usedB_no]
  refine ⟨fun k x hx => k x hx fun e => ?_, fun k x hx _ => k x hx⟩
  have := nmB_len (h.ents x hx).name
  rw [e] at this
  exact absurd this.1 (by decide)
/-- what is made of an edition is an edition. -/
theorem doL_ed {s : Sg} {l l' : List En} {c : Chg} (h : edB s l = true) (hc : chgB s c = true) (hd : doL l c = (l', 0)) : edB s l' = true := by
  obtain ⟨hl, ha⟩ := edB_iff.1 h
  have hc := chgB_iff.1 hc
  rw [edB_iff]
  unfold doL at hd
  split at hd
  · rename_i hk
    have h4 : EnOK s c.ent := by
      cases hc with
      | put h0 h1 hk h2 h3 h4 => exact h4
      | ren h0 h1 hk' => omega
      | drop h0 h1 hk' => omega
    split at hd
    · cases hd
    rename_i hn
    split at hd
    · cases hd
    rename_i h60
    cases hd
    have hn' := hasE_no.1 (by simpa using hn : hasN (l.map En.name) c.ent.name = false)
    refine ⟨⟨hl.sign, by rw [putE_len]; omega, fun x hx => ?_, (putE_asc ha hn').nd⟩, putE_asc ha hn'⟩
    rcases putE_mem.1 hx with rfl | hx
    · exact h4
    · exact hl.ents x hx
  split at hd
  · rename_i hk1 hk
    have h4 : EnOK s c.ent := by
      cases hc with
      | put h0 h1 hk h2 h3 h4 => exact h4
      | ren h0 h1 hk' => omega
      | drop h0 h1 hk' => omega
    split at hd
    · split at hd
      · cases hd
      cases hd
      have ha' := ascE_names (sub_names c.ent l).symm ha
      refine ⟨⟨hl.sign, by rw [List.length_map]; exact hl.len, fun x hx => ?_, ha'.nd⟩, ha'⟩
      obtain ⟨y, hy, rfl⟩ := List.mem_map.1 hx
      unfold subE
      split
      · exact h4
      · exact hl.ents y hy
    · cases hd
  split at hd
  · rename_i hk1 hk2 hk
    have h3 : nmB c.new = true := by
      cases hc with
      | put h0 h1 hk' => omega
      | ren h0 h1 hk' h2 h3 => exact h3
      | drop h0 h1 hk' => omega
    split at hd
    · split at hd
      · cases hd
      rename_i hu
      cases hd
      rw [Bool.or_eq_true, not_or] at hu
      have h1 : hasN (l.map En.name) c.new = false := by simpa using hu.1
      have h2 := (usedB_all hl).1 (by simpa using hu.2 : usedB l c.new em = false)
      have ha' := srtE_asc (ren_nd (n := c.name) hl.nd h1)
      refine ⟨⟨hl.sign, by rw [srtE_len, List.length_map]; exact hl.len, fun x hx => ?_, ha'.nd⟩, ha'⟩
      obtain ⟨y, hy, rfl⟩ := List.mem_map.1 ((srtE_mem _).1 hx)
      exact renE_ok (hl.ents y hy) h3 (h2 y hy)
    · cases hd
  split at hd
  · split at hd
    · cases hd
    cases hd
    have ha' : AscE (l.filter fun x => decide (x.name ≠ c.name)) := List.Pairwise.sublist List.filter_sublist ha
    exact ⟨⟨hl.sign, Nat.le_trans (List.length_filter_le _ _) hl.len, fun x hx => hl.ents x (List.mem_filter.1 hx).1, ha'.nd⟩, ha'⟩
  · cases hd
theorem sub_mem {l : List En} (ha : AscE l) {x : En} (hn : hasN (l.map En.name) x.name = true) {z : En} : z ∈ l.map (subE x) ↔ z = x ∨ (z ∈ l ∧ z.name ≠ x.name) := by
  rw [List.mem_map]
  constructor
  · rintro ⟨y, hy, rfl⟩
    unfold subE
    split
    · exact Or.inl rfl
    · rename_i h; exact Or.inr ⟨hy, h⟩
  · rintro (rfl | ⟨h1, h2⟩)
    · obtain ⟨y, hy, e⟩ := hasE_iff.1 hn
      exact ⟨y, hy, by unfold subE; rw [if_pos e]⟩
    · exact ⟨z, h1, by unfold subE; rw [if_neg h2]⟩
end Go.Proofs.YtlbjbmpkaniojaaGreat
namespace Go.Proofs.YtlbjbmpkaniojaaGreat
open Go Go.RowKit
def playL : List En → List Chg → Int → List En × Int × Int
  | l, [], _ => (l, -1, 0)
  | l, c :: cs, i => if (doL l c).2 = 0 then playL (doL l c).1 cs (i + 1) else ([], i, (doL l c).2)
theorem playL_pre : ∀ (a b : List Chg) (l : List En) (i : Int), (playL l (a ++ b) i).2.2 = 0 → (playL l a i).2.2 = 0
  | [], b, l, i, _ => rfl
  | c :: a, b, l, i, h => by
    rw [List.cons_append] at h
    unfold playL at h ⊢
    split at h
    · rename_i h0
      rw [if_pos h0]
      exact playL_pre a b _ _ h
    · rename_i h0; exact absurd h h0
/-- the error of a list of changes. -/
def lstL (s : Sg) (cs : List Chg) : Int := if (signB s && cs.all (chgB s)) = true then (if 200 < cs.length then 7 else 0) else 1
def askL (s : Sg) (l : List En) (cs : List Chg) : Int := if edB s l = true then lstL s cs else 1
def playedL (s : Sg) (l : List En) (cs : List Chg) : List En × Int × Int := if askL s l cs = 0 then playL l cs 0 else ([], 0, askL s l cs)
def atL (s : Sg) (cs : List Chg) (n : Int) : List En × Int := if lstL s cs = 0 then (if n < 0 ∨ (cs.length : Int) < n then ([], 7) else ((playL [] (cs.take n.toNat) 0).1, (playL [] (cs.take n.toNat) 0).2.2)) else ([], lstL s cs)
theorem lstL_ok {s : Sg} {cs : List Chg} : lstL s cs = 0 ↔ signB s = true ∧ (∀ c ∈ cs, chgB s c = true) ∧ cs.length ≤ 200 := by
  unfold lstL
  split
  · rename_i h
    rw [Bool.and_eq_true, List.all_eq_true] at h
    split
    · constructor
      · intro h; cases h
      · rintro ⟨-, -, h⟩; omega
    · exact ⟨fun _ => ⟨h.1, h.2, by omega⟩, fun _ => rfl⟩
  · rename_i h
    constructor
    · intro h; cases h
    · rintro ⟨h1, h2, -⟩
      exact absurd (by rw [Bool.and_eq_true, List.all_eq_true]; exact ⟨h1, h2⟩) h
theorem edB_nil {s : Sg} (h : signB s = true) : edB s [] = true := edB_iff.2 ⟨⟨h, by simp, by simp, by simp⟩, by simp [AscE]⟩
def trC (c : Chg) (y : En) : En := if c.kind = 2 then subE c.ent y else if c.kind = 3 then renE c.name c.new y else y
def goneC (c : Chg) (n : Nm) : Prop := c.kind = 4 ∧ n = c.name
def addC (c : Chg) (z : En) : Prop := c.kind = 1 ∧ z = c.ent
/-- whether a change can be made. -/
inductive OkC (l : List En) (c : Chg) : Prop where
  | add (hk : c.kind = 1) (h1 : ∀ x ∈ l, x.name ≠ c.ent.name) (h2 : l.length < 60)
  | set (hk : c.kind = 2) (h1 : ∃ x ∈ l, x.name = c.ent.name) (h2 : c.ent ∉ l)
  | ren (hk : c.kind = 3) (h1 : ∃ x ∈ l, x.name = c.name) (h2 : ∀ x ∈ l, x.name ≠ c.new) (h3 : ∀ x ∈ l, c.new ∉ x.uses)
  | drop (hk : c.kind = 4) (h1 : ∃ x ∈ l, x.name = c.name) (h2 : ∀ x ∈ l, x.name ≠ c.name → c.name ∉ x.uses)
theorem ChgOK.kinds {s : Sg} {c : Chg} (h : ChgOK s c) : c.kind = 1 ∨ c.kind = 2 ∨ c.kind = 3 ∨ c.kind = 4 := by
  cases h with
  | put h0 h1 hk => omega
  | ren h0 h1 hk => omega
  | drop h0 h1 hk => omega
theorem okC_iff {s : Sg} {l : List En} {c : Chg} (hl : LibOK s l) (hc : ChgOK s c) : (doL l c).2 = 0 ↔ OkC l c := by
  unfold doL
  constructor
  · intro h
    split at h
    · rename_i hk
      split at h
      · cases h
      rename_i hn
      split at h
      · cases h
      rename_i h60
      exact .add hk (hasE_no.1 (by simpa using hn)) (by omega)
    split at h
    · rename_i hk
      split at h
      · rename_i hn
        split at h
        · cases h
        rename_i hm
        exact .set hk (hasE_iff.1 hn) hm
      · cases h
    split at h
    · rename_i hk
      split at h
      · rename_i hn
        split at h
        · cases h
        rename_i hu
        rw [Bool.or_eq_true, not_or] at hu
        exact .ren hk (hasE_iff.1 hn) (hasE_no.1 (by simpa using hu.1)) ((usedB_all hl).1 (by simpa using hu.2))
      · cases h
    rename_i k1 k2 k3
    split at h
    · rename_i hn
      split at h
      · cases h
      rename_i hu
      exact .drop (by have := hc.kinds; omega) (hasE_iff.1 hn) (usedB_no.1 (by simpa using hu))
    · cases h
  · intro h
    cases h with
    | add hk h1 h2 => rw [if_pos hk, if_neg (by rw [hasE_no.2 h1]; simp), if_neg (by omega)]
    | set hk h1 h2 => rw [if_neg (by omega), if_pos hk, if_pos (hasE_iff.2 h1), if_neg h2]
    | ren hk h1 h2 h3 => rw [if_neg (by omega), if_neg (by omega), if_pos hk, if_pos (hasE_iff.2 h1), if_neg (by rw [hasE_no.2 h2, (usedB_all hl).2 h3]; simp)]
    | drop hk h1 h2 => rw [if_neg (by omega), if_neg (by omega), if_neg (by omega), if_pos (hasE_iff.2 h1), if_neg (by rw [usedB_no.2 h2]; simp)]
/-- the members of what a change makes. -/
theorem doL_mem {s : Sg} {l : List En} {c : Chg} (hl : LibOK s l) (hc : ChgOK s c) (h : OkC l c) (z : En) : z ∈ (doL l c).1 ↔ (∃ y ∈ l, ¬ goneC c y.name ∧ z = trC c y) ∨ addC c z := by
  unfold doL goneC trC addC
  cases h with
  | add hk h1 h2 =>
    rw [if_pos hk, if_neg (by rw [hasE_no.2 h1]; simp), if_neg (by omega)]
    simp only [hk]
    rw [putE_mem]
    constructor
    · rintro (h | h)
      · exact Or.inr ⟨by simp, h⟩
      · exact Or.inl ⟨z, h, by simp, by simp⟩
    · rintro (⟨y, hy, -, e⟩ | ⟨-, h⟩)
      · exact Or.inr (by simp at e; rw [e]; exact hy)
      · exact Or.inl h
  | set hk h1 h2 =>
    rw [if_neg (by omega), if_pos hk, if_pos (hasE_iff.2 h1), if_neg h2]
    simp only [hk]
    rw [List.mem_map]
    constructor
    · rintro ⟨y, hy, e⟩
      exact Or.inl ⟨y, hy, by simp, by simp [e]⟩
    · rintro (⟨y, hy, -, e⟩ | ⟨h, -⟩)
      · exact ⟨y, hy, by simpa using e.symm⟩
      · exact absurd h (by decide)
  | ren hk h1 h2 h3 =>
    rw [if_neg (by omega), if_neg (by omega), if_pos hk, if_pos (hasE_iff.2 h1), if_neg (by rw [hasE_no.2 h2, (usedB_all hl).2 h3]; simp)]
    simp only [hk]
    rw [srtE_mem, List.mem_map]
    constructor
    · rintro ⟨y, hy, e⟩
      exact Or.inl ⟨y, hy, by simp, by simp [e]⟩
    · rintro (⟨y, hy, -, e⟩ | ⟨h, -⟩)
      · exact ⟨y, hy, by simpa using e.symm⟩
      · exact absurd h (by decide)
  | drop hk h1 h2 =>
    rw [if_neg (by omega), if_neg (by omega), if_neg (by omega), if_pos (hasE_iff.2 h1), if_neg (by rw [usedB_no.2 h2]; simp)]
    simp only [hk]
    rw [List.mem_filter]
    constructor
    · rintro ⟨h, h'⟩
      exact Or.inl ⟨z, h, by simpa using h', by simp⟩
    · rintro (⟨y, hy, hg, e⟩ | ⟨h, -⟩)
      · simp at e
        subst e
        exact ⟨hy, by simpa using hg⟩
      · exact absurd h (by decide)
theorem nm_ne {n : Nm} (h : nmB n = true) : n ≠ em := fun e => by
  have := (nmB_len h).1
  rw [e] at this
  exact absurd this (by decide)
end Go.Proofs.YtlbjbmpkaniojaaGreat
namespace Go.Proofs.YtlbjbmpkaniojaaGreat
open Go Go.RowKit
structure ChgAt (w : World) (vS vU vP : Value) (c : Chg) : Prop where
  e : EntAt w vS vU vP c.ent
  n1 : c.who.size ≤ 140737488355328
  n2 : c.name.size ≤ 140737488355328
  n3 : c.new.size ≤ 140737488355328
theorem ChgAt.below {w w' : World} {vS vU vP : Value} {c : Chg} (h : ChgAt w vS vU vP c) (hb : Below w.heap.size w w') : ChgAt w' vS vU vP c := ⟨h.e.below hb, h.n1, h.n2, h.n3⟩
/-- the value of a change. -/
def chV (c : Chg) (vS vU vP : Value) : Value := .agg #[.int .i64 c.kind, .string c.who, .string c.name, .string c.new, .string c.ent.name, .string c.ent.who, vS, vU, vP]
def chC (c : Chg) (v : V3) : List Value := [.int .i64 c.kind, .string c.who, .string c.name, .string c.new, .string c.ent.name, .string c.ent.who, v.1, v.2.1, v.2.2]
/-- a change in a box. -/
structure CB (w : World) (b : Nat) (c : Chg) (vS vU vP : Value) : Prop where
  c0 : w.cell? ⟨b, 0, none⟩ = some (.int .i64 c.kind)
  c1 : w.cell? ⟨b, 1, none⟩ = some (.string c.who)
  c2 : w.cell? ⟨b, 2, none⟩ = some (.string c.name)
  c3 : w.cell? ⟨b, 3, none⟩ = some (.string c.new)
  c4 : w.cell? ⟨b, 4, none⟩ = some (.string c.ent.name)
  c5 : w.cell? ⟨b, 5, none⟩ = some (.string c.ent.who)
  c6 : w.cell? ⟨b, 6, none⟩ = some vS
  c7 : w.cell? ⟨b, 7, none⟩ = some vU
  c8 : w.cell? ⟨b, 8, none⟩ = some vP
theorem CB.block {w w' : World} {b : Nat} {c : Chg} {vS vU vP : Value} (h : CB w b c vS vU vP) (hb : w'.heap[b]? = w.heap[b]?) : CB w' b c vS vU vP :=
  ⟨(World.cell?_of_block hb).trans h.c0, (World.cell?_of_block hb).trans h.c1, (World.cell?_of_block hb).trans h.c2, (World.cell?_of_block hb).trans h.c3, (World.cell?_of_block hb).trans h.c4, (World.cell?_of_block hb).trans h.c5, (World.cell?_of_block hb).trans h.c6, (World.cell?_of_block hb).trans h.c7, (World.cell?_of_block hb).trans h.c8⟩
theorem CB.below {w w' : World} {b : Nat} {c : Chg} {vS vU vP : Value} (h : CB w b c vS vU vP) (hb : Below w.heap.size w w') : CB w' b c vS vU vP :=
  h.block (hb.block b (World.block_lt_of_cell? _ _ h.c0))
theorem CB.new (w : World) (c : Chg) (vS vU vP : Value) (t : TypeId) : CB (w.alloc (.cells #[.int .i64 c.kind, .string c.who, .string c.name, .string c.new, .string c.ent.name, .string c.ent.who, vS, vU, vP] t)) w.heap.size c vS vU vP := by
  constructor <;> (rw [World.cell?_alloc_new]; rfl)
def chsC : List Chg → List V3 → List Value
  | x :: l, v :: vs => chC x v ++ chsC l vs
  | _, _ => []
theorem chsC_len : ∀ (l : List Chg) (vs : List V3), vs.length = l.length → (chsC l vs).length = l.length * 9
  | [], [], _ => rfl
  | [], _ :: _, h => by simp at h
  | _ :: _, [], h => by simp at h
  | x :: l, v :: vs, h => by
    have := chsC_len l vs (by simpa using h)
    simp [chsC, chC, this]; omega
theorem chsC_get : ∀ (l : List Chg) (vs : List V3) (_ : vs.length = l.length) (j : Nat) (h : j < l.length) (h' : j < vs.length) (r : Nat), r < 9 → (chsC l vs)[j * 9 + r]? = (chC l[j] vs[j])[r]?
  | [], _, _, j, h, _, _, _ => by simp at h
  | _ :: _, [], e, _, _, _, _, _ => by simp at e
  | x :: l, v :: vs, e, 0, _, _, r, hr => by
    show (chC x v ++ chsC l vs)[0 * 9 + r]? = _
    rw [Nat.zero_mul, Nat.zero_add, List.getElem?_append_left (by simp [chC]; exact hr)]
    rfl
  | x :: l, v :: vs, e, j + 1, h, h', r, hr => by
    show (chC x v ++ chsC l vs)[(j + 1) * 9 + r]? = _
    have h9 : (chC x v).length = 9 := rfl
    rw [List.getElem?_append_right (by rw [h9]; omega), h9, show (j + 1) * 9 + r - 9 = j * 9 + r by omega]
    exact chsC_get l vs (by simpa using e) j (by simpa using h) (by simpa using h') r hr
theorem chsC_append : ∀ (l m : List Chg) (vs us : List V3), vs.length = l.length → chsC (l ++ m) (vs ++ us) = chsC l vs ++ chsC m us
  | [], m, [], us, _ => rfl
  | [], _, _ :: _, _, h => by simp at h
  | _ :: _, _, [], _, h => by simp at h
  | x :: l, m, v :: vs, us, h => by simp [chsC, chsC_append l m vs us (by simpa using h)]
/-- a list of changes in memory. -/
def ChsV (w : World) (v : Value) (vs : List V3) (l : List Chg) : Prop := RowK w v 9 l.length (chsC l vs) ∧ vs.length = l.length ∧ ∀ (j : Nat) (h : j < l.length) (h' : j < vs.length), ChgAt w vs[j].1 vs[j].2.1 vs[j].2.2 l[j]
def ChsAt (w : World) (v : Value) (l : List Chg) : Prop := ∃ vs, ChsV w v vs l
theorem ChsV.below {w w' : World} {v : Value} {vs : List V3} {l : List Chg} (h : ChsV w v vs l) (hb : Below w.heap.size w w') : ChsV w' v vs l := ⟨h.1.below hb, h.2.1, fun j h1 h2 => (h.2.2 j h1 h2).below hb⟩
theorem ChsAt.below {w w' : World} {v : Value} {l : List Chg} (h : ChsAt w v l) (hb : Below w.heap.size w w') : ChsAt w' v l := by
  obtain ⟨vs, h⟩ := h; exact ⟨vs, h.below hb⟩
theorem ChsAt.nil (w : World) : ChsAt w (.slice none 0 0) [] := ⟨[], ⟨rfl, none, 0, rfl, Nat.le_refl _, by simp, fun _ => rfl, fun j u hj => by simp [chsC] at hj⟩, rfl, fun j h => by simp at h⟩
theorem ChsAt.open {w : World} {v : Value} {l : List Chg} (h : ChsAt w v l) :
    ∃ a cap, v = .slice a l.length cap ∧ l.length ≤ cap ∧ l.length ≤ 140737488355328 ∧ (a = none → cap = 0) ∧
      ∀ j (h : j < l.length), ∃ b o vs vu vp, a = some ⟨b, o, none⟩ ∧ w.cell? ⟨b, o + j * 9, none⟩ = some (.int .i64 l[j].kind) ∧ w.cell? ⟨b, o + j * 9 + 1, none⟩ = some (.string l[j].who) ∧ w.cell? ⟨b, o + j * 9 + 2, none⟩ = some (.string l[j].name) ∧ w.cell? ⟨b, o + j * 9 + 3, none⟩ = some (.string l[j].new) ∧ w.cell? ⟨b, o + j * 9 + 4, none⟩ = some (.string l[j].ent.name) ∧ w.cell? ⟨b, o + j * 9 + 5, none⟩ = some (.string l[j].ent.who) ∧ w.cell? ⟨b, o + j * 9 + 6, none⟩ = some vs ∧ w.cell? ⟨b, o + j * 9 + 7, none⟩ = some vu ∧ w.cell? ⟨b, o + j * 9 + 8, none⟩ = some vp ∧ ChgAt w vs vu vp l[j] := by
  obtain ⟨vs, ⟨_, a, cap, h2, h3, h4, h5, h6⟩, hl, he⟩ := h
  refine ⟨a, cap, h2, h3, h4, h5, fun j hj => ?_⟩
  have hjv : j < vs.length := by omega
  have g := fun r hr => chsC_get l vs hl j hj hjv r hr
  have key : ∀ r (hr : r < 9) u, (chC l[j] vs[j])[r]? = some u → ∃ b o, a = some ⟨b, o, none⟩ ∧ w.cell? ⟨b, o + (j * 9 + r), none⟩ = some u := fun r hr u hu => h6 _ _ ((g r hr).trans hu)
  obtain ⟨b, o, e0, q0⟩ := key 0 (by omega) _ rfl
  have key2 : ∀ r (hr : r < 9) u, (chC l[j] vs[j])[r]? = some u → w.cell? ⟨b, o + (j * 9 + r), none⟩ = some u := fun r hr u hu => by
    obtain ⟨b', o', e', q'⟩ := key r hr u hu
    rw [e0] at e'
    cases e'
    exact q'
  refine ⟨b, o, vs[j].1, vs[j].2.1, vs[j].2.2, e0, q0, ?_, ?_, ?_, ?_, ?_, ?_, ?_, ?_, he j hj hjv⟩ <;> (rw [Nat.add_assoc]; exact key2 _ (by omega) _ rfl)
/-- the first changes, and those behind them. -/
theorem ChsV.take {w : World} {a : Option Addr} {n cap : Nat} {vs : List V3} {l : List Chg} (h : ChsV w (.slice a n cap) vs l) (k : Nat) (hk : k ≤ l.length) : ChsV w (.slice a k cap) (vs.take k) (l.take k) := by
  obtain ⟨⟨h1, a', cap', h2, h3, h4, h5, h6⟩, hl, he⟩ := h
  simp only [Value.slice.injEq] at h2
  obtain ⟨rfl, rfl, rfl⟩ := h2
  have hlk : (l.take k).length = k := by rw [List.length_take]; omega
  have hvk : (vs.take k).length = k := by rw [List.length_take]; omega
  refine ⟨⟨chsC_len _ _ (by rw [hlk, hvk]), a, cap, by rw [hlk], by omega, by omega, h5, fun j u hj => ?_⟩, by rw [hlk, hvk], fun j g g' => ?_⟩
  · have e : chsC l vs = chsC (l.take k) (vs.take k) ++ chsC (l.drop k) (vs.drop k) := by
      rw [← chsC_append _ _ _ _ (by rw [hlk, hvk]), List.take_append_drop, List.take_append_drop]
    refine h6 j u ?_
    rw [e, List.getElem?_append_left (List.getElem?_eq_some_iff.1 hj).1]
    exact hj
  · simp only [List.getElem_take]
    exact he j (by omega) (by omega)
theorem ChsAt.take {w : World} {a : Option Addr} {n cap : Nat} {l : List Chg} (h : ChsAt w (.slice a n cap) l) (k : Nat) (hk : k ≤ l.length) : ChsAt w (.slice a k cap) (l.take k) := by
  obtain ⟨vs, h⟩ := h
  exact ⟨_, h.take k hk⟩
theorem ChsAt.drop {w : World} {b o n cap : Nat} {l : List Chg} (h : ChsAt w (.slice (some ⟨b, o, none⟩) n cap) l) (k : Nat) (hk : k ≤ l.length) : ChsAt w (.slice (some ⟨b, o + k * 9, none⟩) (l.length - k) (cap - k)) (l.drop k) := by
  obtain ⟨vs, ⟨h1, a', cap', h2, h3, h4, h5, h6⟩, hl, he⟩ := h
  simp only [Value.slice.injEq] at h2
  obtain ⟨rfl, rfl, rfl⟩ := h2
  have hlk : (l.take k).length = k := by rw [List.length_take]; omega
  have hvk : (vs.take k).length = k := by rw [List.length_take]; omega
  refine ⟨vs.drop k, ⟨chsC_len _ _ (by simp [hl]), some ⟨b, o + k * 9, none⟩, cap - k, by simp, by simp; omega, by simp; omega, (fun h => by cases h), fun j u hj => ?_⟩, by simp [hl], fun j g g' => ?_⟩
  · have e : chsC l vs = chsC (l.take k) (vs.take k) ++ chsC (l.drop k) (vs.drop k) := by
      rw [← chsC_append _ _ _ _ (by rw [hlk, hvk]), List.take_append_drop, List.take_append_drop]
    have hk9 : (chsC (l.take k) (vs.take k)).length = k * 9 := by rw [chsC_len _ _ (by rw [hlk, hvk]), hlk]
    have := h6 (k * 9 + j) u (by rw [e, List.getElem?_append_right (by omega), hk9, Nat.add_sub_cancel_left]; exact hj)
    obtain ⟨b', o', e', q⟩ := this
    cases e'
    exact ⟨b, o + k * 9, rfl, by rw [Nat.add_assoc]; exact q⟩
  · simp only [List.getElem_drop]
    rw [List.length_drop] at g g'
    exact he (k + j) (by omega) (by omega)
end Go.Proofs.YtlbjbmpkaniojaaGreat
namespace Go.Proofs.YtlbjbmpkaniojaaGreat
open Go Go.RowKit Go.Maps
theorem chgB_eq (s : Sg) (c : Chg) : chgB s c = (nmB c.who && (signB s && (if c.kind = 1 ∨ c.kind = 2 then entryB s c.ent && (decide (c.name = em) && decide (c.new = em))
    else if c.kind = 3 then nmB c.name && (nmB c.new && (decide (c.name ≠ c.new) && decide (c.ent = en0)))
    else if c.kind = 4 then nmB c.name && (decide (c.new = em) && decide (c.ent = en0)) else false))) := by
  unfold chgB
  by_cases h : c.kind = 1 ∨ c.kind = 2
  · rw [if_pos h, if_pos h]
    cases signB s <;> cases nmB c.who <;> cases entryB s c.ent <;> cases decide (c.name = em) <;> cases decide (c.new = em) <;> rfl
  · rw [if_neg h, if_neg h]
    cases signB s <;> cases nmB c.who <;> rfl
theorem em_toL : (em : Nm).toList = [] := by rw [ByteArray.toList_eq]
theorem str_em {x : Nm} (h : x = em) : (x.toList == ([] : List UInt8)) = true ∧ x.toList = [] ∧ x.toList.isEmpty = true := by
  subst h; rw [em_toL]; exact ⟨rfl, rfl, rfl⟩
theorem str_ne {x : Nm} (h : x ≠ em) : (x.toList == ([] : List UInt8)) = false ∧ ¬ x.toList = [] ∧ x.toList.isEmpty = false := by
  have h0 : x.toList ≠ [] := fun e => h (by
    have h1 := bytes_eq x em
    rw [em_toL, e] at h1
    simpa using h1)
  exact ⟨by simpa using h0, h0, by simpa using h0⟩
set_option maxHeartbeats 4000000 in
set_option maxRecDepth 100000 in
theorem blame_Valid (vs vS vU vP : Value) (s : Sg) (c : Chg) (w : World) (hs : SignAt w vs s) (hc : ChgAt w vS vU vP c) (hs1 : s.length ≤ 1000) :
    Calls Tryz.prog 26 #[vs, chV c vS vU vP] w fun e w' => e = .returned (.bool (chgB s c)) ∧ Below w.heap.size w w' := by
  obtain ⟨sa, sc, rfl, -⟩ := hc.e.s.open
  obtain ⟨ua, uc, rfl, -⟩ := hc.e.u.open
  obtain ⟨pa, pc, rfl, -⟩ := hc.e.p.open
  unfold chV
  have hCB := CB.new w c (.slice sa c.ent.says.length sc) (.slice ua c.ent.uses.length uc) (.slice pa c.ent.proof.length pc) 43
  obtain ⟨V, hV⟩ : ∃ V, w.alloc (.cells #[.int .i64 c.kind, .string c.who, .string c.name, .string c.new, .string c.ent.name, .string c.ent.who, .slice sa c.ent.says.length sc, .slice ua c.ent.uses.length uc, .slice pa c.ent.proof.length pc] 43) = V := ⟨_, rfl⟩
  have hbV : Below w.heap.size w V := hV ▸ (Below.refl _ _).alloc (Nat.le_refl _) _
  rw [hV] at hCB
  have HSM := hid (blame_Same _ _ _ (.slice none 0 0) (.slice none 0 0) (.slice none 0 0) c.ent en0 V (hc.e.below hbV) (EntAt.zero V))
  have HNM := hid (fun (n : Nm) (X : World) (hn : n.size ≤ 140737488355328) => deps_Name n X hn)
  have HSG := hid (fun (X : World) (hX : Below V.heap.size V X) => term_ValidSign vs s X ((hs.below hbV).below hX) hs1)
  have HVE := hid (fun (X : World) (hX : Below V.heap.size V X) => deps_ValidEntry vs _ _ _ s c.ent X ((hs.below hbV).below hX) ((hc.e.below hbV).below hX) hs1)
  have HR := hid (chgB_eq s c)
  have HW := hid hV
  have HBV := hid hbV
  have HCB := hid hCB
  have HN := hid (And.intro hc.n1 (And.intro hc.n2 hc.n3))
  obtain ⟨c0, c1, c2, c3, c4, c5, c6, c7, c8⟩ := hCB
  clear hV hbV hc hs
  go_enter Tryz.func26, Tryz.ntmps26
  go_wp2_with (rw [HW.out])
  refine HSM.out.mono ?_
  rintro e w1 ⟨rfl, hb1⟩
  obtain ⟨d0, d1, d2, d3, d4, d5, d6, d7, d8⟩ := HCB.out.below hb1
  have HB1 := hid hb1
  have HD := hid (HCB.out.below hb1)
  obtain ⟨eb, heb⟩ : ∃ eb, decide (c.ent = en0) = eb := ⟨_, rfl⟩
  rw [heb]
  rw [heb] at HR
  clear c0 c1 c2 c3 c4 c5 c6 c7 c8 hb1 heb HSM HCB
  cases g1 : nmB c.who
  · have HF : Hid (chgB s c = false) := hid (by rw [HR.out, g1]; rfl)
    have HN1 := hid (HNM.out c.who w1 HN.out.1)
    rw [g1] at HN1
    clear g1
    go_wp2_with (go_at_call 71; refine HN1.out.mono ?_; rintro e w' ⟨rfl, rfl⟩)
    go_ret
    exact ⟨ret_bool HF.out.symm, HBV.out.trans (HB1.out.mono HBV.out.size)⟩
  have HN1 := hid (HNM.out c.who w1 HN.out.1)
  rw [g1] at HN1 HR
  clear g1
  cases g2 : signB s
  · have HF : Hid (chgB s c = false) := hid (by rw [HR.out, g2]; rfl)
    have HS1 := hid (HSG.out w1 HB1.out)
    rw [g2] at HS1
    clear g2
    go_wp2_with (first | (go_at_call 71; refine HN1.out.mono ?_; rintro e w' ⟨rfl, rfl⟩) | (go_at_call 72; refine HS1.out.mono ?_; rintro e w2 ⟨rfl, hb2⟩))
    go_ret
    exact ⟨ret_bool HF.out.symm, HBV.out.trans ((HB1.out.trans (hb2.mono HB1.out.size)).mono HBV.out.size)⟩
  have HS1 := hid (HSG.out w1 HB1.out)
  rw [g2] at HS1 HR
  clear g2
  by_cases k12 : c.kind = 1 ∨ c.kind = 2
  · rw [if_pos k12] at HR
    have q1 : (c.kind == 1) = true ∨ ((c.kind == 1) = false ∧ (c.kind == 2) = true) := by
      rcases k12 with k | k
      · exact Or.inl (by simpa using k)
      · exact Or.inr ⟨by rw [k]; rfl, by simpa using k⟩
    clear k12
    have HVEE := HVE
    cases g3 : entryB s c.ent
    · have HF : Hid (chgB s c = false) := hid (by rw [HR.out, g3]; rfl)
      simp only [g3] at HVEE
      clear g3
      rcases q1 with q1 | ⟨q1, q2⟩
      all_goals
        go_wp2_with (first | (go_at_call 71; refine HN1.out.mono ?_; rintro e w' ⟨rfl, rfl⟩) | (go_at_call 72; refine HS1.out.mono ?_; rintro e w2 ⟨rfl, hb2⟩; obtain ⟨d0, d1, d2, d3, d4, d5, d6, d7, d8⟩ := HD.out.below hb2; have hb12 := HB1.out.trans (hb2.mono HB1.out.size)) | (go_at_call 73; refine (HVEE.out _ hb12).mono ?_; rintro e w3 ⟨rfl, hb3⟩; have hb13 := hb12.trans (hb3.mono hb12.size)))
        go_ret
        exact ⟨ret_bool HF.out.symm, HBV.out.trans (hb13.mono HBV.out.size)⟩
    · rw [g3] at HR
      simp only [g3] at HVEE
      clear g3
      by_cases n1 : c.name = em
      · by_cases n2 : c.new = em
        · have HF : Hid (chgB s c = true) := hid (by rw [HR.out, n1, n2]; rfl)
          obtain ⟨r1, r2, r3⟩ := str_em n1
          obtain ⟨t1, t2, t3⟩ := str_em n2
          clear n1 n2
          rcases q1 with q1 | ⟨q1, q2⟩
          all_goals
            go_wp2_with (first | (go_at_call 71; refine HN1.out.mono ?_; rintro e w' ⟨rfl, rfl⟩) | (go_at_call 72; refine HS1.out.mono ?_; rintro e w2 ⟨rfl, hb2⟩; obtain ⟨d0, d1, d2, d3, d4, d5, d6, d7, d8⟩ := HD.out.below hb2; have hb12 := HB1.out.trans (hb2.mono HB1.out.size)) | (go_at_call 73; refine (HVEE.out _ hb12).mono ?_; rintro e w3 ⟨rfl, hb3⟩; have hb13 := hb12.trans (hb3.mono hb12.size); obtain ⟨d0, d1, d2, d3, d4, d5, d6, d7, d8⟩ := HD.out.below (hb2.trans (hb3.mono hb2.size))))
            go_ret
            exact ⟨ret_bool HF.out.symm, HBV.out.trans (hb13.mono HBV.out.size)⟩
        · have HF : Hid (chgB s c = false) := hid (by rw [HR.out, n1, decide_eq_false n2]; rfl)
          obtain ⟨r1, r2, r3⟩ := str_em n1
          obtain ⟨t1, t2, t3⟩ := str_ne n2
          clear n1 n2
          rcases q1 with q1 | ⟨q1, q2⟩
          all_goals
            go_wp2_with (first | (go_at_call 71; refine HN1.out.mono ?_; rintro e w' ⟨rfl, rfl⟩) | (go_at_call 72; refine HS1.out.mono ?_; rintro e w2 ⟨rfl, hb2⟩; obtain ⟨d0, d1, d2, d3, d4, d5, d6, d7, d8⟩ := HD.out.below hb2; have hb12 := HB1.out.trans (hb2.mono HB1.out.size)) | (go_at_call 73; refine (HVEE.out _ hb12).mono ?_; rintro e w3 ⟨rfl, hb3⟩; have hb13 := hb12.trans (hb3.mono hb12.size); obtain ⟨d0, d1, d2, d3, d4, d5, d6, d7, d8⟩ := HD.out.below (hb2.trans (hb3.mono hb2.size))))
            go_ret
            exact ⟨ret_bool HF.out.symm, HBV.out.trans (hb13.mono HBV.out.size)⟩
      · have HF : Hid (chgB s c = false) := hid (by rw [HR.out, decide_eq_false n1]; rfl)
        obtain ⟨r1, r2, r3⟩ := str_ne n1
        clear n1
        rcases q1 with q1 | ⟨q1, q2⟩
        all_goals
          go_wp2_with (first | (go_at_call 71; refine HN1.out.mono ?_; rintro e w' ⟨rfl, rfl⟩) | (go_at_call 72; refine HS1.out.mono ?_; rintro e w2 ⟨rfl, hb2⟩; obtain ⟨d0, d1, d2, d3, d4, d5, d6, d7, d8⟩ := HD.out.below hb2; have hb12 := HB1.out.trans (hb2.mono HB1.out.size)) | (go_at_call 73; refine (HVEE.out _ hb12).mono ?_; rintro e w3 ⟨rfl, hb3⟩; have hb13 := hb12.trans (hb3.mono hb12.size); obtain ⟨d0, d1, d2, d3, d4, d5, d6, d7, d8⟩ := HD.out.below (hb2.trans (hb3.mono hb2.size))))
          go_ret
          exact ⟨ret_bool HF.out.symm, HBV.out.trans (hb13.mono HBV.out.size)⟩
  rw [if_neg k12] at HR
  have j1 : (c.kind == 1) = false := by simp; omega
  have j2 : (c.kind == 2) = false := by simp; omega
  clear HVE
  by_cases k3 : c.kind = 3
  · rw [if_pos k3] at HR
    have j3 : (c.kind == 3) = true := by simpa using k3
    clear k12 k3
    have HP := hid (fun (X : World) => HNM.out c.name X HN.out.2.1)
    have HQ := hid (fun (X : World) => HNM.out c.new X HN.out.2.2)
    cases g3 : nmB c.name
    · have HF : Hid (chgB s c = false) := hid (by rw [HR.out, g3]; rfl)
      simp only [g3] at HP
      clear g3
      go_wp2_with (first | (go_at_call 72; refine HS1.out.mono ?_; rintro e w2 ⟨rfl, hb2⟩; obtain ⟨d0, d1, d2, d3, d4, d5, d6, d7, d8⟩ := HD.out.below hb2; have hb12 := HB1.out.trans (hb2.mono HB1.out.size)) | (go_at_call 71; (with_reducible refine HN1.out.mono ?_); rintro e w' ⟨rfl, rfl⟩) | (go_at_call 71; (with_reducible refine (HP.out _).mono ?_); rintro e w' ⟨rfl, rfl⟩))
      go_ret
      exact ⟨ret_bool HF.out.symm, HBV.out.trans (hb12.mono HBV.out.size)⟩
    rw [g3] at HR
    simp only [g3] at HP
    clear g3
    cases g4 : nmB c.new
    · have HF : Hid (chgB s c = false) := hid (by rw [HR.out, g4]; rfl)
      simp only [g4] at HQ
      clear g4
      go_wp2_with (first | (go_at_call 72; refine HS1.out.mono ?_; rintro e w2 ⟨rfl, hb2⟩; obtain ⟨d0, d1, d2, d3, d4, d5, d6, d7, d8⟩ := HD.out.below hb2; have hb12 := HB1.out.trans (hb2.mono HB1.out.size)) | (go_at_call 71; (with_reducible refine HN1.out.mono ?_); rintro e w' ⟨rfl, rfl⟩) | (go_at_call 71; (with_reducible refine (HP.out _).mono ?_); rintro e w' ⟨rfl, rfl⟩) | (go_at_call 71; (with_reducible refine (HQ.out _).mono ?_); rintro e w' ⟨rfl, rfl⟩))
      go_ret
      exact ⟨ret_bool HF.out.symm, HBV.out.trans (hb12.mono HBV.out.size)⟩
    rw [g4] at HR
    simp only [g4] at HQ
    clear g4
    by_cases hne : c.name = c.new
    · have HF : Hid (chgB s c = false) := hid (by rw [HR.out, decide_eq_false (fun h => h hne)]; rfl)
      have q1 : (c.name.toList == c.new.toList) = true := by rw [bytes_eq]; simpa using hne
      have q2 : (c.name.toList != c.new.toList) = false := by rw [bne, q1]; rfl
      clear hne
      go_wp2_with (first | (go_at_call 72; refine HS1.out.mono ?_; rintro e w2 ⟨rfl, hb2⟩; obtain ⟨d0, d1, d2, d3, d4, d5, d6, d7, d8⟩ := HD.out.below hb2; have hb12 := HB1.out.trans (hb2.mono HB1.out.size)) | (go_at_call 71; (with_reducible refine HN1.out.mono ?_); rintro e w' ⟨rfl, rfl⟩) | (go_at_call 71; (with_reducible refine (HP.out _).mono ?_); rintro e w' ⟨rfl, rfl⟩) | (go_at_call 71; (with_reducible refine (HQ.out _).mono ?_); rintro e w' ⟨rfl, rfl⟩))
      go_ret
      exact ⟨ret_bool HF.out.symm, HBV.out.trans (hb12.mono HBV.out.size)⟩
    · have HF : Hid (chgB s c = eb) := hid (by rw [HR.out, decide_eq_true (show c.name ≠ c.new from hne)]; rfl)
      have q1 : (c.name.toList == c.new.toList) = false := by rw [bytes_eq]; simpa using hne
      have q2 : (c.name.toList != c.new.toList) = true := by rw [bne, q1]; rfl
      clear hne
      go_wp2_with (first | (go_at_call 72; refine HS1.out.mono ?_; rintro e w2 ⟨rfl, hb2⟩; obtain ⟨d0, d1, d2, d3, d4, d5, d6, d7, d8⟩ := HD.out.below hb2; have hb12 := HB1.out.trans (hb2.mono HB1.out.size)) | (go_at_call 71; (with_reducible refine HN1.out.mono ?_); rintro e w' ⟨rfl, rfl⟩) | (go_at_call 71; (with_reducible refine (HP.out _).mono ?_); rintro e w' ⟨rfl, rfl⟩) | (go_at_call 71; (with_reducible refine (HQ.out _).mono ?_); rintro e w' ⟨rfl, rfl⟩))
      go_ret
      exact ⟨ret_bool HF.out.symm, HBV.out.trans (hb12.mono HBV.out.size)⟩
  rw [if_neg k3] at HR
  have j3 : (c.kind == 3) = false := by simpa using k3
  by_cases k4 : c.kind = 4
  · rw [if_pos k4] at HR
    have j4 : (c.kind == 4) = true := by simpa using k4
    clear k12 k3 k4
    have HP := hid (fun (X : World) => HNM.out c.name X HN.out.2.1)
    cases g3 : nmB c.name
    · have HF : Hid (chgB s c = false) := hid (by rw [HR.out, g3]; rfl)
      simp only [g3] at HP
      clear g3
      go_wp2_with (first | (go_at_call 72; refine HS1.out.mono ?_; rintro e w2 ⟨rfl, hb2⟩; obtain ⟨d0, d1, d2, d3, d4, d5, d6, d7, d8⟩ := HD.out.below hb2; have hb12 := HB1.out.trans (hb2.mono HB1.out.size)) | (go_at_call 71; (with_reducible refine HN1.out.mono ?_); rintro e w' ⟨rfl, rfl⟩) | (go_at_call 71; (with_reducible refine (HP.out _).mono ?_); rintro e w' ⟨rfl, rfl⟩))
      go_ret
      exact ⟨ret_bool HF.out.symm, HBV.out.trans (hb12.mono HBV.out.size)⟩
    rw [g3] at HR
    simp only [g3] at HP
    clear g3
    by_cases n2 : c.new = em
    · have HF : Hid (chgB s c = eb) := hid (by rw [HR.out, decide_eq_true n2]; rfl)
      obtain ⟨t1, t2, t3⟩ := str_em n2
      clear n2
      go_wp2_with (first | (go_at_call 72; refine HS1.out.mono ?_; rintro e w2 ⟨rfl, hb2⟩; obtain ⟨d0, d1, d2, d3, d4, d5, d6, d7, d8⟩ := HD.out.below hb2; have hb12 := HB1.out.trans (hb2.mono HB1.out.size)) | (go_at_call 71; (with_reducible refine HN1.out.mono ?_); rintro e w' ⟨rfl, rfl⟩) | (go_at_call 71; (with_reducible refine (HP.out _).mono ?_); rintro e w' ⟨rfl, rfl⟩))
      go_ret
      exact ⟨ret_bool HF.out.symm, HBV.out.trans (hb12.mono HBV.out.size)⟩
    · have HF : Hid (chgB s c = false) := hid (by rw [HR.out, decide_eq_false n2]; rfl)
      obtain ⟨t1, t2, t3⟩ := str_ne n2
      clear n2
      go_wp2_with (first | (go_at_call 72; refine HS1.out.mono ?_; rintro e w2 ⟨rfl, hb2⟩; obtain ⟨d0, d1, d2, d3, d4, d5, d6, d7, d8⟩ := HD.out.below hb2; have hb12 := HB1.out.trans (hb2.mono HB1.out.size)) | (go_at_call 71; (with_reducible refine HN1.out.mono ?_); rintro e w' ⟨rfl, rfl⟩) | (go_at_call 71; (with_reducible refine (HP.out _).mono ?_); rintro e w' ⟨rfl, rfl⟩))
      go_ret
      exact ⟨ret_bool HF.out.symm, HBV.out.trans (hb12.mono HBV.out.size)⟩
  rw [if_neg k4] at HR
  have j4 : (c.kind == 4) = false := by simpa using k4
  have HF : Hid (chgB s c = false) := hid (by rw [HR.out]; rfl)
  clear k12 k3 k4
  go_wp2_with (first | (go_at_call 72; refine HS1.out.mono ?_; rintro e w2 ⟨rfl, hb2⟩; obtain ⟨d0, d1, d2, d3, d4, d5, d6, d7, d8⟩ := HD.out.below hb2; have hb12 := HB1.out.trans (hb2.mono HB1.out.size)) | (go_at_call 71; (with_reducible refine HN1.out.mono ?_); rintro e w' ⟨rfl, rfl⟩))
  go_ret
  exact ⟨ret_bool HF.out.symm, HBV.out.trans (hb12.mono HBV.out.size)⟩
end Go.Proofs.YtlbjbmpkaniojaaGreat
namespace Go.Proofs.YtlbjbmpkaniojaaGreat
open Go Go.RowKit
theorem nd_len_le {α : Type} [DecidableEq α] : ∀ {l m : List α}, l.Nodup → (∀ x ∈ l, x ∈ m) → l.length ≤ m.length
  | [], _, _, _ => Nat.zero_le _
  | x :: l, m, h, hs => by
    obtain ⟨h1, h2⟩ := List.nodup_cons.1 h
    have hx := hs x (by simp)
    have := nd_len_le (m := m.erase x) h2 fun y hy => (List.mem_erase_of_ne (fun (e : y = x) => h1 (by rw [← e]; exact hy))).2 (hs y (by simp [hy]))
    rw [List.length_erase_of_mem hx] at this
    have := List.length_pos_of_mem hx
    rw [List.length_cons]
    omega
end Go.Proofs.YtlbjbmpkaniojaaGreat
namespace Go.Proofs.YtlbjbmpkaniojaaGreat
open Go Go.RowKit Go.Maps Go.Shelf
attribute [local go_sem] Oper.semAt_some
end Go.Proofs.YtlbjbmpkaniojaaGreat
namespace Go.Proofs.YtlbjbmpkaniojaaGreat
open Go Go.RowKit Go.Maps Go.Shelf
attribute [local go_sem] Oper.semAt_some
/-- a row of pairs of names. -/
def PrsAt (w : World) (v : Value) (L : List N2) : Prop := RowK w v 2 L.length (pC L)
theorem PrsAt.below {w w' : World} {v : Value} {L : List N2} (h : PrsAt w v L) (hb : Below w.heap.size w w') : PrsAt w' v L := RowK.below h hb
theorem PrsAt.nil (w : World) : PrsAt w (.slice none 0 0) [] := ⟨rfl, none, 0, rfl, Nat.le_refl _, by simp, fun _ => rfl, fun j u hj => by simp [pC] at hj⟩
/-- the box of a value that is handed to the body, behind the loop's record's turn. -/
theorem EB.turned {w w' : World} {b l : Nat} {x : En} {vS vU vP : Value} (h : EB w b x vS vU vP) (hr : RecT l w w') (hne : b ≠ l) : EB w' b x vS vU vP := by
  obtain ⟨o, rfl⟩ := hr
  exact h.block (World.putObj_heap_other (fun e => hne (by omega)))
theorem ble {x y : Nm} (h : ¬ ltN y x) : (Op.bytesLess x.toList y.toList || x.toList == y.toList) = true := by rw [bgtr, decide_eq_false h]; rfl
theorem ble' {x y : Nm} (h : ltN y x) : (Op.bytesLess x.toList y.toList || x.toList == y.toList) = false := by rw [bgtr, decide_eq_true h]; rfl
end Go.Proofs.YtlbjbmpkaniojaaGreat
namespace Go.Proofs.YtlbjbmpkaniojaaGreat
open Go Go.RowKit Go.Maps
def EntQO (R : En → Int → Prop) (w : World) (e : Ending) (w' : World) : Prop := ∃ x vS vU vP er, R x er ∧ e = .returned (.tuple #[.agg #[.string x.name, .string x.who, vS, vU, vP], .int .i64 er]) ∧ EntO w' w.heap.size vS vU vP x ∧ Below w.heap.size w w'
theorem EntQO.mk {R : En → Int → Prop} {w : World} {e : Ending} {w' : World} (x : En) (vS vU vP : Value) (er : Int) (h1 : R x er) (h2 : e = .returned (.tuple #[.agg #[.string x.name, .string x.who, vS, vU, vP], .int .i64 er])) (h3 : EntO w' w.heap.size vS vU vP x) (h4 : Below w.heap.size w w') : EntQO R w e w' := ⟨x, vS, vU, vP, er, h1, h2, h3, h4⟩
theorem EntO.zero (w : World) (base : Nat) : EntO w base (.slice none 0 0) (.slice none 0 0) (.slice none 0 0) en0 :=
  ⟨World.ownsRow_nil _ _ _ _, World.ownsRow_nil _ _ _ _, World.ownsRow_nil _ _ _ _, by simp [en0], by simp [en0], by simp [en0], by simp [en0], by simp [en0, ByteArray.size], by simp [en0, ByteArray.size]⟩
theorem EntQO.zero {R : En → Int → Prop} {w w' : World} {er : Int} (h1 : R en0 er) (h4 : Below w.heap.size w w') : EntQO R w (.returned (.tuple #[.agg #[.string ⟨#[]⟩, .string ⟨#[]⟩, .slice none 0 0, .slice none 0 0, .slice none 0 0], .int .i64 er])) w' := ⟨en0, _, _, _, er, h1, rfl, EntO.zero _ _, h4⟩
end Go.Proofs.YtlbjbmpkaniojaaGreat
namespace Go.Proofs.YtlbjbmpkaniojaaGreat
open Go Go.RowKit Go.Maps Go.Shelf
attribute [local go_sem] Oper.semAt_some
abbrev BkE := Nat × Chg × V3
def bkX (x : BkE) : Array Value := #[.int .i64 x.1, chV x.2.1 x.2.2.1 x.2.2.2.1 x.2.2.2.2]
def bkE (cs : List Chg) (pre : List BkE) (x : BkE) (_ : World) : Prop := x.1 + pre.length + 1 = cs.length ∧ cs[x.1]? = some x.2.1 ∧ ∃ a1 k1 a2 k2 a3 k3, x.2.2 = (.slice a1 x.2.1.ent.says.length k1, .slice a2 x.2.1.ent.uses.length k2, .slice a3 x.2.1.ent.proof.length k3)
set_option maxHeartbeats 2000000 in
set_option maxRecDepth 100000 in
theorem back_seq (bx : Nat) (ca : Option Addr) (cc : Nat) (cs : List Chg) (wb w0 : World) (hv : ChsAt wb (.slice ca cs.length cc) cs) (hb : Below wb.heap.size wb w0) (hc : w0.cell? ⟨bx, 0, none⟩ = some (.slice ca cs.length cc)) :
    SeqE Tryz.prog 138 #[.pointer (some ⟨bx, 0, none⟩)] bkX (bkE cs) (fun xs => xs.length = cs.length) (fun k => k < wb.heap.size ∨ k = bx) w0 := fun l' J Jx M0 W hW hM0 hJ hJx hY h0 => by
  refine callsIn_of_wp Tryz.func138 rfl trivial ?_ rfl
  simp only [Tryz.ntmps138, List.size_toArray, List.length_cons, List.length_nil, Nat.reduceAdd, Nat.reduceSub, Array.replicate_succ, Array.replicate_zero, List.push_toArray, List.append_toArray, List.nil_append, List.cons_append]
  have c1 := (hW.cell (World.block_lt_of_cell? _ _ hc)).trans hc
  have hbW := hb.trans (hW.mono hb.size)
  obtain ⟨ca', cc', e', -, hcl, -, ZC⟩ := hv.open
  cases e'
  have HCC := hid ZC
  have HM0 : Hid (∀ q, M0 q → wb.heap.size ≤ q ∧ q ≠ bx) := hid (fun q hq => by have := (hM0 q hq).1; omega)
  have HBW := hid hbW
  have HJ0 := hid h0
  have HC1 := hid c1
  have hbxW := World.block_lt_of_cell? _ _ c1
  clear hM0 h0 hc hb hv hW ZC hbW
  gi_wp2
  clear c1
  gi_loopw [3] (fun kv wr => ∃ (m : Nat) (mm : Int) (pre : List BkE) (M : Nat → Prop), kv = .int .i64 mm ∧ (m : Int) = mm + 1 ∧ pre.length + m = cs.length ∧ J pre M wr ∧ (∀ q, M q → wb.heap.size ≤ q ∧ q ≠ bx) ∧ Below wb.heap.size wb wr ∧ wr.cell? ⟨bx, 0, none⟩ = some (.slice ca cs.length cc)) (fun kv _ => (intOf kv + 1).toNat)
  case atStart => exact ⟨cs.length, (cs.length : Int) - 1, [], M0, by go_num, by omega, by simp, HJ0.out, HM0.out, HBW.out, HC1.out⟩
  case round =>
    clear HM0 HBW HJ0 HC1
    obtain ⟨m, mm, pre, M, rfl, hmm, hpl, hj, hM, hbr, hbx⟩ := hrel
    have HPL := hid hpl
    have HMM := hid hM
    have HBR := hid hbr
    have HJJ := hid hj
    have HBX := hid hbx
    clear hM hbr hj
    cases m with
    | succ k =>
      obtain rfl : mm = (k : Int) := by omega
      have hlt : k < cs.length := by omega
      have y0 : (0 : Int) ≤ (k : Int) := by omega
      have y1 : (k : Int) < (cs.length : Int) := by omega
      obtain ⟨b, o, vS, vU, vP, rfl, z0, z1, z2, z3, z4, z5, z6, z7, z8, hce⟩ := HCC.out k hlt
      replace z0 := (HBR.out.cell (World.block_lt_of_cell? _ _ z0)).trans z0
      replace z1 := (HBR.out.cell (World.block_lt_of_cell? _ _ z1)).trans z1
      replace z2 := (HBR.out.cell (World.block_lt_of_cell? _ _ z2)).trans z2
      replace z3 := (HBR.out.cell (World.block_lt_of_cell? _ _ z3)).trans z3
      replace z4 := (HBR.out.cell (World.block_lt_of_cell? _ _ z4)).trans z4
      replace z5 := (HBR.out.cell (World.block_lt_of_cell? _ _ z5)).trans z5
      replace z6 := (HBR.out.cell (World.block_lt_of_cell? _ _ z6)).trans z6
      replace z7 := (HBR.out.cell (World.block_lt_of_cell? _ _ z7)).trans z7
      replace z8 := (HBR.out.cell (World.block_lt_of_cell? _ _ z8)).trans z8
      obtain ⟨sa, sk, rfl, -⟩ := hce.e.s.open
      obtain ⟨ta, tk, rfl, -⟩ := hce.e.u.open
      obtain ⟨pa, pk, rfl, -⟩ := hce.e.p.open
      have hget : cs[k]? = some cs[k] := List.getElem?_eq_getElem hlt
      obtain ⟨c, hcx⟩ : ∃ c, cs[k] = c := ⟨_, rfl⟩
      rw [hcx] at z0 z1 z2 z3 z4 z5 z6 z7 z8 hget
      obtain ⟨fn, tmps, assign, body, hy, hR⟩ := hY pre (k, c, (.slice sa c.ent.says.length sk, .slice ta c.ent.uses.length tk, .slice pa c.ent.proof.length pk)) M wr HJJ.out ⟨by simp; omega, hget, _, _, _, _, _, _, rfl⟩
      dsimp only [bkX, chV] at hy
      have HRR := hid hR
      clear hR hce hget hcx hbx
      have hbx := HBX.out
      gi_wp2
      refine HRR.out.mono ?_
      rintro e W3 ⟨M', hM', hkb, ⟨rfl, hJ3⟩ | ⟨rfl, hJx3⟩⟩
      · have hbb3 : Below wb.heap.size wb W3 := HBR.out.trans (hkb.below HBR.out.size (fun q hq => (HMM.out q hq).1))
        have hM3 : ∀ q, M' q → wb.heap.size ≤ q ∧ q ≠ bx := by
          intro q hq
          rcases hM' q hq with h1 | h1
          · exact HMM.out q h1
          · have := HBR.out.size; have := World.block_lt_of_cell? _ _ HBX.out; simp at this; exact ⟨by omega, by omega⟩
        have hx3 : W3.cell? ⟨bx, 0, none⟩ = some (.slice (some ⟨b, o, none⟩) cs.length cc) := (World.cell?_of_block (hkb.same _ (World.block_lt_of_cell? _ _ HBX.out) (fun h => (HMM.out _ h).2 rfl))).trans HBX.out
        have HJ3 := hid hJ3
        have HB3 := hid hbb3
        have HM3 := hid hM3
        have HX3 := hid hx3
        clear hbb3 hM3 hJ3 hM' hkb hx3 z0 z1 z2 z3 z4 z5 z6 z7 z8 hbx
        gi_wp2
        go_roundw
        case rel => exact ⟨k, (k : Int) - 1, _, M', by go_num, by omega, by simp; omega, HJ3.out, HM3.out, HB3.out, HX3.out⟩
        case measure => simp [intOf]
      · gi_wp2
        refine bodyPost_ret (results_none rfl _ _ _) rfl ?_
        exact ⟨⟨_, rfl⟩, .inr ⟨_, M', hJx3⟩⟩
    | zero =>
      obtain rfl : mm = -1 := by omega
      clear hbx
      gi_wp2
      go_end0
      exact ⟨⟨_, rfl⟩, .inl ⟨pre, M, by omega, HJJ.out⟩⟩
theorem sl_Backward (a : Option Addr) (n c : Nat) (w : World) :
    Calls Tryz.prog 93 #[.slice a n c] w fun e w' => e = .returned (.func (.func 138) #[] #[.pointer (some ⟨w.heap.size, 0, none⟩)]) ∧ w.alloc (.cells #[.slice a n c] 25) = w' := by
  go_enter Tryz.func93, Tryz.ntmps93
  go_wp2
  go_ret
  exact ⟨rfl, rfl⟩
end Go.Proofs.YtlbjbmpkaniojaaGreat
namespace Go.Proofs.YtlbjbmpkaniojaaGreat
open Go Go.RowKit Go.ChangeShapes Go.WideShapes Go.Deep
section
variable {H : Type} {enc : TypeId × Value → H} {P : Program} {w : World} {base : Nat} {held : Bool}
theorem chg_of_trod {e : TypeId} {n0 n1 n2 n3 n4 : Field} {fuel : Nat} {cs : List Value} {x : DataW H × List MemPlace} (he : P.underlying e = some (.struct #[n0, n1, n2, n3, n4]))
    (ce : P.cellsOf e = 9) (o0 : n0.offset = 0) (o1 : n1.offset = 1) (o2 : n2.offset = 2) (o3 : n3.offset = 3) (o4 : n4.offset = 4) (c0 : P.cellsOf n0.type = 1) (c1 : P.cellsOf n1.type = 1) (c2 : P.cellsOf n2.type = 1) (c3 : P.cellsOf n3.type = 1) (c4 : P.cellsOf n4.type = 5)
    (u0 : P.underlying n0.type = some (.int .i64)) (u1 : P.underlying n1.type = some .string) (u2 : P.underlying n2.type = some .string) (u3 : P.underlying n3.type = some .string)
    (hent : ∀ {k : Nat} {ds : List Value} {y : DataW H × List MemPlace}, DataW.trod enc P w base (fun _ => true) held k n4.type ds = some y → Small P n4.type y.1 → ∃ (z : En) (vS vU vP : Value), ds = [.string z.name, .string z.who, vS, vU, vP] ∧ EntAt w vS vU vP z)
    (h : DataW.trod enc P w base (fun _ => true) held fuel e cs = some x) (hs : Small P e x.1) : ∃ (c : Chg) (vS vU vP : Value), cs = [.int .i64 c.kind, .string c.who, .string c.name, .string c.new, .string c.ent.name, .string c.ent.who, vS, vU, vP] ∧ ChgAt w vS vU vP c := by
  obtain ⟨y0, y1, y2, y3, y4, k, hD, hl, r0, r1, r2, r3, r4⟩ := trod_struct5 he h
  rw [hD] at hs
  have z1 := hs.part (j := 1) he rfl rfl
  have z2 := hs.part (j := 2) he rfl rfl
  have z3 := hs.part (j := 3) he rfl rfl
  have z4 := hs.part (j := 4) he rfl rfl
  rw [ce] at hl
  match cs, hl with
  | [v0, v1, v2, v3, v4, v5, v6, v7, v8], _ =>
    simp [o0, o1, o2, o3, o4, c0, c1, c2, c3, c4] at r0 r1 r2 r3 r4
    obtain ⟨b0, e0, _, _⟩ := DataW.trod_int u0 r0
    obtain ⟨b1, e1, s1⟩ := str_of_trod u1 r1 z1
    obtain ⟨b2, e2, s2⟩ := str_of_trod u2 r2 z2
    obtain ⟨b3, e3, s3⟩ := str_of_trod u3 r3 z3
    obtain ⟨z, vS, vU, vP, e4, s4⟩ := hent r4 z4
    simp only [List.cons.injEq, and_true] at e0 e1 e2 e3 e4
    obtain ⟨e4, e5, e6, e7, e8⟩ := e4
    subst e0 e1 e2 e3 e4 e5 e6 e7 e8
    exact ⟨⟨b0, b1, b2, b3, z⟩, _, _, _, rfl, s4, s1, s2, s3⟩
abbrev ChR := Chg × V3
/-- a slice of changes. -/
theorem chgs_of_trod {t e : TypeId} {n0 n1 n2 n3 n4 : Field} {fuel : Nat} {cs : List Value} {x : DataW H × List MemPlace} (ht : P.underlying t = some (.slice e)) (he : P.underlying e = some (.struct #[n0, n1, n2, n3, n4]))
    (ce : P.cellsOf e = 9) (o0 : n0.offset = 0) (o1 : n1.offset = 1) (o2 : n2.offset = 2) (o3 : n3.offset = 3) (o4 : n4.offset = 4) (c0 : P.cellsOf n0.type = 1) (c1 : P.cellsOf n1.type = 1) (c2 : P.cellsOf n2.type = 1) (c3 : P.cellsOf n3.type = 1) (c4 : P.cellsOf n4.type = 5)
    (u0 : P.underlying n0.type = some (.int .i64)) (u1 : P.underlying n1.type = some .string) (u2 : P.underlying n2.type = some .string) (u3 : P.underlying n3.type = some .string) (be : 0 < P.bytesOf e)
    (hent : ∀ {k : Nat} {ds : List Value} {y : DataW H × List MemPlace}, DataW.trod enc P w base (fun _ => true) held k n4.type ds = some y → Small P n4.type y.1 → ∃ (z : En) (vS vU vP : Value), ds = [.string z.name, .string z.who, vS, vU, vP] ∧ EntAt w vS vU vP z)
    (h : DataW.trod enc P w base (fun _ => true) held fuel t cs = some x) (hs : Small P t x.1) : ∃ v l, cs = [v] ∧ ChsAt w v l := by
  rcases open_slice ht h with ⟨rfl, -⟩ | ⟨a, len, cap, m, n, D, Pl, rfl, hb, hl, hm, hmm, rfl, hx⟩
  · exact ⟨_, [], rfl, ChsAt.nil w⟩
  · simp only [if_true] at hmm
    subst hmm
    have hn := hs.len ht be
    simp only [List.length_map, List.length_range] at hn
    have each : ∀ i, i < len → ∃ y : ChR, (∀ r, r < 9 → w.cell? (a.add (i * 9 + r)) = (chC y.1 y.2)[r]?) ∧ ChgAt w y.2.1 y.2.2.1 y.2.2.2 y.1 := by
      intro i hi
      obtain ⟨cs', h1, h2⟩ := hx i (by omega)
      rw [ce] at h1
      obtain ⟨_, hlen, hcell⟩ := World.cells?_some h1
      have hse : Small P e (D i) := hs.elem ht (List.mem_map.2 ⟨i, List.mem_range.2 hi, rfl⟩)
      obtain ⟨c, vS, vU, vP, e1, hc⟩ := chg_of_trod he ce o0 o1 o2 o3 o4 c0 c1 c2 c3 c4 u0 u1 u2 u3 hent h2 hse
      refine ⟨(c, (vS, vU, vP)), fun r hr => ?_, hc⟩
      have q := hcell r hr
      rw [add_add] at q
      rw [q, e1]; rfl
    haveI : Inhabited ChR := ⟨(⟨0, ByteArray.empty, ByteArray.empty, ByteArray.empty, ⟨ByteArray.empty, ByteArray.empty, [], [], []⟩⟩, (undef, undef, undef))⟩
    obtain ⟨f, hf⟩ := choose_lt each
    have hsl : ((List.range len).map fun i => (f i).1).length = len := by simp
    have hsv : ((List.range len).map fun i => (f i).2).length = len := by simp
    refine ⟨_, (List.range len).map fun i => (f i).1, rfl, (List.range len).map fun i => (f i).2, ⟨by rw [chsC_len _ _ (by rw [hsl, hsv])], some a, m, by rw [hsl], by omega, by omega, (fun hh => by cases hh), fun j u hj => ?_⟩, by rw [hsl, hsv], fun j g1 g2 => ?_⟩
    · have hjl : j < len * 9 := by
        obtain ⟨hh, _⟩ := List.getElem?_eq_some_iff.1 hj
        rw [chsC_len _ _ (by rw [hsl, hsv]), hsl] at hh
        exact hh
      have hg := chsC_get ((List.range len).map fun i => (f i).1) ((List.range len).map fun i => (f i).2) (by rw [hsl, hsv]) (j / 9) (by rw [hsl]; omega) (by rw [hsv]; omega) (j % 9) (by omega)
      have e0 := (hf (j / 9) (by omega)).1 (j % 9) (by omega)
      have e1 : j / 9 * 9 + j % 9 = j := by omega
      rw [e1] at hg e0
      obtain ⟨b, o, spot⟩ := a
      have hspot := spot_none (by have := (hf 0 (by omega)).1 0 (by omega); simpa [chC] using this)
      subst hspot
      refine ⟨b, o, rfl, cell_add (e0.trans ?_)⟩
      rw [← hj, hg]
      simp
    · have hj : j < len := by rw [hsl] at g1; exact g1
      simp only [List.getElem_map, List.getElem_range]
      exact (hf j hj).2
end
end Go.Proofs.YtlbjbmpkaniojaaGreat
