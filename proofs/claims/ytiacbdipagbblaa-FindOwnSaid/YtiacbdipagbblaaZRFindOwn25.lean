/-
  WHAT IT HOLDS: what is kept over a yield: it depends only on blocks that the loop's body does not turn. Over any program. No condition.
  WHAT IT HOLDS: contracts of slices.SortFunc and slices.CompactFunc at []api.Term, of a slice of the call's own, by Compare and by equality. Conditions: the elements read as terms, in blocks other than the slice's own.
-/
import Derived.Lib.SliceRun
import Derived.Test.YtiacbdipagbblaaZRFindOwn11
import Derived.Test.YtiacbdipagbblaaZRFindOwn23
import Derived.Test.YtiacbdipagbblaaZRFindOwn6
import Derived.Test.YtiacbdipagbblaaZRFindOwn24
namespace Go.Proofs.Ytiacbdipagbblaa
open Go Go.RowKit Go.Maps
/-- it holds however the blocks of M turn, and whatever is made. -/
def Safe (M : Nat → Prop) (Φ : World → Prop) (W : World) : Prop := ∀ W', Kb M W W' → Φ W'
theorem Safe.here {M : Nat → Prop} {Φ : World → Prop} {W : World} (h : Safe M Φ W) : Φ W := h W (Kb.refl _ _)
theorem Safe.imp {M : Nat → Prop} {Φ Ψ : World → Prop} {W : World} (h : Safe M Φ W) (hi : ∀ W, Φ W → Ψ W) : Safe M Ψ W := fun W' hk => hi W' (h W' hk)
theorem Safe.both {M : Nat → Prop} {Φ Ψ : World → Prop} {W : World} (h : Safe M Φ W) (k : Safe M Ψ W) : Safe M (fun W => Φ W ∧ Ψ W) W := fun W' hk => ⟨h W' hk, k W' hk⟩
theorem Safe.grow {M : Nat → Prop} {Φ : World → Prop} {W W1 : World} (h : Safe M Φ W) (hb : Below W.heap.size W W1) : Safe M Φ W1 := fun W' hk => h W' ((Kb.of_below (M := M) hb).trans hk (fun _ hq => Or.inl hq))
theorem Safe.turn {M M' : Nat → Prop} {Φ : World → Prop} {W W1 : World} (h : Safe M Φ W) (hk : Kb M W W1) (hM : ∀ k, M' k → M k ∨ W.heap.size ≤ k) : Safe M' Φ W1 := fun W' hk' => h W' (hk.trans hk' hM)
/-- what lies in new blocks. -/
theorem Safe.new {M : Nat → Prop} {Φ : World → Prop} {b : Nat} {W1 : World} (h : Lies b Φ W1) (hM : ∀ k, M k → k < b) : Safe M Φ W1 := fun W' hk => h W' fun q hq hlt => hk.same q hlt fun hm => by have := hM q hm; omega
/-- what lies in old blocks that the body leaves. -/
theorem Safe.old {M : Nat → Prop} {Φ : World → Prop} {wb W : World} (h : ∀ W', Below wb.heap.size wb W' → Φ W') (hb : Below wb.heap.size wb W) (hM : ∀ k, M k → wb.heap.size ≤ k) : Safe M Φ W := fun W' hk => h W' (hb.trans (hk.below hb.size hM))
/-- a cell of a block of the iterator's own. -/
theorem Safe.cell {M : Nat → Prop} {W : World} {a : Addr} {v : Value} (h : W.cell? a = some v) (hM : ¬ M a.block) : Safe M (fun W => W.cell? a = some v) W := fun W' hk => (World.cell?_of_block (hk.same _ (World.block_lt_of_cell? _ _ h) hM)).trans h
/-- a row of the iterator's own. -/
theorem Safe.ints {M : Nat → Prop} {W : World} {b : Nat} {e : TypeId} {v : Value} {xs : List Int} (h : W.ownsRow b e 1 v xs.length (xs.map (Value.int .i64))) (hl : xs.length ≤ 140737488355328) (hM : ∀ k, M k → k < b) : Safe M (fun W => Ints W v xs) W :=
  Safe.new (b := b) (fun W' hW' => Ints.of_owns (owns_same h (Nat.le_refl _) hW') hl) hM
end Go.Proofs.Ytiacbdipagbblaa
namespace Go.Proofs.Ytiacbdipagbblaa
open Go Go.RowKit Go.Maps
def dd : Option (List Int) → List (List Int) → List (List Int)
  | _, [] => []
  | p, x :: l => if p = some x then dd (some x) l else x :: dd (some x) l
theorem compL_dd : ∀ (l : List (List Int)) (x : List Int), compL (x :: l) = x :: dd (some x) l
  | [], x => rfl
  | y :: l, x => by
    rw [compL, dd, compL_dd l y]
    by_cases h : x = y
    · subst h; simp
    · rw [if_neg h, if_neg (by simpa using h)]
theorem compL_none (l : List (List Int)) : compL l = dd none l := by
  cases l with
  | nil => rfl
  | cons x l => rw [compL_dd, dd, if_neg (by simp)]
theorem dd_snoc : ∀ (l : List (List Int)) (p : Option (List Int)) (x : List Int), dd p (l ++ [x]) = dd p l ++ (if (l.getLast?.or p) = some x then [] else [x])
  | [], p, x => by
    show dd p [x] = _
    rw [dd]
    by_cases h : p = some x <;> simp [h, dd]
  | y :: l, p, x => by
    have e : (y :: l).getLast?.or p = (l.getLast?.or (some y)) := by
      cases l with
      | nil => rfl
      | cons z l => simp [List.getLast?_cons]
    rw [e, List.cons_append, dd, dd, dd_snoc l (some y) x]
    by_cases h : p = some y <;> simp [h]
theorem dd_take {l : List (List Int)} {k : Nat} (h : k < l.length) (h0 : 0 < k) : dd none (l.take (k + 1)) = dd none (l.take k) ++ (if l[k - 1] = l[k] then [] else [l[k]]) := by
  rw [List.take_succ_eq_append_getElem h, dd_snoc]
  have : (l.take k).getLast? = some l[k - 1] := by
    rw [List.getLast?_eq_getElem?, List.length_take, Nat.min_eq_left (by omega), List.getElem?_take, if_pos (by omega), List.getElem?_eq_getElem (by omega)]
  rw [this]
  simp
theorem dd_one {l : List (List Int)} (h : 0 < l.length) : dd none (l.take 1) = l.take 1 := by
  cases l with
  | nil => simp at h
  | cons x l => simp [dd]
theorem dd_len : ∀ (l : List (List Int)) (p : Option (List Int)), (dd p l).length ≤ l.length
  | [], _ => by simp [dd]
  | x :: l, p => by
    have := dd_len l (some x)
    rw [dd]
    split <;> simp <;> omega
theorem kb_sort {α : Type} [Inhabited α] (enc : α → Value) (w : World) (g m : Nat) (d : Array α) (os : Array Obj) : Kb (fun k => k = g) w (sortWorld enc w g 0 m d os) := by
  have hsz : (Go.Sort.putRow enc (Go.Sort.ahead w m) g 0 d).heap.size = w.heap.size := by rw [size_putRow]; rfl
  refine ⟨rfl, rfl, rfl, ?_, fun k hk hne => ?_⟩
  · show w.heap.size ≤ (sortWorld enc w g 0 m d os).heap.size
    unfold sortWorld Go.Sort.grow
    simp only [Array.size_append, hsz]
    omega
  · show (sortWorld enc w g 0 m d os).heap[k]? = _
    unfold sortWorld Go.Sort.grow
    simp only
    rw [Array.getElem?_append_left (by rw [hsz]; exact hk)]
    unfold Go.Sort.putRow Go.Sort.mapBlock
    simp only [Array.getElem?_modify]
    rw [if_neg (fun e => hne e.symm)]
    rfl
theorem own_sort {α : Type} [Inhabited α] (enc : α → Value) {w : World} {base g n c : Nat} {E : TypeId} {xs : List Value} (h : w.ownsRow base E 1 (.slice (some ⟨g, 0, none⟩) n c) n xs) (m : Nat) (d : Array α) (hd : d.size = n) (os : Array Obj) :
    (sortWorld enc w g 0 m d os).ownsRow base E 1 (.slice (some ⟨g, 0, none⟩) n c) n (d.toList.map enc) := by
  obtain ⟨h1, h2⟩ := h
  refine ⟨by simp [hd], ?_⟩
  rcases h2 with ⟨h2, -⟩ | ⟨g', cap, cur, r1, r2, r3, r4, r5, r6, r7⟩
  · cases h2
  · cases r1
    refine .inr ⟨g, c, Go.Sort.putCells enc 0 d cur, rfl, r2, ?_, r4, r5, ?_, ?_⟩
    · unfold sortWorld Go.Sort.grow
      simp only
      have hlt := (Array.getElem?_eq_some_iff.1 r3).1
      rw [Array.getElem?_append_left (by rw [size_putRow]; exact hlt)]
      unfold Go.Sort.putRow Go.Sort.mapBlock
      simp only [Array.getElem?_modify]
      rw [if_pos trivial]
      show Option.map _ (w.heap[g]?) = _
      rw [r3]
      rfl
    · unfold Go.Sort.putCells; simpa using r6
    · apply List.ext_getElem?
      intro i
      rw [List.getElem?_take, List.getElem?_map]
      by_cases hi : i < n
      · rw [if_pos (by omega)]
        unfold Go.Sort.putCells
        rw [Array.getElem?_toList, Array.getElem?_mapIdx, Array.getElem?_eq_getElem (show i < cur.size by omega), Array.getElem?_toList, Array.getElem?_eq_getElem (show i < d.size by omega)]
        simp only [Option.map_some]
        rw [if_pos ⟨Nat.zero_le _, by omega⟩, getElem!_pos d (i - 0) (by omega)]
        rfl
      · rw [if_neg (by omega), Array.getElem?_toList, Array.getElem?_eq_none (by omega)]
        rfl
/-- the elements of a slice of the call's own that lies in block g: terms, in other blocks. -/
def Elts (g : Nat) (vs : List Value) (gs : List (List Int)) (w : World) : Prop := vs.length = gs.length ∧ ∀ (i : Nat) (v : Value) (q : List Int), vs[i]? = some v → gs[i]? = some q → Safe (fun k => k = g) (fun W => Ints W v q) w
theorem Elts.turn {g : Nat} {vs : List Value} {gs : List (List Int)} {w w' : World} (h : Elts g vs gs w) (hk : Kb (fun k => k = g) w w') : Elts g vs gs w' := ⟨h.1, fun i v q h1 h2 => (h.2 i v q h1 h2).turn hk (fun _ h => Or.inl h)⟩
def SortPost (base g n c : Nat) (gs : List (List Int)) (w : World) (e : Ending) (w' : World) : Prop :=
  ∃ vs' gs', e = .returned (.tuple #[]) ∧ w'.ownsRow base 37 1 (.slice (some ⟨g, 0, none⟩) n c) n vs' ∧ Elts g vs' gs' w' ∧ (∀ y, y ∈ gs' ↔ y ∈ gs) ∧ AS gs' ∧ Kb (fun k => k = g) w w'
set_option maxRecDepth 100000 in
theorem sort_terms (base g n c : Nat) (vs : List Value) (gs : List (List Int)) (w : World) (hn : 0 < n) (hn1 : n ≤ 100000) (hgl : gs.length = n)
    (hown : w.ownsRow base 37 1 (.slice (some ⟨g, 0, none⟩) n c) n vs) (hel : Elts g vs gs w) :
    Calls Try.prog 113 #[.slice (some ⟨g, 0, none⟩) n c, .func (.func 114) #[] #[]] w (SortPost base g n c gs w) := by
  have hvl : vs.length = n := by rw [hel.1, hgl]
  haveI : Inhabited (Fin n) := ⟨⟨0, hn⟩⟩
  obtain ⟨enc, henc⟩ : ∃ enc : Fin n → Value, ∀ i, vs[i.val]? = some (enc i) := ⟨fun i => vs[i.val]'(by omega), fun i => List.getElem?_eq_getElem _⟩
  obtain ⟨ts, hts⟩ : ∃ ts : Fin n → List Int, ∀ i, gs[i.val]? = some (ts i) := ⟨fun i => gs[i.val]'(by omega), fun i => List.getElem?_eq_getElem _⟩
  obtain ⟨d, hd0⟩ : ∃ d : Array (Fin n), d = Array.ofFn (n := n) id := ⟨_, rfl⟩
  have hds0 : d.size = n := by rw [hd0]; simp
  have hda : ∀ i : Nat, (h : i < n) → d[i]! = ⟨i, h⟩ := fun i h => by rw [getElem!_pos _ i (by omega)]; simp [hd0]
  have hblk : g < w.heap.size := (hown.lt g rfl).2
  have hsw : Go.Sort.SWO (ltOf (fun i j => cmpL (ts i) (ts j))) := {
    irrefl := fun x => by unfold ltOf; exact decide_eq_false (cmpL_irr _)
    trans := fun x y z h1 h2 => by unfold ltOf at *; rw [decide_eq_true_eq] at *; exact cmpL_trans h1 h2
    ntrans := fun x y z h1 h2 => by
      unfold ltOf at *
      rw [decide_eq_false_iff_not] at *
      intro h3
      have h3' : cmpL (ts x) (ts z) < 0 := h3
      have h1' : ¬ cmpL (ts x) (ts y) < 0 := h1
      have h2' : ¬ cmpL (ts y) (ts z) < 0 := h2
      by_cases e : ts y = ts z
      · rw [← e] at h3'; exact h1' h3'
      · exact h1' (cmpL_trans h3' (cmpL_total h2' e)) }
  have hH : Go.Sort.Holds enc w g 0 d := fun j hj => by
    have hj : j < n := by omega
    rw [hda j hj, Nat.zero_add]
    have hc := hown.cellAt j (by omega)
    rw [henc ⟨j, hj⟩] at hc
    exact ⟨hc, hown.frozenAt j⟩
  have hone : OneCell enc := fun i => by
    have h1 := hel.2 i.val (enc i) (ts i) (henc i) (hts i)
    obtain ⟨a, k, he, -⟩ := h1.here.open
    rw [he]; rfl
  have hcon := Any.slices_SortFunc Try.sort113 enc hone (fun i j => cmpL (ts i) (ts j)) hsw 114 #[] g 0 c d w (enters_of Try.func114 (by kernel_rfl) rfl) (fun m os dk hs x y => by
    have hk := kb_sort enc w g m dk os
    refine (term_Compare _ _ (ts x) (ts y) _ ((hel.2 _ _ _ (henc x) (hts x)) _ hk) ((hel.2 _ _ _ (henc y) (hts y)) _ hk)).mono ?_
    rintro e w' ⟨rfl, o, rfl⟩
    exact ⟨rfl, 0, #[o], by rw [Go.Sort.alloc_eq_grow]; rfl⟩) hH hblk (by omega)
  rw [hds0] at hcon
  change Calls Try.prog 113 _ _ _ at hcon
  refine hcon.mono ?_
  rintro e w' ⟨rfl, d', m, os, hp, hsd, rfl⟩
  obtain ⟨hps, -, hpp⟩ := hp
  have hds : d'.size = n := by rw [hps]; exact hds0
  have hpp : d'.toList.Perm d.toList := by
    have ex : ∀ (D : Array (Fin n)) (m : Nat), D.size = m → D.extract 0 m = D := fun D m h => by subst h; simp
    have e1 := ex d' n hds
    have e2 := ex d n hds0
    rw [e1, e2] at hpp
    exact hpp
  have hk := kb_sort enc w g m d' os
  refine ⟨d'.toList.map enc, d'.toList.map ts, rfl, own_sort enc hown m d' hds os, ⟨by simp, fun i v q h1 h2 => ?_⟩, fun y => ?_, ?_, hk⟩
  · rw [List.getElem?_map] at h1 h2
    cases hd : d'.toList[i]? with
    | none => rw [hd] at h1; cases h1
    | some z =>
      rw [hd] at h1 h2
      cases h1
      cases h2
      exact (hel.2 _ _ _ (henc z) (hts z)).turn hk (fun _ h => Or.inl h)
  · rw [List.mem_map]
    constructor
    · rintro ⟨z, -, rfl⟩
      exact List.mem_of_getElem? (hts z)
    · intro hy
      obtain ⟨i, hi, rfl⟩ := List.getElem_of_mem hy
      refine ⟨⟨i, by omega⟩, ?_, ?_⟩
      · have hm : ∀ z : Fin n, z ∈ d.toList := fun z => by subst hd0; simp
        exact hpp.symm.subset (hm _)
      · have := hts ⟨i, by omega⟩
        simp only [List.getElem?_eq_getElem hi, Option.some.injEq] at this
        exact this.symm
  · unfold AS
    rw [List.pairwise_map, List.pairwise_iff_getElem]
    intro i j hi hj hij
    have := hsd i j (Nat.zero_le _) hij (by simpa [hds] using hj)
    unfold ltOf at this
    rw [decide_eq_false_iff_not, getElem!_pos d' j (by simpa using hj), getElem!_pos d' i (by simpa using hi)] at this
    simpa using this
end Go.Proofs.Ytiacbdipagbblaa
