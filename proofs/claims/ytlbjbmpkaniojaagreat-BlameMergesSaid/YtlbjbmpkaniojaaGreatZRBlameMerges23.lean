/-
  WHAT IT HOLDS: contracts of open, named, Find of package deps, and how an opened library lies. Conditions: the arguments read as data; small signs, small libraries.
  WHAT IT HOLDS: contract of the iterator that steps of package kernel hands back. Conditions: the arguments read as data; a valid proof of valid givens; a small sign.
  WHAT IT HOLDS: contracts of run and Run of package kernel: what all steps say. Conditions: the arguments read as data; a small sign.
  WHAT IT HOLDS: contracts of Says of package kernel, of axiom, givens, strongest, holds, and of Holds and Strongest of package deps. Conditions: the arguments read as data; small signs, small libraries.
  WHAT IT HOLDS: plain laws: what is detached, and what a proof says, is one thing alone; what the proofs of a moved statement say. No program in sight.
  WHAT IT HOLDS: contracts of Has, Index, ValidEntry, Valid of the reference of layer 6, of ValidProof of the reference of layer 4 and IsCanonical of the reference of layer 1. Conditions: the arguments read as data; small signs, small libraries.
  WHAT IT HOLDS: contracts of ValidEntry and Valid of the reference of layer 6. Conditions: the arguments read as data; small signs, small libraries.
-/
import Derived.Deep.RegionHeld3
import Derived.Stop.RegionWithIn
import Derived.BigQuiet
import Derived.Test.YtlbjbmpkaniojaaGreatZRBlameMerges18
import Derived.Test.YtlbjbmpkaniojaaGreatZRBlameMerges22
import Derived.Test.YtlbjbmpkaniojaaGreatZRBlameMerges17
import Derived.Test.YtlbjbmpkaniojaaGreatZRBlameMerges14
namespace Go.Proofs.YtlbjbmpkaniojaaGreat
open Go Go.RowKit Go.Maps
abbrev LMap (w : World) (b n : Nat) (m : Nm → Option Nat) : Prop := MapK Tryz.prog 9 Value.string (fun i : Nat => Value.int .i64 i) w b n m
/-- an opened library: its sign, its entries, and where each name is. -/
def LibAt (w : World) (p : Nat) (vs vl : Value) (l : List En) : Prop :=
  w.cell? ⟨p, 0, none⟩ = some vs ∧ w.cell? ⟨p, 1, none⟩ = some vl ∧ ∃ b, w.cell? ⟨p, 2, none⟩ = some (.map (some b)) ∧ LMap w b l.length (idxN l)
theorem LibAt.below {w w' : World} {p : Nat} {vs vl : Value} {l : List En} (h : LibAt w p vs vl l) (hb : Below w.heap.size w w') : LibAt w' p vs vl l := by
  obtain ⟨c0, c1, b, c2, hm⟩ := h
  exact ⟨(hb.cell (World.block_lt_of_cell? _ _ c0)).trans c0, (hb.cell (World.block_lt_of_cell? _ _ c1)).trans c1, b, (hb.cell (World.block_lt_of_cell? _ _ c2)).trans c2, hm.belowS hb⟩
end Go.Proofs.YtlbjbmpkaniojaaGreat
namespace Go.Proofs.YtlbjbmpkaniojaaGreat
open Go Go.RowKit Go.Maps Go.Shelf
attribute [local go_sem] Oper.semAt_some
theorem roundIn_any2 {n m : Nat} {P : Program} {l : Nat} {f : FuncId} {tmps : Array Value} {a b : Code} {w : World} {R : Ending → World → Prop} (h : RoundIn Fence.wide n P l f tmps a b w R) : RoundIn Fence.wide m P l f tmps a b w R := ⟨trivial, fun c cs _ => h.2 c cs (room_wide _)⟩
/-- what the iterator yields: the value, the term that it reads as, and the error. -/
abbrev KE := Value × List Int × Int
/-- what a step says where l was said. -/
def sayR (s : Sg) (g l : List (List Int)) (x : St) (y : List Int × Int) : Prop :=
  if x.1 = 1 then y = (canonL (g.getD x.2.1.toNat []), 0) else DetR s (l.getD x.2.1.toNat []) (l.getD x.2.2.toNat []) y
theorem ownsRow_frm2 {w w' : World} {b : Nat} {e : TypeId} {k : Nat} {v : Value} {n : Nat} {xs : List Value} (h : w.ownsRow b e k v n xs) (hs : ∀ q, v.ownBlock = some q → w'.heap[q]? = w.heap[q]?) : w'.ownsRow b e k v n xs := by
  obtain ⟨h1, h2⟩ := h
  refine ⟨h1, ?_⟩
  rcases h2 with h2 | ⟨g, cap, cur, r1, r2, r3, r4⟩
  · exact .inl h2
  · subst r1
    exact .inr ⟨g, cap, cur, rfl, r2, by rw [hs g rfl]; exact r3, r4⟩
theorem cellHp {W W' : World} {p : Addr} {v : Value} (h : W.cell? p = some v) (hs : W'.heap[p.block]? = W.heap[p.block]?) : W'.cell? p = some v := (World.cell?_of_block hs).trans h
theorem proof60 {g : Int} {p : List St} (h : proofB g p = true) : p.length ≤ 60 := by
  unfold proofB at h
  simp only [Bool.and_eq_true] at h
  have := (inB_true.1 h.2).2
  omega
end Go.Proofs.YtlbjbmpkaniojaaGreat
namespace Go.Proofs.YtlbjbmpkaniojaaGreat
open Go Go.RowKit Go.Maps Go.Shelf
attribute [local go_sem] Oper.semAt_some
/-- what a proof says: the terms, and the error of the first step that says nothing. -/
def RunR (s : Sg) (g : List (List Int)) (p : List St) (l : List (List Int)) (e : Int) : Prop :=
  (∀ i t, l[i]? = some t → ∃ st, p[i]? = some st ∧ sayR s g (l.take i) st (t, 0)) ∧ ((e = 0 ∧ l.length = p.length) ∨ (e ≠ 0 ∧ l.length < p.length ∧ ∃ st t, p[l.length]? = some st ∧ sayR s g l st (t, e)))
def tsK (pre : List KE) : List (List Int) := pre.map fun y => y.2.1
structure RuI (wb : World) (s : Sg) (g : List (List Int)) (p : List St) (B b6 b7 b8 : Nat) (pre : List KE) (M O : Nat → Prop) (W : World) : Prop where
  z : ∀ y ∈ pre, y.2.2 = 0
  say : ∀ i t, (tsK pre)[i]? = some t → ∃ st, p[i]? = some st ∧ sayR s g ((tsK pre).take i) st (t, 0)
  len : pre.length ≤ p.length
  bel : Below wb.heap.size wb W
  mm : M b6 ∧ M b7 ∧ M b8
  mw : ∀ k, M k → wb.heap.size ≤ k
  c6 : ∃ v, W.cell? ⟨b6, 0, none⟩ = some v ∧ W.frozen? ⟨b6, 0, none⟩ = false
  c7 : ∃ v, W.cell? ⟨b7, 0, none⟩ = some v ∧ W.frozen? ⟨b7, 0, none⟩ = false
  out : ∃ uo vvs, W.cell? ⟨b8, 0, none⟩ = some uo ∧ W.frozen? ⟨b8, 0, none⟩ = false ∧ W.ownsRow B 37 1 uo vvs.length vvs ∧ (∀ k, uo.ownBlock = some k → M k) ∧ vvs.length = pre.length ∧
    ∀ (i : Nat) (v : Value) (t : List Int), vvs[i]? = some v → (tsK pre)[i]? = some t → Safe (fun k => (M k ∨ k = B + 1) ∨ O k) (fun W => Ints W v t) W
theorem RuI.kb {wb : World} {s : Sg} {g : List (List Int)} {p : List St} {B b6 b7 b8 : Nat} {pre : List KE} {M O O' R : Nat → Prop} {W W' : World} (h : RuI wb s g p B b6 b7 b8 pre M O W) (hB : wb.heap.size ≤ B) (h6 : b6 < B) (h7 : b7 < B) (h8 : b8 < B)
    (hk : Kb R W W') (hR : ∀ k, R k → (O k ∧ B + 2 ≤ k ∧ ¬ M k) ∨ (k = B + 1 ∧ ¬ M k)) (hO : ∀ k, O' k → O k ∨ W.heap.size ≤ k) : RuI wb s g p B b6 b7 b8 pre M O' W' := by
  obtain ⟨a1, a2, a3, a4, a5, a5w, ⟨v6, a6, f6⟩, ⟨v7, a7, f7⟩, ⟨uo, vvs, b1, b2, b3, b4, b5, b6'⟩⟩ := h
  have keep : ∀ q, q < W.heap.size → M q → W'.heap[q]? = W.heap[q]? := fun q h1 h2 => hk.same q h1 (fun h => by rcases hR q h with h | h; exact h.2.2 h2; exact h.2 h2)
  have e6 := keep b6 (World.block_lt_of_cell? _ _ a6) a5.1
  have e7 := keep b7 (World.block_lt_of_cell? _ _ a7) a5.2.1
  have e8 := keep b8 (World.block_lt_of_cell? _ _ b1) a5.2.2
  refine ⟨a1, a2, a3, a4.trans (hk.below a4.size (fun k h => by rcases hR k h with h | h <;> omega)), a5, a5w, ⟨v6, cellHp a6 e6, (World.frozen?_of_block e6).trans f6⟩, ⟨v7, cellHp a7 e7, (World.frozen?_of_block e7).trans f7⟩,
    uo, vvs, cellHp b1 e8, (World.frozen?_of_block e8).trans b2, ownsRow_frm2 b3 (fun q hq => keep q (b3.lt q hq).2 (b4 q hq)), b4, b5, fun i v t h1 h2 => (b6' i v t h1 h2).turn (hk.mono (M' := fun k => (M k ∨ k = B + 1) ∨ O k) (fun k _ h => ?_)) (fun k h => ?_)⟩
  · rcases hR k h with h | h
    · exact Or.inr h.1
    · exact Or.inl (Or.inr h.1)
  · rcases h with h | h
    · exact Or.inl (Or.inl h)
    · exact (hO k h).imp Or.inr id
theorem RuI.grw {wb : World} {s : Sg} {g : List (List Int)} {p : List St} {B b6 b7 b8 : Nat} (hB : wb.heap.size ≤ B) (h6 : b6 < B) (h7 : b7 < B) (h8 : b8 < B) (pre : List KE) : GrwO B (RuI wb s g p B b6 b7 b8 pre) :=
  ⟨fun M O O' W W' h hk hO' hO => h.kb hB h6 h7 h8 hk (fun k hk => Or.inl ⟨hk, hO k hk⟩) hO',
   fun M O W o o' ho hc h hm => h.kb hB h6 h7 h8 (R := fun k => k = B + 1) (Kb.put (M := fun k => k = B + 1) _ rfl) (fun k hk => Or.inr ⟨hk, by rw [hk]; exact hm⟩) (fun k hk => Or.inl hk)⟩
/-- how it ends early: the answer lies in the result's cells. -/
structure RuX (wb : World) (s : Sg) (g : List (List Int)) (p : List St) (B b6 b7 b8 : Nat) (c : Code) (pre : List KE) (M O : Nat → Prop) (W : World) : Prop where
  ret : c = .ret
  bel : Below wb.heap.size wb W
  mm : M b6 ∧ M b7
  mw : ∀ k, M k → wb.heap.size ≤ k
  ans : ∃ uo vvs l e, W.cell? ⟨b6, 0, none⟩ = some uo ∧ W.cell? ⟨b7, 0, none⟩ = some (.int .i64 e) ∧ RunR s g p l e ∧ W.ownsRow B 37 1 uo vvs.length vvs ∧ (∀ k, uo.ownBlock = some k → M k) ∧ vvs.length = l.length ∧
    ∀ (i : Nat) (v : Value) (t : List Int), vvs[i]? = some v → l[i]? = some t → Safe (fun k => (M k ∨ k = B + 1) ∨ O k) (fun W => Ints W v t) W
theorem RuX.kb {wb : World} {s : Sg} {g : List (List Int)} {p : List St} {B b6 b7 b8 : Nat} {c : Code} {pre : List KE} {M O O' R : Nat → Prop} {W W' : World} (h : RuX wb s g p B b6 b7 b8 c pre M O W) (hB : wb.heap.size ≤ B)
    (hk : Kb R W W') (hR : ∀ k, R k → (O k ∧ B + 2 ≤ k ∧ ¬ M k) ∨ (k = B + 1 ∧ ¬ M k)) (hO : ∀ k, O' k → O k ∨ W.heap.size ≤ k) : RuX wb s g p B b6 b7 b8 c pre M O' W' := by
  obtain ⟨a1, a4, a5, a5w, ⟨uo, vvs, l, e, b1, b1', br, b3, b4, b5, b6'⟩⟩ := h
  have keep : ∀ q, q < W.heap.size → M q → W'.heap[q]? = W.heap[q]? := fun q h1 h2 => hk.same q h1 (fun h => by rcases hR q h with h | h; exact h.2.2 h2; exact h.2 h2)
  refine ⟨a1, a4.trans (hk.below a4.size (fun k h => by rcases hR k h with h | h <;> omega)), a5, a5w,
    uo, vvs, l, e, cellHp b1 (keep _ (World.block_lt_of_cell? _ _ b1) a5.1), cellHp b1' (keep _ (World.block_lt_of_cell? _ _ b1') a5.2), br, ownsRow_frm2 b3 (fun q hq => keep q (b3.lt q hq).2 (b4 q hq)), b4, b5, fun i v t h1 h2 => (b6' i v t h1 h2).turn (hk.mono (M' := fun k => (M k ∨ k = B + 1) ∨ O k) (fun k _ h => ?_)) (fun k h => ?_)⟩
  · rcases hR k h with h | h
    · exact Or.inr h.1
    · exact Or.inl (Or.inr h.1)
  · rcases h with h | h
    · exact Or.inl (Or.inl h)
    · exact (hO k h).imp Or.inr id
theorem RuX.grw {wb : World} {s : Sg} {g : List (List Int)} {p : List St} {B b6 b7 b8 : Nat} (hB : wb.heap.size ≤ B) (c : Code) (pre : List KE) : GrwO B (RuX wb s g p B b6 b7 b8 c pre) :=
  ⟨fun M O O' W W' h hk hO' hO => h.kb hB hk (fun k hk => Or.inl ⟨hk, hO k hk⟩) hO',
   fun M O W o o' ho hc h hm => h.kb hB (R := fun k => k = B + 1) (Kb.put (M := fun k => k = B + 1) _ rfl) (fun k hk => Or.inr ⟨hk, by rw [hk]; exact hm⟩) (fun k hk => Or.inl hk)⟩
theorem tsK_snoc (pre : List KE) (x : KE) : tsK (pre ++ [x]) = tsK pre ++ [x.2.1] := by simp [tsK]
theorem tsK_len (pre : List KE) : (tsK pre).length = pre.length := by simp [tsK]
theorem RuI.push {wb : World} {s : Sg} {g : List (List Int)} {p : List St} {B b6 b7 b8 : Nat} {pre : List KE} {M O : Nat → Prop} {W W6 W7 : World} {x : KE} (h : RuI wb s g p B b6 b7 b8 pre M O W) (hB : wb.heap.size ≤ B) (h6 : b6 < B) (h7 : b7 < B) (h8 : b8 < B) (hne : b6 ≠ b8 ∧ b7 ≠ b8) (hw8 : wb.heap.size ≤ b8) (hBW : B + 2 ≤ W.heap.size)
    (hx0 : x.2.2 = 0) {st : St} (hst : p[pre.length]? = some st) (hsay : sayR s g (tsK pre) st (x.2.1, x.2.2)) (hS : Safe (fun k => (M k ∨ k = B + 1) ∨ O k) (fun W => Ints W x.1 x.2.1) W) (hMl : ∀ k, M k → k < W.heap.size) (hOM : ∀ k, O k → ¬ M k)
    {uo : Value} {vvs : List Value} (c0 : W.cell? ⟨b8, 0, none⟩ = some uo) (f0 : W.frozen? ⟨b8, 0, none⟩ = false) (hrow : ∀ k, uo.ownBlock = some k → M k ∧ B ≤ k) (hlen : vvs.length = pre.length)
    (hall : ∀ (i : Nat) (v : Value) (t : List Int), vvs[i]? = some v → (tsK pre)[i]? = some t → Safe (fun k => (M k ∨ k = B + 1) ∨ O k) (fun W => Ints W v t) W)
    (hb : Below W.heap.size W W6) {g' cap n : Nat} (hn : vvs.length = n) (hown : W7.ownsRow B 37 1 (.slice (some ⟨g', 0, none⟩) (n + 1) cap) (n + 1) (vvs ++ [x.1])) (hg : W6.grownBy W7 uo.ownBlock) (hat : uo.ownBlock = some g' ∨ g' = W6.heap.size) (hlt : g' < W7.heap.size) :
    ∃ M' : Nat → Prop, (∀ k, M' k → (M k ∨ W.heap.size ≤ k) ∧ k < (W7.setCell ⟨b8, 0, none⟩ (.slice (some ⟨g', 0, none⟩) (n + 1) cap)).heap.size) ∧
      Kb (fun k => M k ∨ W.heap.size ≤ k) W (W7.setCell ⟨b8, 0, none⟩ (.slice (some ⟨g', 0, none⟩) (n + 1) cap)) ∧
      RuI wb s g p B b6 b7 b8 (pre ++ [x]) M' O (W7.setCell ⟨b8, 0, none⟩ (.slice (some ⟨g', 0, none⟩) (n + 1) cap)) := by
  subst hn
  obtain ⟨a1, a2, a3, a4, a5, a5w, ⟨v6, a6, f6⟩, ⟨v7, a7, f7⟩, -⟩ := h
  have hs67 := hg.size
  have hs06 := hb.size
  have k7 : Kb (fun k => (M k ∧ B ≤ k)) W W7 := (Kb.of_below hb).trans (Kb.grown (M := fun k => M k ∧ B ≤ k) hg (fun k hk => Or.inl (hrow k hk))) (fun k hk => Or.inl hk)
  have hgB : B ≤ g' := by
    rcases hat with h | h
    · exact (hrow g' h).2
    · omega
  have e0 : W7.heap[b8]? = W.heap[b8]? := k7.same _ (by omega) (fun h => by omega)
  have e6 : W7.heap[b6]? = W.heap[b6]? := k7.same _ (by omega) (fun h => by omega)
  have e7 : W7.heap[b7]? = W.heap[b7]? := k7.same _ (by omega) (fun h => by omega)
  have c8 : W7.cell? ⟨b8, 0, none⟩ = some uo := cellHp c0 e0
  have kf : Kb M W (W7.setCell ⟨b8, 0, none⟩ (.slice (some ⟨g', 0, none⟩) (vvs.length + 1) cap)) := (k7.mono (M' := M) (fun k _ hk => hk.1)).trans (Kb.setCell (M := M) _ a5.2.2) (fun k hk => Or.inl hk)
  have hsz : (W7.setCell ⟨b8, 0, none⟩ (.slice (some ⟨g', 0, none⟩) (vvs.length + 1) cap)).heap.size = W7.heap.size := by simp [World.setCell]
  have kfB := kf.mono (M' := fun k => (M k ∨ k = B + 1) ∨ O k) (fun k _ hk => Or.inl (Or.inl hk))
  have hsub : ∀ k, ((M k ∨ (W.heap.size ≤ k ∧ k < W7.heap.size)) ∨ k = B + 1) ∨ O k → ((M k ∨ k = B + 1) ∨ O k) ∨ W.heap.size ≤ k := fun k hk => by
    rcases hk with (((hk | hk) | hk) | hk)
    · exact Or.inl (Or.inl (Or.inl hk))
    · exact Or.inr hk.1
    · exact Or.inl (Or.inl (Or.inr hk))
    · exact Or.inl (Or.inr hk)
  have o6 : ∀ b, b ≠ b8 → W7.heap[b]? = W.heap[b]? → (W7.setCell ⟨b8, 0, none⟩ (.slice (some ⟨g', 0, none⟩) (vvs.length + 1) cap)).heap[b]? = W.heap[b]? := fun b hne e => (Below.heap_setCell _ _ _ _ (fun h => hne h)).trans e
  refine ⟨fun k => M k ∨ (W.heap.size ≤ k ∧ k < W7.heap.size), fun k hk => ?_, kf.mono (fun k _ hk => Or.inl hk), ⟨fun y hy => ?_, fun i t hi => ?_, ?_, a4.trans (kf.below a4.size a5w), ⟨Or.inl a5.1, Or.inl a5.2.1, Or.inl a5.2.2⟩, fun k hk => ?_, ⟨v6, cellHp a6 (o6 b6 hne.1 e6), (World.frozen?_of_block (o6 b6 hne.1 e6)).trans f6⟩, ⟨v7, cellHp a7 (o6 b7 hne.2 e7), (World.frozen?_of_block (o6 b7 hne.2 e7)).trans f7⟩,
    ⟨_, vvs ++ [x.1], World.cell?_setCell_same' _ _ _ (by rw [c8]; rfl), (World.frozen?_setCell _ _ _ _).trans ((World.frozen?_of_block e0).trans f0), ?_, fun k hk => ?_, by simp [hlen], fun i v t hv ht => ?_⟩⟩⟩
  · rw [hsz]
    rcases hk with hk | hk
    · exact ⟨Or.inl hk, by have := hMl k hk; omega⟩
    · exact ⟨Or.inr hk.1, hk.2⟩
  · rcases List.mem_append.1 hy with h | h
    · exact a1 y h
    · simp at h; rw [h]; exact hx0
  · rw [tsK_snoc] at hi ⊢
    rcases Nat.lt_or_ge i (tsK pre).length with h1 | h1
    · rw [List.getElem?_append_left h1] at hi
      rw [List.take_append_of_le_length (by omega)]
      exact a2 i t hi
    · rw [List.getElem?_append_right h1] at hi
      obtain ⟨j, hj⟩ : ∃ j, i - (tsK pre).length = j := ⟨_, rfl⟩
      rw [hj] at hi
      cases j with
      | zero =>
        have hie : i = (tsK pre).length := by omega
        simp at hi
        subst hi hie
        rw [List.take_left, tsK_len]
        exact ⟨st, hst, by rw [hx0] at hsay; exact hsay⟩
      | succ j => simp at hi
  · rw [List.length_append, List.length_singleton]
    exact (List.getElem?_eq_some_iff.1 hst).1
  · rcases hk with hk | hk
    · exact a5w k hk
    · omega
  · refine ownsRow_frm2 (by simpa using hown) (fun k hk => Below.heap_setCell _ _ _ _ (fun e => ?_))
    have h1 : g' = k := by simpa [Value.ownBlock] using hk
    have h2 : k = b8 := e
    omega
  · have h1 : g' = k := by simpa [Value.ownBlock] using hk
    subst h1
    rcases hat with h | h
    · exact Or.inl (hrow _ h).1
    · exact Or.inr ⟨by omega, hlt⟩
  · rw [tsK_snoc] at ht
    rcases Nat.lt_or_ge i vvs.length with h1 | h1
    · rw [List.getElem?_append_left h1] at hv
      rw [List.getElem?_append_left (by rw [tsK_len]; omega)] at ht
      exact (hall i v t hv ht).turn kfB hsub
    · rw [List.getElem?_append_right h1] at hv
      rw [List.getElem?_append_right (by rw [tsK_len]; omega), tsK_len] at ht
      rw [← hlen] at ht
      obtain ⟨j, hj⟩ : ∃ j, i - vvs.length = j := ⟨_, rfl⟩
      rw [hj] at hv ht
      cases j with
      | zero =>
        simp at hv ht
        subst hv ht
        exact hS.turn kfB hsub
      | succ j => simp at hv
end Go.Proofs.YtlbjbmpkaniojaaGreat
namespace Go.Proofs.YtlbjbmpkaniojaaGreat
open Go Go.RowKit Go.Maps
/-- what a proof says at its end. -/
def SayP (s : Sg) (g : List (List Int)) (p : List St) (x : List Int × Int) : Prop :=
  (askedB s g p = false ∧ x = ([], 1)) ∨ (askedB s g p = true ∧ ∃ l, RunR s g p l x.2 ∧ ((x.2 = 0 ∧ l.getLast? = some x.1) ∨ (x.2 ≠ 0 ∧ x.1 = [])))
theorem Ints.nil (w : World) : Ints w (.slice none 0 0) [] := ⟨rfl, none, 0, rfl, Nat.le_refl _, by simp, fun _ => rfl, fun j u hj => by simp at hj⟩
/-- what an entry says, by its name. -/
def saysN (l : List En) (n : Nm) : Option (List Int) := (idxN l n).bind fun i => (l[i]?).map En.says
def givL (l : List En) : List Nm → Option (List (List Int))
  | [] => some []
  | n :: ns => match saysN l n, givL l ns with
    | some t, some ts => some (t :: ts)
    | _, _ => none
/-- what an entry's proof says; false if it is no proof of anything. -/
def StrP (s : Sg) (l : List En) (e : En) (x : List Int × Bool) : Prop :=
  (e.proof.length = 0 ∧ x = (e.says, true)) ∨ (e.proof.length ≠ 0 ∧ ((givL l e.uses = none ∧ x = ([], false)) ∨ ∃ g y, givL l e.uses = some g ∧ SayP s g e.proof y ∧ x = (y.1, decide (y.2 = 0))))
def StrQ (s : Sg) (l : List En) (x : En) (w : World) (e : Ending) (w' : World) : Prop := ∃ y u, StrP s l x y ∧ e = .returned (.tuple #[u, .bool y.2]) ∧ Ints w' u y.1 ∧ Below w.heap.size w w'
theorem StrQ.mk {s : Sg} {l : List En} {x : En} {w : World} {e : Ending} {w' : World} (y : List Int × Bool) (u : Value) (h1 : StrP s l x y) (h2 : e = .returned (.tuple #[u, .bool y.2])) (h3 : Ints w' u y.1) (h4 : Below w.heap.size w w') : StrQ s l x w e w' := ⟨y, u, h1, h2, h3, h4⟩
def HldP (s : Sg) (l : List En) (e : En) (z : Bool) : Prop := ∃ x, StrP s l e x ∧ z = (x.2 && instB s x.1 e.says)
/-- what Holds answers. -/
def HoldR (s : Sg) (l : List En) (n : Nm) (z : Bool) (e : Int) : Prop := (libB s l = false ∧ z = false ∧ e = 1) ∨ (libB s l = true ∧ ((idxN l n = none ∧ z = false ∧ e = 5) ∨ ∃ i, ∃ h : i < l.length, idxN l n = some i ∧ HldP s l l[i] z ∧ e = 0))
def HoldQ (s : Sg) (l : List En) (n : Nm) (w : World) (e : Ending) (w' : World) : Prop := ∃ z er, HoldR s l n z er ∧ e = .returned (.tuple #[.bool z, .int .i64 er]) ∧ Below w.heap.size w w'
theorem HoldQ.mk {s : Sg} {l : List En} {n : Nm} {w : World} {e : Ending} {w' : World} (z : Bool) (er : Int) (h1 : HoldR s l n z er) (h2 : e = .returned (.tuple #[.bool z, .int .i64 er])) (h3 : Below w.heap.size w w') : HoldQ s l n w e w' := ⟨z, er, h1, h2, h3⟩
/-- what Strongest answers. -/
def StgR (s : Sg) (l : List En) (n : Nm) (t : List Int) (e : Int) : Prop := (libB s l = false ∧ t = [] ∧ e = 1) ∨ (libB s l = true ∧ ((idxN l n = none ∧ t = [] ∧ e = 5) ∨ ∃ i, ∃ h : i < l.length, idxN l n = some i ∧ ∃ x, StrP s l l[i] x ∧ ((x.2 = true ∧ t = x.1 ∧ e = 0) ∨ (x.2 = false ∧ t = [] ∧ e = 11))))
def StgQ (s : Sg) (l : List En) (n : Nm) (w : World) (e : Ending) (w' : World) : Prop := ∃ u t er, StgR s l n t er ∧ e = .returned (.tuple #[u, .int .i64 er]) ∧ Ints w' u t ∧ Below w.heap.size w w'
theorem StgQ.mk {s : Sg} {l : List En} {n : Nm} {w : World} {e : Ending} {w' : World} (u : Value) (t : List Int) (er : Int) (h1 : StgR s l n t er) (h2 : e = .returned (.tuple #[u, .int .i64 er])) (h3 : Ints w' u t) (h4 : Below w.heap.size w w') : StgQ s l n w e w' := ⟨u, t, er, h1, h2, h3, h4⟩
end Go.Proofs.YtlbjbmpkaniojaaGreat
namespace Go.Proofs.YtlbjbmpkaniojaaGreat
open Go Go.RowKit
theorem DetR.unique {s : Sg} {m n : List Int} {x y : List Int × Int} (h : DetR s m n x) (k : DetR s m n y) : x = y := by
  rcases h with ⟨h1, rfl⟩ | ⟨h1, h2, h⟩
  · rcases k with ⟨-, rfl⟩ | ⟨k1, k2, -⟩
    · rfl
    · rw [k1, k2] at h1; cases h1
  · rcases k with ⟨k1, -⟩ | ⟨-, -, k⟩
    · rw [h1, h2] at k1; cases k1
    · rcases h with ⟨h3, rfl⟩ | ⟨A, B, rfl, hA, hB, hu⟩
      · rcases k with ⟨-, rfl⟩ | ⟨A, B, rfl, -⟩
        · rfl
        · simp at h3
      · rcases k with ⟨k3, -⟩ | ⟨A', B', e, hA', hB', ku⟩
        · simp at k3
        · have := cut_unique [A, B] [A', B'] [] [] (by intro z hz; simp at hz; rcases hz with rfl | rfl <;> assumption) (by intro z hz; simp at hz; rcases hz with rfl | rfl <;> assumption) rfl (by simpa using e)
          have e1 := this.1
          simp only [List.cons.injEq, and_true] at e1
          obtain ⟨rfl, rfl⟩ := e1
          exact UR.unique (hB.mono (by omega)) hu ku
theorem sayR.unique {s : Sg} {g l : List (List Int)} {x : St} {y z : List Int × Int} (h : sayR s g l x y) (k : sayR s g l x z) : y = z := by
  unfold sayR at h k
  split at h
  · rename_i hh
    rw [if_pos hh] at k
    rw [h, k]
  · rename_i hh
    rw [if_neg hh] at k
    exact h.unique k
theorem RunR.unique {s : Sg} {g : List (List Int)} {p : List St} {l l' : List (List Int)} {e e' : Int} (h : RunR s g p l e) (k : RunR s g p l' e') : l = l' ∧ e = e' := by
  -- as far as both say something, they say the same
  have key : ∀ n, n ≤ l.length → n ≤ l'.length → l.take n = l'.take n := by
    intro n
    induction n with
    | zero => intro _ _; simp
    | succ n ih =>
      intro h1 h2
      have e0 := ih (by omega) (by omega)
      rw [List.take_succ_eq_append_getElem (by omega), List.take_succ_eq_append_getElem (by omega), e0]
      obtain ⟨st, hst, hs1⟩ := h.1 n l[n] (by simp [List.getElem?_eq_getElem (show n < l.length by omega)])
      obtain ⟨st', hst', hs2⟩ := k.1 n l'[n] (by simp [List.getElem?_eq_getElem (show n < l'.length by omega)])
      rw [hst] at hst'
      cases hst'
      rw [e0] at hs1
      have := congrArg Prod.fst (hs1.unique hs2)
      simp only at this
      rw [this]
  have stop : ∀ {l l' : List (List Int)} {e e' : Int}, RunR s g p l e → RunR s g p l' e' → l.length < l'.length → l = l'.take l.length → False := by
    intro l l' e e' h k hlt ht
    have hl' : l'.length ≤ p.length := by rcases k.2 with ⟨-, h⟩ | ⟨-, h, -⟩ <;> omega
    rcases h.2 with ⟨-, h2⟩ | ⟨h1, h2, st, t, h3, h4⟩
    · omega
    · obtain ⟨st', hst', hs⟩ := k.1 l.length l'[l.length] (by simp [List.getElem?_eq_getElem hlt])
      rw [h3] at hst'
      cases hst'
      rw [← ht] at hs
      exact h1 (congrArg Prod.snd (h4.unique hs))
  rcases Nat.lt_trichotomy l.length l'.length with hlt | heq | hlt
  · have := key l.length (Nat.le_refl _) (by omega)
    rw [List.take_length] at this
    exact (stop h k hlt this).elim
  · have e0 := key l.length (Nat.le_refl _) (by omega)
    rw [List.take_length, heq, List.take_length] at e0
    subst e0
    refine ⟨rfl, ?_⟩
    rcases h.2 with ⟨h1, h2⟩ | ⟨h1, h2, st, t, h3, h4⟩
    · rcases k.2 with ⟨k1, -⟩ | ⟨-, k2, -⟩
      · omega
      · omega
    · rcases k.2 with ⟨-, k2⟩ | ⟨-, -, st', t', k3, k4⟩
      · omega
      · rw [h3] at k3
        cases k3
        exact congrArg Prod.snd (h4.unique k4)
  · have := key l'.length (by omega) (Nat.le_refl _)
    rw [List.take_length] at this
    exact (stop k h hlt this.symm).elim
end Go.Proofs.YtlbjbmpkaniojaaGreat
namespace Go.Proofs.YtlbjbmpkaniojaaGreat
open Go Go.RowKit Go.Maps
theorem TxtsAt.take {w : World} {a : Option Addr} {n cap : Nat} {l : List Nm} (h : TxtsAt w (.slice a n cap) l) (k : Nat) (hk : k ≤ l.length) : TxtsAt w (.slice a k cap) (l.take k) := by
  obtain ⟨⟨h1, a', cap', h2, h3, h4, h5, h6⟩, hs⟩ := h
  simp only [Value.slice.injEq] at h2
  obtain ⟨rfl, rfl, rfl⟩ := h2
  have hlk : (l.take k).length = k := by rw [List.length_take]; omega
  refine ⟨⟨by simp, a, cap, by rw [hlk], by omega, by omega, h5, fun j u hj => ?_⟩, fun x hx => hs x (List.mem_of_mem_take hx)⟩
  refine h6 j u ?_
  rw [List.map_take, List.getElem?_take] at hj
  split at hj
  · exact hj
  · cases hj
theorem hasN_nd {l : List Nm} (h : ∀ j, j < l.length → hasN (l.take j) (l.getD j ByteArray.empty) = false) : l.Nodup := by
  rw [List.Nodup, List.pairwise_iff_getElem]
  intro i j hi hj hij
  have h1 := hasN_no.1 (h j hj)
  rw [List.getD_eq_getElem?_getD, List.getElem?_eq_getElem (by omega)] at h1
  simp at h1
  intro e
  refine h1 ?_
  rw [← e]
  exact List.mem_take_iff_getElem.2 ⟨i, by omega, rfl⟩
theorem hasN_dup {l : List Nm} {j : Nat} (hj : j < l.length) (h : hasN (l.take j) l[j] = true) : ¬ l.Nodup := by
  intro hn
  obtain ⟨i, hi, e⟩ := List.mem_take_iff_getElem.1 (hasN_iff.1 h)
  have := List.pairwise_iff_getElem.1 hn i j (by omega) hj (by omega)
  exact this e
theorem idxN_all {l : List En} {n : Nm} (h : ∀ x ∈ l, x.name ≠ n) : idxN l n = none := by
  unfold idxN
  rw [List.findIdx?_eq_none_iff]
  intro x hx
  obtain ⟨y, hy, rfl⟩ := List.mem_map.1 hx
  simpa using h y hy
theorem ref6_Has (v : Value) (l : List Nm) (x : Nm) (w : World) (hv : TxtsAt w v l) :
    Calls Tryz.prog 63 #[v, .string x] w fun e w' => e = .returned (.bool (hasN l x)) ∧ w = w' := by
  obtain ⟨a, cap, rfl, h1, hl, h3, HC⟩ := hv.open
  have HC' := hid HC
  clear HC hv h3
  go_enter Tryz.func63, Tryz.ntmps63
  go_wp2
  go_loop [5] (fun i => ∃ k : Nat, k ≤ l.length ∧ i = .int .i64 k ∧ ∀ j (hj : j < l.length), j < k → l[j] ≠ x) (fun i => l.length - (intOf i).toNat)
  case atStart => exact ⟨0, by omega, rfl, by simp⟩
  case round =>
    obtain ⟨k, hk, rfl, hrel⟩ := hrel
    have HR := hid hrel
    clear hrel
    by_cases hlt : k < l.length
    · obtain ⟨b, o, rfl, hcell⟩ := HC'.out k hlt
      have HM := hid (List.getElem_mem hlt)
      obtain ⟨y, hy⟩ : ∃ y, l[k] = y := ⟨_, rfl⟩
      have HY := hid hy
      rw [hy] at hcell HM
      clear hy
      by_cases h2 : y = x
      · have HF : Hid (hasN l x = true) := hid (hasN_iff.2 (h2 ▸ HM.out))
        have q2 : (y.toList == x.toList) = true := by rw [bytes_eq]; simpa using h2
        clear h2
        go_wp2
        go_ret
        exact ⟨ret_bool HF.out.symm, rfl⟩
      · have H2 := hid h2
        have q2 : (y.toList == x.toList) = false := by rw [bytes_eq]; simpa using h2
        clear h2
        go_wp2
        go_round
        case rel =>
          refine ⟨k + 1, by omega, by go_num, fun j hj hjk => ?_⟩
          by_cases hjk' : j = k
          · subst hjk'; rw [HY.out]; exact H2.out
          · exact HR.out j hj (by omega)
        case measure => simp [intOf]; omega
    · have HF : Hid (hasN l x = false) := hid (hasN_no.2 fun h => by
        obtain ⟨j, hj, e⟩ := List.getElem_of_mem h
        exact HR.out j hj (by omega) e)
      go_wp2
      go_ret
      exact ⟨ret_bool HF.out.symm, rfl⟩
theorem ref6_Index (v : Value) (l : List En) (x : Nm) (w : World) (hv : EntsAt w v l) :
    Calls Tryz.prog 51 #[v, .string x] w fun e w' => e = .returned (.int .i64 (idxI l x)) ∧ w = w' := by
  obtain ⟨a, cap, rfl, h1, hl, h3, HC⟩ := hv.open
  have HC' := hid HC
  clear HC hv h3
  go_enter Tryz.func51, Tryz.ntmps51
  go_wp2
  go_loop [5] (fun i => ∃ k : Nat, k ≤ l.length ∧ i = .int .i64 k ∧ ∀ j (hj : j < l.length), j < k → l[j].name ≠ x) (fun i => l.length - (intOf i).toNat)
  case atStart => exact ⟨0, by omega, rfl, by simp⟩
  case round =>
    obtain ⟨k, hk, rfl, hrel⟩ := hrel
    have HR := hid hrel
    clear hrel
    by_cases hlt : k < l.length
    · obtain ⟨b, o, _, _, _, rfl, hcell, -⟩ := HC'.out k hlt
      have HAT : Hid (l[k].name = x → idxI l x = k) := hid fun e => by
        have := idxN_at hlt (fun j hj => by rw [e]; exact HR.out j (by omega) hj)
        rw [e] at this
        unfold idxI
        rw [this]
      obtain ⟨y, hy⟩ : ∃ y, l[k].name = y := ⟨_, rfl⟩
      have HY := hid hy
      rw [hy] at hcell HAT
      clear hy
      by_cases h2 : y = x
      · have HF := hid (HAT.out h2)
        have q2 : (y.toList == x.toList) = true := by rw [bytes_eq]; simpa using h2
        clear h2
        go_wp2
        go_ret
        exact ⟨ret_int HF.out.symm, rfl⟩
      · have H2 := hid h2
        have q2 : (y.toList == x.toList) = false := by rw [bytes_eq]; simpa using h2
        clear h2
        go_wp2
        go_round
        case rel =>
          refine ⟨k + 1, by omega, by go_num, fun j hj hjk => ?_⟩
          by_cases hjk' : j = k
          · subst hjk'; rw [HY.out]; exact H2.out
          · exact HR.out j hj (by omega)
        case measure => simp [intOf]; omega
    · have HF : Hid (idxI l x = -1) := hid (by
        unfold idxI
        rw [idxN_all fun y hy => by
          obtain ⟨j, hj, e⟩ := List.getElem_of_mem hy
          rw [← e]
          exact HR.out j hj (by omega)])
      go_wp2
      go_ret
      exact ⟨ret_int HF.out.symm, rfl⟩
theorem ref1_IsCanonical (vs va : Value) (s : Sg) (a : List Int) (w : World) (hs : SignAt w vs s) (ra : Ints w va a) :
    Calls Tryz.prog 126 #[vs, va] w fun e w' => e = .returned (.bool (canB s a)) ∧ Below w.heap.size w w' := by
  cases h1 : termB s a
  · have HF : Hid (canB s a = false) := hid (by unfold canB; rw [h1]; rfl)
    go_enter Tryz.func126, Tryz.ntmps126
    go_wp2_with fail
    refine (ref1_Valid _ _ s a _ hs ra).mono ?_
    rintro e w1 ⟨rfl, n, rfl⟩
    rw [h1]
    go_wp2
    go_ret
    exact ⟨ret_bool HF.out.symm, below_self_drewN _ _⟩
  · have f4 := (termB_facts h1).2.2.2
    have HA := hid (termB_wf h1)
    have ha0 := (termB_T h1).ne
    have HL := hid (canonL_len a)
    have HF : Hid (canB s a = decide (canonL a = a)) := hid (by unfold canB; rw [h1]; rfl)
    have H1 := hid h1
    clear h1
    go_enter Tryz.func126, Tryz.ntmps126
    go_wp2_with fail
    refine (ref1_Valid _ _ s a _ hs ra).mono ?_
    rintro e w1 ⟨rfl, n, hw1⟩
    have hb1 : Below w.heap.size w w1 := hw1 ▸ below_self_drewN w n
    clear hw1
    rw [H1.out]
    go_wp2_with fail
    refine (ref1_Renamed _ a _ (ra.below hb1) ha0 (by omega) HA.out).mono ?_
    rintro e w3 ⟨u3, rfl, o3, hb4⟩
    have hb3 := hb1.trans (hb4.mono hb1.size)
    have r3 := Ints.of_owns o3 (by rw [HL.out]; omega)
    have HEQ := hid (ref1_Same u3 va (canonL a) a w3 r3 (ra.below hb3))
    clear o3 hb4 r3
    go_wp2_with fail
    refine HEQ.out.mono ?_
    rintro e w4 ⟨rfl, n, rfl⟩
    go_wp2
    go_ret
    exact ⟨ret_bool HF.out.symm, below_drewN hb3 n⟩
theorem ref4_within (n lo hi : Int) (w : World) :
    Calls Tryz.prog 173 #[.int .i64 n, .int .i64 lo, .int .i64 hi] w fun e w' => e = .returned (.bool (inB n lo hi)) ∧ w = w' := by
  unfold inB
  by_cases h1 : lo ≤ n
  · by_cases h2 : n ≤ hi
    · go_enter Tryz.func173, Tryz.ntmps173
      go_wp2
      go_ret
      exact ⟨by simp [h1, h2], rfl⟩
    · go_enter Tryz.func173, Tryz.ntmps173
      go_wp2
      go_ret
      exact ⟨by simp [h1, h2], rfl⟩
  · go_enter Tryz.func173, Tryz.ntmps173
    go_wp2
    go_ret
    exact ⟨ret_bool (by simp; omega), rfl⟩
theorem ref4_isCount (n : Int) (w : World) :
    Calls Tryz.prog 172 #[.int .i64 n] w fun e w' => e = .returned (.bool (inB n 0 60)) ∧ w = w' := by
  go_enter Tryz.func172, Tryz.ntmps172
  go_wp2_with (go_at_call 173; refine (ref4_within _ _ _ _).mono ?_; rintro e w' ⟨rfl, rfl⟩)
  go_ret
  exact ⟨rfl, rfl⟩
set_option maxHeartbeats 1000000 in
theorem ref4_stepRight (g k : Int) (x : St) (w : World) (hg : 0 ≤ g ∧ g ≤ 140737488355328) (hk : 0 ≤ k ∧ k ≤ 140737488355328) :
    Calls Tryz.prog 174 #[.int .i64 g, .agg #[.int .i64 x.1, .int .i64 x.2.1, .int .i64 x.2.2], .int .i64 k] w fun e w' => e = .returned (.bool (rightB g k x)) ∧ Below w.heap.size w w' := by
  obtain ⟨x0, x1, x2⟩ := x
  have hw1 : IntKind.i64.wrap (g - 1) = g - 1 := by rw [IntWalk.i64_in _ (by omega)]
  have hw2 : IntKind.i64.wrap (k - 1) = k - 1 := by rw [IntWalk.i64_in _ (by omega)]
  have hb1 : Below w.heap.size w (w.alloc (.cells #[.int .i64 x0, .int .i64 x1, .int .i64 x2] 105)) := (Below.refl _ _).alloc (Nat.le_refl _) _
  by_cases h1 : x0 = 1
  · subst h1
    cases hi : inB x1 0 (g - 1)
    · have hi' := hi
      go_enter Tryz.func174, Tryz.ntmps174
      go_wp2_with (go_at_call 173; refine (ref4_within _ _ _ _).mono ?_; rintro e w' ⟨rfl, rfl⟩)
      go_ret
      exact ⟨ret_bool (by simp [rightB, hi']), hb1⟩
    · have hi' := hi
      by_cases h2 : x2 = 0
      · subst h2
        go_enter Tryz.func174, Tryz.ntmps174
        go_wp2_with (go_at_call 173; refine (ref4_within _ _ _ _).mono ?_; rintro e w' ⟨rfl, rfl⟩)
        go_ret
        exact ⟨ret_bool (by simp [rightB, hi']), hb1⟩
      · have n2 : (x2 == 0) = false := by simpa using h2
        go_enter Tryz.func174, Tryz.ntmps174
        go_wp2_with (go_at_call 173; refine (ref4_within _ _ _ _).mono ?_; rintro e w' ⟨rfl, rfl⟩)
        go_ret
        exact ⟨ret_bool (by simp [rightB, hi', h2]), hb1⟩
  · have n1 : (x0 == 1) = false := by simpa using h1
    by_cases h3 : x0 = 2
    · subst h3
      cases hi : inB x1 0 (k - 1)
      · have hi' := hi
        go_enter Tryz.func174, Tryz.ntmps174
        go_wp2_with (go_at_call 173; refine (ref4_within _ _ _ _).mono ?_; rintro e w' ⟨rfl, rfl⟩)
        go_ret
        exact ⟨ret_bool (by simp [rightB, hi']), hb1⟩
      · have hi' := hi
        cases hj : inB x2 0 (k - 1)
        · have hj' := hj
          go_enter Tryz.func174, Tryz.ntmps174
          go_wp2_with (go_at_call 173; refine (ref4_within _ _ _ _).mono ?_; rintro e w' ⟨rfl, rfl⟩)
          go_ret
          exact ⟨ret_bool (by simp [rightB, hi', hj']), hb1⟩
        · have hj' := hj
          go_enter Tryz.func174, Tryz.ntmps174
          go_wp2_with (go_at_call 173; refine (ref4_within _ _ _ _).mono ?_; rintro e w' ⟨rfl, rfl⟩)
          go_ret
          exact ⟨ret_bool (by simp [rightB, hi', hj']), hb1⟩
    · have n3 : (x0 == 2) = false := by simpa using h3
      go_enter Tryz.func174, Tryz.ntmps174
      go_wp2_with (go_at_call 173; refine (ref4_within _ _ _ _).mono ?_; rintro e w' ⟨rfl, rfl⟩)
      go_ret
      exact ⟨ret_bool (by simp [rightB, h1, h3]), hb1⟩
set_option maxHeartbeats 2000000 in
theorem ref4_ValidProof (g : Int) (v : Value) (l : List St) (w : World) (hg : 0 ≤ g ∧ g ≤ 60) (hv : StepsAt w v l) :
    Calls Tryz.prog 127 #[.int .i64 g, v] w fun e w' => e = .returned (.bool (proofB g l)) ∧ Below w.heap.size w w' := by
  obtain ⟨a, cap, rfl, h1, h2, -, HC⟩ := hv.open
  have HC' := hid HC
  clear HC hv
  have hi : inB g 0 60 = true := inB_true.2 ⟨by omega, by omega⟩
  cases hl : inB l.length 1 60
  · have HF : Hid (proofB g l = false) := hid (by unfold proofB; rw [hl, Bool.and_false])
    go_enter Tryz.func127, Tryz.ntmps127
    go_wp2_with (first | (go_at_call 172; refine (ref4_isCount _ _).mono ?_; rintro e w' ⟨rfl, rfl⟩; rw [hi]) | (go_at_call 173; refine (ref4_within _ _ _ _).mono ?_; rintro e w' ⟨rfl, rfl⟩; rw [hl]))
    go_ret
    exact ⟨ret_bool HF.out.symm, Below.refl _ _⟩
  have HL := hid hl
  go_enter Tryz.func127, Tryz.ntmps127
  go_wp2_with (first | (go_at_call 172; refine (ref4_isCount _ _).mono ?_; rintro e w' ⟨rfl, rfl⟩; rw [hi]) | (go_at_call 173; refine (ref4_within _ _ _ _).mono ?_; rintro e w' ⟨rfl, rfl⟩; rw [hl]))
  clear hl
  go_loopw [5] (fun kv wr => ∃ k : Nat, k ≤ l.length ∧ kv = .int .i64 k ∧ Below w.heap.size w wr ∧ ∀ j (hj : j < l.length), j < k → rightB g j l[j] = true) (fun kv _ => l.length - (intOf kv).toNat)
  case atStart => exact ⟨0, by omega, rfl, Below.refl _ _, by simp⟩
  case round =>
    obtain ⟨k, hk, rfl, hb, hrel⟩ := hrel
    have HR := hid hrel
    have hsz := hb.size
    clear hrel
    by_cases hlt : k < l.length
    · obtain ⟨cb, co, rfl, c10, c20, c30⟩ := HC'.out k hlt
      have c1' := (hb.cell (World.block_lt_of_cell? _ _ c10)).trans c10
      have c2' := (hb.cell (World.block_lt_of_cell? _ _ c20)).trans c20
      have c3' := (hb.cell (World.block_lt_of_cell? _ _ c30)).trans c30
      have HNO := hid (fun hn => proofB_no (g := g) hlt hn)
      have HYES := hid (fun (h : rightB g k l[k] = true) => h)
      obtain ⟨x, hx⟩ : ∃ x, l[k] = x := ⟨_, rfl⟩
      rw [hx] at c1' c2' c3' HNO HYES
      have HX := hid hx
      obtain ⟨x0, x1, x2⟩ := x
      simp only at c1' c2' c3'
      clear c10 c20 c30 hx
      have HRT := hid (ref4_stepRight g k (x0, x1, x2) wr (by omega) (by omega))
      have HBS := hid hb
      cases hr : rightB g k (x0, x1, x2)
      · rw [hr] at HRT
        have HF := hid (HNO.out hr)
        clear hr hb
        go_wp2_with (go_at_call 174; refine HRT.out.mono ?_; rintro e w5 ⟨rfl, hb5⟩)
        go_ret
        exact ⟨ret_bool HF.out.symm, HBS.out.trans (hb5.mono HBS.out.size)⟩
      · rw [hr] at HRT
        have HRK := hid (HYES.out hr)
        clear hr hb
        go_wp2_with (go_at_call 174; refine HRT.out.mono ?_; rintro e w5 ⟨rfl, hb5⟩)
        go_roundw
        case rel =>
          refine ⟨k + 1, by omega, by go_num, HBS.out.trans (hb5.mono HBS.out.size), fun q hq hqk => ?_⟩
          by_cases hqq : q = k
          · subst hqq
            rw [HX.out]; exact HRK.out
          · exact HR.out q hq (by omega)
        case measure => simp [intOf]; omega
    · have hkl : k = l.length := by omega
      have HA : Hid (proofB g l = true) := hid (by rw [proofB_all fun q hq => HR.out q hq (by omega)]; exact HL.out)
      go_wp2
      go_ret
      exact ⟨ret_bool HA.out.symm, hb⟩
end Go.Proofs.YtlbjbmpkaniojaaGreat
namespace Go.Proofs.YtlbjbmpkaniojaaGreat
open Go Go.RowKit Go.Maps
set_option maxHeartbeats 4000000 in
set_option maxRecDepth 100000 in
theorem ref6_ValidEntry (vs vS vU vP : Value) (s : Sg) (x : En) (w : World) (hs : SignAt w vs s) (he : EntAt w vS vU vP x) (hs1 : s.length ≤ 1000) :
    Calls Tryz.prog 75 #[vs, .agg #[.string x.name, .string x.who, vS, vU, vP]] w fun e w' => e = .returned (.bool (entryB s x)) ∧ Below w.heap.size w w' := by
  obtain ⟨hS, hU, hP, n1, n2⟩ := he
  obtain ⟨ua, uc, rfl, ucap, ul, -, UC⟩ := hU.open
  obtain ⟨pa, pc, rfl, -, pl, -⟩ := hP.open
  have EB0 := EB.new w x vS (.slice ua x.uses.length uc) (.slice pa x.proof.length pc) 41
  have hb0 : Below w.heap.size w (w.alloc (.cells #[.string x.name, .string x.who, vS, .slice ua x.uses.length uc, .slice pa x.proof.length pc] 41)) := (Below.refl _ _).alloc (Nat.le_refl _) _
  have HU := hid hU
  have HP := hid hP
  have HS := hid hS
  have HSG := hid hs
  have UC' := hid UC
  have HEX : Hid (entryB s x = (nmB x.name && (nmB x.who && (canB s x.says && (decide (x.uses.length ≤ 12) && (decide x.uses.Nodup && (x.uses.all nmB && (if x.proof.length = 0 then decide (x.uses.length = 0) else proofB x.uses.length x.proof)))))))) := hid rfl
  have HB0 := hid hb0
  have HE0 := hid EB0
  clear hU hP hS hs hb0 EB0 UC
  cases g1 : nmB x.name
  · have HF : Hid (entryB s x = false) := hid (by rw [HEX.out, g1]; rfl)
    have G1 := hid g1
    clear g1
    go_enter Tryz.func75, Tryz.ntmps75
    go_wp2_with (go_at_call 53; refine (ref6_Name _ _ n1).mono ?_; rintro e w' ⟨rfl, rfl⟩; rw [G1.out])
    go_ret
    exact ⟨ret_bool HF.out.symm, HB0.out⟩
  cases g2 : nmB x.who
  · have HF : Hid (entryB s x = false) := hid (by rw [HEX.out, g2]; simp)
    have G1 := hid g1
    have G2 := hid g2
    clear g1 g2
    go_enter Tryz.func75, Tryz.ntmps75
    go_wp2_with fail
    refine (ref6_Name _ _ n1).mono ?_
    rintro e w' ⟨rfl, rfl⟩
    rw [G1.out]
    go_wp2_with fail
    refine (ref6_Name _ _ n2).mono ?_
    rintro e w' ⟨rfl, rfl⟩
    rw [G2.out]
    go_wp2
    go_ret
    exact ⟨ret_bool HF.out.symm, HB0.out⟩
  have G1 := hid g1
  have G2 := hid g2
  have HEX2 : Hid (entryB s x = (canB s x.says && (decide (x.uses.length ≤ 12) && (decide x.uses.Nodup && (x.uses.all nmB && (if x.proof.length = 0 then decide (x.uses.length = 0) else proofB x.uses.length x.proof)))))) := hid (by rw [HEX.out, g1, g2]; rfl)
  clear g1 g2 HEX
  go_enter Tryz.func75, Tryz.ntmps75
  go_wp2_with fail
  refine (ref6_Name _ _ n1).mono ?_
  rintro e w' ⟨rfl, rfl⟩
  rw [G1.out]
  go_wp2_with fail
  refine (ref6_Name _ _ n2).mono ?_
  rintro e w' ⟨rfl, rfl⟩
  rw [G2.out]
  obtain ⟨W, hW⟩ : ∃ W, w.alloc (.cells #[.string x.name, .string x.who, vS, .slice ua x.uses.length uc, .slice pa x.proof.length pc] 41) = W := ⟨_, rfl⟩
  have hbW := HB0.out
  have eW := HE0.out
  rw [hW] at hbW eW ⊢
  clear hW HB0 HE0
  obtain ⟨c0, c1, c2, c3, c4⟩ := eW
  go_wp2_with fail
  refine (ref1_Valid vs vS s x.says W (HSG.out.below hbW) (HS.out.below hbW)).mono ?_
  rintro e w1 ⟨rfl, n, hw1⟩
  have hb1 : Below W.heap.size W w1 := hw1 ▸ below_self_drewN W n
  clear hw1
  have hbw1 := hbW.trans (hb1.mono hbW.size)
  obtain ⟨d0, d1, d2, d3, d4⟩ := EB.below ⟨c0, c1, c2, c3, c4⟩ hb1
  clear c0 c1 c2 c3 c4 hb1
  cases g3t : termB s x.says
  · have HF : Hid (entryB s x = false) := hid (by rw [HEX2.out]; unfold canB; rw [g3t]; rfl)
    clear g3t
    go_wp2
    go_ret
    exact ⟨ret_bool HF.out.symm, hbw1⟩
  clear g3t
  go_wp2_with fail
  refine (ref1_IsCanonical vs vS s x.says w1 (HSG.out.below hbw1) (HS.out.below hbw1)).mono ?_
  rintro e w2 ⟨rfl, hb2⟩
  have hbw2 := hbw1.trans (hb2.mono hbw1.size)
  obtain ⟨c0, c1, c2, c3, c4⟩ := EB.below ⟨d0, d1, d2, d3, d4⟩ hb2
  clear d0 d1 d2 d3 d4 hb2 hbw1
  cases g3 : canB s x.says
  · have HF : Hid (entryB s x = false) := hid (by rw [HEX2.out, g3]; rfl)
    clear g3
    go_wp2
    go_ret
    exact ⟨ret_bool HF.out.symm, hbw2⟩
  by_cases g4n : ¬ x.uses.length ≤ 12
  · have HF : Hid (entryB s x = false) := hid (by rw [HEX2.out, decide_eq_false g4n]; simp)
    have g4' : ((x.uses.length : Int) > 12) := by omega
    clear g3 g4n
    go_wp2
    go_ret
    exact ⟨ret_bool HF.out.symm, hbw2⟩
  have g4 : x.uses.length ≤ 12 := Classical.not_not.1 g4n
  clear g4n
  have g4' : ¬ ((x.uses.length : Int) > 12) := by omega
  have HEX3 : Hid (entryB s x = (decide x.uses.Nodup && (x.uses.all nmB && (if x.proof.length = 0 then decide (x.uses.length = 0) else proofB x.uses.length x.proof)))) := hid (by rw [HEX2.out, g3, decide_eq_true g4]; rfl)
  have hszW := hbW.size
  obtain ⟨B, hB⟩ : ∃ B, w.heap.size = B := ⟨_, rfl⟩
  rw [hB] at c0 c1 c2 c3 c4 ⊢
  clear g3 HEX2
  go_wp2
  clear c0 c1 c2
  go_loopw [5] (fun kv wr => ∃ k q : Nat, k ≤ x.uses.length ∧ kv = .int .i64 k ∧ wr = w2.drewN q ∧ (∀ j (hj : j < x.uses.length), j < k → nmB x.uses[j] = true) ∧ ∀ j, j < k → hasN (x.uses.take j) (x.uses.getD j ByteArray.empty) = false) (fun kv _ => x.uses.length - (intOf kv).toNat)
  case atStart => exact ⟨0, 0, by omega, rfl, rfl, by simp, by simp⟩
  case round =>
    obtain ⟨k, q, hk, rfl, hwr, hn, hh⟩ := hrel
    have HN := hid hn
    have HH := hid hh
    have hbr : Below w2.heap.size w2 wr := hwr ▸ below_self_drewN w2 q
    have HWR := hid hwr
    have k3 := (hbr.cell (World.block_lt_of_cell? _ _ c3)).trans c3
    have k4 := (hbr.cell (World.block_lt_of_cell? _ _ c4)).trans c4
    have hbwr := hbw2.trans (hbr.mono hbw2.size)
    clear hn hh hwr c3 c4
    by_cases hlt : k < x.uses.length
    · obtain ⟨ub, uo, rfl, u0⟩ := UC'.out k hlt
      have u1 := (hbwr.cell (World.block_lt_of_cell? _ _ u0)).trans u0
      have hsz := HU.out.2 _ (List.getElem_mem hlt)
      have hTU := ((HU.out.below hbwr).take k (by omega))
      have HALL := hid (fun (h : x.uses.all nmB = true) => List.all_eq_true.1 h x.uses[k] (List.getElem_mem hlt))
      have HDUP := hid (fun h => hasN_dup (l := x.uses) hlt h)
      have HGD := hid (show x.uses.getD k ByteArray.empty = x.uses[k] by rw [List.getD_eq_getElem?_getD, List.getElem?_eq_getElem hlt]; rfl)
      obtain ⟨y, hy⟩ : ∃ y, x.uses[k] = y := ⟨_, rfl⟩
      have HY := hid hy
      rw [hy] at u1 hsz HALL HDUP HGD
      have HNM := fun j => hid (show Calls Tryz.prog 53 #[.string y] (wr.drewN j) fun e w' => e = .returned (.bool (nmB y)) ∧ w' = wr.drewN j from (ref6_Name y (wr.drewN j) hsz).mono (fun _ _ h => ⟨h.1, h.2.symm⟩))
      have HHS := fun j => hid (show Calls Tryz.prog 63 #[.slice (some ⟨ub, uo, none⟩) k uc, .string y] (wr.drewN j) fun e w' => e = .returned (.bool (hasN (x.uses.take k) y)) ∧ w' = wr.drewN j from (ref6_Has _ _ y (wr.drewN j) (hTU.below (below_self_drewN wr j))).mono (fun _ _ h => ⟨h.1, h.2.symm⟩))
      have HTU := hid hTU
      have y1 : k ≤ uc := by omega
      have y2 : (k : Int) ≤ (uc : Int) := by omega
      have y3 : (0 : Int) ≤ (k : Int) := by omega
      clear hTU u0 hy
      cases gN : nmB y
      · have HF : Hid (entryB s x = false) := hid (by
          rw [HEX3.out]
          have : x.uses.all nmB = false := by
            rw [Bool.eq_false_iff]; intro h; have := HALL.out h; rw [gN] at this; cases this
          rw [this]; simp)
        simp only [gN] at HNM
        clear gN HALL HDUP
        go_wp2
        go_quiet ((first | (go_at_call 53; with_reducible exact Calls.quiet_of_same (HNM _).out)))
        go_wp2
        go_ret
        exact ⟨ret_bool HF.out.symm, below_drewN hbwr _⟩
      · simp only [gN] at HNM
        cases gH : hasN (x.uses.take k) y
        · simp only [gH] at HHS
          have GN := hid gN
          have GH := hid gH
          clear gN gH HALL HDUP
          go_wp2
          go_quiet ((first | (go_at_call 53; with_reducible exact Calls.quiet_of_same (HNM _).out) | (go_at_call 63; with_reducible exact Calls.quiet_of_same (HHS _).out)))
          go_wp2
          go_roundw
          case rel =>
            refine ⟨k + 1, _, by omega, by go_num, by rw [HWR.out]; exact World.drewN_drewN _ _ _, fun j hj hjk => ?_, fun j hjk => ?_⟩
            · by_cases e : j = k
              · subst e; rw [HY.out]; exact GN.out
              · exact HN.out j hj (by omega)
            · by_cases e : j = k
              · subst e; rw [HGD.out]; exact GH.out
              · exact HH.out j (by omega)
          case measure => simp [intOf]; omega
        · have HF : Hid (entryB s x = false) := hid (by rw [HEX3.out, decide_eq_false (HDUP.out gH)]; rfl)
          simp only [gH] at HHS
          clear gN gH HALL HDUP
          go_wp2
          go_quiet ((first | (go_at_call 53; with_reducible exact Calls.quiet_of_same (HNM _).out) | (go_at_call 63; with_reducible exact Calls.quiet_of_same (HHS _).out)))
          go_wp2
          go_ret
          exact ⟨ret_bool HF.out.symm, below_drewN hbwr _⟩
    · have hkl : k = x.uses.length := by omega
      have HEX4 : Hid (entryB s x = (if x.proof.length = 0 then decide (x.uses.length = 0) else proofB x.uses.length x.proof)) := hid (by
        have e1 : x.uses.Nodup := hasN_nd fun j hj => HH.out j (by omega)
        have e2 : x.uses.all nmB = true := by
          rw [List.all_eq_true]
          intro y hy
          obtain ⟨j, hj, rfl⟩ := List.getElem_of_mem hy
          exact HN.out j hj (by omega)
        rw [HEX3.out, decide_eq_true e1, e2]; rfl)
      have HVP := hid (ref4_ValidProof x.uses.length (.slice pa x.proof.length pc) x.proof wr (by omega) (HP.out.below hbwr))
      by_cases g8 : x.proof.length = 0
      · have q8 : ((x.proof.length : Int) == 0) = true := by simp [g8]
        by_cases g7 : x.uses.length = 0
        · have q7 : ((x.uses.length : Int) == 0) = true := by simp [g7]
          have HF : Hid (entryB s x = true) := hid (by rw [HEX4.out, if_pos g8]; simpa using g7)
          clear g7 g8 hkl
          go_wp2
          go_ret
          exact ⟨ret_bool HF.out.symm, hbwr⟩
        · have q7 : ((x.uses.length : Int) == 0) = false := by rw [beq_eq_false_iff_ne]; omega
          have HF : Hid (entryB s x = false) := hid (by rw [HEX4.out, if_pos g8, decide_eq_false g7])
          clear g7 g8 hkl
          go_wp2
          go_ret
          exact ⟨ret_bool HF.out.symm, hbwr⟩
      · have q8 : ((x.proof.length : Int) == 0) = false := by rw [beq_eq_false_iff_ne]; omega
        have HF : Hid (entryB s x = proofB x.uses.length x.proof) := hid (by rw [HEX4.out, if_neg g8])
        clear g8 hkl
        go_wp2_with fail
        refine HVP.out.mono ?_
        rintro e w4 ⟨rfl, hb4⟩
        go_wp2
        go_ret
        exact ⟨ret_bool HF.out.symm, hbwr.trans (hb4.mono hbwr.size)⟩
end Go.Proofs.YtlbjbmpkaniojaaGreat
