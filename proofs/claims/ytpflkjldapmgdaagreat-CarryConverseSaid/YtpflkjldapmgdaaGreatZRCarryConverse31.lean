/-
  WHAT IT HOLDS: contracts of run and Run of package kernel: what all steps say. Conditions: the arguments read as data; a small sign.
  WHAT IT HOLDS: contracts of Says of package kernel, of axiom, givens, strongest, holds, and of Holds and Strongest of package deps. Conditions: the arguments read as data; small signs, small libraries.
-/
import Derived.Deep.RegionHeld3
import Derived.Test.YtpflkjldapmgdaaGreatZRCarryConverse30
import Derived.Test.YtpflkjldapmgdaaGreatZRCarryConverse21
import Derived.Test.YtpflkjldapmgdaaGreatZRCarryConverse18
namespace Go.Proofs.YtpflkjldapmgdaaGreat
open Go Go.RowKit Go.Maps Go.Shelf
attribute [local go_sem] Oper.semAt_some
/-- what a proof says: the terms, and the error of the first step that says nothing. -/
def RunR (s : Sg) (g : List (List Int)) (p : List St) (l : List (List Int)) (e : Int) : Prop :=
  (∀ i t, l[i]? = some t → ∃ st, p[i]? = some st ∧ sayR s g (l.take i) st (t, 0)) ∧ ((e = 0 ∧ l.length = p.length) ∨ (e ≠ 0 ∧ l.length < p.length ∧ ∃ st t, p[l.length]? = some st ∧ sayR s g l st (t, e)))
def tsK (pre : List KE) : List (List Int) := pre.map fun y => y.2.1
structure RuI (wb : World) (s : Sg) (g : List (List Int)) (p : List St) (B b6 b7 b8 : Nat) (pre : List KE) (M O : Nat → Prop) (W : World) : Prop where
  z : ∀ y ∈ pre, y.2.2 = 0
  say : ∀ i t, (tsK pre)[i]? = some t → ∃ st, p[i]? = some st ∧ sayR s g ((tsK pre).take i) st (t, 0)
  len : pre.length ≤ p.length
  bel : Below wb.heap.size wb W
  mm : M b6 ∧ M b7 ∧ M b8
  mw : ∀ k, M k → wb.heap.size ≤ k
  c6 : ∃ v, W.cell? ⟨b6, 0, none⟩ = some v ∧ W.frozen? ⟨b6, 0, none⟩ = false
  c7 : ∃ v, W.cell? ⟨b7, 0, none⟩ = some v ∧ W.frozen? ⟨b7, 0, none⟩ = false
  out : ∃ uo vvs, W.cell? ⟨b8, 0, none⟩ = some uo ∧ W.frozen? ⟨b8, 0, none⟩ = false ∧ W.ownsRow B 28 1 uo vvs.length vvs ∧ (∀ k, uo.ownBlock = some k → M k) ∧ vvs.length = pre.length ∧
    ∀ (i : Nat) (v : Value) (t : List Int), vvs[i]? = some v → (tsK pre)[i]? = some t → Safe (fun k => (M k ∨ k = B + 1) ∨ O k) (fun W => Ints W v t) W
theorem RuI.kb {wb : World} {s : Sg} {g : List (List Int)} {p : List St} {B b6 b7 b8 : Nat} {pre : List KE} {M O O' R : Nat → Prop} {W W' : World} (h : RuI wb s g p B b6 b7 b8 pre M O W) (hB : wb.heap.size ≤ B) (h6 : b6 < B) (h7 : b7 < B) (h8 : b8 < B)
    (hk : Kb R W W') (hR : ∀ k, R k → (O k ∧ B + 2 ≤ k ∧ ¬ M k) ∨ (k = B + 1 ∧ ¬ M k)) (hO : ∀ k, O' k → O k ∨ W.heap.size ≤ k) : RuI wb s g p B b6 b7 b8 pre M O' W' := by
  obtain ⟨a1, a2, a3, a4, a5, a5w, ⟨v6, a6, f6⟩, ⟨v7, a7, f7⟩, ⟨uo, vvs, b1, b2, b3, b4, b5, b6'⟩⟩ := h
  have keep : ∀ q, q < W.heap.size → M q → W'.heap[q]? = W.heap[q]? := fun q h1 h2 => hk.same q h1 (fun h => by rcases hR q h with h | h; exact h.2.2 h2; exact h.2 h2)
  have e6 := keep b6 (World.block_lt_of_cell? _ _ a6) a5.1
  have e7 := keep b7 (World.block_lt_of_cell? _ _ a7) a5.2.1
  have e8 := keep b8 (World.block_lt_of_cell? _ _ b1) a5.2.2
  refine ⟨a1, a2, a3, a4.trans (hk.below a4.size (fun k h => by rcases hR k h with h | h <;> omega)), a5, a5w, ⟨v6, KsI.cell a6 e6, (World.frozen?_of_block e6).trans f6⟩, ⟨v7, KsI.cell a7 e7, (World.frozen?_of_block e7).trans f7⟩,
    uo, vvs, KsI.cell b1 e8, (World.frozen?_of_block e8).trans b2, ownsRow_frm2 b3 (fun q hq => keep q (b3.lt q hq).2 (b4 q hq)), b4, b5, fun i v t h1 h2 => (b6' i v t h1 h2).turn (hk.mono (M' := fun k => (M k ∨ k = B + 1) ∨ O k) (fun k _ h => ?_)) (fun k h => ?_)⟩
  · rcases hR k h with h | h
    · exact Or.inr h.1
    · exact Or.inl (Or.inr h.1)
  · rcases h with h | h
    · exact Or.inl (Or.inl h)
    · exact (hO k h).imp Or.inr id
theorem RuI.grw {wb : World} {s : Sg} {g : List (List Int)} {p : List St} {B b6 b7 b8 : Nat} (hB : wb.heap.size ≤ B) (h6 : b6 < B) (h7 : b7 < B) (h8 : b8 < B) (pre : List KE) : GrwO B (RuI wb s g p B b6 b7 b8 pre) :=
  ⟨fun M O O' W W' h hk hO' hO => h.kb hB h6 h7 h8 hk (fun k hk => Or.inl ⟨hk, hO k hk⟩) hO',
   fun M O W o o' ho hc h hm => h.kb hB h6 h7 h8 (R := fun k => k = B + 1) (Kb.put (M := fun k => k = B + 1) _ rfl) (fun k hk => Or.inr ⟨hk, by rw [hk]; exact hm⟩) (fun k hk => Or.inl hk)⟩
/-- how it ends early: the answer lies in the result's cells. -/
structure RuX (wb : World) (s : Sg) (g : List (List Int)) (p : List St) (B b6 b7 b8 : Nat) (c : Code) (pre : List KE) (M O : Nat → Prop) (W : World) : Prop where
  ret : c = .ret
  bel : Below wb.heap.size wb W
  mm : M b6 ∧ M b7
  mw : ∀ k, M k → wb.heap.size ≤ k
  ans : ∃ uo vvs l e, W.cell? ⟨b6, 0, none⟩ = some uo ∧ W.cell? ⟨b7, 0, none⟩ = some (.int .i64 e) ∧ RunR s g p l e ∧ W.ownsRow B 28 1 uo vvs.length vvs ∧ (∀ k, uo.ownBlock = some k → M k) ∧ vvs.length = l.length ∧
    ∀ (i : Nat) (v : Value) (t : List Int), vvs[i]? = some v → l[i]? = some t → Safe (fun k => (M k ∨ k = B + 1) ∨ O k) (fun W => Ints W v t) W
theorem RuX.kb {wb : World} {s : Sg} {g : List (List Int)} {p : List St} {B b6 b7 b8 : Nat} {c : Code} {pre : List KE} {M O O' R : Nat → Prop} {W W' : World} (h : RuX wb s g p B b6 b7 b8 c pre M O W) (hB : wb.heap.size ≤ B)
    (hk : Kb R W W') (hR : ∀ k, R k → (O k ∧ B + 2 ≤ k ∧ ¬ M k) ∨ (k = B + 1 ∧ ¬ M k)) (hO : ∀ k, O' k → O k ∨ W.heap.size ≤ k) : RuX wb s g p B b6 b7 b8 c pre M O' W' := by
  obtain ⟨a1, a4, a5, a5w, ⟨uo, vvs, l, e, b1, b1', br, b3, b4, b5, b6'⟩⟩ := h
  have keep : ∀ q, q < W.heap.size → M q → W'.heap[q]? = W.heap[q]? := fun q h1 h2 => hk.same q h1 (fun h => by rcases hR q h with h | h; exact h.2.2 h2; exact h.2 h2)
  refine ⟨a1, a4.trans (hk.below a4.size (fun k h => by rcases hR k h with h | h <;> omega)), a5, a5w,
    uo, vvs, l, e, KsI.cell b1 (keep _ (World.block_lt_of_cell? _ _ b1) a5.1), KsI.cell b1' (keep _ (World.block_lt_of_cell? _ _ b1') a5.2), br, ownsRow_frm2 b3 (fun q hq => keep q (b3.lt q hq).2 (b4 q hq)), b4, b5, fun i v t h1 h2 => (b6' i v t h1 h2).turn (hk.mono (M' := fun k => (M k ∨ k = B + 1) ∨ O k) (fun k _ h => ?_)) (fun k h => ?_)⟩
  · rcases hR k h with h | h
    · exact Or.inr h.1
    · exact Or.inl (Or.inr h.1)
  · rcases h with h | h
    · exact Or.inl (Or.inl h)
    · exact (hO k h).imp Or.inr id
theorem RuX.grw {wb : World} {s : Sg} {g : List (List Int)} {p : List St} {B b6 b7 b8 : Nat} (hB : wb.heap.size ≤ B) (c : Code) (pre : List KE) : GrwO B (RuX wb s g p B b6 b7 b8 c pre) :=
  ⟨fun M O O' W W' h hk hO' hO => h.kb hB hk (fun k hk => Or.inl ⟨hk, hO k hk⟩) hO',
   fun M O W o o' ho hc h hm => h.kb hB (R := fun k => k = B + 1) (Kb.put (M := fun k => k = B + 1) _ rfl) (fun k hk => Or.inr ⟨hk, by rw [hk]; exact hm⟩) (fun k hk => Or.inl hk)⟩
theorem tsK_snoc (pre : List KE) (x : KE) : tsK (pre ++ [x]) = tsK pre ++ [x.2.1] := by simp [tsK]
theorem tsK_len (pre : List KE) : (tsK pre).length = pre.length := by simp [tsK]
theorem RuI.push {wb : World} {s : Sg} {g : List (List Int)} {p : List St} {B b6 b7 b8 : Nat} {pre : List KE} {M O : Nat → Prop} {W W6 W7 : World} {x : KE} (h : RuI wb s g p B b6 b7 b8 pre M O W) (hB : wb.heap.size ≤ B) (h6 : b6 < B) (h7 : b7 < B) (h8 : b8 < B) (hne : b6 ≠ b8 ∧ b7 ≠ b8) (hw8 : wb.heap.size ≤ b8) (hBW : B + 2 ≤ W.heap.size)
    (hx0 : x.2.2 = 0) {st : St} (hst : p[pre.length]? = some st) (hsay : sayR s g (tsK pre) st (x.2.1, x.2.2)) (hS : Safe (fun k => (M k ∨ k = B + 1) ∨ O k) (fun W => Ints W x.1 x.2.1) W) (hMl : ∀ k, M k → k < W.heap.size) (hOM : ∀ k, O k → ¬ M k)
    {uo : Value} {vvs : List Value} (c0 : W.cell? ⟨b8, 0, none⟩ = some uo) (f0 : W.frozen? ⟨b8, 0, none⟩ = false) (hrow : ∀ k, uo.ownBlock = some k → M k ∧ B ≤ k) (hlen : vvs.length = pre.length)
    (hall : ∀ (i : Nat) (v : Value) (t : List Int), vvs[i]? = some v → (tsK pre)[i]? = some t → Safe (fun k => (M k ∨ k = B + 1) ∨ O k) (fun W => Ints W v t) W)
    (hb : Below W.heap.size W W6) {g' cap n : Nat} (hn : vvs.length = n) (hown : W7.ownsRow B 28 1 (.slice (some ⟨g', 0, none⟩) (n + 1) cap) (n + 1) (vvs ++ [x.1])) (hg : W6.grownBy W7 uo.ownBlock) (hat : uo.ownBlock = some g' ∨ g' = W6.heap.size) (hlt : g' < W7.heap.size) :
    ∃ M' : Nat → Prop, (∀ k, M' k → (M k ∨ W.heap.size ≤ k) ∧ k < (W7.setCell ⟨b8, 0, none⟩ (.slice (some ⟨g', 0, none⟩) (n + 1) cap)).heap.size) ∧
      Kb (fun k => M k ∨ W.heap.size ≤ k) W (W7.setCell ⟨b8, 0, none⟩ (.slice (some ⟨g', 0, none⟩) (n + 1) cap)) ∧
      RuI wb s g p B b6 b7 b8 (pre ++ [x]) M' O (W7.setCell ⟨b8, 0, none⟩ (.slice (some ⟨g', 0, none⟩) (n + 1) cap)) := by
  subst hn
  obtain ⟨a1, a2, a3, a4, a5, a5w, ⟨v6, a6, f6⟩, ⟨v7, a7, f7⟩, -⟩ := h
  have hs67 := hg.size
  have hs06 := hb.size
  have k7 : Kb (fun k => (M k ∧ B ≤ k)) W W7 := (Kb.of_below hb).trans (Kb.grown (M := fun k => M k ∧ B ≤ k) hg (fun k hk => Or.inl (hrow k hk))) (fun k hk => Or.inl hk)
  have hgB : B ≤ g' := by
    rcases hat with h | h
    · exact (hrow g' h).2
    · omega
  have e0 : W7.heap[b8]? = W.heap[b8]? := k7.same _ (by omega) (fun h => by omega)
  have e6 : W7.heap[b6]? = W.heap[b6]? := k7.same _ (by omega) (fun h => by omega)
  have e7 : W7.heap[b7]? = W.heap[b7]? := k7.same _ (by omega) (fun h => by omega)
  have c8 : W7.cell? ⟨b8, 0, none⟩ = some uo := KsI.cell c0 e0
  have kf : Kb M W (W7.setCell ⟨b8, 0, none⟩ (.slice (some ⟨g', 0, none⟩) (vvs.length + 1) cap)) := (k7.mono (M' := M) (fun k _ hk => hk.1)).trans (Kb.setCell (M := M) _ a5.2.2) (fun k hk => Or.inl hk)
  have hsz : (W7.setCell ⟨b8, 0, none⟩ (.slice (some ⟨g', 0, none⟩) (vvs.length + 1) cap)).heap.size = W7.heap.size := by simp [World.setCell]
  have kfB := kf.mono (M' := fun k => (M k ∨ k = B + 1) ∨ O k) (fun k _ hk => Or.inl (Or.inl hk))
  have hsub : ∀ k, ((M k ∨ (W.heap.size ≤ k ∧ k < W7.heap.size)) ∨ k = B + 1) ∨ O k → ((M k ∨ k = B + 1) ∨ O k) ∨ W.heap.size ≤ k := fun k hk => by
    rcases hk with (((hk | hk) | hk) | hk)
    · exact Or.inl (Or.inl (Or.inl hk))
    · exact Or.inr hk.1
    · exact Or.inl (Or.inl (Or.inr hk))
    · exact Or.inl (Or.inr hk)
  have o6 : ∀ b, b ≠ b8 → W7.heap[b]? = W.heap[b]? → (W7.setCell ⟨b8, 0, none⟩ (.slice (some ⟨g', 0, none⟩) (vvs.length + 1) cap)).heap[b]? = W.heap[b]? := fun b hne e => (Below.heap_setCell _ _ _ _ (fun h => hne h)).trans e
  refine ⟨fun k => M k ∨ (W.heap.size ≤ k ∧ k < W7.heap.size), fun k hk => ?_, kf.mono (fun k _ hk => Or.inl hk), ⟨fun y hy => ?_, fun i t hi => ?_, ?_, a4.trans (kf.below a4.size a5w), ⟨Or.inl a5.1, Or.inl a5.2.1, Or.inl a5.2.2⟩, fun k hk => ?_, ⟨v6, KsI.cell a6 (o6 b6 hne.1 e6), (World.frozen?_of_block (o6 b6 hne.1 e6)).trans f6⟩, ⟨v7, KsI.cell a7 (o6 b7 hne.2 e7), (World.frozen?_of_block (o6 b7 hne.2 e7)).trans f7⟩,
    ⟨_, vvs ++ [x.1], World.cell?_setCell_same' _ _ _ (by rw [c8]; rfl), (World.frozen?_setCell _ _ _ _).trans ((World.frozen?_of_block e0).trans f0), ?_, fun k hk => ?_, by simp [hlen], fun i v t hv ht => ?_⟩⟩⟩
  · rw [hsz]
    rcases hk with hk | hk
    · exact ⟨Or.inl hk, by have := hMl k hk; omega⟩
    · exact ⟨Or.inr hk.1, hk.2⟩
  · rcases List.mem_append.1 hy with h | h
    · exact a1 y h
    · simp at h; rw [h]; exact hx0
  · rw [tsK_snoc] at hi ⊢
    rcases Nat.lt_or_ge i (tsK pre).length with h1 | h1
    · rw [List.getElem?_append_left h1] at hi
      rw [List.take_append_of_le_length (by omega)]
      exact a2 i t hi
    · rw [List.getElem?_append_right h1] at hi
      obtain ⟨j, hj⟩ : ∃ j, i - (tsK pre).length = j := ⟨_, rfl⟩
      rw [hj] at hi
      cases j with
      | zero =>
        have hie : i = (tsK pre).length := by omega
        simp at hi
        subst hi hie
        rw [List.take_left, tsK_len]
        exact ⟨st, hst, by rw [hx0] at hsay; exact hsay⟩
      | succ j => simp at hi
  · rw [List.length_append, List.length_singleton]
    exact (List.getElem?_eq_some_iff.1 hst).1
  · rcases hk with hk | hk
    · exact a5w k hk
    · omega
  · refine ownsRow_frm2 (by simpa using hown) (fun k hk => Below.heap_setCell _ _ _ _ (fun e => ?_))
    have h1 : g' = k := by simpa [Value.ownBlock] using hk
    have h2 : k = b8 := e
    omega
  · have h1 : g' = k := by simpa [Value.ownBlock] using hk
    subst h1
    rcases hat with h | h
    · exact Or.inl (hrow _ h).1
    · exact Or.inr ⟨by omega, hlt⟩
  · rw [tsK_snoc] at ht
    rcases Nat.lt_or_ge i vvs.length with h1 | h1
    · rw [List.getElem?_append_left h1] at hv
      rw [List.getElem?_append_left (by rw [tsK_len]; omega)] at ht
      exact (hall i v t hv ht).turn kfB hsub
    · rw [List.getElem?_append_right h1] at hv
      rw [List.getElem?_append_right (by rw [tsK_len]; omega), tsK_len] at ht
      rw [← hlen] at ht
      obtain ⟨j, hj⟩ : ∃ j, i - vvs.length = j := ⟨_, rfl⟩
      rw [hj] at hv ht
      cases j with
      | zero =>
        simp at hv ht
        subst hv ht
        exact hS.turn kfB hsub
      | succ j => simp at hv
theorem kernel_steps (sa ga pa : Option Addr) (sn sc gn gc pn pc : Nat) (w : World) :
    Calls Tryz.prog 220 #[.slice sa sn sc, .slice ga gn gc, .slice pa pn pc] w fun e w' => e = .returned (.func (.func 243) #[] #[.pointer (some ⟨w.heap.size, 0, none⟩), .pointer (some ⟨w.heap.size + 1, 0, none⟩), .pointer (some ⟨w.heap.size + 2, 0, none⟩)]) ∧ ((w.alloc (.cells #[.slice sa sn sc] 23)).alloc (.cells #[.slice ga gn gc] 56)).alloc (.cells #[.slice pa pn pc] 33) = w' := by
  go_enter Tryz.func220, Tryz.ntmps220
  go_wp2
  go_ret
  exact ⟨rfl, rfl⟩
theorem box6 (w : World) (x1 x2 x3 x4 x5 x6 : Value) (t1 t2 t3 t4 t5 t6 : TypeId) {W : World} (hW : ((((((w.alloc (.cells #[x1] t1)).alloc (.cells #[x2] t2)).alloc (.cells #[x3] t3)).alloc (.cells #[x4] t4)).alloc (.cells #[x5] t5)).alloc (.cells #[x6] t6)) = W) :
    (W.cell? ⟨w.heap.size, 0, none⟩ = some x1 ∧ W.frozen? ⟨w.heap.size, 0, none⟩ = false) ∧ (W.cell? ⟨w.heap.size + 1, 0, none⟩ = some x2 ∧ W.frozen? ⟨w.heap.size + 1, 0, none⟩ = false) ∧ (W.cell? ⟨w.heap.size + 2, 0, none⟩ = some x3 ∧ W.frozen? ⟨w.heap.size + 2, 0, none⟩ = false) ∧
    W.cell? ⟨w.heap.size + 3, 0, none⟩ = some x4 ∧ W.cell? ⟨w.heap.size + 4, 0, none⟩ = some x5 ∧ W.cell? ⟨w.heap.size + 5, 0, none⟩ = some x6 ∧ W.heap.size = w.heap.size + 6 ∧ Below w.heap.size w W := by
  obtain ⟨w1, h1⟩ : ∃ w1, w.alloc (.cells #[x1] t1) = w1 := ⟨_, rfl⟩
  obtain ⟨w2, h2⟩ : ∃ w2, w1.alloc (.cells #[x2] t2) = w2 := ⟨_, rfl⟩
  obtain ⟨w3, h3⟩ : ∃ w3, w2.alloc (.cells #[x3] t3) = w3 := ⟨_, rfl⟩
  obtain ⟨w4, h4⟩ : ∃ w4, w3.alloc (.cells #[x4] t4) = w4 := ⟨_, rfl⟩
  obtain ⟨w5, h5⟩ : ∃ w5, w4.alloc (.cells #[x5] t5) = w5 := ⟨_, rfl⟩
  rw [h1, h2, h3, h4, h5] at hW
  have s1 : w1.heap.size = w.heap.size + 1 := by rw [← h1]; simp
  have s2 : w2.heap.size = w.heap.size + 2 := by rw [← h2]; simp [s1]
  have s3 : w3.heap.size = w.heap.size + 3 := by rw [← h3]; simp [s2]
  have s4 : w4.heap.size = w.heap.size + 4 := by rw [← h4]; simp [s3]
  have s5 : w5.heap.size = w.heap.size + 5 := by rw [← h5]; simp [s4]
  have s6 : W.heap.size = w.heap.size + 6 := by rw [← hW]; simp [s5]
  have c1 : w1.cell? ⟨w.heap.size, 0, none⟩ = some x1 := by rw [← h1]; exact cell_new1 _ _ _
  have f1 : w1.frozen? ⟨w.heap.size, 0, none⟩ = false := by rw [← h1]; exact (Boxed.new w t1 x1).frozen
  have c2 : w2.cell? ⟨w.heap.size + 1, 0, none⟩ = some x2 := by rw [← h2, ← s1]; exact cell_new1 _ _ _
  have f2 : w2.frozen? ⟨w.heap.size + 1, 0, none⟩ = false := by rw [← h2, ← s1]; exact (Boxed.new w1 t2 x2).frozen
  have c3 : w3.cell? ⟨w.heap.size + 2, 0, none⟩ = some x3 := by rw [← h3, ← s2]; exact cell_new1 _ _ _
  have f3 : w3.frozen? ⟨w.heap.size + 2, 0, none⟩ = false := by rw [← h3, ← s2]; exact (Boxed.new w2 t3 x3).frozen
  have c4 : w4.cell? ⟨w.heap.size + 3, 0, none⟩ = some x4 := by rw [← h4, ← s3]; exact cell_new1 _ _ _
  have c5 : w5.cell? ⟨w.heap.size + 4, 0, none⟩ = some x5 := by rw [← h5, ← s4]; exact cell_new1 _ _ _
  have c6 : W.cell? ⟨w.heap.size + 5, 0, none⟩ = some x6 := by rw [← hW, ← s5]; exact cell_new1 _ _ _
  have b1 : Below w.heap.size w w1 := by rw [← h1]; exact (Below.refl _ _).alloc (Nat.le_refl _) _
  have b2 : Below w1.heap.size w1 w2 := by rw [← h2]; exact (Below.refl _ _).alloc (Nat.le_refl _) _
  have b3 : Below w2.heap.size w2 w3 := by rw [← h3]; exact (Below.refl _ _).alloc (Nat.le_refl _) _
  have b4 : Below w3.heap.size w3 w4 := by rw [← h4]; exact (Below.refl _ _).alloc (Nat.le_refl _) _
  have b5 : Below w4.heap.size w4 w5 := by rw [← h5]; exact (Below.refl _ _).alloc (Nat.le_refl _) _
  have b6 : Below w5.heap.size w5 W := by rw [← hW]; exact (Below.refl _ _).alloc (Nat.le_refl _) _
  have b46 := b5.trans (b6.mono b5.size)
  have b36 := b4.trans (b46.mono b4.size)
  have b26 := b3.trans (b36.mono b3.size)
  have b16 := b2.trans (b26.mono b2.size)
  exact ⟨⟨(b16.cell (World.block_lt_of_cell? _ _ c1)).trans c1, (b16.frozen (World.block_lt_of_cell? _ _ c1)).trans f1⟩, ⟨(b26.cell (World.block_lt_of_cell? _ _ c2)).trans c2, (b26.frozen (World.block_lt_of_cell? _ _ c2)).trans f2⟩, ⟨(b36.cell (World.block_lt_of_cell? _ _ c3)).trans c3, (b36.frozen (World.block_lt_of_cell? _ _ c3)).trans f3⟩,
    (b46.cell (World.block_lt_of_cell? _ _ c4)).trans c4, (b6.cell (World.block_lt_of_cell? _ _ c5)).trans c5, c6, s6, b1.trans (b16.mono b1.size)⟩
set_option maxHeartbeats 4000000 in
set_option maxRecDepth 100000 in
theorem kernel_run (vs vg vp : Value) (s : Sg) (g : List (List Int)) (p : List St) (w : World) (hask : askedB s g p = true) (hs : SignAt w vs s) (hg : Terms w vg g) (hp : StepsAt w vp p) (hs1 : s.length ≤ 1000) :
    Calls Tryz.prog 173 #[vs, vg, vp] w fun e w' => ∃ u l er, e = .returned (.tuple #[u, .int .i64 er]) ∧ RunR s g p l er ∧ Terms w' u l ∧ Below w.heap.size w w' := by
  obtain ⟨sa, sc, rfl, -⟩ := hs.open
  obtain ⟨ga, gc, rfl, -⟩ := hg.open
  obtain ⟨pa, pc, rfl, -⟩ := hp.open
  refine calls_marks Tryz.func173 rfl ?_
  simp only [Tryz.ntmps173, List.size_toArray, List.length_cons, List.length_nil, Nat.reduceAdd, Nat.reduceSub, Array.replicate_succ, Array.replicate_zero, List.push_toArray, List.append_toArray, List.nil_append, List.cons_append]
  go_wp2_with (go_at_call 220; refine (kernel_steps _ _ _ _ _ _ _ _ _ _).mono ?_; rintro e w4 ⟨rfl, rfl⟩)
  simp only [Nat.add_assoc, Nat.reduceAdd]
  obtain ⟨W0, hW0⟩ : ∃ W0, ((((((w.alloc (.cells #[.slice none 0 0] 56)).alloc (.cells #[.int .i64 0] 29)).alloc (.cells #[.slice none 0 0] 56)).alloc (.cells #[.slice sa s.length sc] 23)).alloc (.cells #[.slice ga g.length gc] 56)).alloc (.cells #[.slice pa p.length pc] 33)) = W0 := ⟨_, rfl⟩
  rw [hW0]
  obtain ⟨⟨k1, f1⟩, ⟨k2, f2⟩, ⟨k3, f3⟩, k4, k5, k6, hsz, hbw⟩ := box6 _ _ _ _ _ _ _ _ _ _ _ _ _ hW0
  clear hW0
  have HBW := hid hbw
  have HST : Hid (RuI w s g p W0.heap.size w.heap.size (w.heap.size + 1) (w.heap.size + 2) [] (fun k => k = w.heap.size ∨ k = w.heap.size + 1 ∨ k = w.heap.size + 2) (fun _ => False) W0) :=
    hid ⟨by simp, by simp [tsK], by simp, hbw, ⟨by simp, by simp, by simp⟩, fun k hk => by omega, ⟨_, k1, f1⟩, ⟨_, k2, f2⟩, _, [], k3, f3, World.ownsRow_nil _ _ _ _, (fun k h => by cases h), rfl, (fun i v p h => by simp at h)⟩
  have HSQ := hid (steps_seq (w.heap.size + 3) (w.heap.size + 4) (w.heap.size + 5) (.slice sa s.length sc) (.slice ga g.length gc) (.slice pa p.length pc) s g p w W0 hask hs1 hbw hs hg hp k4 k5 k6)
  clear hbw k1 k2 k3 k4 k5 k6 f1 f2 f3 hs hg hp
  refine wpIn_wide.1 (wpIn_rangeO (gf := 243) (lb := #[.pointer (some ⟨w.heap.size + 3, 0, none⟩), .pointer (some ⟨w.heap.size + 4, 0, none⟩), .pointer (some ⟨w.heap.size + 5, 0, none⟩)]) rfl (enters_of Tryz.func243 rfl rfl) (encs := keX) (E := keE s g p) (S := keS p)
    (N := fun k => k < w.heap.size ∨ k = w.heap.size + 3 ∨ k = w.heap.size + 4 ∨ k = w.heap.size + 5) (w0 := W0) HSQ.out (Below.refl _ _) (fun _ => rfl) ?_ ?_ ?_
    (fun pre => RuI w s g p W0.heap.size w.heap.size (w.heap.size + 1) (w.heap.size + 2) pre) (fun c pre => RuX w s g p W0.heap.size w.heap.size (w.heap.size + 1) (w.heap.size + 2) c pre)
    (fun k => k = w.heap.size ∨ k = w.heap.size + 1 ∨ k = w.heap.size + 2) ?_ (fun pre => RuI.grw (by omega) (by omega) (by omega) (by omega) pre) (fun c pre => RuX.grw (by omega) c pre) HST.out ?_ ?_ ?_)
  case refine_1 =>
    rintro pre x M O W k o o' ⟨h1, h2, h3⟩ hk ho hc
    exact ⟨h1, h2, h3.turn (Kb.put (M := fun k => M k ∨ O k) _ (Or.inl hk)) (fun k h => Or.inl h)⟩
  case refine_2 =>
    rintro pre x M O A B ⟨h1, h2, h3⟩ hb
    exact ⟨h1, h2, h3.grow hb⟩
  case refine_3 => rintro k (h | rfl | rfl | rfl) <;> omega
  case refine_4 => rintro k (rfl | rfl | rfl) <;> exact ⟨by rintro (h | h | h | h) <;> omega, by omega⟩
  case refine_5 =>
    clear HST HSQ
    rintro l' pre ⟨xv, xt, xe⟩ M O W hsW hM hO hturn
    simp only [keX]
    obtain ⟨xa, xc, rfl, -⟩ : ∃ xa xc, xv = .slice xa xt.length xc ∧ True := by
      obtain ⟨-, ⟨-, -, h⟩, -⟩ := hturn W (W.putObj (W0.heap.size + 1) (.deferred none)) (Below.refl _ _) ⟨_, rfl⟩
      obtain ⟨xa, xc, h, -⟩ := h.here.open
      exact ⟨xa, xc, h, trivial⟩
    gi_wp2
    have hbA : Below W.heap.size W (W.alloc (.cells #[.slice xa xt.length xc, .int .i64 xe] 222)) := (Below.refl _ _).alloc (Nat.le_refl _) _
    refine ⟨hbA, fun W2 hT2 => ?_⟩
    obtain ⟨hI2, ⟨e1, ⟨st, e2, e3⟩, e4⟩, hs2⟩ := hturn _ W2 hbA hT2
    have qv : ∀ i, W2.cell? ⟨W.heap.size, i, none⟩ = ((#[.slice xa xt.length xc, .int .i64 xe] : Array Value)[i]?) := by
      intro i
      obtain ⟨o, rfl⟩ := hT2
      rw [World.cell?_of_block (World.putObj_heap_other (by show W.heap.size ≠ _; omega)), World.cell?_alloc_new]
    have q0 : W2.cell? ⟨W.heap.size, 0, none⟩ = some (.slice xa xt.length xc) := (qv 0).trans rfl
    have q1 : W2.cell? ⟨W.heap.size, 1, none⟩ = some (.int .i64 xe) := (qv 1).trans rfl
    have hs2' : W2.heap.size = W.heap.size + 1 := by rw [hs2]; simp
    have hs2a : W2.heap.size ≤ W.heap.size + 1 := by omega
    have hs2b : W.heap.size + 1 ≤ W2.heap.size := by omega
    clear qv hturn hT2 hs2 hs2'
    dsimp only at e2 e3 e4
    have h60 := proof60 (asked_parts hask).2
    have hlen := hI2.len
    obtain ⟨uo, vvs, b1, b2, b3, b4, b5, b6⟩ := hI2.out
    obtain ⟨v6, c6, f6⟩ := hI2.c6
    obtain ⟨v7, c7, f7⟩ := hI2.c7
    obtain ⟨ua, uc, rfl⟩ := ownsRow_slice2 b3
    have HI2 := hid hI2
    have HE2 := hid e2
    have HE3 := hid e3
    have HE4 := hid e4
    have HB1 := hid b1
    have HB2 := hid b2
    have HB3 := hid b3
    have HB4 := hid b4
    have HB5 := hid b5
    have HB6 := hid b6
    have HM2 := hid hM
    have HO2 := hid hO
    have HRN : Hid (∀ k, (Value.slice ua vvs.length uc).ownBlock = some k → W0.heap.size ≤ k) := hid (fun k hk => (b3.lt k hk).1)
    have hvl : vvs.length ≤ 60 := by omega
    clear hI2 e1 e2 e3 e4 b2 b3 b4 b5 b6 hM hO
    by_cases hx0 : xe = 0
    · subst hx0
      have hbx : Below W2.heap.size W2 (W2.alloc (.cells #[.slice xa xt.length xc] 28)) := (Below.refl _ _).alloc (Nat.le_refl _) _
      have HBX := hid hbx
      have HRA := hid (owns_below HB3.out hbx)
      have hsrc : RowK (W2.alloc (.cells #[.slice xa xt.length xc] 28)) (.slice (some ⟨W2.heap.size, 0, none⟩) 1 1) 1 1 [.slice xa xt.length xc] := row_one_new _ _ _
      have HSRC := hid hsrc
      have C96 := hid ((hbx.cell (World.block_lt_of_cell? _ _ b1)).trans b1)
      have F96 := hid ((hbx.frozen (p := ⟨w.heap.size + 2, 0, none⟩) (World.block_lt_of_cell? _ _ b1)).trans HB2.out)
      have HXS := hid hbx.size
      clear hbx hsrc c6 f6 c7 f7
      gi_wp2_with (gi_at_builtin; refine wpListIn_append_lie rfl _ _ 56 rfl W0.heap.size 28 el_term Tryz.underlying56 rfl (by decide) _ _ _ rfl HRA.out _ 1 [.slice xa xt.length xc] rfl HSRC.out (by simp; exact rfl) (by decide) (by omega) (by omega) (by have := HXS.out; omega) _ rfl ?_; intro g1 cp1 w7 hown7 hgrow7 hat7 hlt7; have e97 := hgrow7.block (w.heap.size + 2) (World.block_lt_of_cell? _ _ C96.out) (fun e => by have := HRN.out _ e.symm; omega); have c97 := KsI.cell C96.out e97; have f97 := (World.frozen?_of_block e97).trans F96.out)
      obtain ⟨M', h1, h2, h3⟩ := RuI.push (x := ((.slice xa xt.length xc, xt, 0) : KE)) HI2.out (by omega) (by omega) (by omega) (by omega) ⟨by omega, by omega⟩ (by omega) (by omega) rfl HE2.out HE3.out HE4.out (fun k hk => by have := (HM2.out k hk).2.2.1; omega) (fun k hk => (HO2.out k hk).2.1)
        HB1.out HB2.out (fun k hk => ⟨HB4.out k hk, HRN.out k hk⟩) HB5.out HB6.out HBX.out rfl hown7 hgrow7 hat7 hlt7
      exact ⟨M', fun k hk => ⟨(h1 k hk).1.imp id (fun h => by omega), (h1 k hk).2⟩, h2.mono (fun k _ hk => hk.imp id (fun h => by omega)), h3⟩
    · have n0 : (xe != 0) = true := by simpa using hx0
      have HKB : Hid (Kb M W2 ((W2.setCell ⟨w.heap.size, 0, none⟩ (.slice ua vvs.length uc)).setCell ⟨w.heap.size + 1, 0, none⟩ (.int .i64 xe)).drew) :=
        hid (((Kb.setCell (M := M) _ HI2.out.mm.1).trans (Kb.setCell (M := M) _ HI2.out.mm.2.1) (fun k hk => Or.inl hk)).trans (Kb.drewN (M := M) 1) (fun k hk => Or.inl hk))
      have HX : Hid (RuX w s g p W0.heap.size w.heap.size (w.heap.size + 1) (w.heap.size + 2) .ret (pre ++ [((.slice xa xt.length xc, xt, xe) : KE)]) M O ((W2.setCell ⟨w.heap.size, 0, none⟩ (.slice ua vvs.length uc)).setCell ⟨w.heap.size + 1, 0, none⟩ (.int .i64 xe)).drew) := hid (by
        have c7' : (W2.setCell ⟨w.heap.size, 0, none⟩ (.slice ua vvs.length uc)).cell? ⟨w.heap.size + 1, 0, none⟩ = some v7 := by
          rw [World.cell?_setCell_other _ _ _ _ (fun e => by injection e; omega)]; exact c7
        have d1 : ((W2.setCell ⟨w.heap.size, 0, none⟩ (.slice ua vvs.length uc)).setCell ⟨w.heap.size + 1, 0, none⟩ (.int .i64 xe)).drew.cell? ⟨w.heap.size, 0, none⟩ = some (.slice ua vvs.length uc) := by
          show ((W2.setCell ⟨w.heap.size, 0, none⟩ (.slice ua vvs.length uc)).setCell ⟨w.heap.size + 1, 0, none⟩ (.int .i64 xe)).cell? ⟨w.heap.size, 0, none⟩ = _
          rw [World.cell?_setCell_other _ _ _ _ (fun e => by injection e; omega)]
          exact World.cell?_setCell_same' _ _ _ (by rw [c6]; rfl)
        have d2 : ((W2.setCell ⟨w.heap.size, 0, none⟩ (.slice ua vvs.length uc)).setCell ⟨w.heap.size + 1, 0, none⟩ (.int .i64 xe)).drew.cell? ⟨w.heap.size + 1, 0, none⟩ = some (.int .i64 xe) := by
          show ((W2.setCell ⟨w.heap.size, 0, none⟩ (.slice ua vvs.length uc)).setCell ⟨w.heap.size + 1, 0, none⟩ (.int .i64 xe)).cell? ⟨w.heap.size + 1, 0, none⟩ = _
          exact World.cell?_setCell_same' _ _ _ (by rw [c7']; rfl)
        have hk2 : Kb (fun k => k = w.heap.size ∨ k = w.heap.size + 1) W2 ((W2.setCell ⟨w.heap.size, 0, none⟩ (.slice ua vvs.length uc)).setCell ⟨w.heap.size + 1, 0, none⟩ (.int .i64 xe)).drew :=
          (((Kb.setCell (M := fun k => k = w.heap.size ∨ k = w.heap.size + 1) _ (Or.inl rfl)).trans (Kb.setCell (M := fun k => k = w.heap.size ∨ k = w.heap.size + 1) _ (Or.inr rfl)) (fun k hk => Or.inl hk)).trans (Kb.drewN (M := fun k => k = w.heap.size ∨ k = w.heap.size + 1) 1) (fun k hk => Or.inl hk))
        have hst := (List.getElem?_eq_some_iff.1 HE2.out).1
        exact ⟨rfl, HI2.out.bel.trans (HKB.out.below HI2.out.bel.size HI2.out.mw), ⟨HI2.out.mm.1, HI2.out.mm.2.1⟩, HI2.out.mw, _, vvs, tsK pre, xe, d1, d2, ⟨HI2.out.say, Or.inr ⟨hx0, by rw [tsK_len]; exact hst, st, xt, by rw [tsK_len]; exact HE2.out, HE3.out⟩⟩,
          ownsRow_frm2 HB3.out (fun q hq => hk2.same _ (HB3.out.lt q hq).2 (fun h => by have := (HB3.out.lt q hq).1; omega)), HB4.out, by rw [tsK_len]; exact HB5.out, fun i v t hv ht => (HB6.out i v t hv ht).turn (HKB.out.mono (M' := fun k => (M k ∨ k = W0.heap.size + 1) ∨ O k) (fun k _ h => Or.inl (Or.inl h))) (fun k h => Or.inl h)⟩)
      gi_wp2
      gi_region
      all_goals
        gi_wp2
        exact ⟨M, fun k hk => ⟨Or.inl hk, by have := (HM2.out k hk).2.2.1; have := HKB.out.size; omega⟩, HKB.out.mono (fun k _ hk => Or.inl hk), HX.out⟩
  case refine_6 =>
    rintro xs M O W hxs hI hD hMD
    obtain ⟨a1, a2, a3, a4, a5, a5w, ⟨v6, a6, f6⟩, ⟨v7, a7, f7⟩, ⟨uo, vvs, b1, b2, b3, b4, b5, b6⟩⟩ := hI
    have hlen : xs.length = p.length := by
      rcases hxs with h | ⟨y, hy, h⟩
      · exact h
      · exact absurd (a1 y hy) h
    have h60 := proof60 (asked_parts hask).2
    obtain ⟨ao, co, rfl⟩ := ownsRow_slice2 b3
    obtain ⟨W', hW'⟩ : ∃ W', (W.setCell ⟨w.heap.size, 0, none⟩ (.slice ao vvs.length co)).setCell ⟨w.heap.size + 1, 0, none⟩ (.int .i64 0) = W' := ⟨_, rfl⟩
    have hkb : Kb (fun k => k = w.heap.size ∨ k = w.heap.size + 1) W W' := by
      rw [← hW']
      exact (Kb.setCell (M := fun k => k = w.heap.size ∨ k = w.heap.size + 1) _ (Or.inl rfl)).trans (Kb.setCell (M := fun k => k = w.heap.size ∨ k = w.heap.size + 1) _ (Or.inr rfl)) (fun k hk => Or.inl hk)
    have d1 : W'.cell? ⟨w.heap.size, 0, none⟩ = some (.slice ao vvs.length co) := by
      rw [← hW', World.cell?_setCell_other _ _ _ _ (fun e => by injection e; omega)]
      exact World.cell?_setCell_same' _ _ _ (by rw [a6]; rfl)
    have a7' : (W.setCell ⟨w.heap.size, 0, none⟩ (.slice ao vvs.length co)).cell? ⟨w.heap.size + 1, 0, none⟩ = some v7 := by
      rw [World.cell?_setCell_other _ _ _ _ (fun e => by injection e; omega)]; exact a7
    have f7' : (W.setCell ⟨w.heap.size, 0, none⟩ (.slice ao vvs.length co)).frozen? ⟨w.heap.size + 1, 0, none⟩ = false := (World.frozen?_setCell _ _ _ _).trans f7
    have d2 : W'.cell? ⟨w.heap.size + 1, 0, none⟩ = some (.int .i64 0) := by
      rw [← hW']; exact World.cell?_setCell_same' _ _ _ (by rw [a7']; rfl)
    have hD' : W'.heap[W0.heap.size]? = some (.deferred (some [])) := (hkb.same _ (Array.getElem?_eq_some_iff.1 hD).1 (fun h => by omega)).trans hD
    have hrw : W'.ownsRow W0.heap.size 28 1 (.slice ao vvs.length co) vvs.length vvs := ownsRow_frm2 b3 (fun q hq => hkb.same _ (b3.lt q hq).2 (fun h => by have := (b3.lt q hq).1; omega))
    have HR : Hid (Terms (W'.putObj W0.heap.size (.deferred none)) (.slice ao vvs.length co) (tsK xs)) :=
      hid ⟨vvs, putObj_rowK hD' rfl (RowK.of_owns hrw (by omega)), by rw [tsK_len]; exact b5, fun i v t hv ht => putObj_ints hD' rfl ((b6 i v t hv ht).turn (hkb.mono (M' := fun k => (M k ∨ k = W0.heap.size + 1) ∨ O k) (fun k _ h => by
        rcases h with rfl | rfl
        · exact Or.inl (Or.inl a5.1)
        · exact Or.inl (Or.inl a5.2.1))) (fun k h => Or.inl h)).here⟩
    have HB := hid (putObj_below (.deferred none) (a4.trans (hkb.below a4.size (fun k hk => by omega))) (by omega : w.heap.size ≤ W0.heap.size))
    have HBR : Hid (RunR s g p (tsK xs) 0) := hid ⟨a2, Or.inl ⟨rfl, by rw [tsK_len]; exact hlen⟩⟩
    have HDD := hid hD'
    have e1 := putObj_cell (o' := .deferred none) hD' rfl d1
    have e2 := putObj_cell (o' := .deferred none) hD' rfl d2
    clear b3 b4 b5 b6 a2 hrw hD' hkb d1 d2 hD
    go_wp2
    try rw [hW']
    refine leave_mark (v := .tuple #[.slice ao vvs.length co, .int .i64 0]) HDD.out (by simp [results, Tryz.results173, go_sem, e1, e2]) ?_
    exact ⟨_, _, _, rfl, HBR.out, HR.out, HB.out⟩
  case refine_7 =>
    rintro c pre M O W hX hD hMD
    obtain ⟨rfl, a4, a5, a5w, ⟨uo, vvs, l, e, b1, b1', br, b3, b4, b5, b6⟩⟩ := hX
    have h60 := proof60 (asked_parts hask).2
    have hll : l.length ≤ p.length := by rcases br.2 with h | h <;> omega
    obtain ⟨ao, co, rfl⟩ := ownsRow_slice2 b3
    have HR : Hid (Terms (W.putObj W0.heap.size (.deferred none)) (.slice ao vvs.length co) l) :=
      hid ⟨vvs, putObj_rowK hD rfl (RowK.of_owns b3 (by omega)), b5, fun i v t hv ht => putObj_ints hD rfl (b6 i v t hv ht).here⟩
    have HB := hid (putObj_below (.deferred none) a4 (by omega : w.heap.size ≤ W0.heap.size))
    have HBR := hid br
    have e1 := putObj_cell (o' := .deferred none) hD rfl b1
    have e2 := putObj_cell (o' := .deferred none) hD rfl b1'
    clear b3 b4 b5 b6 br
    gi_wp2
    refine leave_mark (v := .tuple #[.slice ao vvs.length co, .int .i64 e]) hD (by simp [results, Tryz.results173, go_sem, e1, e2]) ?_
    exact ⟨_, _, _, rfl, HBR.out, HR.out, HB.out⟩
def RunQ (s : Sg) (g : List (List Int)) (p : List St) (l : List (List Int)) (n e : Int) : Prop :=
  (askedB s g p = false ∧ l = [] ∧ n = 0 ∧ e = 1) ∨ (askedB s g p = true ∧ RunR s g p l e ∧ n = if e = 0 then -1 else (l.length : Int))
theorem terms_nilK (w : World) : Terms w (.slice none 0 0) [] := ⟨[], ⟨by simp, none, 0, rfl, Nat.le_refl _, by simp, fun _ => rfl, by simp⟩, rfl, fun i u t h => by simp at h⟩
set_option maxHeartbeats 2000000 in
theorem kernel_Run (vs vg vp : Value) (s : Sg) (g : List (List Int)) (p : List St) (w : World) (hs : SignAt w vs s) (hg : Terms w vg g) (hp : StepsAt w vp p) (hs1 : s.length ≤ 1000) :
    Calls Tryz.prog 132 #[vs, vg, vp] w fun e w' => ∃ u l n er, e = .returned (.tuple #[u, .int .i64 n, .int .i64 er]) ∧ RunQ s g p l n er ∧ Terms w' u l ∧ Below w.heap.size w w' := by
  have HA := hid (kernel_asked vs vg vp s g p w hs hg hp hs1)
  cases hask : askedB s g p
  · rw [hask] at HA
    have HQ : Hid (RunQ s g p [] 0 1) := hid (Or.inl ⟨hask, rfl, rfl, rfl⟩)
    clear hask
    go_enter Tryz.func132, Tryz.ntmps132
    go_wp2_with (go_at_call 172; refine HA.out.mono ?_; rintro e w1 ⟨rfl, hb1⟩)
    go_ret3
    exact ⟨_, _, _, _, rfl, HQ.out, terms_nilK _, hb1⟩
  · rw [hask] at HA
    have HK := hid hask
    have HR := hid (fun (X : World) (hX : Below w.heap.size w X) => kernel_run vs vg vp s g p X hask (hs.below hX) (hg.below hX) (hp.below hX) hs1)
    clear hask
    go_enter Tryz.func132, Tryz.ntmps132
    go_wp2_with fail
    refine HA.out.mono ?_
    rintro e w1 ⟨rfl, hb1⟩
    go_wp2_with fail
    refine (HR.out _ hb1).mono ?_
    rintro e w2 ⟨u, l, er, rfl, hr, hT, hb2⟩
    have HB2 := hid (hb1.trans (hb2.mono hb1.size))
    obtain ⟨ua, uc, rfl, hcap, -⟩ := hT.open
    have HT := hid hT
    have HRR := hid hr
    clear hb1 hb2 hT hr
    by_cases h0 : er = 0
    · subst h0
      have HQ : Hid (RunQ s g p l (-1) 0) := hid (Or.inr ⟨HK.out, HRR.out, by simp⟩)
      go_wp2
      go_ret3
      exact ⟨_, _, _, _, rfl, HQ.out, HT.out, HB2.out⟩
    · have n0 : (er != 0) = true := by simpa using h0
      have HQ : Hid (RunQ s g p l (l.length : Int) er) := hid (Or.inr ⟨HK.out, HRR.out, by rw [if_neg h0]⟩)
      go_wp2
      go_ret3
      exact ⟨_, _, _, _, rfl, HQ.out, HT.out, HB2.out⟩
end Go.Proofs.YtpflkjldapmgdaaGreat
namespace Go.Proofs.YtpflkjldapmgdaaGreat
open Go Go.RowKit Go.Maps
/-- what a proof says at its end. -/
def SayP (s : Sg) (g : List (List Int)) (p : List St) (x : List Int × Int) : Prop :=
  (askedB s g p = false ∧ x = ([], 1)) ∨ (askedB s g p = true ∧ ∃ l, RunR s g p l x.2 ∧ ((x.2 = 0 ∧ l.getLast? = some x.1) ∨ (x.2 ≠ 0 ∧ x.1 = [])))
theorem Ints.nil (w : World) : Ints w (.slice none 0 0) [] := ⟨rfl, none, 0, rfl, Nat.le_refl _, by simp, fun _ => rfl, fun j u hj => by simp at hj⟩
theorem proof1 {g : Int} {p : List St} (h : proofB g p = true) : 1 ≤ p.length := by
  unfold proofB at h
  simp only [Bool.and_eq_true] at h
  have := inB_true.1 h.2
  omega
set_option maxHeartbeats 1000000 in
theorem kernel_Says (vs vg vp : Value) (s : Sg) (g : List (List Int)) (p : List St) (w : World) (hs : SignAt w vs s) (hg : Terms w vg g) (hp : StepsAt w vp p) (hs1 : s.length ≤ 1000) :
    Calls Tryz.prog 72 #[vs, vg, vp] w fun e w' => ∃ x u, SayP s g p x ∧ e = .returned (.tuple #[u, .int .i64 x.2]) ∧ Ints w' u x.1 ∧ Below w.heap.size w w' := by
  have HR := hid (kernel_Run vs vg vp s g p w hs hg hp hs1)
  clear hs hg hp
  go_enter Tryz.func72, Tryz.ntmps72
  go_wp2_with fail
  refine HR.out.mono ?_
  rintro e w1 ⟨u, l, n, er, rfl, hq, hT, hb⟩
  rcases hq with ⟨ha, rfl, rfl, rfl⟩ | ⟨ha, hr, -⟩
  · have HX : Hid (SayP s g p ([], 1)) := hid (Or.inl ⟨ha, rfl⟩)
    clear ha hT
    go_wp2
    go_ret2
    exact ⟨([], 1), _, HX.out, rfl, Ints.nil _, hb⟩
  · by_cases h0 : er = 0
    · subst h0
      have hlen : 1 ≤ l.length := by
        have h1 := proof1 (asked_parts ha).2
        rcases hr.2 with ⟨-, h⟩ | ⟨h, -⟩
        · omega
        · exact absurd rfl h
      obtain ⟨a, cap, rfl, hc, hl, -, HC⟩ := hT.open
      obtain ⟨b, o, u, rfl, c, hi⟩ := HC (l.length - 1) (by omega)
      have HX : Hid (SayP s g p (l[l.length - 1], 0)) := hid (Or.inr ⟨ha, l, hr, Or.inl ⟨rfl, by rw [List.getLast?_eq_getElem?, List.getElem?_eq_getElem (by omega)]⟩⟩)
      have HI := hid hi
      obtain ⟨x, hx⟩ : ∃ x, l[l.length - 1] = x := ⟨_, rfl⟩
      rw [hx] at HX HI
      obtain ⟨q, hq⟩ : ∃ q : Nat, l.length = q + 1 := ⟨l.length - 1, by omega⟩
      rw [hq] at hc hl c ⊢
      simp only [Nat.add_sub_cancel] at c
      have hw : IntKind.i64.wrap (((q + 1 : Nat) : Int) - 1) = q := by rw [IntWalk.i64_in _ (by omega)]; omega
      clear hi hx HC hT ha hr hq hlen
      go_wp2
      go_ret2
      exact ⟨(x, 0), _, HX.out, rfl, HI.out, hb⟩
    · have n0 : (er != 0) = true := by simpa using h0
      have HX : Hid (SayP s g p ([], er)) := hid (Or.inr ⟨ha, l, hr, Or.inr ⟨h0, rfl⟩⟩)
      clear ha hr hT h0
      go_wp2
      go_ret2
      exact ⟨([], er), _, HX.out, rfl, Ints.nil _, hb⟩
/-- what an entry says, by its name. -/
def saysN (l : List En) (n : Nm) : Option (List Int) := (idxN l n).bind fun i => (l[i]?).map En.says
def givL (l : List En) : List Nm → Option (List (List Int))
  | [] => some []
  | n :: ns => match saysN l n, givL l ns with
    | some t, some ts => some (t :: ts)
    | _, _ => none
theorem givL_snoc (l : List En) (ns : List Nm) (n : Nm) : givL l (ns ++ [n]) = match givL l ns, saysN l n with
    | some ts, some t => some (ts ++ [t])
    | _, _ => none := by
  induction ns with
  | nil =>
    rw [List.nil_append]
    unfold givL
    unfold givL
    cases saysN l n <;> rfl
  | cons m ns ih =>
    rw [List.cons_append]
    unfold givL
    rw [ih]
    cases saysN l m with
    | none => cases givL l ns <;> cases saysN l n <;> rfl
    | some t => cases givL l ns <;> cases saysN l n <;> rfl
theorem givL_no {l : List En} {n : Nm} : ∀ {ns : List Nm}, n ∈ ns → saysN l n = none → givL l ns = none
  | [], h, _ => by simp at h
  | m :: ns, h, e => by
    unfold givL
    rcases List.mem_cons.1 h with rfl | h
    · rw [e]
    · rw [givL_no h e]
      cases saysN l m <;> rfl
theorem givL_len {l : List En} : ∀ {ns : List Nm} {ts : List (List Int)}, givL l ns = some ts → ts.length = ns.length
  | [], ts, h => by cases h; rfl
  | m :: ns, ts, h => by
    unfold givL at h
    cases h1 : saysN l m with
    | none => rw [h1] at h; cases h
    | some t =>
      cases h2 : givL l ns with
      | none => rw [h1, h2] at h; cases h
      | some us =>
        rw [h1, h2] at h
        cases h
        simp [givL_len h2]
theorem saysN_some {l : List En} {n : Nm} {i : Nat} (h : idxN l n = some i) : ∃ hi : i < l.length, saysN l n = some l[i].says := by
  obtain ⟨hi, -⟩ := idxN_some h
  exact ⟨hi, by unfold saysN; rw [h]; simp [List.getElem?_eq_getElem hi]⟩
theorem saysN_none {l : List En} {n : Nm} (h : idxN l n = none) : saysN l n = none := by unfold saysN; rw [h]; rfl
theorem idxN_none_of {l : List En} {n : Nm} (h : saysN l n = none) : idxN l n = none := by
  cases e : idxN l n with
  | none => rfl
  | some i => obtain ⟨_, h2⟩ := saysN_some e; rw [h2] at h; cases h
theorem lib_axiom (p : Nat) (vs vl : Value) (l : List En) (i : Nat) (w : World) (hL : LibAt w p vs vl l) (hl : EntsAt w vl l) (hi : i < l.length) (hl1 : l.length ≤ 1000) :
    Calls Tryz.prog 138 #[.pointer (some ⟨p, 0, none⟩), .int .i64 i] w fun e w' => e = .returned (.bool (decide (l[i].proof.length = 0))) ∧ w = w' := by
  obtain ⟨a, cap, rfl, -, -, -, HC⟩ := hl.open
  obtain ⟨b, o, vS, vu, vp, rfl, -, -, -, -, c4, he⟩ := HC i hi
  obtain ⟨pa, pc, rfl, -⟩ := he.p.open
  obtain ⟨-, d1, -⟩ := hL
  obtain ⟨n, hn⟩ : ∃ n, l[i].proof.length = n := ⟨_, rfl⟩
  rw [hn] at c4 ⊢
  clear HC he hl hn
  by_cases h0 : n = 0
  · have q0 : ((n : Int) == 0) = true := by simp [h0]
    go_enter Tryz.func138, Tryz.ntmps138
    go_wp2
    go_ret
    exact ⟨ret_bool (by simp [h0]), rfl⟩
  · have q0 : ((n : Int) == 0) = false := by rw [beq_eq_false_iff_ne]; omega
    go_enter Tryz.func138, Tryz.ntmps138
    go_wp2
    go_ret
    exact ⟨ret_bool (by simp [h0]), rfl⟩
set_option maxHeartbeats 2000000 in
theorem lib_givens (p : Nat) (vs vl : Value) (l : List En) (i : Nat) (w : World) (hL : LibAt w p vs vl l) (hl : EntsAt w vl l) (hi : i < l.length) (hl1 : l.length ≤ 1000) (hu : l[i].uses.length ≤ 1000) :
    Calls Tryz.prog 139 #[.pointer (some ⟨p, 0, none⟩), .int .i64 i] w fun e w' => Below w.heap.size w w' ∧ ((givL l l[i].uses = none ∧ e = .returned (.tuple #[.slice none 0 0, .bool false])) ∨
      ∃ ts u, givL l l[i].uses = some ts ∧ e = .returned (.tuple #[u, .bool true]) ∧ Terms w' u ts) := by
  have HL := hid hL
  obtain ⟨a, cap, rfl, -, -, -, HC⟩ := hl.open
  have HC' := hid HC
  obtain ⟨b, o, vS, vu, vp, rfl, -, -, -, c3, -, he⟩ := HC i hi
  have HU := hid he.u.2
  obtain ⟨ua, uc, rfl, -, -, -, UC⟩ := he.u.open
  have UC' := hid UC
  obtain ⟨d0, d1, mb, d2, dm⟩ := hL
  obtain ⟨us, hus⟩ : ∃ us, l[i].uses = us := ⟨_, rfl⟩
  rw [hus] at c3 UC' HU hu ⊢
  clear HC he hl UC hus
  have hown0 := World.ownsRow_nil w w.heap.size 28 1
  go_enter Tryz.func139, Tryz.ntmps139
  go_wp2
  go_loopw [6, 20] (fun u kv wr => ∃ (k : Nat) (vvs : List Value) (ts : List (List Int)), k ≤ us.length ∧ kv = .int .i64 k ∧ wr.ownsRow w.heap.size 28 1 u k vvs ∧ givL l (us.take k) = some ts ∧ (∀ (i : Nat) (v : Value) (z : List Int), vvs[i]? = some v → ts[i]? = some z → Ints w v z) ∧ Below w.heap.size w wr) (fun _ kv _ => us.length - (intOf kv).toNat)
  case atStart => exact ⟨0, [], [], by omega, rfl, hown0, by simp [givL], by simp, Below.refl _ _⟩
  case round =>
    clear hown0 c3 d0 d1 d2 dm
    obtain ⟨k, vvs, ts, hk, rfl, hown, hgiv, hrd, hb⟩ := hrel
    have hsz := hb.size
    have hvl : vvs.length = k := by have := hown.1; simpa using this
    have htl : ts.length = k := by have := givL_len hgiv; rw [List.length_take] at this; omega
    by_cases hlt : k < us.length
    · obtain ⟨xb, xo, rfl, x0⟩ := UC'.out k hlt
      have x1 := (hb.cell (World.block_lt_of_cell? _ _ x0)).trans x0
      have hxs := HU.out us[k] (List.getElem_mem hlt)
      have hsn := givL_snoc l (us.take k) us[k]
      rw [← List.take_succ_eq_append_getElem hlt, hgiv] at hsn
      have hno := fun h => givL_no (l := l) (List.getElem_mem hlt) h
      obtain ⟨x, hx⟩ : ∃ x, us[k] = x := ⟨_, rfl⟩
      rw [hx] at x1 hxs hsn hno
      obtain ⟨-, d1, mb, d2, dm⟩ := HL.out.below hb
      have HOWN := hid hown
      have HRD := hid hrd
      have HB := hid hb
      have HVL := hid hvl
      have HTL := hid htl
      cases hix : idxN l x with
      | none =>
        have HF := hid (hno (saysN_none hix))
        have HIX := hid hix
        clear x0 hx hsn hno hix hown hrd hb hvl htl hgiv
        go_wp2_with (at_lookup; refine wpList_lookup_mapK rfl _ _ 140 true rfl (string_keyed Tryz.underlying9) ek_string_inj Tryz.underlying140 (zero_intD _) rfl dm x rfl (str_key hxs) (.tuple #[.int .i64 0, .bool false]) (by rw [HIX.out]; rfl) ?_)
        go_ret2
        exact ⟨HB.out, Or.inl ⟨HF.out, rfl⟩⟩
      | some j =>
        obtain ⟨hj, hsay⟩ := saysN_some hix
        rw [hsay] at hsn
        obtain ⟨eb, eo, eS, eu, ep, ee, -, -, y2, -, -, ye⟩ := HC'.out j hj
        cases ee
        have y2' := (HB.out.cell (World.block_lt_of_cell? _ _ y2)).trans y2
        obtain ⟨sa, sc, rfl, -⟩ := ye.s.open
        have hjl : j < l.length := hj
        have HIX := hid hix
        have HSN : Hid (givL l (us.take (k + 1)) = some (ts ++ [l[j].says])) := hid hsn
        have HYS := hid ye.s
        obtain ⟨t, ht⟩ : ∃ t, l[j].says = t := ⟨_, rfl⟩
        rw [ht] at y2' HSN HYS
        clear x0 hx hsn hno hix hown hrd hb hvl htl hgiv hsay y2 ye ht
        go_wp2_with (first
          | (at_lookup; refine wpList_lookup_mapK rfl _ _ 140 true rfl (string_keyed Tryz.underlying9) ek_string_inj Tryz.underlying140 (zero_intD _) rfl dm x rfl (str_key hxs) (.tuple #[.int .i64 j, .bool true]) (by rw [HIX.out]; rfl) ?_)
          | (at_builtin; refine wpList_append_row rfl _ _ 56 rfl w.heap.size 28 el_term Tryz.underlying56 rfl (by decide) _ _ _ rfl (HOWN.out.alloc _) _ 1 [.slice sa t.length sc] rfl (row_one_new _ _ _) (oneCell_one rfl) (by omega) (by omega) (by simp; omega) ?_; intro v' w4 hown4 hgrow4 _))
        go_roundw
        case rel =>
          refine ⟨k + 1, _, _, by omega, by go_num, hown4, HSN.out, fun q v z hv hz => ?_, (HB.out.alloc hsz _).grown hgrow4 (by have := HB.out.size; simp; omega) (fun q hq => (HOWN.out.lt q hq).1)⟩
          have e1 := HVL.out
          have e2 := HTL.out
          by_cases hq : q < k
          · rw [List.getElem?_append_left (by omega)] at hv hz
            exact HRD.out q v z hv hz
          · rw [List.getElem?_append_right (by omega)] at hv hz
            have e0 : q - k = 0 := by have := (List.getElem?_eq_some_iff.1 hv).1; simp at this; omega
            rw [e1, e0] at hv
            rw [e2, e0] at hz
            simp at hv hz
            subst hv; subst hz
            exact HYS.out
        case measure => simp [intOf]; omega
    · have hkl : k = us.length := by omega
      subst hkl
      rw [List.take_of_length_le (Nat.le_refl _)] at hgiv
      have HG := hid hgiv
      have HT : Hid (Terms wr u6 ts) := hid ⟨vvs, by unfold Vals; rw [hvl]; exact RowK.of_owns hown (by omega), by omega, fun q v z h1 h2 => (hrd q v z h1 h2).below hb⟩
      clear hgiv hown hrd
      go_wp2
      go_ret2
      exact ⟨hb, Or.inr ⟨ts, _, HG.out, rfl, HT.out⟩⟩
/-- what an entry's proof says; false if it is no proof of anything. -/
def StrP (s : Sg) (l : List En) (e : En) (x : List Int × Bool) : Prop :=
  (e.proof.length = 0 ∧ x = (e.says, true)) ∨ (e.proof.length ≠ 0 ∧ ((givL l e.uses = none ∧ x = ([], false)) ∨ ∃ g y, givL l e.uses = some g ∧ SayP s g e.proof y ∧ x = (y.1, decide (y.2 = 0))))
def StrQ (s : Sg) (l : List En) (x : En) (w : World) (e : Ending) (w' : World) : Prop := ∃ y u, StrP s l x y ∧ e = .returned (.tuple #[u, .bool y.2]) ∧ Ints w' u y.1 ∧ Below w.heap.size w w'
theorem StrQ.mk {s : Sg} {l : List En} {x : En} {w : World} {e : Ending} {w' : World} (y : List Int × Bool) (u : Value) (h1 : StrP s l x y) (h2 : e = .returned (.tuple #[u, .bool y.2])) (h3 : Ints w' u y.1) (h4 : Below w.heap.size w w') : StrQ s l x w e w' := ⟨y, u, h1, h2, h3, h4⟩
set_option maxHeartbeats 2000000 in
set_option maxRecDepth 100000 in
theorem lib_strongest (p : Nat) (vs vl : Value) (s : Sg) (l : List En) (i : Nat) (w : World) (hL : LibAt w p vs vl l) (hs : SignAt w vs s) (hl : EntsAt w vl l) (hi : i < l.length) (hs1 : s.length ≤ 1000) (hl1 : l.length ≤ 1000) (hu : l[i].uses.length ≤ 1000) (ht0 : 0 < l[i].says.length) (ht1 : l[i].says.length ≤ 1000) :
    Calls Tryz.prog 81 #[.pointer (some ⟨p, 0, none⟩), .int .i64 i] w fun e w' => StrQ s l l[i] w e w' := by
  have HA := hid (lib_axiom p vs vl l i w hL hl hi hl1)
  have HG := hid (lib_givens p vs vl l i w hL hl hi hl1 hu)
  have HLB := hid hL
  have HSG := hid hs
  obtain ⟨sa, sc, rfl, -⟩ := hs.open
  obtain ⟨a, cap, rfl, -, -, -, HC⟩ := hl.open
  obtain ⟨b, o, vS, vu, vp, rfl, -, -, c2, -, c4, he⟩ := HC i hi
  obtain ⟨d0, d1, -⟩ := hL
  obtain ⟨ta, tc, rfl, -⟩ := he.s.open
  obtain ⟨pa, pc, rfl, -⟩ := he.p.open
  have HIS := hid he.s
  have HIP := hid he.p
  clear HC he hl hs
  cases h0 : decide (l[i].proof.length = 0)
  · rw [h0] at HA
    have h0' := of_decide_eq_false h0
    have HNO : Hid (givL l l[i].uses = none → StrP s l l[i] ([], false)) := hid fun h => Or.inr ⟨h0', Or.inl ⟨h, rfl⟩⟩
    have HYES : Hid (∀ g y, givL l l[i].uses = some g → SayP s g l[i].proof y → StrP s l l[i] (y.1, decide (y.2 = 0))) := hid fun g y h1 h2 => Or.inr ⟨h0', Or.inr ⟨g, y, h1, h2, rfl⟩⟩
    clear h0 h0'
    generalize hP : l[i].proof = P at c4 HIP HYES
    generalize hT : l[i].says = T at c2 HIS ht0 ht1
    clear hP hT
    go_enter Tryz.func81, Tryz.ntmps81
    go_wp2_with fail
    refine HA.out.mono ?_
    rintro e w' ⟨rfl, rfl⟩
    go_wp2_with fail
    refine HG.out.mono ?_
    rintro e w1 ⟨hb1, ⟨hg, rfl⟩ | ⟨ts, u, hg, rfl, hT⟩⟩
    · have HX := hid (HNO.out hg)
      clear hg c2 c4 d0 d1
      go_wp2
      go_ret2
      exact StrQ.mk ([], false) _ HX.out rfl (Ints.nil _) hb1
    · obtain ⟨ga, gc, rfl, -⟩ := hT.open
      have e4 := (hb1.cell (World.block_lt_of_cell? _ _ c4)).trans c4
      have f0 := (hb1.cell (World.block_lt_of_cell? _ _ d0)).trans d0
      have f1 := (hb1.cell (World.block_lt_of_cell? _ _ d1)).trans d1
      have HSY := hid (fun (X : World) (hX : Below w1.heap.size w1 X) => kernel_Says (.slice sa s.length sc) (.slice ga ts.length gc) (.slice pa P.length pc) s ts P X ((HSG.out.below hb1).below hX) (hT.below hX) ((HIP.out.below hb1).below hX) hs1)
      have HB1 := hid hb1
      have HYG := hid (fun y h => HYES.out ts y hg h)
      have hsz1 := hb1.size
      clear c2 c4 d0 d1 hg hT hb1
      go_wp2
      go_region_held3 (fun w' => w'.cell? ⟨p, 0, none⟩ = some (.slice sa s.length sc) ∧ w'.cell? ⟨p, 1, none⟩ = some (.slice (some ⟨b, o, none⟩) l.length cap) ∧ w'.cell? ⟨b, o + i * 5 + 4, none⟩ = some (.slice pa P.length pc)) (first | exact ⟨by assumption, by assumption, by assumption⟩ | go_keep) (first
        | (go_at_call 72; refine (HSY.out _ (below_self_drewN w1 _)).mono ?_; rintro e w4 ⟨y, u, hy, rfl, hIu, hb4'⟩; have hb4 : Below w1.heap.size w1 w4 := (below_self_drewN w1 _).trans hb4'; have k0 := (hb4.cell (World.block_lt_of_cell? _ _ f0)).trans f0; have k1 := (hb4.cell (World.block_lt_of_cell? _ _ f1)).trans f1; have k4 := (hb4.cell (World.block_lt_of_cell? _ _ e4)).trans e4))
      obtain ⟨y1, y2⟩ := y
      have HX := hid (HYG.out (y1, y2) hy)
      have HIU := hid hIu
      have HB4 := hid (HB1.out.trans (hb4.mono hsz1))
      clear hy hIu hb4 hb4' HSY HYG k0 k1 k4 f0 f1 e4
      by_cases hz : y2 = 0
      · have HX2 : Hid (StrP s l l[i] (y1, true)) := hid (by have := HX.out; simpa [hz] using this)
        subst hz
        go_wp2
        go_ret2
        exact StrQ.mk (y1, true) _ HX2.out rfl (by first | exact HIU.out | exact HIU.out.drewN _) (by first | exact HB4.out | exact below_drewN HB4.out _)
      · have HX2 : Hid (StrP s l l[i] (y1, false)) := hid (by have := HX.out; simpa [hz] using this)
        have hz' : (y2 == 0) = false := by simpa using hz
        go_wp2
        go_ret2
        exact StrQ.mk (y1, false) _ HX2.out rfl (by first | exact HIU.out | exact HIU.out.drewN _) (by first | exact HB4.out | exact below_drewN HB4.out _)
  · rw [h0] at HA
    have h0' := of_decide_eq_true h0
    have HX : Hid (StrP s l l[i] (l[i].says, true)) := hid (Or.inl ⟨h0', rfl⟩)
    have HCL := hid (sl_CloneT _ _ _ HIS.out ht0 ht1)
    clear h0 h0'
    generalize hT : l[i].says = T at c2 HIS HX HCL ht1
    clear hT
    go_enter Tryz.func81, Tryz.ntmps81
    go_wp2_with fail
    refine HA.out.mono ?_
    rintro e w' ⟨rfl, rfl⟩
    go_wp2_with fail
    refine HCL.out.mono ?_
    rintro e w1 ⟨u, rfl, hown, hb1⟩
    have HI := hid (Ints.of_owns hown (by omega))
    clear hown
    go_wp2
    go_ret2
    exact StrQ.mk (T, true) _ HX.out rfl HI.out hb1
def HldP (s : Sg) (l : List En) (e : En) (z : Bool) : Prop := ∃ x, StrP s l e x ∧ z = (x.2 && instB s x.1 e.says)
set_option maxHeartbeats 2000000 in
set_option maxRecDepth 100000 in
theorem lib_holds (p : Nat) (vs vl : Value) (s : Sg) (l : List En) (i : Nat) (w : World) (hL : LibAt w p vs vl l) (hs : SignAt w vs s) (hl : EntsAt w vl l) (hi : i < l.length) (hs1 : s.length ≤ 1000) (hl1 : l.length ≤ 1000) (hu : l[i].uses.length ≤ 1000) (ht0 : 0 < l[i].says.length) (ht1 : l[i].says.length ≤ 1000) :
    Calls Tryz.prog 64 #[.pointer (some ⟨p, 0, none⟩), .int .i64 i] w fun e w' => ∃ z, HldP s l l[i] z ∧ e = .returned (.bool z) ∧ Below w.heap.size w w' := by
  have HST := hid (lib_strongest p vs vl s l i w hL hs hl hi hs1 hl1 hu ht0 ht1)
  have HSG := hid hs
  obtain ⟨sa, sc, rfl, -⟩ := hs.open
  obtain ⟨a, cap, rfl, -, -, -, HC⟩ := hl.open
  obtain ⟨b, o, vS, vu, vp, rfl, -, -, c2, -, -, he⟩ := HC i hi
  obtain ⟨d0, d1, -⟩ := hL
  obtain ⟨ta, tc, rfl, -⟩ := he.s.open
  have HIS := hid he.s
  have HH : Hid (∀ x, StrP s l l[i] x → HldP s l l[i] (x.2 && instB s x.1 l[i].says)) := hid fun x h => ⟨x, h, rfl⟩
  generalize hT : l[i].says = T at c2 HIS HH
  clear HC he hl hs hT ht0 ht1 hu
  go_enter Tryz.func64, Tryz.ntmps64
  go_wp2_with fail
  refine HST.out.mono ?_
  rintro e w1 ⟨⟨x1, z⟩, u, hx, rfl, hIu, hb1⟩
  have HX := hid (HH.out _ hx)
  have hsz1 := hb1.size
  have HB1 := hid hb1
  cases z
  · have HX2 : Hid (HldP s l l[i] false) := hid (by have := HX.out; simpa using this)
    clear hx hIu hb1 HX HST
    go_wp2
    go_quiet (fail)
    go_wp2
    go_ret
    exact ⟨_, HX2.out, rfl, by first | exact HB1.out | exact below_drewN HB1.out _⟩
  · have HX2 : Hid (HldP s l l[i] (instB s x1 T)) := hid (by have := HX.out; simpa using this)
    obtain ⟨xa, xc, rfl, -⟩ := hIu.open
    have e2 := (hb1.cell (World.block_lt_of_cell? _ _ c2)).trans c2
    have f0 := (hb1.cell (World.block_lt_of_cell? _ _ d0)).trans d0
    have f1 := (hb1.cell (World.block_lt_of_cell? _ _ d1)).trans d1
    have HSY := hid (fun (X : World) (hX : Below w1.heap.size w1 X) => unify_Instance (.slice sa s.length sc) (.slice xa x1.length xc) (.slice ta T.length tc) s x1 T X ((HSG.out.below hb1).below hX) (hIu.below hX) ((HIS.out.below hb1).below hX) hs1)
    clear hx hIu hb1 HX HST c2 d0 d1
    go_wp2
    go_region_held3 (fun w' => w'.cell? ⟨p, 0, none⟩ = some (.slice sa s.length sc) ∧ w'.cell? ⟨p, 1, none⟩ = some (.slice (some ⟨b, o, none⟩) l.length cap) ∧ w'.cell? ⟨b, o + i * 5 + 2, none⟩ = some (.slice ta T.length tc)) (first | exact ⟨by assumption, by assumption, by assumption⟩ | go_keep) (first
      | (go_at_call 127; refine (HSY.out _ (below_self_drewN w1 _)).mono ?_; rintro e w4 ⟨rfl, hb4'⟩; have hb4 : Below w1.heap.size w1 w4 := (below_self_drewN w1 _).trans hb4'; have k0 := (hb4.cell (World.block_lt_of_cell? _ _ f0)).trans f0; have k1 := (hb4.cell (World.block_lt_of_cell? _ _ f1)).trans f1; have k4 := (hb4.cell (World.block_lt_of_cell? _ _ e2)).trans e2))
    have HB4 := hid (HB1.out.trans (hb4.mono hsz1))
    clear k0 k1 k4 f0 f1 e2 hb4 hb4'
    go_wp2
    go_ret
    exact ⟨_, HX2.out, rfl, by first | exact HB4.out | exact below_drewN HB4.out _⟩
/-- what Holds answers. -/
def HoldR (s : Sg) (l : List En) (n : Nm) (z : Bool) (e : Int) : Prop := (libB s l = false ∧ z = false ∧ e = 1) ∨ (libB s l = true ∧ ((idxN l n = none ∧ z = false ∧ e = 5) ∨ ∃ i, ∃ h : i < l.length, idxN l n = some i ∧ HldP s l l[i] z ∧ e = 0))
def HoldQ (s : Sg) (l : List En) (n : Nm) (w : World) (e : Ending) (w' : World) : Prop := ∃ z er, HoldR s l n z er ∧ e = .returned (.tuple #[.bool z, .int .i64 er]) ∧ Below w.heap.size w w'
theorem HoldQ.mk {s : Sg} {l : List En} {n : Nm} {w : World} {e : Ending} {w' : World} (z : Bool) (er : Int) (h1 : HoldR s l n z er) (h2 : e = .returned (.tuple #[.bool z, .int .i64 er])) (h3 : Below w.heap.size w w') : HoldQ s l n w e w' := ⟨z, er, h1, h2, h3⟩
theorem ents_ok {s : Sg} {l : List En} (h : libB s l = true) {i : Nat} (hi : i < l.length) : l[i].uses.length ≤ 1000 ∧ 0 < l[i].says.length ∧ l[i].says.length ≤ 1000 := by
  have h1 := (libB_iff.1 h).ents l[i] (List.getElem_mem hi)
  have h2 := h1.len
  have h3 := (termB_T h1.says).ne
  have h4 := (termB_facts h1.says).2.2.2
  exact ⟨by omega, h3, by omega⟩
set_option maxHeartbeats 1000000 in
theorem deps_Holds (vs vl : Value) (s : Sg) (l : List En) (n : Nm) (w : World) (hs : SignAt w vs s) (hl : EntsAt w vl l) (hs1 : s.length ≤ 1000) (hl1 : l.length ≤ 1000) (hn : n.size ≤ 140737488355328) :
    Calls Tryz.prog 19 #[vs, vl, .string n] w fun e w' => HoldQ s l n w e w' := by
  have HN := hid (deps_named vs vl s l n w hs hl hs1 hl1 hn)
  have HSG := hid hs
  have HL := hid hl
  clear hs hl
  go_enter Tryz.func19, Tryz.ntmps19
  go_wp2_with fail
  refine HN.out.mono ?_
  rintro e w1 ⟨hb1, ⟨h0, rfl⟩ | ⟨h0, hi, rfl⟩ | ⟨h0, p, i, hi, rfl, hla⟩⟩
  · have HF : Hid (HoldR s l n false 1) := hid (Or.inl ⟨h0, rfl, rfl⟩)
    clear h0
    go_wp2
    go_ret2
    exact HoldQ.mk _ _ HF.out rfl hb1
  · have HF : Hid (HoldR s l n false 5) := hid (Or.inr ⟨h0, Or.inl ⟨hi, rfl, rfl⟩⟩)
    clear h0 hi
    go_wp2
    go_ret2
    exact HoldQ.mk _ _ HF.out rfl hb1
  · obtain ⟨hlt, -⟩ := idxN_some hi
    obtain ⟨k1, k2, k3⟩ := ents_ok h0 hlt
    have HH := hid (lib_holds p vs vl s l i w1 hla (HSG.out.below hb1) (HL.out.below hb1) hlt hs1 hl1 k1 k2 k3)
    have HF : Hid (∀ z, HldP s l l[i] z → HoldR s l n z 0) := hid (fun z hz => Or.inr ⟨h0, Or.inr ⟨i, hlt, hi, hz, rfl⟩⟩)
    clear h0 hi hla k1 k2 k3
    go_wp2_with fail
    refine HH.out.mono ?_
    rintro e w2 ⟨z, hz, rfl, hb2⟩
    have HX := hid (HF.out z hz)
    clear hz
    go_wp2
    go_ret2
    exact HoldQ.mk _ _ HX.out rfl (hb1.trans (hb2.mono hb1.size))
/-- what Strongest answers. -/
def StgR (s : Sg) (l : List En) (n : Nm) (t : List Int) (e : Int) : Prop := (libB s l = false ∧ t = [] ∧ e = 1) ∨ (libB s l = true ∧ ((idxN l n = none ∧ t = [] ∧ e = 5) ∨ ∃ i, ∃ h : i < l.length, idxN l n = some i ∧ ∃ x, StrP s l l[i] x ∧ ((x.2 = true ∧ t = x.1 ∧ e = 0) ∨ (x.2 = false ∧ t = [] ∧ e = 11))))
def StgQ (s : Sg) (l : List En) (n : Nm) (w : World) (e : Ending) (w' : World) : Prop := ∃ u t er, StgR s l n t er ∧ e = .returned (.tuple #[u, .int .i64 er]) ∧ Ints w' u t ∧ Below w.heap.size w w'
theorem StgQ.mk {s : Sg} {l : List En} {n : Nm} {w : World} {e : Ending} {w' : World} (u : Value) (t : List Int) (er : Int) (h1 : StgR s l n t er) (h2 : e = .returned (.tuple #[u, .int .i64 er])) (h3 : Ints w' u t) (h4 : Below w.heap.size w w') : StgQ s l n w e w' := ⟨u, t, er, h1, h2, h3, h4⟩
set_option maxHeartbeats 1000000 in
theorem deps_Strongest (vs vl : Value) (s : Sg) (l : List En) (n : Nm) (w : World) (hs : SignAt w vs s) (hl : EntsAt w vl l) (hs1 : s.length ≤ 1000) (hl1 : l.length ≤ 1000) (hn : n.size ≤ 140737488355328) :
    Calls Tryz.prog 22 #[vs, vl, .string n] w fun e w' => StgQ s l n w e w' := by
  have HN := hid (deps_named vs vl s l n w hs hl hs1 hl1 hn)
  have HSG := hid hs
  have HL := hid hl
  clear hs hl
  go_enter Tryz.func22, Tryz.ntmps22
  go_wp2_with fail
  refine HN.out.mono ?_
  rintro e w1 ⟨hb1, ⟨h0, rfl⟩ | ⟨h0, hi, rfl⟩ | ⟨h0, p, i, hi, rfl, hla⟩⟩
  · have HF : Hid (StgR s l n [] 1) := hid (Or.inl ⟨h0, rfl, rfl⟩)
    clear h0
    go_wp2
    go_ret2
    exact StgQ.mk _ _ _ HF.out rfl (Ints.nil _) hb1
  · have HF : Hid (StgR s l n [] 5) := hid (Or.inr ⟨h0, Or.inl ⟨hi, rfl, rfl⟩⟩)
    clear h0 hi
    go_wp2
    go_ret2
    exact StgQ.mk _ _ _ HF.out rfl (Ints.nil _) hb1
  · obtain ⟨hlt, -⟩ := idxN_some hi
    obtain ⟨k1, k2, k3⟩ := ents_ok h0 hlt
    have HH := hid (lib_strongest p vs vl s l i w1 hla (HSG.out.below hb1) (HL.out.below hb1) hlt hs1 hl1 k1 k2 k3)
    have HF : Hid (∀ x, StrP s l l[i] x → ∀ t e, ((x.2 = true ∧ t = x.1 ∧ e = 0) ∨ (x.2 = false ∧ t = [] ∧ e = 11)) → StgR s l n t e) := hid (fun x hx t e h => Or.inr ⟨h0, Or.inr ⟨i, hlt, hi, x, hx, h⟩⟩)
    clear h0 hi hla k1 k2 k3
    go_wp2_with fail
    refine HH.out.mono ?_
    rintro e w2 ⟨⟨x1, z⟩, u, hx, rfl, hIu, hb2⟩
    have HB2 := hid (hb1.trans (hb2.mono hb1.size))
    have HIU := hid hIu
    cases z
    · have HX := hid (HF.out _ hx [] 11 (Or.inr ⟨rfl, rfl, rfl⟩))
      clear hx hIu hb2
      go_wp2
      go_ret2
      exact StgQ.mk _ _ _ HX.out rfl (Ints.nil _) HB2.out
    · have HX := hid (HF.out _ hx x1 0 (Or.inl ⟨rfl, rfl, rfl⟩))
      clear hx hIu hb2
      go_wp2
      go_ret2
      exact StgQ.mk _ _ _ HX.out rfl HIU.out HB2.out
end Go.Proofs.YtpflkjldapmgdaaGreat
