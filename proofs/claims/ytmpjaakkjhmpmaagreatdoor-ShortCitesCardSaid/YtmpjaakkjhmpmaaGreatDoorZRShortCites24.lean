/-
  WHAT IT HOLDS: contracts of run and Run of package kernel: what all steps say. Conditions: the arguments read as data; a small sign.
-/
import Derived.Test.YtmpjaakkjhmpmaaGreatDoorZRShortCites23
namespace Go.Proofs.YtmpjaakkjhmpmaaGreatDoor
open Go Go.RowKit Go.Maps Go.Shelf
attribute [local go_sem] Oper.semAt_some
/-- what a proof says: the terms, and the error of the first step that says nothing. -/
def RunR (s : Sg) (g : List (List Int)) (p : List St) (l : List (List Int)) (e : Int) : Prop :=
  (∀ i t, l[i]? = some t → ∃ st, p[i]? = some st ∧ sayR s g (l.take i) st (t, 0)) ∧ ((e = 0 ∧ l.length = p.length) ∨ (e ≠ 0 ∧ l.length < p.length ∧ ∃ st t, p[l.length]? = some st ∧ sayR s g l st (t, e)))
def tsK (pre : List KE) : List (List Int) := pre.map fun y => y.2.1
structure RuI (wb : World) (s : Sg) (g : List (List Int)) (p : List St) (B b6 b7 b8 : Nat) (pre : List KE) (M O : Nat → Prop) (W : World) : Prop where
  z : ∀ y ∈ pre, y.2.2 = 0
  say : ∀ i t, (tsK pre)[i]? = some t → ∃ st, p[i]? = some st ∧ sayR s g ((tsK pre).take i) st (t, 0)
  len : pre.length ≤ p.length
  bel : Below wb.heap.size wb W
  mm : M b6 ∧ M b7 ∧ M b8
  mw : ∀ k, M k → wb.heap.size ≤ k
  c6 : ∃ v, W.cell? ⟨b6, 0, none⟩ = some v ∧ W.frozen? ⟨b6, 0, none⟩ = false
  c7 : ∃ v, W.cell? ⟨b7, 0, none⟩ = some v ∧ W.frozen? ⟨b7, 0, none⟩ = false
  out : ∃ uo vvs, W.cell? ⟨b8, 0, none⟩ = some uo ∧ W.frozen? ⟨b8, 0, none⟩ = false ∧ W.ownsRow B 34 1 uo vvs.length vvs ∧ (∀ k, uo.ownBlock = some k → M k) ∧ vvs.length = pre.length ∧
    ∀ (i : Nat) (v : Value) (t : List Int), vvs[i]? = some v → (tsK pre)[i]? = some t → Safe (fun k => (M k ∨ k = B + 1) ∨ O k) (fun W => Ints W v t) W
theorem RuI.kb {wb : World} {s : Sg} {g : List (List Int)} {p : List St} {B b6 b7 b8 : Nat} {pre : List KE} {M O O' R : Nat → Prop} {W W' : World} (h : RuI wb s g p B b6 b7 b8 pre M O W) (hB : wb.heap.size ≤ B) (h6 : b6 < B) (h7 : b7 < B) (h8 : b8 < B)
    (hk : Kb R W W') (hR : ∀ k, R k → (O k ∧ B + 2 ≤ k ∧ ¬ M k) ∨ (k = B + 1 ∧ ¬ M k)) (hO : ∀ k, O' k → O k ∨ W.heap.size ≤ k) : RuI wb s g p B b6 b7 b8 pre M O' W' := by
  obtain ⟨a1, a2, a3, a4, a5, a5w, ⟨v6, a6, f6⟩, ⟨v7, a7, f7⟩, ⟨uo, vvs, b1, b2, b3, b4, b5, b6'⟩⟩ := h
  have keep : ∀ q, q < W.heap.size → M q → W'.heap[q]? = W.heap[q]? := fun q h1 h2 => hk.same q h1 (fun h => by rcases hR q h with h | h; exact h.2.2 h2; exact h.2 h2)
  have e6 := keep b6 (World.block_lt_of_cell? _ _ a6) a5.1
  have e7 := keep b7 (World.block_lt_of_cell? _ _ a7) a5.2.1
  have e8 := keep b8 (World.block_lt_of_cell? _ _ b1) a5.2.2
  refine ⟨a1, a2, a3, a4.trans (hk.below a4.size (fun k h => by rcases hR k h with h | h <;> omega)), a5, a5w, ⟨v6, cellHp a6 e6, (World.frozen?_of_block e6).trans f6⟩, ⟨v7, cellHp a7 e7, (World.frozen?_of_block e7).trans f7⟩,
    uo, vvs, cellHp b1 e8, (World.frozen?_of_block e8).trans b2, ownsRow_frm2 b3 (fun q hq => keep q (b3.lt q hq).2 (b4 q hq)), b4, b5, fun i v t h1 h2 => (b6' i v t h1 h2).turn (hk.mono (M' := fun k => (M k ∨ k = B + 1) ∨ O k) (fun k _ h => ?_)) (fun k h => ?_)⟩
  · rcases hR k h with h | h
    · exact Or.inr h.1
    · exact Or.inl (Or.inr h.1)
  · rcases h with h | h
    · exact Or.inl (Or.inl h)
    · exact (hO k h).imp Or.inr id
theorem RuI.grw {wb : World} {s : Sg} {g : List (List Int)} {p : List St} {B b6 b7 b8 : Nat} (hB : wb.heap.size ≤ B) (h6 : b6 < B) (h7 : b7 < B) (h8 : b8 < B) (pre : List KE) : GrwO B (RuI wb s g p B b6 b7 b8 pre) :=
  ⟨fun M O O' W W' h hk hO' hO => h.kb hB h6 h7 h8 hk (fun k hk => Or.inl ⟨hk, hO k hk⟩) hO',
   fun M O W o o' ho hc h hm => h.kb hB h6 h7 h8 (R := fun k => k = B + 1) (Kb.put (M := fun k => k = B + 1) _ rfl) (fun k hk => Or.inr ⟨hk, by rw [hk]; exact hm⟩) (fun k hk => Or.inl hk)⟩
/-- how it ends early: the answer lies in the result's cells. -/
structure RuX (wb : World) (s : Sg) (g : List (List Int)) (p : List St) (B b6 b7 b8 : Nat) (c : Code) (pre : List KE) (M O : Nat → Prop) (W : World) : Prop where
  ret : c = .ret
  bel : Below wb.heap.size wb W
  mm : M b6 ∧ M b7
  mw : ∀ k, M k → wb.heap.size ≤ k
  ans : ∃ uo vvs l e, W.cell? ⟨b6, 0, none⟩ = some uo ∧ W.cell? ⟨b7, 0, none⟩ = some (.int .i64 e) ∧ RunR s g p l e ∧ W.ownsRow B 34 1 uo vvs.length vvs ∧ (∀ k, uo.ownBlock = some k → M k) ∧ vvs.length = l.length ∧
    ∀ (i : Nat) (v : Value) (t : List Int), vvs[i]? = some v → l[i]? = some t → Safe (fun k => (M k ∨ k = B + 1) ∨ O k) (fun W => Ints W v t) W
theorem RuX.kb {wb : World} {s : Sg} {g : List (List Int)} {p : List St} {B b6 b7 b8 : Nat} {c : Code} {pre : List KE} {M O O' R : Nat → Prop} {W W' : World} (h : RuX wb s g p B b6 b7 b8 c pre M O W) (hB : wb.heap.size ≤ B)
    (hk : Kb R W W') (hR : ∀ k, R k → (O k ∧ B + 2 ≤ k ∧ ¬ M k) ∨ (k = B + 1 ∧ ¬ M k)) (hO : ∀ k, O' k → O k ∨ W.heap.size ≤ k) : RuX wb s g p B b6 b7 b8 c pre M O' W' := by
  obtain ⟨a1, a4, a5, a5w, ⟨uo, vvs, l, e, b1, b1', br, b3, b4, b5, b6'⟩⟩ := h
  have keep : ∀ q, q < W.heap.size → M q → W'.heap[q]? = W.heap[q]? := fun q h1 h2 => hk.same q h1 (fun h => by rcases hR q h with h | h; exact h.2.2 h2; exact h.2 h2)
  refine ⟨a1, a4.trans (hk.below a4.size (fun k h => by rcases hR k h with h | h <;> omega)), a5, a5w,
    uo, vvs, l, e, cellHp b1 (keep _ (World.block_lt_of_cell? _ _ b1) a5.1), cellHp b1' (keep _ (World.block_lt_of_cell? _ _ b1') a5.2), br, ownsRow_frm2 b3 (fun q hq => keep q (b3.lt q hq).2 (b4 q hq)), b4, b5, fun i v t h1 h2 => (b6' i v t h1 h2).turn (hk.mono (M' := fun k => (M k ∨ k = B + 1) ∨ O k) (fun k _ h => ?_)) (fun k h => ?_)⟩
  · rcases hR k h with h | h
    · exact Or.inr h.1
    · exact Or.inl (Or.inr h.1)
  · rcases h with h | h
    · exact Or.inl (Or.inl h)
    · exact (hO k h).imp Or.inr id
theorem RuX.grw {wb : World} {s : Sg} {g : List (List Int)} {p : List St} {B b6 b7 b8 : Nat} (hB : wb.heap.size ≤ B) (c : Code) (pre : List KE) : GrwO B (RuX wb s g p B b6 b7 b8 c pre) :=
  ⟨fun M O O' W W' h hk hO' hO => h.kb hB hk (fun k hk => Or.inl ⟨hk, hO k hk⟩) hO',
   fun M O W o o' ho hc h hm => h.kb hB (R := fun k => k = B + 1) (Kb.put (M := fun k => k = B + 1) _ rfl) (fun k hk => Or.inr ⟨hk, by rw [hk]; exact hm⟩) (fun k hk => Or.inl hk)⟩
theorem tsK_snoc (pre : List KE) (x : KE) : tsK (pre ++ [x]) = tsK pre ++ [x.2.1] := by simp [tsK]
theorem tsK_len (pre : List KE) : (tsK pre).length = pre.length := by simp [tsK]
theorem RuI.push {wb : World} {s : Sg} {g : List (List Int)} {p : List St} {B b6 b7 b8 : Nat} {pre : List KE} {M O : Nat → Prop} {W W6 W7 : World} {x : KE} (h : RuI wb s g p B b6 b7 b8 pre M O W) (hB : wb.heap.size ≤ B) (h6 : b6 < B) (h7 : b7 < B) (h8 : b8 < B) (hne : b6 ≠ b8 ∧ b7 ≠ b8) (hw8 : wb.heap.size ≤ b8) (hBW : B + 2 ≤ W.heap.size)
    (hx0 : x.2.2 = 0) {st : St} (hst : p[pre.length]? = some st) (hsay : sayR s g (tsK pre) st (x.2.1, x.2.2)) (hS : Safe (fun k => (M k ∨ k = B + 1) ∨ O k) (fun W => Ints W x.1 x.2.1) W) (hMl : ∀ k, M k → k < W.heap.size) (hOM : ∀ k, O k → ¬ M k)
    {uo : Value} {vvs : List Value} (c0 : W.cell? ⟨b8, 0, none⟩ = some uo) (f0 : W.frozen? ⟨b8, 0, none⟩ = false) (hrow : ∀ k, uo.ownBlock = some k → M k ∧ B ≤ k) (hlen : vvs.length = pre.length)
    (hall : ∀ (i : Nat) (v : Value) (t : List Int), vvs[i]? = some v → (tsK pre)[i]? = some t → Safe (fun k => (M k ∨ k = B + 1) ∨ O k) (fun W => Ints W v t) W)
    (hb : Below W.heap.size W W6) {g' cap n : Nat} (hn : vvs.length = n) (hown : W7.ownsRow B 34 1 (.slice (some ⟨g', 0, none⟩) (n + 1) cap) (n + 1) (vvs ++ [x.1])) (hg : W6.grownBy W7 uo.ownBlock) (hat : uo.ownBlock = some g' ∨ g' = W6.heap.size) (hlt : g' < W7.heap.size) :
    ∃ M' : Nat → Prop, (∀ k, M' k → (M k ∨ W.heap.size ≤ k) ∧ k < (W7.setCell ⟨b8, 0, none⟩ (.slice (some ⟨g', 0, none⟩) (n + 1) cap)).heap.size) ∧
      Kb (fun k => M k ∨ W.heap.size ≤ k) W (W7.setCell ⟨b8, 0, none⟩ (.slice (some ⟨g', 0, none⟩) (n + 1) cap)) ∧
      RuI wb s g p B b6 b7 b8 (pre ++ [x]) M' O (W7.setCell ⟨b8, 0, none⟩ (.slice (some ⟨g', 0, none⟩) (n + 1) cap)) := by
  subst hn
  obtain ⟨a1, a2, a3, a4, a5, a5w, ⟨v6, a6, f6⟩, ⟨v7, a7, f7⟩, -⟩ := h
  have hs67 := hg.size
  have hs06 := hb.size
  have k7 : Kb (fun k => (M k ∧ B ≤ k)) W W7 := (Kb.of_below hb).trans (Kb.grown (M := fun k => M k ∧ B ≤ k) hg (fun k hk => Or.inl (hrow k hk))) (fun k hk => Or.inl hk)
  have hgB : B ≤ g' := by
    rcases hat with h | h
    · exact (hrow g' h).2
    · omega
  have e0 : W7.heap[b8]? = W.heap[b8]? := k7.same _ (by omega) (fun h => by omega)
  have e6 : W7.heap[b6]? = W.heap[b6]? := k7.same _ (by omega) (fun h => by omega)
  have e7 : W7.heap[b7]? = W.heap[b7]? := k7.same _ (by omega) (fun h => by omega)
  have c8 : W7.cell? ⟨b8, 0, none⟩ = some uo := cellHp c0 e0
  have kf : Kb M W (W7.setCell ⟨b8, 0, none⟩ (.slice (some ⟨g', 0, none⟩) (vvs.length + 1) cap)) := (k7.mono (M' := M) (fun k _ hk => hk.1)).trans (Kb.setCell (M := M) _ a5.2.2) (fun k hk => Or.inl hk)
  have hsz : (W7.setCell ⟨b8, 0, none⟩ (.slice (some ⟨g', 0, none⟩) (vvs.length + 1) cap)).heap.size = W7.heap.size := by simp [World.setCell]
  have kfB := kf.mono (M' := fun k => (M k ∨ k = B + 1) ∨ O k) (fun k _ hk => Or.inl (Or.inl hk))
  have hsub : ∀ k, ((M k ∨ (W.heap.size ≤ k ∧ k < W7.heap.size)) ∨ k = B + 1) ∨ O k → ((M k ∨ k = B + 1) ∨ O k) ∨ W.heap.size ≤ k := fun k hk => by
    rcases hk with (((hk | hk) | hk) | hk)
    · exact Or.inl (Or.inl (Or.inl hk))
    · exact Or.inr hk.1
    · exact Or.inl (Or.inl (Or.inr hk))
    · exact Or.inl (Or.inr hk)
  have o6 : ∀ b, b ≠ b8 → W7.heap[b]? = W.heap[b]? → (W7.setCell ⟨b8, 0, none⟩ (.slice (some ⟨g', 0, none⟩) (vvs.length + 1) cap)).heap[b]? = W.heap[b]? := fun b hne e => (Below.heap_setCell _ _ _ _ (fun h => hne h)).trans e
  refine ⟨fun k => M k ∨ (W.heap.size ≤ k ∧ k < W7.heap.size), fun k hk => ?_, kf.mono (fun k _ hk => Or.inl hk), ⟨fun y hy => ?_, fun i t hi => ?_, ?_, a4.trans (kf.below a4.size a5w), ⟨Or.inl a5.1, Or.inl a5.2.1, Or.inl a5.2.2⟩, fun k hk => ?_, ⟨v6, cellHp a6 (o6 b6 hne.1 e6), (World.frozen?_of_block (o6 b6 hne.1 e6)).trans f6⟩, ⟨v7, cellHp a7 (o6 b7 hne.2 e7), (World.frozen?_of_block (o6 b7 hne.2 e7)).trans f7⟩,
    ⟨_, vvs ++ [x.1], World.cell?_setCell_same' _ _ _ (by rw [c8]; rfl), (World.frozen?_setCell _ _ _ _).trans ((World.frozen?_of_block e0).trans f0), ?_, fun k hk => ?_, by simp [hlen], fun i v t hv ht => ?_⟩⟩⟩
  · rw [hsz]
    rcases hk with hk | hk
    · exact ⟨Or.inl hk, by have := hMl k hk; omega⟩
    · exact ⟨Or.inr hk.1, hk.2⟩
  · rcases List.mem_append.1 hy with h | h
    · exact a1 y h
    · simp at h; rw [h]; exact hx0
  · rw [tsK_snoc] at hi ⊢
    rcases Nat.lt_or_ge i (tsK pre).length with h1 | h1
    · rw [List.getElem?_append_left h1] at hi
      rw [List.take_append_of_le_length (by omega)]
      exact a2 i t hi
    · rw [List.getElem?_append_right h1] at hi
      obtain ⟨j, hj⟩ : ∃ j, i - (tsK pre).length = j := ⟨_, rfl⟩
      rw [hj] at hi
      cases j with
      | zero =>
        have hie : i = (tsK pre).length := by omega
        simp at hi
        subst hi hie
        rw [List.take_left, tsK_len]
        exact ⟨st, hst, by rw [hx0] at hsay; exact hsay⟩
      | succ j => simp at hi
  · rw [List.length_append, List.length_singleton]
    exact (List.getElem?_eq_some_iff.1 hst).1
  · rcases hk with hk | hk
    · exact a5w k hk
    · omega
  · refine ownsRow_frm2 (by simpa using hown) (fun k hk => Below.heap_setCell _ _ _ _ (fun e => ?_))
    have h1 : g' = k := by simpa [Value.ownBlock] using hk
    have h2 : k = b8 := e
    omega
  · have h1 : g' = k := by simpa [Value.ownBlock] using hk
    subst h1
    rcases hat with h | h
    · exact Or.inl (hrow _ h).1
    · exact Or.inr ⟨by omega, hlt⟩
  · rw [tsK_snoc] at ht
    rcases Nat.lt_or_ge i vvs.length with h1 | h1
    · rw [List.getElem?_append_left h1] at hv
      rw [List.getElem?_append_left (by rw [tsK_len]; omega)] at ht
      exact (hall i v t hv ht).turn kfB hsub
    · rw [List.getElem?_append_right h1] at hv
      rw [List.getElem?_append_right (by rw [tsK_len]; omega), tsK_len] at ht
      rw [← hlen] at ht
      obtain ⟨j, hj⟩ : ∃ j, i - vvs.length = j := ⟨_, rfl⟩
      rw [hj] at hv ht
      cases j with
      | zero =>
        simp at hv ht
        subst hv ht
        exact hS.turn kfB hsub
      | succ j => simp at hv
theorem kernel_steps (sa ga pa : Option Addr) (sn sc gn gc pn pc : Nat) (w : World) :
    Calls Tryz.prog 149 #[.slice sa sn sc, .slice ga gn gc, .slice pa pn pc] w fun e w' => e = .returned (.func (.func 182) #[] #[.pointer (some ⟨w.heap.size, 0, none⟩), .pointer (some ⟨w.heap.size + 1, 0, none⟩), .pointer (some ⟨w.heap.size + 2, 0, none⟩)]) ∧ ((w.alloc (.cells #[.slice sa sn sc] 23)).alloc (.cells #[.slice ga gn gc] 24)).alloc (.cells #[.slice pa pn pc] 25) = w' := by
  go_enter Tryz.func149, Tryz.ntmps149
  go_wp2
  go_ret
  exact ⟨rfl, rfl⟩
theorem box6 (w : World) (x1 x2 x3 x4 x5 x6 : Value) (t1 t2 t3 t4 t5 t6 : TypeId) {W : World} (hW : ((((((w.alloc (.cells #[x1] t1)).alloc (.cells #[x2] t2)).alloc (.cells #[x3] t3)).alloc (.cells #[x4] t4)).alloc (.cells #[x5] t5)).alloc (.cells #[x6] t6)) = W) :
    (W.cell? ⟨w.heap.size, 0, none⟩ = some x1 ∧ W.frozen? ⟨w.heap.size, 0, none⟩ = false) ∧ (W.cell? ⟨w.heap.size + 1, 0, none⟩ = some x2 ∧ W.frozen? ⟨w.heap.size + 1, 0, none⟩ = false) ∧ (W.cell? ⟨w.heap.size + 2, 0, none⟩ = some x3 ∧ W.frozen? ⟨w.heap.size + 2, 0, none⟩ = false) ∧
    W.cell? ⟨w.heap.size + 3, 0, none⟩ = some x4 ∧ W.cell? ⟨w.heap.size + 4, 0, none⟩ = some x5 ∧ W.cell? ⟨w.heap.size + 5, 0, none⟩ = some x6 ∧ W.heap.size = w.heap.size + 6 ∧ Below w.heap.size w W := by
  obtain ⟨w1, h1⟩ : ∃ w1, w.alloc (.cells #[x1] t1) = w1 := ⟨_, rfl⟩
  obtain ⟨w2, h2⟩ : ∃ w2, w1.alloc (.cells #[x2] t2) = w2 := ⟨_, rfl⟩
  obtain ⟨w3, h3⟩ : ∃ w3, w2.alloc (.cells #[x3] t3) = w3 := ⟨_, rfl⟩
  obtain ⟨w4, h4⟩ : ∃ w4, w3.alloc (.cells #[x4] t4) = w4 := ⟨_, rfl⟩
  obtain ⟨w5, h5⟩ : ∃ w5, w4.alloc (.cells #[x5] t5) = w5 := ⟨_, rfl⟩
  rw [h1, h2, h3, h4, h5] at hW
  have s1 : w1.heap.size = w.heap.size + 1 := by rw [← h1]; simp
  have s2 : w2.heap.size = w.heap.size + 2 := by rw [← h2]; simp [s1]
  have s3 : w3.heap.size = w.heap.size + 3 := by rw [← h3]; simp [s2]
  have s4 : w4.heap.size = w.heap.size + 4 := by rw [← h4]; simp [s3]
  have s5 : w5.heap.size = w.heap.size + 5 := by rw [← h5]; simp [s4]
  have s6 : W.heap.size = w.heap.size + 6 := by rw [← hW]; simp [s5]
  have c1 : w1.cell? ⟨w.heap.size, 0, none⟩ = some x1 := by rw [← h1]; exact cell_new1 _ _ _
  have f1 : w1.frozen? ⟨w.heap.size, 0, none⟩ = false := by rw [← h1]; exact (Boxed.new w t1 x1).frozen
  have c2 : w2.cell? ⟨w.heap.size + 1, 0, none⟩ = some x2 := by rw [← h2, ← s1]; exact cell_new1 _ _ _
  have f2 : w2.frozen? ⟨w.heap.size + 1, 0, none⟩ = false := by rw [← h2, ← s1]; exact (Boxed.new w1 t2 x2).frozen
  have c3 : w3.cell? ⟨w.heap.size + 2, 0, none⟩ = some x3 := by rw [← h3, ← s2]; exact cell_new1 _ _ _
  have f3 : w3.frozen? ⟨w.heap.size + 2, 0, none⟩ = false := by rw [← h3, ← s2]; exact (Boxed.new w2 t3 x3).frozen
  have c4 : w4.cell? ⟨w.heap.size + 3, 0, none⟩ = some x4 := by rw [← h4, ← s3]; exact cell_new1 _ _ _
  have c5 : w5.cell? ⟨w.heap.size + 4, 0, none⟩ = some x5 := by rw [← h5, ← s4]; exact cell_new1 _ _ _
  have c6 : W.cell? ⟨w.heap.size + 5, 0, none⟩ = some x6 := by rw [← hW, ← s5]; exact cell_new1 _ _ _
  have b1 : Below w.heap.size w w1 := by rw [← h1]; exact (Below.refl _ _).alloc (Nat.le_refl _) _
  have b2 : Below w1.heap.size w1 w2 := by rw [← h2]; exact (Below.refl _ _).alloc (Nat.le_refl _) _
  have b3 : Below w2.heap.size w2 w3 := by rw [← h3]; exact (Below.refl _ _).alloc (Nat.le_refl _) _
  have b4 : Below w3.heap.size w3 w4 := by rw [← h4]; exact (Below.refl _ _).alloc (Nat.le_refl _) _
  have b5 : Below w4.heap.size w4 w5 := by rw [← h5]; exact (Below.refl _ _).alloc (Nat.le_refl _) _
  have b6 : Below w5.heap.size w5 W := by rw [← hW]; exact (Below.refl _ _).alloc (Nat.le_refl _) _
  have b46 := b5.trans (b6.mono b5.size)
  have b36 := b4.trans (b46.mono b4.size)
  have b26 := b3.trans (b36.mono b3.size)
  have b16 := b2.trans (b26.mono b2.size)
  exact ⟨⟨(b16.cell (World.block_lt_of_cell? _ _ c1)).trans c1, (b16.frozen (World.block_lt_of_cell? _ _ c1)).trans f1⟩, ⟨(b26.cell (World.block_lt_of_cell? _ _ c2)).trans c2, (b26.frozen (World.block_lt_of_cell? _ _ c2)).trans f2⟩, ⟨(b36.cell (World.block_lt_of_cell? _ _ c3)).trans c3, (b36.frozen (World.block_lt_of_cell? _ _ c3)).trans f3⟩,
    (b46.cell (World.block_lt_of_cell? _ _ c4)).trans c4, (b6.cell (World.block_lt_of_cell? _ _ c5)).trans c5, c6, s6, b1.trans (b16.mono b1.size)⟩
set_option maxHeartbeats 4000000 in
set_option maxRecDepth 100000 in
theorem kernel_run (vs vg vp : Value) (s : Sg) (g : List (List Int)) (p : List St) (w : World) (hask : askedB s g p = true) (hs : SignAt w vs s) (hg : Terms w vg g) (hp : StepsAt w vp p) (hs1 : s.length ≤ 1000) :
    Calls Tryz.prog 113 #[vs, vg, vp] w fun e w' => ∃ u l er, e = .returned (.tuple #[u, .int .i64 er]) ∧ RunR s g p l er ∧ Terms w' u l ∧ Below w.heap.size w w' := by
  obtain ⟨sa, sc, rfl, -⟩ := hs.open
  obtain ⟨ga, gc, rfl, -⟩ := hg.open
  obtain ⟨pa, pc, rfl, -⟩ := hp.open
  refine calls_marks Tryz.func113 rfl ?_
  simp only [Tryz.ntmps113, List.size_toArray, List.length_cons, List.length_nil, Nat.reduceAdd, Nat.reduceSub, Array.replicate_succ, Array.replicate_zero, List.push_toArray, List.append_toArray, List.nil_append, List.cons_append]
  go_wp2_with (go_at_call 149; refine (kernel_steps _ _ _ _ _ _ _ _ _ _).mono ?_; rintro e w4 ⟨rfl, rfl⟩)
  simp only [Nat.add_assoc, Nat.reduceAdd]
  obtain ⟨W0, hW0⟩ : ∃ W0, ((((((w.alloc (.cells #[.slice none 0 0] 24)).alloc (.cells #[.int .i64 0] 28)).alloc (.cells #[.slice none 0 0] 24)).alloc (.cells #[.slice sa s.length sc] 23)).alloc (.cells #[.slice ga g.length gc] 24)).alloc (.cells #[.slice pa p.length pc] 25)) = W0 := ⟨_, rfl⟩
  rw [hW0]
  obtain ⟨⟨k1, f1⟩, ⟨k2, f2⟩, ⟨k3, f3⟩, k4, k5, k6, hsz, hbw⟩ := box6 _ _ _ _ _ _ _ _ _ _ _ _ _ hW0
  clear hW0
  have HBW := hid hbw
  have HST : Hid (RuI w s g p W0.heap.size w.heap.size (w.heap.size + 1) (w.heap.size + 2) [] (fun k => k = w.heap.size ∨ k = w.heap.size + 1 ∨ k = w.heap.size + 2) (fun _ => False) W0) :=
    hid ⟨by simp, by simp [tsK], by simp, hbw, ⟨by simp, by simp, by simp⟩, fun k hk => by omega, ⟨_, k1, f1⟩, ⟨_, k2, f2⟩, _, [], k3, f3, World.ownsRow_nil _ _ _ _, (fun k h => by cases h), rfl, (fun i v p h => by simp at h)⟩
  have HSQ := hid (steps_seq (w.heap.size + 3) (w.heap.size + 4) (w.heap.size + 5) (.slice sa s.length sc) (.slice ga g.length gc) (.slice pa p.length pc) s g p w W0 hask hs1 hbw hs hg hp k4 k5 k6)
  clear hbw k1 k2 k3 k4 k5 k6 f1 f2 f3 hs hg hp
  refine wpIn_wide.1 (wpIn_rangeO (gf := 182) (lb := #[.pointer (some ⟨w.heap.size + 3, 0, none⟩), .pointer (some ⟨w.heap.size + 4, 0, none⟩), .pointer (some ⟨w.heap.size + 5, 0, none⟩)]) rfl (enters_of Tryz.func182 rfl rfl) (encs := keX) (E := keE s g p) (S := keS p)
    (N := fun k => k < w.heap.size ∨ k = w.heap.size + 3 ∨ k = w.heap.size + 4 ∨ k = w.heap.size + 5) (w0 := W0) HSQ.out (Below.refl _ _) (fun _ => rfl) ?_ ?_ ?_
    (fun pre => RuI w s g p W0.heap.size w.heap.size (w.heap.size + 1) (w.heap.size + 2) pre) (fun c pre => RuX w s g p W0.heap.size w.heap.size (w.heap.size + 1) (w.heap.size + 2) c pre)
    (fun k => k = w.heap.size ∨ k = w.heap.size + 1 ∨ k = w.heap.size + 2) ?_ (fun pre => RuI.grw (by omega) (by omega) (by omega) (by omega) pre) (fun c pre => RuX.grw (by omega) c pre) HST.out ?_ ?_ ?_)
  case refine_1 =>
    rintro pre x M O W k o o' ⟨h1, h2, h3⟩ hk ho hc
    exact ⟨h1, h2, h3.turn (Kb.put (M := fun k => M k ∨ O k) _ (Or.inl hk)) (fun k h => Or.inl h)⟩
  case refine_2 =>
    rintro pre x M O A B ⟨h1, h2, h3⟩ hb
    exact ⟨h1, h2, h3.grow hb⟩
  case refine_3 => rintro k (h | rfl | rfl | rfl) <;> omega
  case refine_4 => rintro k (rfl | rfl | rfl) <;> exact ⟨by rintro (h | h | h | h) <;> omega, by omega⟩
  case refine_5 =>
    clear HST HSQ
    rintro l' pre ⟨xv, xt, xe⟩ M O W hsW hM hO hturn
    simp only [keX]
    obtain ⟨xa, xc, rfl, -⟩ : ∃ xa xc, xv = .slice xa xt.length xc ∧ True := by
      obtain ⟨-, ⟨-, -, h⟩, -⟩ := hturn W (W.putObj (W0.heap.size + 1) (.deferred none)) (Below.refl _ _) ⟨_, rfl⟩
      obtain ⟨xa, xc, h, -⟩ := h.here.open
      exact ⟨xa, xc, h, trivial⟩
    gi_wp2
    have hbA : Below W.heap.size W (W.alloc (.cells #[.slice xa xt.length xc, .int .i64 xe] 165)) := (Below.refl _ _).alloc (Nat.le_refl _) _
    refine ⟨hbA, fun W2 hT2 => ?_⟩
    obtain ⟨hI2, ⟨e1, ⟨st, e2, e3⟩, e4⟩, hs2⟩ := hturn _ W2 hbA hT2
    have qv : ∀ i, W2.cell? ⟨W.heap.size, i, none⟩ = ((#[.slice xa xt.length xc, .int .i64 xe] : Array Value)[i]?) := by
      intro i
      obtain ⟨o, rfl⟩ := hT2
      rw [World.cell?_of_block (World.putObj_heap_other (by show W.heap.size ≠ _; omega)), World.cell?_alloc_new]
    have q0 : W2.cell? ⟨W.heap.size, 0, none⟩ = some (.slice xa xt.length xc) := (qv 0).trans rfl
    have q1 : W2.cell? ⟨W.heap.size, 1, none⟩ = some (.int .i64 xe) := (qv 1).trans rfl
    have hs2' : W2.heap.size = W.heap.size + 1 := by rw [hs2]; simp
    have hs2a : W2.heap.size ≤ W.heap.size + 1 := by omega
    have hs2b : W.heap.size + 1 ≤ W2.heap.size := by omega
    clear qv hturn hT2 hs2 hs2'
    dsimp only at e2 e3 e4
    have h60 := proof60 (asked_parts hask).2
    have hlen := hI2.len
    obtain ⟨uo, vvs, b1, b2, b3, b4, b5, b6⟩ := hI2.out
    obtain ⟨v6, c6, f6⟩ := hI2.c6
    obtain ⟨v7, c7, f7⟩ := hI2.c7
    obtain ⟨ua, uc, rfl⟩ := ownsRow_slice2 b3
    have HI2 := hid hI2
    have HE2 := hid e2
    have HE3 := hid e3
    have HE4 := hid e4
    have HB1 := hid b1
    have HB2 := hid b2
    have HB3 := hid b3
    have HB4 := hid b4
    have HB5 := hid b5
    have HB6 := hid b6
    have HM2 := hid hM
    have HO2 := hid hO
    have HRN : Hid (∀ k, (Value.slice ua vvs.length uc).ownBlock = some k → W0.heap.size ≤ k) := hid (fun k hk => (b3.lt k hk).1)
    have hvl : vvs.length ≤ 60 := by omega
    clear hI2 e1 e2 e3 e4 b2 b3 b4 b5 b6 hM hO
    by_cases hx0 : xe = 0
    · subst hx0
      have hbx : Below W2.heap.size W2 (W2.alloc (.cells #[.slice xa xt.length xc] 34)) := (Below.refl _ _).alloc (Nat.le_refl _) _
      have HBX := hid hbx
      have HRA := hid (owns_below HB3.out hbx)
      have hsrc : RowK (W2.alloc (.cells #[.slice xa xt.length xc] 34)) (.slice (some ⟨W2.heap.size, 0, none⟩) 1 1) 1 1 [.slice xa xt.length xc] := row_one_new _ _ _
      have HSRC := hid hsrc
      have C96 := hid ((hbx.cell (World.block_lt_of_cell? _ _ b1)).trans b1)
      have F96 := hid ((hbx.frozen (p := ⟨w.heap.size + 2, 0, none⟩) (World.block_lt_of_cell? _ _ b1)).trans HB2.out)
      have HXS := hid hbx.size
      clear hbx hsrc c6 f6 c7 f7
      gi_wp2_with (gi_at_builtin; refine wpListIn_append_lie rfl _ _ 24 rfl W0.heap.size 34 el_term Tryz.underlying24 rfl (by decide) _ _ _ rfl HRA.out _ 1 [.slice xa xt.length xc] rfl HSRC.out (by simp; exact rfl) (by decide) (by omega) (by omega) (by have := HXS.out; omega) _ rfl ?_; intro g1 cp1 w7 hown7 hgrow7 hat7 hlt7; have e97 := hgrow7.block (w.heap.size + 2) (World.block_lt_of_cell? _ _ C96.out) (fun e => by have := HRN.out _ e.symm; omega); have c97 := cellHp C96.out e97; have f97 := (World.frozen?_of_block e97).trans F96.out)
      obtain ⟨M', h1, h2, h3⟩ := RuI.push (x := ((.slice xa xt.length xc, xt, 0) : KE)) HI2.out (by omega) (by omega) (by omega) (by omega) ⟨by omega, by omega⟩ (by omega) (by omega) rfl HE2.out HE3.out HE4.out (fun k hk => by have := (HM2.out k hk).2.2.1; omega) (fun k hk => (HO2.out k hk).2.1)
        HB1.out HB2.out (fun k hk => ⟨HB4.out k hk, HRN.out k hk⟩) HB5.out HB6.out HBX.out rfl hown7 hgrow7 hat7 hlt7
      exact ⟨M', fun k hk => ⟨(h1 k hk).1.imp id (fun h => by omega), (h1 k hk).2⟩, h2.mono (fun k _ hk => hk.imp id (fun h => by omega)), h3⟩
    · have n0 : (xe != 0) = true := by simpa using hx0
      have HKB : Hid (Kb M W2 ((W2.setCell ⟨w.heap.size, 0, none⟩ (.slice ua vvs.length uc)).setCell ⟨w.heap.size + 1, 0, none⟩ (.int .i64 xe)).drew) :=
        hid (((Kb.setCell (M := M) _ HI2.out.mm.1).trans (Kb.setCell (M := M) _ HI2.out.mm.2.1) (fun k hk => Or.inl hk)).trans (Kb.drewN (M := M) 1) (fun k hk => Or.inl hk))
      have HX : Hid (RuX w s g p W0.heap.size w.heap.size (w.heap.size + 1) (w.heap.size + 2) .ret (pre ++ [((.slice xa xt.length xc, xt, xe) : KE)]) M O ((W2.setCell ⟨w.heap.size, 0, none⟩ (.slice ua vvs.length uc)).setCell ⟨w.heap.size + 1, 0, none⟩ (.int .i64 xe)).drew) := hid (by
        have c7' : (W2.setCell ⟨w.heap.size, 0, none⟩ (.slice ua vvs.length uc)).cell? ⟨w.heap.size + 1, 0, none⟩ = some v7 := by
          rw [World.cell?_setCell_other _ _ _ _ (fun e => by injection e; omega)]; exact c7
        have d1 : ((W2.setCell ⟨w.heap.size, 0, none⟩ (.slice ua vvs.length uc)).setCell ⟨w.heap.size + 1, 0, none⟩ (.int .i64 xe)).drew.cell? ⟨w.heap.size, 0, none⟩ = some (.slice ua vvs.length uc) := by
          show ((W2.setCell ⟨w.heap.size, 0, none⟩ (.slice ua vvs.length uc)).setCell ⟨w.heap.size + 1, 0, none⟩ (.int .i64 xe)).cell? ⟨w.heap.size, 0, none⟩ = _
          rw [World.cell?_setCell_other _ _ _ _ (fun e => by injection e; omega)]
          exact World.cell?_setCell_same' _ _ _ (by rw [c6]; rfl)
        have d2 : ((W2.setCell ⟨w.heap.size, 0, none⟩ (.slice ua vvs.length uc)).setCell ⟨w.heap.size + 1, 0, none⟩ (.int .i64 xe)).drew.cell? ⟨w.heap.size + 1, 0, none⟩ = some (.int .i64 xe) := by
          show ((W2.setCell ⟨w.heap.size, 0, none⟩ (.slice ua vvs.length uc)).setCell ⟨w.heap.size + 1, 0, none⟩ (.int .i64 xe)).cell? ⟨w.heap.size + 1, 0, none⟩ = _
          exact World.cell?_setCell_same' _ _ _ (by rw [c7']; rfl)
        have hk2 : Kb (fun k => k = w.heap.size ∨ k = w.heap.size + 1) W2 ((W2.setCell ⟨w.heap.size, 0, none⟩ (.slice ua vvs.length uc)).setCell ⟨w.heap.size + 1, 0, none⟩ (.int .i64 xe)).drew :=
          (((Kb.setCell (M := fun k => k = w.heap.size ∨ k = w.heap.size + 1) _ (Or.inl rfl)).trans (Kb.setCell (M := fun k => k = w.heap.size ∨ k = w.heap.size + 1) _ (Or.inr rfl)) (fun k hk => Or.inl hk)).trans (Kb.drewN (M := fun k => k = w.heap.size ∨ k = w.heap.size + 1) 1) (fun k hk => Or.inl hk))
        have hst := (List.getElem?_eq_some_iff.1 HE2.out).1
        exact ⟨rfl, HI2.out.bel.trans (HKB.out.below HI2.out.bel.size HI2.out.mw), ⟨HI2.out.mm.1, HI2.out.mm.2.1⟩, HI2.out.mw, _, vvs, tsK pre, xe, d1, d2, ⟨HI2.out.say, Or.inr ⟨hx0, by rw [tsK_len]; exact hst, st, xt, by rw [tsK_len]; exact HE2.out, HE3.out⟩⟩,
          ownsRow_frm2 HB3.out (fun q hq => hk2.same _ (HB3.out.lt q hq).2 (fun h => by have := (HB3.out.lt q hq).1; omega)), HB4.out, by rw [tsK_len]; exact HB5.out, fun i v t hv ht => (HB6.out i v t hv ht).turn (HKB.out.mono (M' := fun k => (M k ∨ k = W0.heap.size + 1) ∨ O k) (fun k _ h => Or.inl (Or.inl h))) (fun k h => Or.inl h)⟩)
      gi_wp2
      gi_region
      all_goals
        gi_wp2
        exact ⟨M, fun k hk => ⟨Or.inl hk, by have := (HM2.out k hk).2.2.1; have := HKB.out.size; omega⟩, HKB.out.mono (fun k _ hk => Or.inl hk), HX.out⟩
  case refine_6 =>
    rintro xs M O W hxs hI hD hMD
    obtain ⟨a1, a2, a3, a4, a5, a5w, ⟨v6, a6, f6⟩, ⟨v7, a7, f7⟩, ⟨uo, vvs, b1, b2, b3, b4, b5, b6⟩⟩ := hI
    have hlen : xs.length = p.length := by
      rcases hxs with h | ⟨y, hy, h⟩
      · exact h
      · exact absurd (a1 y hy) h
    have h60 := proof60 (asked_parts hask).2
    obtain ⟨ao, co, rfl⟩ := ownsRow_slice2 b3
    obtain ⟨W', hW'⟩ : ∃ W', (W.setCell ⟨w.heap.size, 0, none⟩ (.slice ao vvs.length co)).setCell ⟨w.heap.size + 1, 0, none⟩ (.int .i64 0) = W' := ⟨_, rfl⟩
    have hkb : Kb (fun k => k = w.heap.size ∨ k = w.heap.size + 1) W W' := by
      rw [← hW']
      exact (Kb.setCell (M := fun k => k = w.heap.size ∨ k = w.heap.size + 1) _ (Or.inl rfl)).trans (Kb.setCell (M := fun k => k = w.heap.size ∨ k = w.heap.size + 1) _ (Or.inr rfl)) (fun k hk => Or.inl hk)
    have d1 : W'.cell? ⟨w.heap.size, 0, none⟩ = some (.slice ao vvs.length co) := by
      rw [← hW', World.cell?_setCell_other _ _ _ _ (fun e => by injection e; omega)]
      exact World.cell?_setCell_same' _ _ _ (by rw [a6]; rfl)
    have a7' : (W.setCell ⟨w.heap.size, 0, none⟩ (.slice ao vvs.length co)).cell? ⟨w.heap.size + 1, 0, none⟩ = some v7 := by
      rw [World.cell?_setCell_other _ _ _ _ (fun e => by injection e; omega)]; exact a7
    have f7' : (W.setCell ⟨w.heap.size, 0, none⟩ (.slice ao vvs.length co)).frozen? ⟨w.heap.size + 1, 0, none⟩ = false := (World.frozen?_setCell _ _ _ _).trans f7
    have d2 : W'.cell? ⟨w.heap.size + 1, 0, none⟩ = some (.int .i64 0) := by
      rw [← hW']; exact World.cell?_setCell_same' _ _ _ (by rw [a7']; rfl)
    have hD' : W'.heap[W0.heap.size]? = some (.deferred (some [])) := (hkb.same _ (Array.getElem?_eq_some_iff.1 hD).1 (fun h => by omega)).trans hD
    have hrw : W'.ownsRow W0.heap.size 34 1 (.slice ao vvs.length co) vvs.length vvs := ownsRow_frm2 b3 (fun q hq => hkb.same _ (b3.lt q hq).2 (fun h => by have := (b3.lt q hq).1; omega))
    have HR : Hid (Terms (W'.putObj W0.heap.size (.deferred none)) (.slice ao vvs.length co) (tsK xs)) :=
      hid ⟨vvs, putObj_rowK hD' rfl (RowK.of_owns hrw (by omega)), by rw [tsK_len]; exact b5, fun i v t hv ht => putObj_ints hD' rfl ((b6 i v t hv ht).turn (hkb.mono (M' := fun k => (M k ∨ k = W0.heap.size + 1) ∨ O k) (fun k _ h => by
        rcases h with rfl | rfl
        · exact Or.inl (Or.inl a5.1)
        · exact Or.inl (Or.inl a5.2.1))) (fun k h => Or.inl h)).here⟩
    have HB := hid (putObj_below (.deferred none) (a4.trans (hkb.below a4.size (fun k hk => by omega))) (by omega : w.heap.size ≤ W0.heap.size))
    have HBR : Hid (RunR s g p (tsK xs) 0) := hid ⟨a2, Or.inl ⟨rfl, by rw [tsK_len]; exact hlen⟩⟩
    have HDD := hid hD'
    have e1 := putObj_cell (o' := .deferred none) hD' rfl d1
    have e2 := putObj_cell (o' := .deferred none) hD' rfl d2
    clear b3 b4 b5 b6 a2 hrw hD' hkb d1 d2 hD
    go_wp2
    try rw [hW']
    refine leave_mark (v := .tuple #[.slice ao vvs.length co, .int .i64 0]) HDD.out (by simp [results, Tryz.results113, go_sem, e1, e2]) ?_
    exact ⟨_, _, _, rfl, HBR.out, HR.out, HB.out⟩
  case refine_7 =>
    rintro c pre M O W hX hD hMD
    obtain ⟨rfl, a4, a5, a5w, ⟨uo, vvs, l, e, b1, b1', br, b3, b4, b5, b6⟩⟩ := hX
    have h60 := proof60 (asked_parts hask).2
    have hll : l.length ≤ p.length := by rcases br.2 with h | h <;> omega
    obtain ⟨ao, co, rfl⟩ := ownsRow_slice2 b3
    have HR : Hid (Terms (W.putObj W0.heap.size (.deferred none)) (.slice ao vvs.length co) l) :=
      hid ⟨vvs, putObj_rowK hD rfl (RowK.of_owns b3 (by omega)), b5, fun i v t hv ht => putObj_ints hD rfl (b6 i v t hv ht).here⟩
    have HB := hid (putObj_below (.deferred none) a4 (by omega : w.heap.size ≤ W0.heap.size))
    have HBR := hid br
    have e1 := putObj_cell (o' := .deferred none) hD rfl b1
    have e2 := putObj_cell (o' := .deferred none) hD rfl b1'
    clear b3 b4 b5 b6 br
    gi_wp2
    refine leave_mark (v := .tuple #[.slice ao vvs.length co, .int .i64 e]) hD (by simp [results, Tryz.results113, go_sem, e1, e2]) ?_
    exact ⟨_, _, _, rfl, HBR.out, HR.out, HB.out⟩
def RunQ (s : Sg) (g : List (List Int)) (p : List St) (l : List (List Int)) (n e : Int) : Prop :=
  (askedB s g p = false ∧ l = [] ∧ n = 0 ∧ e = 1) ∨ (askedB s g p = true ∧ RunR s g p l e ∧ n = if e = 0 then -1 else (l.length : Int))
theorem terms_nilK (w : World) : Terms w (.slice none 0 0) [] := ⟨[], ⟨by simp, none, 0, rfl, Nat.le_refl _, by simp, fun _ => rfl, by simp⟩, rfl, fun i u t h => by simp at h⟩
set_option maxHeartbeats 2000000 in
theorem kernel_Run (vs vg vp : Value) (s : Sg) (g : List (List Int)) (p : List St) (w : World) (hs : SignAt w vs s) (hg : Terms w vg g) (hp : StepsAt w vp p) (hs1 : s.length ≤ 1000) :
    Calls Tryz.prog 64 #[vs, vg, vp] w fun e w' => ∃ u l n er, e = .returned (.tuple #[u, .int .i64 n, .int .i64 er]) ∧ RunQ s g p l n er ∧ Terms w' u l ∧ Below w.heap.size w w' := by
  have HA := hid (kernel_asked vs vg vp s g p w hs hg hp hs1)
  cases hask : askedB s g p
  · rw [hask] at HA
    have HQ : Hid (RunQ s g p [] 0 1) := hid (Or.inl ⟨hask, rfl, rfl, rfl⟩)
    clear hask
    go_enter Tryz.func64, Tryz.ntmps64
    go_wp2_with (go_at_call 112; refine HA.out.mono ?_; rintro e w1 ⟨rfl, hb1⟩)
    go_ret3
    exact ⟨_, _, _, _, rfl, HQ.out, terms_nilK _, hb1⟩
  · rw [hask] at HA
    have HK := hid hask
    have HR := hid (fun (X : World) (hX : Below w.heap.size w X) => kernel_run vs vg vp s g p X hask (hs.below hX) (hg.below hX) (hp.below hX) hs1)
    clear hask
    go_enter Tryz.func64, Tryz.ntmps64
    go_wp2_with fail
    refine HA.out.mono ?_
    rintro e w1 ⟨rfl, hb1⟩
    go_wp2_with fail
    refine (HR.out _ hb1).mono ?_
    rintro e w2 ⟨u, l, er, rfl, hr, hT, hb2⟩
    have HB2 := hid (hb1.trans (hb2.mono hb1.size))
    obtain ⟨ua, uc, rfl, hcap, -⟩ := hT.open
    have HT := hid hT
    have HRR := hid hr
    clear hb1 hb2 hT hr
    by_cases h0 : er = 0
    · subst h0
      have HQ : Hid (RunQ s g p l (-1) 0) := hid (Or.inr ⟨HK.out, HRR.out, by simp⟩)
      go_wp2
      go_ret3
      exact ⟨_, _, _, _, rfl, HQ.out, HT.out, HB2.out⟩
    · have n0 : (er != 0) = true := by simpa using h0
      have HQ : Hid (RunQ s g p l (l.length : Int) er) := hid (Or.inr ⟨HK.out, HRR.out, by rw [if_neg h0]⟩)
      go_wp2
      go_ret3
      exact ⟨_, _, _, _, rfl, HQ.out, HT.out, HB2.out⟩
end Go.Proofs.YtmpjaakkjhmpmaaGreatDoor
