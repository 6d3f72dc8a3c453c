/-
  WHAT IT HOLDS: contract of the iterator that steps of package kernel hands back. Conditions: the arguments read as data; a valid proof of valid givens; a small sign.
  WHAT IT HOLDS: contracts of run and Run of package kernel: what all steps say. Conditions: the arguments read as data; a small sign.
  WHAT IT HOLDS: plain laws: what is detached, and what a proof says, is one thing alone; what the proofs of a moved statement say. No program in sight.
-/
import Derived.Stop.RegionWithIn
import Derived.Deep.RegionHeld3
import Derived.Test.YtpflkjldapmgdaaGreatZRCarryDerives25
import Derived.Test.YtpflkjldapmgdaaGreatZRCarryDerives6
import Derived.Test.YtpflkjldapmgdaaGreatZRCarryDerives21
import Derived.Test.YtpflkjldapmgdaaGreatZRCarryDerives5
namespace Go.Proofs.YtpflkjldapmgdaaGreat
open Go Go.RowKit Go.Maps Go.Shelf
attribute [local go_sem] Oper.semAt_some
/-- what the iterator yields: the value, the term that it reads as, and the error. -/
abbrev KE := Value × List Int × Int
/-- what a step says where l was said. -/
def sayR (s : Sg) (g l : List (List Int)) (x : St) (y : List Int × Int) : Prop :=
  if x.1 = 1 then y = (canonL (g.getD x.2.1.toNat []), 0) else DetR s (l.getD x.2.1.toNat []) (l.getD x.2.2.toNat []) y
/-- what the iterator holds between its rounds. -/
structure KsI (wb : World) (bs bg bp B : Nat) (vs vg vp : Value) (pre : List KE) (M O : Nat → Prop) (W : World) : Prop where
  mb : ∀ q, M q → q < W.heap.size ∧ wb.heap.size ≤ q ∧ q ≠ bs ∧ q ≠ bg ∧ q ≠ bp ∧ q ≠ B + 1 ∧ ¬ O q
  ob : ∀ q, O q → q < W.heap.size ∧ B ≤ q ∧ q ≠ B + 1
  ol : O B
  bel : Below wb.heap.size wb W
  cs : W.cell? ⟨bs, 0, none⟩ = some vs
  cg : W.cell? ⟨bg, 0, none⟩ = some vg
  cp : W.cell? ⟨bp, 0, none⟩ = some vp
  f0 : W.cell? ⟨B + 1, 0, none⟩ = some (.func (.func 244) #[] #[.pointer (some ⟨bs, 0, none⟩), .pointer (some ⟨bg, 0, none⟩)])
  f1 : W.cell? ⟨B + 1, 1, none⟩ = some (.func (.func 245) #[] #[.pointer (some ⟨bs, 0, none⟩), .pointer (some ⟨B, 0, none⟩)])
  row : ∃ ul vvs, W.cell? ⟨B, 0, none⟩ = some ul ∧ W.frozen? ⟨B, 0, none⟩ = false ∧ W.ownsRow B 28 1 ul vvs.length vvs ∧ (∀ q, ul.ownBlock = some q → O q ∧ q ≠ B) ∧ vvs.length = pre.length ∧
    ∀ (i : Nat) (v : Value) (x : KE), vvs[i]? = some v → pre[i]? = some x → Safe (fun k => M k ∨ O k) (fun W => Ints W v x.2.1) W
theorem ownsRow_frm2 {w w' : World} {b : Nat} {e : TypeId} {k : Nat} {v : Value} {n : Nat} {xs : List Value} (h : w.ownsRow b e k v n xs) (hs : ∀ q, v.ownBlock = some q → w'.heap[q]? = w.heap[q]?) : w'.ownsRow b e k v n xs := by
  obtain ⟨h1, h2⟩ := h
  refine ⟨h1, ?_⟩
  rcases h2 with h2 | ⟨g, cap, cur, r1, r2, r3, r4⟩
  · exact .inl h2
  · subst r1
    exact .inr ⟨g, cap, cur, rfl, r2, by rw [hs g rfl]; exact r3, r4⟩
theorem KsI.cell {W W' : World} {p : Addr} {v : Value} (h : W.cell? p = some v) (hs : W'.heap[p.block]? = W.heap[p.block]?) : W'.cell? p = some v := (World.cell?_of_block hs).trans h
/-- kept while the others' blocks turn. -/
theorem KsI.turn {wb : World} {bs bg bp B : Nat} {vs vg vp : Value} {pre : List KE} {M M' O : Nat → Prop} {W W' : World} (h : KsI wb bs bg bp B vs vg vp pre M O W) (hB : wb.heap.size ≤ B) (hbB : bs < B ∧ bg < B ∧ bp < B) (hBW : B + 1 < W.heap.size)
    (hk : Kb M W W') (hM : ∀ k, M' k → M k ∨ W.heap.size ≤ k) (hMs : ∀ k, M' k → k < W'.heap.size) : KsI wb bs bg bp B vs vg vp pre M' O W' := by
  obtain ⟨a1, a2, a3, a4, a5, a6, a7, a8, a9, ul, vvs, b1, b2, b3, b4, b5, b6⟩ := h
  have hsz := hk.size
  have hbB := hbB
  have keep : ∀ q, q < W.heap.size → (M q → False) → W'.heap[q]? = W.heap[q]? := fun q h1 h2 => hk.same q h1 h2
  have eB := keep B (by omega) (fun h => (a1 _ h).2.2.2.2.2.2 a3)
  have eB1 := keep (B + 1) hBW (fun h => (a1 _ h).2.2.2.2.2.1 rfl)
  refine ⟨fun q hq => ?_, fun q hq => ⟨by have := (a2 q hq).1; omega, (a2 q hq).2⟩, a3, a4.trans (hk.below a4.size (fun k hk => (a1 k hk).2.1)), KsI.cell a5 (keep _ (by show bs < _; omega) (fun h => (a1 _ h).2.2.1 rfl)), KsI.cell a6 (keep _ (by show bg < _; omega) (fun h => (a1 _ h).2.2.2.1 rfl)), KsI.cell a7 (keep _ (by show bp < _; omega) (fun h => (a1 _ h).2.2.2.2.1 rfl)),
    KsI.cell a8 eB1, KsI.cell a9 eB1, ul, vvs, KsI.cell b1 eB, (World.frozen?_of_block eB).trans b2, ?_, b4, b5, fun i v x h1 h2 => (b6 i v x h1 h2).turn (hk.mono (M' := fun k => M k ∨ O k) (fun k _ h => Or.inl h)) (fun k h => ?_)⟩
  · rcases hM q hq with h | h
    · have := a1 q h
      exact ⟨hMs q hq, this.2.1, this.2.2.1, this.2.2.2.1, this.2.2.2.2.1, this.2.2.2.2.2.1, this.2.2.2.2.2.2⟩
    · exact ⟨hMs q hq, by omega, by omega, by omega, by omega, by omega, fun ho => by have := (a2 q ho).1; omega⟩
  · refine ownsRow_frm2 b3 (fun q hq => keep q (b3.lt q hq).2 (fun h => (a1 q h).2.2.2.2.2.2 (b4 q hq).1))
  · rcases h with h | h
    · rcases hM k h with h | h
      · exact Or.inl (Or.inl h)
      · exact Or.inr h
    · exact Or.inl (Or.inr h)
/-- what a step says is put behind. -/
theorem KsI.push {wb : World} {bs bg bp B : Nat} {vs vg vp : Value} {pre : List KE} {M O : Nat → Prop} {W W6 W7 : World} {x : KE} (h : KsI wb bs bg bp B vs vg vp pre M O W) (hB : wb.heap.size ≤ B) (hbB : bs < B ∧ bg < B ∧ bp < B) (hBW : B + 1 < W.heap.size)
    {ul : Value} {vvs : List Value} (c0 : W.cell? ⟨B, 0, none⟩ = some ul) (f0 : W.frozen? ⟨B, 0, none⟩ = false) (hrow : ∀ q, ul.ownBlock = some q → O q ∧ q ≠ B) (hlen : vvs.length = pre.length)
    (hall : ∀ (i : Nat) (v : Value) (x : KE), vvs[i]? = some v → pre[i]? = some x → Safe (fun k => M k ∨ O k) (fun W => Ints W v x.2.1) W)
    (hb : Below W.heap.size W W6) (hx : Safe (fun k => M k ∨ O k) (fun W => Ints W x.1 x.2.1) W6)
    {g cap n : Nat} (hn : vvs.length = n) (hown : W7.ownsRow B 28 1 (.slice (some ⟨g, 0, none⟩) (n + 1) cap) (n + 1) (vvs ++ [x.1])) (hg : W6.grownBy W7 ul.ownBlock) (hat : ul.ownBlock = some g ∨ g = W6.heap.size) (hlt : g < W7.heap.size) :
    ∃ O' : Nat → Prop, (∀ k, O' k → (O k ∨ W.heap.size ≤ k) ∧ k < (W7.setCell ⟨B, 0, none⟩ (.slice (some ⟨g, 0, none⟩) (n + 1) cap)).heap.size) ∧
      Kb O W (W7.setCell ⟨B, 0, none⟩ (.slice (some ⟨g, 0, none⟩) (n + 1) cap)) ∧
      KsI wb bs bg bp B vs vg vp (pre ++ [x]) M O' (W7.setCell ⟨B, 0, none⟩ (.slice (some ⟨g, 0, none⟩) (n + 1) cap)) ∧
      Safe (fun k => M k ∨ O' k) (fun W => Ints W x.1 x.2.1) (W7.setCell ⟨B, 0, none⟩ (.slice (some ⟨g, 0, none⟩) (n + 1) cap)) := by
  subst hn
  obtain ⟨a1, a2, a3, a4, a5, a6, a7, a8, a9, -⟩ := h
  have hs67 := hg.size
  have hs06 := hb.size
  have hbB := hbB
  have k67 : Kb (fun k => O k ∧ k ≠ B) W6 W7 := Kb.grown hg (fun k hk => Or.inl (hrow k hk))
  have k7 : Kb (fun k => O k ∧ k ≠ B) W W7 := (Kb.of_below hb).trans k67 (fun k hk => Or.inl hk)
  have e0 : W7.heap[B]? = W.heap[B]? := k7.same _ (by omega) (fun h => h.2 rfl)
  have c7 : W7.cell? ⟨B, 0, none⟩ = some ul := KsI.cell c0 e0
  have k68 : Kb O W6 (W7.setCell ⟨B, 0, none⟩ (.slice (some ⟨g, 0, none⟩) (vvs.length + 1) cap)) := (k67.mono (M' := O) (fun k _ hk => hk.1)).trans (Kb.setCell (M := O) _ a3) (fun k hk => Or.inl hk)
  have k8 : Kb O W (W7.setCell ⟨B, 0, none⟩ (.slice (some ⟨g, 0, none⟩) (vvs.length + 1) cap)) := (Kb.of_below hb).trans k68 (fun k hk => Or.inl hk)
  have hsz : (W7.setCell ⟨B, 0, none⟩ (.slice (some ⟨g, 0, none⟩) (vvs.length + 1) cap)).heap.size = W7.heap.size := by simp [World.setCell]
  have hgO : O g ∨ W6.heap.size ≤ g := by
    rcases hat with h | h
    · exact Or.inl (hrow g h).1
    · exact Or.inr (by omega)
  have hgB : B ≤ g ∧ g ≠ B ∧ g ≠ B + 1 := by
    rcases hat with h | h
    · have h1 := hrow g h
      exact ⟨(a2 g h1.1).2.1, h1.2, (a2 g h1.1).2.2⟩
    · exact ⟨by omega, by omega, by omega⟩
  have hO6 : ∀ k, (O k ∨ k = g) → O k ∨ W6.heap.size ≤ k := fun k hk => by
    rcases hk with hk | rfl
    · exact Or.inl hk
    · exact hgO
  have hO0 : ∀ k, (O k ∨ k = g) → O k ∨ W.heap.size ≤ k := fun k hk => (hO6 k hk).imp id (fun h => by omega)
  have keep : ∀ q, q < W.heap.size → (O q → False) → (W7.setCell ⟨B, 0, none⟩ (.slice (some ⟨g, 0, none⟩) (vvs.length + 1) cap)).heap[q]? = W.heap[q]? := fun q h1 h2 => k8.same q h1 h2
  have nO : ∀ q, q < B → O q → False := fun q h1 h2 => by have := (a2 q h2).2.1; omega
  have eB1 := keep (B + 1) hBW (fun h => (a2 _ h).2.2 rfl)
  have hX8 : Safe (fun k => M k ∨ (O k ∨ k = g)) (fun W => Ints W x.1 x.2.1) (W7.setCell ⟨B, 0, none⟩ (.slice (some ⟨g, 0, none⟩) (vvs.length + 1) cap)) :=
    hx.turn (k68.mono (M' := fun k => M k ∨ O k) (fun k _ h => Or.inr h)) (fun k hk => by
      rcases hk with hk | hk
      · exact Or.inl (Or.inl hk)
      · exact (hO6 k hk).imp Or.inr id)
  refine ⟨fun k => O k ∨ k = g, fun k hk => ⟨hO0 k hk, ?_⟩, k8, ⟨fun q hq => ?_, fun q hq => ?_, Or.inl a3, a4.trans (k8.below a4.size (fun k hk => by have := (a2 k hk).2.1; omega)), KsI.cell a5 (keep _ (World.block_lt_of_cell? _ _ a5) (nO _ (by show bs < B; omega))), KsI.cell a6 (keep _ (World.block_lt_of_cell? _ _ a6) (nO _ (by show bg < B; omega))), KsI.cell a7 (keep _ (World.block_lt_of_cell? _ _ a7) (nO _ (by show bp < B; omega))),
    KsI.cell a8 eB1, KsI.cell a9 eB1, _, vvs ++ [x.1], World.cell?_setCell_same' _ _ _ (by rw [c7]; rfl), (World.frozen?_setCell _ _ _ _).trans ((World.frozen?_of_block e0).trans f0), ?_, fun q hq => ?_, by simp [hlen], fun i v y hv hy => ?_⟩, hX8⟩
  · rw [hsz]
    rcases hk with hk | rfl
    · have := (a2 k hk).1; omega
    · exact hlt
  · have := a1 q hq
    refine ⟨by rw [hsz]; omega, this.2.1, this.2.2.1, this.2.2.2.1, this.2.2.2.2.1, this.2.2.2.2.2.1, fun ho => ?_⟩
    rcases hO0 q ho with h | h
    · exact this.2.2.2.2.2.2 h
    · omega
  · rcases hq with hq | rfl
    · have := a2 q hq
      exact ⟨by rw [hsz]; omega, this.2⟩
    · exact ⟨by rw [hsz]; exact hlt, hgB.1, hgB.2.2⟩
  · refine ownsRow_frm2 (by simpa using hown) (fun k hk => Below.heap_setCell _ _ _ _ (fun e => ?_))
    have h1 : g = k := by simpa [Value.ownBlock] using hk
    have h2 : k = B := e
    exact hgB.2.1 (h1.trans h2)
  · have h1 : g = q := by simpa [Value.ownBlock] using hq
    subst h1
    exact ⟨Or.inr rfl, hgB.2.1⟩
  · rcases Nat.lt_or_ge i vvs.length with h1 | h1
    · rw [List.getElem?_append_left h1] at hv
      rw [List.getElem?_append_left (by omega)] at hy
      exact (hall i v y hv hy).turn (k8.mono (M' := fun k => M k ∨ O k) (fun k _ h => Or.inr h)) (fun k hk => by
        rcases hk with hk | hk
        · exact Or.inl (Or.inl hk)
        · exact (hO0 k hk).imp Or.inr id)
    · rw [List.getElem?_append_right h1] at hv
      rw [List.getElem?_append_right (by omega)] at hy
      rw [← hlen] at hy
      obtain ⟨j, hj⟩ : ∃ j, i - vvs.length = j := ⟨_, rfl⟩
      rw [hj] at hv hy
      cases j with
      | zero =>
        simp at hv hy
        subst hv hy
        exact hX8
      | succ j => simp at hv
theorem proof60 {g : Int} {p : List St} (h : proofB g p = true) : p.length ≤ 60 := by
  unfold proofB at h
  simp only [Bool.and_eq_true] at h
  have := (inB_true.1 h.2).2
  omega
end Go.Proofs.YtpflkjldapmgdaaGreat
namespace Go.Proofs.YtpflkjldapmgdaaGreat
open Go Go.RowKit Go.Maps Go.Shelf
attribute [local go_sem] Oper.semAt_some
/-- what a proof says: the terms, and the error of the first step that says nothing. -/
def RunR (s : Sg) (g : List (List Int)) (p : List St) (l : List (List Int)) (e : Int) : Prop :=
  (∀ i t, l[i]? = some t → ∃ st, p[i]? = some st ∧ sayR s g (l.take i) st (t, 0)) ∧ ((e = 0 ∧ l.length = p.length) ∨ (e ≠ 0 ∧ l.length < p.length ∧ ∃ st t, p[l.length]? = some st ∧ sayR s g l st (t, e)))
def tsK (pre : List KE) : List (List Int) := pre.map fun y => y.2.1
structure RuI (wb : World) (s : Sg) (g : List (List Int)) (p : List St) (B b6 b7 b8 : Nat) (pre : List KE) (M O : Nat → Prop) (W : World) : Prop where
  z : ∀ y ∈ pre, y.2.2 = 0
  say : ∀ i t, (tsK pre)[i]? = some t → ∃ st, p[i]? = some st ∧ sayR s g ((tsK pre).take i) st (t, 0)
  len : pre.length ≤ p.length
  bel : Below wb.heap.size wb W
  mm : M b6 ∧ M b7 ∧ M b8
  mw : ∀ k, M k → wb.heap.size ≤ k
  c6 : ∃ v, W.cell? ⟨b6, 0, none⟩ = some v ∧ W.frozen? ⟨b6, 0, none⟩ = false
  c7 : ∃ v, W.cell? ⟨b7, 0, none⟩ = some v ∧ W.frozen? ⟨b7, 0, none⟩ = false
  out : ∃ uo vvs, W.cell? ⟨b8, 0, none⟩ = some uo ∧ W.frozen? ⟨b8, 0, none⟩ = false ∧ W.ownsRow B 28 1 uo vvs.length vvs ∧ (∀ k, uo.ownBlock = some k → M k) ∧ vvs.length = pre.length ∧
    ∀ (i : Nat) (v : Value) (t : List Int), vvs[i]? = some v → (tsK pre)[i]? = some t → Safe (fun k => (M k ∨ k = B + 1) ∨ O k) (fun W => Ints W v t) W
theorem RuI.kb {wb : World} {s : Sg} {g : List (List Int)} {p : List St} {B b6 b7 b8 : Nat} {pre : List KE} {M O O' R : Nat → Prop} {W W' : World} (h : RuI wb s g p B b6 b7 b8 pre M O W) (hB : wb.heap.size ≤ B) (h6 : b6 < B) (h7 : b7 < B) (h8 : b8 < B)
    (hk : Kb R W W') (hR : ∀ k, R k → (O k ∧ B + 2 ≤ k ∧ ¬ M k) ∨ (k = B + 1 ∧ ¬ M k)) (hO : ∀ k, O' k → O k ∨ W.heap.size ≤ k) : RuI wb s g p B b6 b7 b8 pre M O' W' := by
  obtain ⟨a1, a2, a3, a4, a5, a5w, ⟨v6, a6, f6⟩, ⟨v7, a7, f7⟩, ⟨uo, vvs, b1, b2, b3, b4, b5, b6'⟩⟩ := h
  have keep : ∀ q, q < W.heap.size → M q → W'.heap[q]? = W.heap[q]? := fun q h1 h2 => hk.same q h1 (fun h => by rcases hR q h with h | h; exact h.2.2 h2; exact h.2 h2)
  have e6 := keep b6 (World.block_lt_of_cell? _ _ a6) a5.1
  have e7 := keep b7 (World.block_lt_of_cell? _ _ a7) a5.2.1
  have e8 := keep b8 (World.block_lt_of_cell? _ _ b1) a5.2.2
  refine ⟨a1, a2, a3, a4.trans (hk.below a4.size (fun k h => by rcases hR k h with h | h <;> omega)), a5, a5w, ⟨v6, KsI.cell a6 e6, (World.frozen?_of_block e6).trans f6⟩, ⟨v7, KsI.cell a7 e7, (World.frozen?_of_block e7).trans f7⟩,
    uo, vvs, KsI.cell b1 e8, (World.frozen?_of_block e8).trans b2, ownsRow_frm2 b3 (fun q hq => keep q (b3.lt q hq).2 (b4 q hq)), b4, b5, fun i v t h1 h2 => (b6' i v t h1 h2).turn (hk.mono (M' := fun k => (M k ∨ k = B + 1) ∨ O k) (fun k _ h => ?_)) (fun k h => ?_)⟩
  · rcases hR k h with h | h
    · exact Or.inr h.1
    · exact Or.inl (Or.inr h.1)
  · rcases h with h | h
    · exact Or.inl (Or.inl h)
    · exact (hO k h).imp Or.inr id
theorem RuI.grw {wb : World} {s : Sg} {g : List (List Int)} {p : List St} {B b6 b7 b8 : Nat} (hB : wb.heap.size ≤ B) (h6 : b6 < B) (h7 : b7 < B) (h8 : b8 < B) (pre : List KE) : GrwO B (RuI wb s g p B b6 b7 b8 pre) :=
  ⟨fun M O O' W W' h hk hO' hO => h.kb hB h6 h7 h8 hk (fun k hk => Or.inl ⟨hk, hO k hk⟩) hO',
   fun M O W o o' ho hc h hm => h.kb hB h6 h7 h8 (R := fun k => k = B + 1) (Kb.put (M := fun k => k = B + 1) _ rfl) (fun k hk => Or.inr ⟨hk, by rw [hk]; exact hm⟩) (fun k hk => Or.inl hk)⟩
/-- how it ends early: the answer lies in the result's cells. -/
structure RuX (wb : World) (s : Sg) (g : List (List Int)) (p : List St) (B b6 b7 b8 : Nat) (c : Code) (pre : List KE) (M O : Nat → Prop) (W : World) : Prop where
  ret : c = .ret
  bel : Below wb.heap.size wb W
  mm : M b6 ∧ M b7
  mw : ∀ k, M k → wb.heap.size ≤ k
  ans : ∃ uo vvs l e, W.cell? ⟨b6, 0, none⟩ = some uo ∧ W.cell? ⟨b7, 0, none⟩ = some (.int .i64 e) ∧ RunR s g p l e ∧ W.ownsRow B 28 1 uo vvs.length vvs ∧ (∀ k, uo.ownBlock = some k → M k) ∧ vvs.length = l.length ∧
    ∀ (i : Nat) (v : Value) (t : List Int), vvs[i]? = some v → l[i]? = some t → Safe (fun k => (M k ∨ k = B + 1) ∨ O k) (fun W => Ints W v t) W
theorem RuX.kb {wb : World} {s : Sg} {g : List (List Int)} {p : List St} {B b6 b7 b8 : Nat} {c : Code} {pre : List KE} {M O O' R : Nat → Prop} {W W' : World} (h : RuX wb s g p B b6 b7 b8 c pre M O W) (hB : wb.heap.size ≤ B)
    (hk : Kb R W W') (hR : ∀ k, R k → (O k ∧ B + 2 ≤ k ∧ ¬ M k) ∨ (k = B + 1 ∧ ¬ M k)) (hO : ∀ k, O' k → O k ∨ W.heap.size ≤ k) : RuX wb s g p B b6 b7 b8 c pre M O' W' := by
  obtain ⟨a1, a4, a5, a5w, ⟨uo, vvs, l, e, b1, b1', br, b3, b4, b5, b6'⟩⟩ := h
  have keep : ∀ q, q < W.heap.size → M q → W'.heap[q]? = W.heap[q]? := fun q h1 h2 => hk.same q h1 (fun h => by rcases hR q h with h | h; exact h.2.2 h2; exact h.2 h2)
  refine ⟨a1, a4.trans (hk.below a4.size (fun k h => by rcases hR k h with h | h <;> omega)), a5, a5w,
    uo, vvs, l, e, KsI.cell b1 (keep _ (World.block_lt_of_cell? _ _ b1) a5.1), KsI.cell b1' (keep _ (World.block_lt_of_cell? _ _ b1') a5.2), br, ownsRow_frm2 b3 (fun q hq => keep q (b3.lt q hq).2 (b4 q hq)), b4, b5, fun i v t h1 h2 => (b6' i v t h1 h2).turn (hk.mono (M' := fun k => (M k ∨ k = B + 1) ∨ O k) (fun k _ h => ?_)) (fun k h => ?_)⟩
  · rcases hR k h with h | h
    · exact Or.inr h.1
    · exact Or.inl (Or.inr h.1)
  · rcases h with h | h
    · exact Or.inl (Or.inl h)
    · exact (hO k h).imp Or.inr id
theorem RuX.grw {wb : World} {s : Sg} {g : List (List Int)} {p : List St} {B b6 b7 b8 : Nat} (hB : wb.heap.size ≤ B) (c : Code) (pre : List KE) : GrwO B (RuX wb s g p B b6 b7 b8 c pre) :=
  ⟨fun M O O' W W' h hk hO' hO => h.kb hB hk (fun k hk => Or.inl ⟨hk, hO k hk⟩) hO',
   fun M O W o o' ho hc h hm => h.kb hB (R := fun k => k = B + 1) (Kb.put (M := fun k => k = B + 1) _ rfl) (fun k hk => Or.inr ⟨hk, by rw [hk]; exact hm⟩) (fun k hk => Or.inl hk)⟩
theorem tsK_snoc (pre : List KE) (x : KE) : tsK (pre ++ [x]) = tsK pre ++ [x.2.1] := by simp [tsK]
theorem tsK_len (pre : List KE) : (tsK pre).length = pre.length := by simp [tsK]
theorem RuI.push {wb : World} {s : Sg} {g : List (List Int)} {p : List St} {B b6 b7 b8 : Nat} {pre : List KE} {M O : Nat → Prop} {W W6 W7 : World} {x : KE} (h : RuI wb s g p B b6 b7 b8 pre M O W) (hB : wb.heap.size ≤ B) (h6 : b6 < B) (h7 : b7 < B) (h8 : b8 < B) (hne : b6 ≠ b8 ∧ b7 ≠ b8) (hw8 : wb.heap.size ≤ b8) (hBW : B + 2 ≤ W.heap.size)
    (hx0 : x.2.2 = 0) {st : St} (hst : p[pre.length]? = some st) (hsay : sayR s g (tsK pre) st (x.2.1, x.2.2)) (hS : Safe (fun k => (M k ∨ k = B + 1) ∨ O k) (fun W => Ints W x.1 x.2.1) W) (hMl : ∀ k, M k → k < W.heap.size) (hOM : ∀ k, O k → ¬ M k)
    {uo : Value} {vvs : List Value} (c0 : W.cell? ⟨b8, 0, none⟩ = some uo) (f0 : W.frozen? ⟨b8, 0, none⟩ = false) (hrow : ∀ k, uo.ownBlock = some k → M k ∧ B ≤ k) (hlen : vvs.length = pre.length)
    (hall : ∀ (i : Nat) (v : Value) (t : List Int), vvs[i]? = some v → (tsK pre)[i]? = some t → Safe (fun k => (M k ∨ k = B + 1) ∨ O k) (fun W => Ints W v t) W)
    (hb : Below W.heap.size W W6) {g' cap n : Nat} (hn : vvs.length = n) (hown : W7.ownsRow B 28 1 (.slice (some ⟨g', 0, none⟩) (n + 1) cap) (n + 1) (vvs ++ [x.1])) (hg : W6.grownBy W7 uo.ownBlock) (hat : uo.ownBlock = some g' ∨ g' = W6.heap.size) (hlt : g' < W7.heap.size) :
    ∃ M' : Nat → Prop, (∀ k, M' k → (M k ∨ W.heap.size ≤ k) ∧ k < (W7.setCell ⟨b8, 0, none⟩ (.slice (some ⟨g', 0, none⟩) (n + 1) cap)).heap.size) ∧
      Kb (fun k => M k ∨ W.heap.size ≤ k) W (W7.setCell ⟨b8, 0, none⟩ (.slice (some ⟨g', 0, none⟩) (n + 1) cap)) ∧
      RuI wb s g p B b6 b7 b8 (pre ++ [x]) M' O (W7.setCell ⟨b8, 0, none⟩ (.slice (some ⟨g', 0, none⟩) (n + 1) cap)) := by
  subst hn
  obtain ⟨a1, a2, a3, a4, a5, a5w, ⟨v6, a6, f6⟩, ⟨v7, a7, f7⟩, -⟩ := h
  have hs67 := hg.size
  have hs06 := hb.size
  have k7 : Kb (fun k => (M k ∧ B ≤ k)) W W7 := (Kb.of_below hb).trans (Kb.grown (M := fun k => M k ∧ B ≤ k) hg (fun k hk => Or.inl (hrow k hk))) (fun k hk => Or.inl hk)
  have hgB : B ≤ g' := by
    rcases hat with h | h
    · exact (hrow g' h).2
    · omega
  have e0 : W7.heap[b8]? = W.heap[b8]? := k7.same _ (by omega) (fun h => by omega)
  have e6 : W7.heap[b6]? = W.heap[b6]? := k7.same _ (by omega) (fun h => by omega)
  have e7 : W7.heap[b7]? = W.heap[b7]? := k7.same _ (by omega) (fun h => by omega)
  have c8 : W7.cell? ⟨b8, 0, none⟩ = some uo := KsI.cell c0 e0
  have kf : Kb M W (W7.setCell ⟨b8, 0, none⟩ (.slice (some ⟨g', 0, none⟩) (vvs.length + 1) cap)) := (k7.mono (M' := M) (fun k _ hk => hk.1)).trans (Kb.setCell (M := M) _ a5.2.2) (fun k hk => Or.inl hk)
  have hsz : (W7.setCell ⟨b8, 0, none⟩ (.slice (some ⟨g', 0, none⟩) (vvs.length + 1) cap)).heap.size = W7.heap.size := by simp [World.setCell]
  have kfB := kf.mono (M' := fun k => (M k ∨ k = B + 1) ∨ O k) (fun k _ hk => Or.inl (Or.inl hk))
  have hsub : ∀ k, ((M k ∨ (W.heap.size ≤ k ∧ k < W7.heap.size)) ∨ k = B + 1) ∨ O k → ((M k ∨ k = B + 1) ∨ O k) ∨ W.heap.size ≤ k := fun k hk => by
    rcases hk with (((hk | hk) | hk) | hk)
    · exact Or.inl (Or.inl (Or.inl hk))
    · exact Or.inr hk.1
    · exact Or.inl (Or.inl (Or.inr hk))
    · exact Or.inl (Or.inr hk)
  have o6 : ∀ b, b ≠ b8 → W7.heap[b]? = W.heap[b]? → (W7.setCell ⟨b8, 0, none⟩ (.slice (some ⟨g', 0, none⟩) (vvs.length + 1) cap)).heap[b]? = W.heap[b]? := fun b hne e => (Below.heap_setCell _ _ _ _ (fun h => hne h)).trans e
  refine ⟨fun k => M k ∨ (W.heap.size ≤ k ∧ k < W7.heap.size), fun k hk => ?_, kf.mono (fun k _ hk => Or.inl hk), ⟨fun y hy => ?_, fun i t hi => ?_, ?_, a4.trans (kf.below a4.size a5w), ⟨Or.inl a5.1, Or.inl a5.2.1, Or.inl a5.2.2⟩, fun k hk => ?_, ⟨v6, KsI.cell a6 (o6 b6 hne.1 e6), (World.frozen?_of_block (o6 b6 hne.1 e6)).trans f6⟩, ⟨v7, KsI.cell a7 (o6 b7 hne.2 e7), (World.frozen?_of_block (o6 b7 hne.2 e7)).trans f7⟩,
    ⟨_, vvs ++ [x.1], World.cell?_setCell_same' _ _ _ (by rw [c8]; rfl), (World.frozen?_setCell _ _ _ _).trans ((World.frozen?_of_block e0).trans f0), ?_, fun k hk => ?_, by simp [hlen], fun i v t hv ht => ?_⟩⟩⟩
  · rw [hsz]
    rcases hk with hk | hk
    · exact ⟨Or.inl hk, by have := hMl k hk; omega⟩
    · exact ⟨Or.inr hk.1, hk.2⟩
  · rcases List.mem_append.1 hy with h | h
    · exact a1 y h
    · simp at h; rw [h]; exact hx0
  · rw [tsK_snoc] at hi ⊢
    rcases Nat.lt_or_ge i (tsK pre).length with h1 | h1
    · rw [List.getElem?_append_left h1] at hi
      rw [List.take_append_of_le_length (by omega)]
      exact a2 i t hi
    · rw [List.getElem?_append_right h1] at hi
      obtain ⟨j, hj⟩ : ∃ j, i - (tsK pre).length = j := ⟨_, rfl⟩
      rw [hj] at hi
      cases j with
      | zero =>
        have hie : i = (tsK pre).length := by omega
        simp at hi
        subst hi hie
        rw [List.take_left, tsK_len]
        exact ⟨st, hst, by rw [hx0] at hsay; exact hsay⟩
      | succ j => simp at hi
  · rw [List.length_append, List.length_singleton]
    exact (List.getElem?_eq_some_iff.1 hst).1
  · rcases hk with hk | hk
    · exact a5w k hk
    · omega
  · refine ownsRow_frm2 (by simpa using hown) (fun k hk => Below.heap_setCell _ _ _ _ (fun e => ?_))
    have h1 : g' = k := by simpa [Value.ownBlock] using hk
    have h2 : k = b8 := e
    omega
  · have h1 : g' = k := by simpa [Value.ownBlock] using hk
    subst h1
    rcases hat with h | h
    · exact Or.inl (hrow _ h).1
    · exact Or.inr ⟨by omega, hlt⟩
  · rw [tsK_snoc] at ht
    rcases Nat.lt_or_ge i vvs.length with h1 | h1
    · rw [List.getElem?_append_left h1] at hv
      rw [List.getElem?_append_left (by rw [tsK_len]; omega)] at ht
      exact (hall i v t hv ht).turn kfB hsub
    · rw [List.getElem?_append_right h1] at hv
      rw [List.getElem?_append_right (by rw [tsK_len]; omega), tsK_len] at ht
      rw [← hlen] at ht
      obtain ⟨j, hj⟩ : ∃ j, i - vvs.length = j := ⟨_, rfl⟩
      rw [hj] at hv ht
      cases j with
      | zero =>
        simp at hv ht
        subst hv ht
        exact hS.turn kfB hsub
      | succ j => simp at hv
end Go.Proofs.YtpflkjldapmgdaaGreat
namespace Go.Proofs.YtpflkjldapmgdaaGreat
open Go Go.RowKit
theorem DetR.unique {s : Sg} {m n : List Int} {x y : List Int × Int} (h : DetR s m n x) (k : DetR s m n y) : x = y := by
  rcases h with ⟨h1, rfl⟩ | ⟨h1, h2, h⟩
  · rcases k with ⟨-, rfl⟩ | ⟨k1, k2, -⟩
    · rfl
    · rw [k1, k2] at h1; cases h1
  · rcases k with ⟨k1, -⟩ | ⟨-, -, k⟩
    · rw [h1, h2] at k1; cases k1
    · rcases h with ⟨h3, rfl⟩ | ⟨A, B, rfl, hA, hB, hu⟩
      · rcases k with ⟨-, rfl⟩ | ⟨A, B, rfl, -⟩
        · rfl
        · simp at h3
      · rcases k with ⟨k3, -⟩ | ⟨A', B', e, hA', hB', ku⟩
        · simp at k3
        · have := cut_unique [A, B] [A', B'] [] [] (by intro z hz; simp at hz; rcases hz with rfl | rfl <;> assumption) (by intro z hz; simp at hz; rcases hz with rfl | rfl <;> assumption) rfl (by simpa using e)
          have e1 := this.1
          simp only [List.cons.injEq, and_true] at e1
          obtain ⟨rfl, rfl⟩ := e1
          exact UR.unique (hB.mono (by omega)) hu ku
theorem sayR.unique {s : Sg} {g l : List (List Int)} {x : St} {y z : List Int × Int} (h : sayR s g l x y) (k : sayR s g l x z) : y = z := by
  unfold sayR at h k
  split at h
  · rename_i hh
    rw [if_pos hh] at k
    rw [h, k]
  · rename_i hh
    rw [if_neg hh] at k
    exact h.unique k
theorem RunR.unique {s : Sg} {g : List (List Int)} {p : List St} {l l' : List (List Int)} {e e' : Int} (h : RunR s g p l e) (k : RunR s g p l' e') : l = l' ∧ e = e' := by
  -- as far as both say something, they say the same
  have key : ∀ n, n ≤ l.length → n ≤ l'.length → l.take n = l'.take n := by
    intro n
    induction n with
    | zero => intro _ _; simp
    | succ n ih =>
      intro h1 h2
      have e0 := ih (by omega) (by omega)
      rw [List.take_succ_eq_append_getElem (by omega), List.take_succ_eq_append_getElem (by omega), e0]
      obtain ⟨st, hst, hs1⟩ := h.1 n l[n] (by simp [List.getElem?_eq_getElem (show n < l.length by omega)])
      obtain ⟨st', hst', hs2⟩ := k.1 n l'[n] (by simp [List.getElem?_eq_getElem (show n < l'.length by omega)])
      rw [hst] at hst'
      cases hst'
      rw [e0] at hs1
      have := congrArg Prod.fst (hs1.unique hs2)
      simp only at this
      rw [this]
  have stop : ∀ {l l' : List (List Int)} {e e' : Int}, RunR s g p l e → RunR s g p l' e' → l.length < l'.length → l = l'.take l.length → False := by
    intro l l' e e' h k hlt ht
    have hl' : l'.length ≤ p.length := by rcases k.2 with ⟨-, h⟩ | ⟨-, h, -⟩ <;> omega
    rcases h.2 with ⟨-, h2⟩ | ⟨h1, h2, st, t, h3, h4⟩
    · omega
    · obtain ⟨st', hst', hs⟩ := k.1 l.length l'[l.length] (by simp [List.getElem?_eq_getElem hlt])
      rw [h3] at hst'
      cases hst'
      rw [← ht] at hs
      exact h1 (congrArg Prod.snd (h4.unique hs))
  rcases Nat.lt_trichotomy l.length l'.length with hlt | heq | hlt
  · have := key l.length (Nat.le_refl _) (by omega)
    rw [List.take_length] at this
    exact (stop h k hlt this).elim
  · have e0 := key l.length (Nat.le_refl _) (by omega)
    rw [List.take_length, heq, List.take_length] at e0
    subst e0
    refine ⟨rfl, ?_⟩
    rcases h.2 with ⟨h1, h2⟩ | ⟨h1, h2, st, t, h3, h4⟩
    · rcases k.2 with ⟨k1, -⟩ | ⟨-, k2, -⟩
      · omega
      · omega
    · rcases k.2 with ⟨-, k2⟩ | ⟨-, -, st', t', k3, k4⟩
      · omega
      · rw [h3] at k3
        cases k3
        exact congrArg Prod.snd (h4.unique k4)
  · have := key l'.length (by omega) (Nat.le_refl _)
    rw [List.take_length] at this
    exact (stop k h hlt this.symm).elim
end Go.Proofs.YtpflkjldapmgdaaGreat
