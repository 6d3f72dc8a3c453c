/-
  WHAT IT HOLDS: 'a slice of slices of numbers, all of the call's own memory, no two in one block' (NR), how it is kept, read and written. Over any program. No condition.
  WHAT IT HOLDS: append of a slice that reads as a list, and where the new slice lies. Over any program. No condition.
-/
import Derived.Deep.AppendLies
import Derived.Test.YtalodmochkodiaaGreatZRTopCarried5
namespace Go.Proofs.YtalodmochkodiaaGreat
open Go Go.RowKit Go.Maps

structure NR (w : World) (base : Nat) (E e : TypeId) (u : Value) (vs : List Value) (gs : List (List Int)) : Prop where
  top : w.ownsRow base E 1 u gs.length vs
  row : ∀ (j : Nat) (v : Value) (g : List Int), vs[j]? = some v → gs[j]? = some g → w.ownsRow base e 1 v g.length (g.map (Value.int .i64))
  two : ∀ (i j : Nat) (v v' : Value), vs[i]? = some v → vs[j]? = some v' → i ≠ j → v.ownBlock ≠ none → v.ownBlock ≠ v'.ownBlock
  apart : ∀ v ∈ vs, v.ownBlock ≠ none → v.ownBlock ≠ u.ownBlock
theorem NR.len {w : World} {base : Nat} {E e : TypeId} {u : Value} {vs : List Value} {gs : List (List Int)} (h : NR w base E e u vs gs) : vs.length = gs.length := by
  have := h.top.1; simpa using this
theorem NR.nil (w : World) (base : Nat) (E e : TypeId) : NR w base E e (.slice none 0 0) [] [] :=
  ⟨World.ownsRow_nil _ _ _ _, fun j v g h => by simp at h, fun i j v v' h => by simp at h, by simp⟩
theorem NR.below {w w' : World} {base : Nat} {E e : TypeId} {u : Value} {vs : List Value} {gs : List (List Int)} (h : NR w base E e u vs gs) (hb : Below w.heap.size w w') : NR w' base E e u vs gs :=
  ⟨owns_below h.top hb, fun j v g h1 h2 => owns_below (h.row j v g h1 h2) hb, h.two, h.apart⟩
theorem NR.kept {w w' : World} {base : Nat} {E e : TypeId} {u : Value} {vs : List Value} {gs : List (List Int)} {row : Option Nat} (h : NR w base E e u vs gs) (hg : w.grownBy w' row) (hr : ∀ q, row = some q → q < base) : NR w' base E e u vs gs :=
  ⟨owns_grown h.top hg hr, fun j v g h1 h2 => owns_grown (h.row j v g h1 h2) hg hr, h.two, h.apart⟩
theorem NR.base {w : World} {base base' : Nat} {E e : TypeId} {u : Value} {vs : List Value} {gs : List (List Int)} (h : NR w base E e u vs gs) (hb : base' ≤ base) : NR w base' E e u vs gs :=
  ⟨owns_base h.top hb, fun j v g h1 h2 => owns_base (h.row j v g h1 h2) hb, h.two, h.apart⟩
/-- it reads as a slice of slices. -/
theorem NR.terms {w : World} {base : Nat} {E e : TypeId} {u : Value} {vs : List Value} {gs : List (List Int)} (h : NR w base E e u vs gs) (hn : gs.length ≤ 1000) (hl : ∀ g ∈ gs, g.length ≤ 1000) : Terms w u gs := by
  refine ⟨vs, ?_, h.len, fun i v t h1 h2 => ?_⟩
  · unfold Vals
    rw [h.len]
    exact RowK.of_owns h.top (by omega)
  · exact Ints.of_owns (h.row i v t h1 h2) (by have := hl t (List.mem_of_getElem? h2); omega)
/-- a row is appended to: n is the new row's value, x the new numbers. -/
theorem NR.put {w w1 : World} {base : Nat} {E e : TypeId} {gU cap : Nat} {vs : List Value} {gs : List (List Int)} (h : NR w base E e (.slice (some ⟨gU, 0, none⟩) gs.length cap) vs gs)
    {j : Nat} {v : Value} (hj : vs[j]? = some v) (hjg : j < gs.length) {x : Int} {g c : Nat} (hown : w1.ownsRow base e 1 (.slice (some ⟨g, 0, none⟩) (gs[j].length + 1) c) (gs[j].length + 1) (gs[j].map (Value.int .i64) ++ [.int .i64 x]))
    (hg : w.grownBy w1 v.ownBlock) (hat : v.ownBlock = some g ∨ w.heap.size ≤ g) :
    NR (w1.setCell ⟨gU, j, none⟩ (.slice (some ⟨g, 0, none⟩) (gs[j].length + 1) c)) base E e (.slice (some ⟨gU, 0, none⟩) gs.length cap) (vs.set j (.slice (some ⟨g, 0, none⟩) (gs[j].length + 1) c)) (gs.set j (gs[j] ++ [x])) := by
  have hvl := h.len
  have hjv : j < vs.length := by omega
  have hvm : v ∈ vs := List.mem_of_getElem? hj
  have hU := h.top.lt gU rfl
  -- the new row lies apart from all others
  have hnew : ∀ (i : Nat) (v' : Value), vs[i]? = some v' → i ≠ j → v'.ownBlock ≠ some g := by
    intro i v' hi hij he
    rcases hat with ha | ha
    · exact h.two i j v' v hi hj hij (by rw [he]; simp) (by rw [he, ha])
    · obtain ⟨gg, hgg⟩ : ∃ gg, gs[i]? = some gg := by
        have : i < gs.length := by have := (List.getElem?_eq_some_iff.1 hi).1; omega
        exact ⟨gs[i], by simp [this]⟩
      have := (h.row i v' gg hi hgg).lt g he
      omega
  have hgU : g ≠ gU := by
    intro he
    rcases hat with ha | ha
    · exact h.apart v hvm (by rw [ha]; simp) (by rw [ha, he]; rfl)
    · omega
  have hUrow : v.ownBlock ≠ some gU := by
    intro he
    exact h.apart v hvm (by rw [he]; simp) (by rw [he]; rfl)
  have top1 := h.top.kept hg (Or.inr (by intro he; exact hUrow he.symm))
  have hst := top1.stored j (.slice (some ⟨g, 0, none⟩) (gs[j].length + 1) c)
  refine ⟨by simpa using hst.1, fun i v' g' h1 h2 => ?_, fun i i' v1 v2 h1 h2 hne h0 => ?_, fun v' hv' h0 => ?_⟩
  · by_cases hij : i = j
    · subst hij
      simp [hjv] at h1
      simp [hjg] at h2
      subst h1; subst h2
      have := hown.kept hst.2 (Or.inr (by simp [Value.ownBlock]; exact hgU))
      simpa using this
    · rw [List.getElem?_set_ne (by omega)] at h1 h2
      have r0 := h.row i v' g' h1 h2
      have r1 := r0.kept hg (by
        by_cases hn : v'.ownBlock = none
        · exact Or.inl hn
        · exact Or.inr (h.two i j v' v h1 hj hij hn))
      exact r1.kept hst.2 (by
        by_cases hn : v'.ownBlock = none
        · exact Or.inl hn
        · exact Or.inr (h.apart v' (List.mem_of_getElem? h1) hn))
  · by_cases hij : i = j
    · subst hij
      simp [hjv] at h1
      subst h1
      rw [List.getElem?_set_ne (by omega)] at h2
      intro he
      exact hnew i' v2 h2 (by omega) (by rw [← he]; rfl)
    · rw [List.getElem?_set_ne (by omega)] at h1
      by_cases hij' : i' = j
      · subst hij'
        simp [hjv] at h2
        subst h2
        exact hnew i v1 h1 hij
      · rw [List.getElem?_set_ne (by omega)] at h2
        exact h.two i i' v1 v2 h1 h2 hne h0
  · rcases List.mem_or_eq_of_mem_set hv' with hm | rfl
    · exact h.apart v' hm h0
    · simp [Value.ownBlock]
      exact hgU
/-- the outer slice is appended to: v is the new row's value. -/
theorem NR.push {w w1 : World} {base : Nat} {E e : TypeId} {u u' : Value} {vs : List Value} {gs : List (List Int)} (h : NR w base E e u vs gs) {v : Value} {g : List Int}
    (hv : w.ownsRow base e 1 v g.length (g.map (Value.int .i64))) (hnew : ∀ q, v.ownBlock = some q → ∀ v' ∈ vs, v'.ownBlock ≠ some q) (hnu : v.ownBlock ≠ none → v.ownBlock ≠ u.ownBlock)
    (hown : w1.ownsRow base E 1 u' (gs.length + 1) (vs ++ [v])) (hg : w.grownBy w1 u.ownBlock) (hat : u'.ownBlock = u.ownBlock ∨ ∃ q, u'.ownBlock = some q ∧ w.heap.size ≤ q) : NR w1 base E e u' (vs ++ [v]) (gs ++ [g]) := by
  have hvl := h.len
  refine ⟨by simpa using hown, fun i v' g' h1 h2 => ?_, fun i j v1 v2 h1 h2 hne h0 => ?_, fun v' hv' h0 => ?_⟩
  · by_cases hi : i < vs.length
    · rw [List.getElem?_append_left hi] at h1
      rw [List.getElem?_append_left (by omega)] at h2
      exact (h.row i v' g' h1 h2).kept hg (by
        by_cases hn : v'.ownBlock = none
        · exact Or.inl hn
        · exact Or.inr (h.apart v' (List.mem_of_getElem? h1) hn))
    · rw [List.getElem?_append_right (by omega)] at h1 h2
      have hi0 : i - vs.length = 0 := by
        have := (List.getElem?_eq_some_iff.1 h1).1
        simp at this; omega
      have hi0' : i - gs.length = 0 := by omega
      rw [hi0] at h1
      rw [hi0'] at h2
      simp at h1 h2
      subst h1; subst h2
      exact hv.kept hg (by
        by_cases hn : v.ownBlock = none
        · exact Or.inl hn
        · exact Or.inr (hnu hn))
  · have last : ∀ (k : Nat) (y : Value), (vs ++ [v])[k]? = some y → (k < vs.length ∧ vs[k]? = some y) ∨ (k = vs.length ∧ y = v) := by
      intro k y hk
      by_cases hk' : k < vs.length
      · rw [List.getElem?_append_left hk'] at hk; exact Or.inl ⟨hk', hk⟩
      · rw [List.getElem?_append_right (by omega)] at hk
        have := (List.getElem?_eq_some_iff.1 hk).1
        simp at this
        have e : k = vs.length := by omega
        subst e
        simp at hk
        exact Or.inr ⟨rfl, hk.symm⟩
    rcases last i v1 h1 with ⟨a1, a2⟩ | ⟨a1, rfl⟩
    · rcases last j v2 h2 with ⟨b1, b2⟩ | ⟨b1, rfl⟩
      · exact h.two i j v1 v2 a2 b2 hne h0
      · intro he
        obtain ⟨q, hq⟩ := Option.ne_none_iff_exists'.1 h0
        exact hnew q (by rw [← he]; exact hq) v1 (List.mem_of_getElem? a2) hq
    · rcases last j v2 h2 with ⟨b1, b2⟩ | ⟨b1, rfl⟩
      · intro he
        obtain ⟨q, hq⟩ := Option.ne_none_iff_exists'.1 h0
        exact hnew q hq v2 (List.mem_of_getElem? b2) (by rw [← he]; exact hq)
      · omega
  · intro he
    rcases hat with ha | ⟨q, ha, hq⟩
    · rw [ha] at he
      rcases List.mem_append.1 hv' with hm | hm
      · exact h.apart v' hm h0 he
      · simp at hm; subst hm; exact hnu h0 he
    · rw [ha] at he
      rcases List.mem_append.1 hv' with hm | hm
      · obtain ⟨i, hi⟩ := List.getElem?_of_mem hm
        obtain ⟨gg, hgg⟩ : ∃ gg, gs[i]? = some gg := by
          have : i < gs.length := by have := (List.getElem?_eq_some_iff.1 hi).1; omega
          exact ⟨gs[i], by simp [this]⟩
        have := (h.row i v' gg hi hgg).lt q he
        omega
      · simp at hm; subst hm
        have := hv.lt q he
        omega
end Go.Proofs.YtalodmochkodiaaGreat
namespace Go.Proofs.YtalodmochkodiaaGreat
open Go Go.RowKit Go.Maps
theorem src_parts {w : World} {sv : Value} {size m : Nat} {news : List Value} (hsrc : RowK w sv size m news) (hm : 0 < m) : ∃ (ad : Addr) (cap : Nat), sv = .slice (some ad) m cap ∧ ∀ j u, news[j]? = some u → w.cell? (ad.add j) = some u := by
  obtain ⟨hl, ad, cap, hsv, hmc, _, hnone, hc⟩ := hsrc
  cases ad with
  | none =>
    have := hnone rfl
    omega
  | some ad =>
    refine ⟨ad, cap, hsv, fun j u hj => ?_⟩
    obtain ⟨b, o, hbo, hcell⟩ := hc j u hj
    simp only [Option.some.injEq] at hbo
    subst hbo
    have hadd : (⟨b, o, none⟩ : Addr).add j = ⟨b, o + j, none⟩ := by unfold Addr.add; split <;> simp_all
    rw [hadd]; exact hcell
theorem wpList_append_lie {P : Program} {w : World} {ops : Array Oper} {rest : List Oper} {o : Oper} {a : Act} {Q : Exit → Act → World → Prop} (hgd : o.guard = none) (s x : Operand) (t : TypeId)
    (ho : o.op = .call { callee := .builtin .append, args := #[s, x], argTypes := #[t, t] })
    (base : Nat) (e : TypeId) {z : Value} {size bytes : Nat} (hE : ElemAt P e z size bytes) (ht : P.underlying t = some (.slice e)) (hzs : z.cells.size = size) (hsz : 0 < size)
    (v : Value) (n : Nat) (xs : List Value) (hs : a.eval s = v) (hown : w.ownsRow base e size v n xs)
    (sv : Value) (m : Nat) (news : List Value) (hx : a.eval x = sv) (hsrc : RowK w sv size m news) (h1 : ∀ u ∈ news, u.oneCell' = true) (hm : 0 < m)
    (hnm : n + m ≤ 140737488355328) (hbytes : (n + m) * bytes ≤ 140737488355328) (hbase : base ≤ w.heap.size) (H : Nat) (hH : w.heap.size = H)
    (h : ∀ g cap w', w'.ownsRow base e size (.slice (some ⟨g, 0, none⟩) (n + m) cap) (n + m) (xs ++ news) → w.grownBy w' v.ownBlock → (v.ownBlock = some g ∨ g = H) → g < w'.heap.size → wpList P ops Q rest (a.put o.dst (.slice (some ⟨g, 0, none⟩) (n + m) cap)) w') : wpList P ops Q (o :: rest) a w := by
  obtain ⟨i, hi, hz0, hz1, hz2⟩ := info_parts hE
  obtain ⟨ad, cap, hsv, hc⟩ := src_parts hsrc hm
  exact wpList_append_lies w hgd s x t ho base e i z size bytes ht hi hz0 hz1 hz2 hzs hsz v n xs hs hown ad m cap news (hx.trans hsv) hsrc.1 hc h1 hm (by simp only [maxLen]; omega) hbytes hbase H hH h
theorem NR.block_lt {w : World} {base : Nat} {E e : TypeId} {u : Value} {vs : List Value} {gs : List (List Int)} (h : NR w base E e u vs gs) {v : Value} (hv : v ∈ vs) {q : Nat} (hq : v.ownBlock = some q) : q < w.heap.size := by
  obtain ⟨i, hi⟩ := List.getElem?_of_mem hv
  obtain ⟨gg, hgg⟩ : ∃ gg, gs[i]? = some gg := by
    have h1 := (List.getElem?_eq_some_iff.1 hi).1
    have h2 := h.len
    exact ⟨gs[i]'(by omega), by simp⟩
  exact ((h.row i v gg hi hgg).lt q hq).2
end Go.Proofs.YtalodmochkodiaaGreat
