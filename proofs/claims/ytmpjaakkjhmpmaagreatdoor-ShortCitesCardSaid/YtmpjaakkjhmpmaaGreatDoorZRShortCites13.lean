/-
  WHAT IT HOLDS: 'a slice of slices of numbers, all of the call's own memory, no two in one block' (NR), how it is kept, read and written. Over any program. No condition.
  WHAT IT HOLDS: append of a slice that reads as a list, and where the new slice lies. Over any program. No condition.
  WHAT IT HOLDS: rows of the call's own memory that lie in blocks of their own (Sep): how they are kept, added, appended to. Over any program. No condition.
-/
import Derived.Deep.AppendLies
import Derived.Test.YtmpjaakkjhmpmaaGreatDoorZRShortCites6
namespace Go.Proofs.YtmpjaakkjhmpmaaGreatDoor
open Go Go.RowKit Go.Maps

structure NR (w : World) (base : Nat) (E e : TypeId) (u : Value) (vs : List Value) (gs : List (List Int)) : Prop where
  top : w.ownsRow base E 1 u gs.length vs
  row : ∀ (j : Nat) (v : Value) (g : List Int), vs[j]? = some v → gs[j]? = some g → w.ownsRow base e 1 v g.length (g.map (Value.int .i64))
  two : ∀ (i j : Nat) (v v' : Value), vs[i]? = some v → vs[j]? = some v' → i ≠ j → v.ownBlock ≠ none → v.ownBlock ≠ v'.ownBlock
  apart : ∀ v ∈ vs, v.ownBlock ≠ none → v.ownBlock ≠ u.ownBlock
theorem NR.len {w : World} {base : Nat} {E e : TypeId} {u : Value} {vs : List Value} {gs : List (List Int)} (h : NR w base E e u vs gs) : vs.length = gs.length := by
  have := h.top.1; simpa using this
theorem NR.nil (w : World) (base : Nat) (E e : TypeId) : NR w base E e (.slice none 0 0) [] [] :=
  ⟨World.ownsRow_nil _ _ _ _, fun j v g h => by simp at h, fun i j v v' h => by simp at h, by simp⟩
theorem NR.below {w w' : World} {base : Nat} {E e : TypeId} {u : Value} {vs : List Value} {gs : List (List Int)} (h : NR w base E e u vs gs) (hb : Below w.heap.size w w') : NR w' base E e u vs gs :=
  ⟨owns_below h.top hb, fun j v g h1 h2 => owns_below (h.row j v g h1 h2) hb, h.two, h.apart⟩
theorem NR.kept {w w' : World} {base : Nat} {E e : TypeId} {u : Value} {vs : List Value} {gs : List (List Int)} {row : Option Nat} (h : NR w base E e u vs gs) (hg : w.grownBy w' row) (hr : ∀ q, row = some q → q < base) : NR w' base E e u vs gs :=
  ⟨owns_grown h.top hg hr, fun j v g h1 h2 => owns_grown (h.row j v g h1 h2) hg hr, h.two, h.apart⟩
theorem NR.base {w : World} {base base' : Nat} {E e : TypeId} {u : Value} {vs : List Value} {gs : List (List Int)} (h : NR w base E e u vs gs) (hb : base' ≤ base) : NR w base' E e u vs gs :=
  ⟨owns_base h.top hb, fun j v g h1 h2 => owns_base (h.row j v g h1 h2) hb, h.two, h.apart⟩
/-- it reads as a slice of slices. -/
theorem NR.terms {w : World} {base : Nat} {E e : TypeId} {u : Value} {vs : List Value} {gs : List (List Int)} (h : NR w base E e u vs gs) (hn : gs.length ≤ 1000) (hl : ∀ g ∈ gs, g.length ≤ 1000) : Terms w u gs := by
  refine ⟨vs, ?_, h.len, fun i v t h1 h2 => ?_⟩
  · unfold Vals
    rw [h.len]
    exact RowK.of_owns h.top (by omega)
  · exact Ints.of_owns (h.row i v t h1 h2) (by have := hl t (List.mem_of_getElem? h2); omega)
/-- a row is appended to: n is the new row's value, x the new numbers. -/
theorem NR.put {w w1 : World} {base : Nat} {E e : TypeId} {gU cap : Nat} {vs : List Value} {gs : List (List Int)} (h : NR w base E e (.slice (some ⟨gU, 0, none⟩) gs.length cap) vs gs)
    {j : Nat} {v : Value} (hj : vs[j]? = some v) (hjg : j < gs.length) {x : Int} {g c : Nat} (hown : w1.ownsRow base e 1 (.slice (some ⟨g, 0, none⟩) (gs[j].length + 1) c) (gs[j].length + 1) (gs[j].map (Value.int .i64) ++ [.int .i64 x]))
    (hg : w.grownBy w1 v.ownBlock) (hat : v.ownBlock = some g ∨ w.heap.size ≤ g) :
    NR (w1.setCell ⟨gU, j, none⟩ (.slice (some ⟨g, 0, none⟩) (gs[j].length + 1) c)) base E e (.slice (some ⟨gU, 0, none⟩) gs.length cap) (vs.set j (.slice (some ⟨g, 0, none⟩) (gs[j].length + 1) c)) (gs.set j (gs[j] ++ [x])) := by
  have hvl := h.len
  have hjv : j < vs.length := by omega
  have hvm : v ∈ vs := List.mem_of_getElem? hj
  have hU := h.top.lt gU rfl
  -- the new row lies apart from all others
  have hnew : ∀ (i : Nat) (v' : Value), vs[i]? = some v' → i ≠ j → v'.ownBlock ≠ some g := by
    intro i v' hi hij he
    rcases hat with ha | ha
    · exact h.two i j v' v hi hj hij (by rw [he]; simp) (by rw [he, ha])
    · obtain ⟨gg, hgg⟩ : ∃ gg, gs[i]? = some gg := by
        have : i < gs.length := by have := (List.getElem?_eq_some_iff.1 hi).1; omega
        exact ⟨gs[i], by simp [this]⟩
      have := (h.row i v' gg hi hgg).lt g he
      omega
  have hgU : g ≠ gU := by
    intro he
    rcases hat with ha | ha
    · exact h.apart v hvm (by rw [ha]; simp) (by rw [ha, he]; rfl)
    · omega
  have hUrow : v.ownBlock ≠ some gU := by
    intro he
    exact h.apart v hvm (by rw [he]; simp) (by rw [he]; rfl)
  have top1 := h.top.kept hg (Or.inr (by intro he; exact hUrow he.symm))
  have hst := top1.stored j (.slice (some ⟨g, 0, none⟩) (gs[j].length + 1) c)
  refine ⟨by simpa using hst.1, fun i v' g' h1 h2 => ?_, fun i i' v1 v2 h1 h2 hne h0 => ?_, fun v' hv' h0 => ?_⟩
  · by_cases hij : i = j
    · subst hij
      simp [hjv] at h1
      simp [hjg] at h2
      subst h1; subst h2
      have := hown.kept hst.2 (Or.inr (by simp [Value.ownBlock]; exact hgU))
      simpa using this
    · rw [List.getElem?_set_ne (by omega)] at h1 h2
      have r0 := h.row i v' g' h1 h2
      have r1 := r0.kept hg (by
        by_cases hn : v'.ownBlock = none
        · exact Or.inl hn
        · exact Or.inr (h.two i j v' v h1 hj hij hn))
      exact r1.kept hst.2 (by
        by_cases hn : v'.ownBlock = none
        · exact Or.inl hn
        · exact Or.inr (h.apart v' (List.mem_of_getElem? h1) hn))
  · by_cases hij : i = j
    · subst hij
      simp [hjv] at h1
      subst h1
      rw [List.getElem?_set_ne (by omega)] at h2
      intro he
      exact hnew i' v2 h2 (by omega) (by rw [← he]; rfl)
    · rw [List.getElem?_set_ne (by omega)] at h1
      by_cases hij' : i' = j
      · subst hij'
        simp [hjv] at h2
        subst h2
        exact hnew i v1 h1 hij
      · rw [List.getElem?_set_ne (by omega)] at h2
        exact h.two i i' v1 v2 h1 h2 hne h0
  · rcases List.mem_or_eq_of_mem_set hv' with hm | rfl
    · exact h.apart v' hm h0
    · simp [Value.ownBlock]
      exact hgU
/-- the outer slice is appended to: v is the new row's value. -/
theorem NR.push {w w1 : World} {base : Nat} {E e : TypeId} {u u' : Value} {vs : List Value} {gs : List (List Int)} (h : NR w base E e u vs gs) {v : Value} {g : List Int}
    (hv : w.ownsRow base e 1 v g.length (g.map (Value.int .i64))) (hnew : ∀ q, v.ownBlock = some q → ∀ v' ∈ vs, v'.ownBlock ≠ some q) (hnu : v.ownBlock ≠ none → v.ownBlock ≠ u.ownBlock)
    (hown : w1.ownsRow base E 1 u' (gs.length + 1) (vs ++ [v])) (hg : w.grownBy w1 u.ownBlock) (hat : u'.ownBlock = u.ownBlock ∨ ∃ q, u'.ownBlock = some q ∧ w.heap.size ≤ q) : NR w1 base E e u' (vs ++ [v]) (gs ++ [g]) := by
  have hvl := h.len
  refine ⟨by simpa using hown, fun i v' g' h1 h2 => ?_, fun i j v1 v2 h1 h2 hne h0 => ?_, fun v' hv' h0 => ?_⟩
  · by_cases hi : i < vs.length
    · rw [List.getElem?_append_left hi] at h1
      rw [List.getElem?_append_left (by omega)] at h2
      exact (h.row i v' g' h1 h2).kept hg (by
        by_cases hn : v'.ownBlock = none
        · exact Or.inl hn
        · exact Or.inr (h.apart v' (List.mem_of_getElem? h1) hn))
    · rw [List.getElem?_append_right (by omega)] at h1 h2
      have hi0 : i - vs.length = 0 := by
        have := (List.getElem?_eq_some_iff.1 h1).1
        simp at this; omega
      have hi0' : i - gs.length = 0 := by omega
      rw [hi0] at h1
      rw [hi0'] at h2
      simp at h1 h2
      subst h1; subst h2
      exact hv.kept hg (by
        by_cases hn : v.ownBlock = none
        · exact Or.inl hn
        · exact Or.inr (hnu hn))
  · have last : ∀ (k : Nat) (y : Value), (vs ++ [v])[k]? = some y → (k < vs.length ∧ vs[k]? = some y) ∨ (k = vs.length ∧ y = v) := by
      intro k y hk
      by_cases hk' : k < vs.length
      · rw [List.getElem?_append_left hk'] at hk; exact Or.inl ⟨hk', hk⟩
      · rw [List.getElem?_append_right (by omega)] at hk
        have := (List.getElem?_eq_some_iff.1 hk).1
        simp at this
        have e : k = vs.length := by omega
        subst e
        simp at hk
        exact Or.inr ⟨rfl, hk.symm⟩
    rcases last i v1 h1 with ⟨a1, a2⟩ | ⟨a1, rfl⟩
    · rcases last j v2 h2 with ⟨b1, b2⟩ | ⟨b1, rfl⟩
      · exact h.two i j v1 v2 a2 b2 hne h0
      · intro he
        obtain ⟨q, hq⟩ := Option.ne_none_iff_exists'.1 h0
        exact hnew q (by rw [← he]; exact hq) v1 (List.mem_of_getElem? a2) hq
    · rcases last j v2 h2 with ⟨b1, b2⟩ | ⟨b1, rfl⟩
      · intro he
        obtain ⟨q, hq⟩ := Option.ne_none_iff_exists'.1 h0
        exact hnew q hq v2 (List.mem_of_getElem? b2) (by rw [← he]; exact hq)
      · omega
  · intro he
    rcases hat with ha | ⟨q, ha, hq⟩
    · rw [ha] at he
      rcases List.mem_append.1 hv' with hm | hm
      · exact h.apart v' hm h0 he
      · simp at hm; subst hm; exact hnu h0 he
    · rw [ha] at he
      rcases List.mem_append.1 hv' with hm | hm
      · obtain ⟨i, hi⟩ := List.getElem?_of_mem hm
        obtain ⟨gg, hgg⟩ : ∃ gg, gs[i]? = some gg := by
          have : i < gs.length := by have := (List.getElem?_eq_some_iff.1 hi).1; omega
          exact ⟨gs[i], by simp [this]⟩
        have := (h.row i v' gg hi hgg).lt q he
        omega
      · simp at hm; subst hm
        have := hv.lt q he
        omega
end Go.Proofs.YtmpjaakkjhmpmaaGreatDoor
namespace Go.Proofs.YtmpjaakkjhmpmaaGreatDoor
open Go Go.RowKit Go.Maps
theorem src_parts {w : World} {sv : Value} {size m : Nat} {news : List Value} (hsrc : RowK w sv size m news) (hm : 0 < m) : ∃ (ad : Addr) (cap : Nat), sv = .slice (some ad) m cap ∧ ∀ j u, news[j]? = some u → w.cell? (ad.add j) = some u := by
  obtain ⟨hl, ad, cap, hsv, hmc, _, hnone, hc⟩ := hsrc
  cases ad with
  | none =>
    have := hnone rfl
    omega
  | some ad =>
    refine ⟨ad, cap, hsv, fun j u hj => ?_⟩
    obtain ⟨b, o, hbo, hcell⟩ := hc j u hj
    simp only [Option.some.injEq] at hbo
    subst hbo
    have hadd : (⟨b, o, none⟩ : Addr).add j = ⟨b, o + j, none⟩ := by unfold Addr.add; split <;> simp_all
    rw [hadd]; exact hcell
theorem wpList_append_lie {P : Program} {w : World} {ops : Array Oper} {rest : List Oper} {o : Oper} {a : Act} {Q : Exit → Act → World → Prop} (hgd : o.guard = none) (s x : Operand) (t : TypeId)
    (ho : o.op = .call { callee := .builtin .append, args := #[s, x], argTypes := #[t, t] })
    (base : Nat) (e : TypeId) {z : Value} {size bytes : Nat} (hE : ElemAt P e z size bytes) (ht : P.underlying t = some (.slice e)) (hzs : z.cells.size = size) (hsz : 0 < size)
    (v : Value) (n : Nat) (xs : List Value) (hs : a.eval s = v) (hown : w.ownsRow base e size v n xs)
    (sv : Value) (m : Nat) (news : List Value) (hx : a.eval x = sv) (hsrc : RowK w sv size m news) (h1 : ∀ u ∈ news, u.oneCell' = true) (hm : 0 < m)
    (hnm : n + m ≤ 140737488355328) (hbytes : (n + m) * bytes ≤ 140737488355328) (hbase : base ≤ w.heap.size) (H : Nat) (hH : w.heap.size = H)
    (h : ∀ g cap w', w'.ownsRow base e size (.slice (some ⟨g, 0, none⟩) (n + m) cap) (n + m) (xs ++ news) → w.grownBy w' v.ownBlock → (v.ownBlock = some g ∨ g = H) → g < w'.heap.size → wpList P ops Q rest (a.put o.dst (.slice (some ⟨g, 0, none⟩) (n + m) cap)) w') : wpList P ops Q (o :: rest) a w := by
  obtain ⟨i, hi, hz0, hz1, hz2⟩ := info_parts hE
  obtain ⟨ad, cap, hsv, hc⟩ := src_parts hsrc hm
  exact wpList_append_lies w hgd s x t ho base e i z size bytes ht hi hz0 hz1 hz2 hzs hsz v n xs hs hown ad m cap news (hx.trans hsv) hsrc.1 hc h1 hm (by simp only [maxLen]; omega) hbytes hbase H hH h
end Go.Proofs.YtmpjaakkjhmpmaaGreatDoor
namespace Go.Proofs.YtmpjaakkjhmpmaaGreatDoor
open Go Go.RowKit Go.Maps
structure Rw where
  e : TypeId
  k : Nat
  v : Value
  n : Nat
  xs : List Value
def Rw.own (w : World) (base : Nat) (r : Rw) : Prop := w.ownsRow base r.e r.k r.v r.n r.xs
def Rw.off (r r' : Rw) : Prop := r.v.ownBlock ≠ none → r.v.ownBlock ≠ r'.v.ownBlock
theorem Rw.off_symm {r r' : Rw} (h : r.off r') : r'.off r := fun h0 he => h (by rw [← he]; exact h0) he.symm
def Sep (w : World) (base : Nat) (rs : List Rw) : Prop := (∀ r ∈ rs, r.own w base) ∧ rs.Pairwise Rw.off
theorem Sep.nil (w : World) (base : Nat) : Sep w base [] := ⟨by simp, .nil⟩
theorem Sep.below {w w' : World} {base : Nat} {rs : List Rw} (h : Sep w base rs) (hb : Below w.heap.size w w') : Sep w' base rs :=
  ⟨fun r hr => owns_below (h.1 r hr) hb, h.2⟩
theorem Sep.perm {w : World} {base : Nat} {rs rs' : List Rw} (h : Sep w base rs) (hp : rs.Perm rs') : Sep w base rs' :=
  ⟨fun r hr => h.1 r (hp.mem_iff.2 hr), (hp.pairwise_iff (fun {_ _} hh => Rw.off_symm hh)).1 h.2⟩
theorem Sep.mono {w : World} {base base' : Nat} {rs : List Rw} (h : Sep w base rs) (hb : base' ≤ base) : Sep w base' rs :=
  ⟨fun r hr => owns_base (h.1 r hr) hb, h.2⟩
theorem Sep.tail {w : World} {base : Nat} {r : Rw} {rs : List Rw} (h : Sep w base (r :: rs)) : Sep w base rs :=
  ⟨fun r' hr => h.1 r' (List.mem_cons_of_mem _ hr), (List.pairwise_cons.1 h.2).2⟩
theorem Sep.sub {w : World} {base : Nat} {rs rs' : List Rw} (h : Sep w base rs) (hs : rs'.Sublist rs) : Sep w base rs' :=
  ⟨fun r' hr => h.1 r' (hs.mem hr), h.2.sublist hs⟩
/-- rows stay while a block is turned that lies below them. -/
theorem Sep.grown {w w1 : World} {base : Nat} {rs : List Rw} {row : Option Nat} (h : Sep w base rs) (hg : w.grownBy w1 row) (hr : ∀ q, row = some q → q < base) : Sep w1 base rs :=
  ⟨fun r hr' => owns_grown (h.1 r hr') hg hr, h.2⟩
/-- a row of newer memory is added. -/
theorem Sep.cons {w w1 : World} {base base' : Nat} {r : Rw} {rs : List Rw} (h : Sep w base rs) (hb : Below w.heap.size w w1) (hB : w.heap.size ≤ base') (hbb : base ≤ base') (hr : r.own w1 base') : Sep w1 base (r :: rs) := by
  have h1 := h.below hb
  refine ⟨fun r' hr' => ?_, List.pairwise_cons.2 ⟨fun r' hr' h0 he => ?_, h1.2⟩⟩
  · rcases List.mem_cons.1 hr' with rfl | hm
    · exact owns_base hr hbb
    · exact h1.1 r' hm
  · obtain ⟨q, hq⟩ := Option.ne_none_iff_exists'.1 h0
    have h2 := World.ownsRow.lt hr q hq
    have h3 := World.ownsRow.lt (h.1 r' hr') q (by rw [← he]; exact hq)
    omega
/-- an empty row without memory. -/
theorem Sep.consNil {w : World} {base : Nat} {rs : List Rw} (h : Sep w base rs) (e : TypeId) (k : Nat) : Sep w base (⟨e, k, .slice none 0 0, 0, []⟩ :: rs) := by
  refine ⟨fun r' hr' => ?_, List.pairwise_cons.2 ⟨fun r' hr' h0 => absurd rfl h0, h.2⟩⟩
  rcases List.mem_cons.1 hr' with rfl | hm
  · exact World.ownsRow_nil _ _ _ _
  · exact h.1 r' hm
/-- the first row is turned. -/
theorem Sep.head {w w1 : World} {base : Nat} {r r' : Rw} {rs : List Rw} (h : Sep w base (r :: rs)) (hg : w.grownBy w1 r.v.ownBlock) (hr : r'.own w1 base) (hat : ∀ q, r'.v.ownBlock = some q → r.v.ownBlock = some q ∨ w.heap.size ≤ q) : Sep w1 base (r' :: rs) := by
  obtain ⟨h1, h2⟩ := h
  have hp := List.pairwise_cons.1 h2
  refine ⟨fun x hx => ?_, List.pairwise_cons.2 ⟨fun x hx h0 he => ?_, hp.2⟩⟩
  · rcases List.mem_cons.1 hx with rfl | hm
    · exact hr
    · refine World.ownsRow.kept (h1 x (List.mem_cons_of_mem _ hm)) hg ?_
      by_cases hn : x.v.ownBlock = none
      · exact Or.inl hn
      · exact Or.inr (fun hh => hp.1 x hm (by rw [← hh]; exact hn) hh.symm)
  · obtain ⟨q, hq⟩ := Option.ne_none_iff_exists'.1 h0
    rcases hat q hq with ha | ha
    · exact hp.1 x hx (by rw [ha]; simp) (by rw [ha, ← hq, he])
    · have h3 := World.ownsRow.lt (h1 x (List.mem_cons_of_mem _ hx)) q (by rw [← he]; exact hq)
      omega
/-- the first row is turned, as the append law tells it. -/
theorem Sep.app {w w1 : World} {base : Nat} {r : Rw} {rs : List Rw} (h : Sep w base (r :: rs)) (hg : w.grownBy w1 r.v.ownBlock) {e : TypeId} {k g n cap : Nat} {xs : List Value} (hr : w1.ownsRow base e k (.slice (some ⟨g, 0, none⟩) n cap) n xs) {H : Nat} (hH : w.heap.size = H) (hat : r.v.ownBlock = some g ∨ g = H) : Sep w1 base (⟨e, k, .slice (some ⟨g, 0, none⟩) n cap, n, xs⟩ :: rs) := by
  refine h.head hg hr (fun q hq => ?_)
  have hq' : some g = some q := hq
  simp only [Option.some.injEq] at hq'
  subst hq'
  rcases hat with ha | ha
  · exact Or.inl ha
  · exact Or.inr (by omega)
def rwT (e : TypeId) (v : Value) (g : List Int) : Rw := ⟨e, 1, v, g.length, g.map (Value.int .i64)⟩
theorem Sep.ints {w : World} {base : Nat} {rs : List Rw} {e : TypeId} {v : Value} {g : List Int} (h : Sep w base rs) (hm : rwT e v g ∈ rs) (hl : g.length ≤ 140737488355328) : Ints w v g := Ints.of_owns (h.1 _ hm) hl
/-- a list of rows: each of the values vs reads as its list of gs, and is among the rows. -/
def InS (e : TypeId) (rs : List Rw) (vs : List Value) (gs : List (List Int)) : Prop := vs.length = gs.length ∧ ∀ (j : Nat) (v : Value) (g : List Int), vs[j]? = some v → gs[j]? = some g → rwT e v g ∈ rs
theorem InS.nil (e : TypeId) (rs : List Rw) : InS e rs [] [] := ⟨rfl, fun j v g h => by simp at h⟩
theorem InS.mono {e : TypeId} {rs rs' : List Rw} {vs : List Value} {gs : List (List Int)} (h : InS e rs vs gs) (hs : ∀ r ∈ rs, r ∈ rs') : InS e rs' vs gs := ⟨h.1, fun j v g h1 h2 => hs _ (h.2 j v g h1 h2)⟩
theorem InS.push {e : TypeId} {rs : List Rw} {vs : List Value} {gs : List (List Int)} (h : InS e rs vs gs) {v : Value} {g : List Int} (hm : rwT e v g ∈ rs) : InS e rs (vs ++ [v]) (gs ++ [g]) := by
  refine ⟨by simp [h.1], fun j v' g' h1 h2 => ?_⟩
  by_cases hj : j < vs.length
  · rw [List.getElem?_append_left hj] at h1
    rw [List.getElem?_append_left (by have := h.1; omega)] at h2
    exact h.2 j v' g' h1 h2
  · have hj' : j = vs.length := by
      have := (List.getElem?_eq_some_iff.1 h1).1
      simp at this; omega
    subst hj'
    simp at h1
    rw [h.1] at h2
    simp at h2
    subst h1; subst h2
    exact hm
/-- it reads as a slice of terms. -/
theorem Sep.terms {w : World} {base : Nat} {rs : List Rw} {e E : TypeId} {u : Value} {vs : List Value} {gs : List (List Int)} (h : Sep w base rs) (hI : InS e rs vs gs) (ho : w.ownsRow base E 1 u gs.length vs) (hn : gs.length ≤ 140737488355328) (hl : ∀ g ∈ gs, g.length ≤ 140737488355328) : Terms w u gs := by
  refine ⟨vs, ?_, hI.1, fun i v t h1 h2 => h.ints (hI.2 i v t h1 h2) (hl t (List.mem_of_getElem? h2))⟩
  unfold Vals
  rw [hI.1]
  exact RowK.of_owns ho hn
end Go.Proofs.YtmpjaakkjhmpmaaGreatDoor
