/-
  WHAT IT HOLDS: append of a slice that reads as a list, and where the new slice lies. Over any program. No condition.
-/
import Derived.Test.YtcpbpamnhdnanaaZRTopDetachedInstances40
namespace Go.Proofs.Ytcpbpamnhdnanaa
open Go Go.RowKit Go.Maps
theorem src_parts {w : World} {sv : Value} {size m : Nat} {news : List Value} (hsrc : RowK w sv size m news) (hm : 0 < m) : ∃ (ad : Addr) (cap : Nat), sv = .slice (some ad) m cap ∧ ∀ j u, news[j]? = some u → w.cell? (ad.add j) = some u := by
  obtain ⟨hl, ad, cap, hsv, hmc, _, hnone, hc⟩ := hsrc
  cases ad with
  | none =>
    have := hnone rfl
    omega
  | some ad =>
    refine ⟨ad, cap, hsv, fun j u hj => ?_⟩
    obtain ⟨b, o, hbo, hcell⟩ := hc j u hj
    simp only [Option.some.injEq] at hbo
    subst hbo
    have hadd : (⟨b, o, none⟩ : Addr).add j = ⟨b, o + j, none⟩ := by unfold Addr.add; split <;> simp_all
    rw [hadd]; exact hcell
theorem wpList_append_lie {P : Program} {w : World} {ops : Array Oper} {rest : List Oper} {o : Oper} {a : Act} {Q : Exit → Act → World → Prop} (hgd : o.guard = none) (s x : Operand) (t : TypeId)
    (ho : o.op = .call { callee := .builtin .append, args := #[s, x], argTypes := #[t, t] })
    (base : Nat) (e : TypeId) {z : Value} {size bytes : Nat} (hE : ElemAt P e z size bytes) (ht : P.underlying t = some (.slice e)) (hzs : z.cells.size = size) (hsz : 0 < size)
    (v : Value) (n : Nat) (xs : List Value) (hs : a.eval s = v) (hown : w.ownsRow base e size v n xs)
    (sv : Value) (m : Nat) (news : List Value) (hx : a.eval x = sv) (hsrc : RowK w sv size m news) (h1 : ∀ u ∈ news, u.oneCell' = true) (hm : 0 < m)
    (hnm : n + m ≤ 140737488355328) (hbytes : (n + m) * bytes ≤ 140737488355328) (hbase : base ≤ w.heap.size) (H : Nat) (hH : w.heap.size = H)
    (h : ∀ g cap w', w'.ownsRow base e size (.slice (some ⟨g, 0, none⟩) (n + m) cap) (n + m) (xs ++ news) → w.grownBy w' v.ownBlock → (v.ownBlock = some g ∨ g = H) → g < w'.heap.size → wpList P ops Q rest (a.put o.dst (.slice (some ⟨g, 0, none⟩) (n + m) cap)) w') : wpList P ops Q (o :: rest) a w := by
  obtain ⟨i, hi, hz0, hz1, hz2⟩ := info_parts hE
  obtain ⟨ad, cap, hsv, hc⟩ := src_parts hsrc hm
  exact wpList_append_lies w hgd s x t ho base e i z size bytes ht hi hz0 hz1 hz2 hzs hsz v n xs hs hown ad m cap news (hx.trans hsv) hsrc.1 hc h1 hm (by simp only [maxLen]; omega) hbytes hbase H hH h
theorem step_append_lie {P : Program} {ops : Array Oper} {o : Oper} {a : Act} {w : World} {K : Act → World → Prop} {Q : Exit → Act → World → Prop} {E : Prop} (hgd : o.guard = none) (s x : Operand) (t : TypeId)
    (ho : o.op = .call { callee := .builtin .append, args := #[s, x], argTypes := #[t, t] })
    (base : Nat) (e : TypeId) {z : Value} {size bytes : Nat} (hE : ElemAt P e z size bytes) (ht : P.underlying t = some (.slice e)) (hzs : z.cells.size = size) (hsz : 0 < size)
    (v : Value) (n : Nat) (xs : List Value) (hs : a.eval s = v) (hown : w.ownsRow base e size v n xs)
    (sv : Value) (m : Nat) (news : List Value) (hx : a.eval x = sv) (hsrc : RowK w sv size m news) (h1 : ∀ u ∈ news, u.oneCell' = true) (hm : 0 < m)
    (hnm : n + m ≤ 140737488355328) (hbytes : (n + m) * bytes ≤ 140737488355328) (hbase : base ≤ w.heap.size) (H : Nat) (hH : w.heap.size = H)
    (h : ∀ g cap w', w'.ownsRow base e size (.slice (some ⟨g, 0, none⟩) (n + m) cap) (n + m) (xs ++ news) → w.grownBy w' v.ownBlock → (v.ownBlock = some g ∨ g = H) → g < w'.heap.size → K (a.put o.dst (.slice (some ⟨g, 0, none⟩) (n + m) cap)) w') :
    if Region.wanted o (yielded ops a.tmps) = true then Oper.wp P o a w K Q else E := by
  obtain ⟨i, hi, hz0, hz1, hz2⟩ := info_parts hE
  obtain ⟨ad, cap, hsv, hc⟩ := src_parts hsrc hm
  exact step_append_lies w hgd s x t ho base e i z size bytes ht hi hz0 hz1 hz2 hzs hsz v n xs hs hown ad m cap news (hx.trans hsv) hsrc.1 hc h1 hm (by simp only [maxLen]; omega) hbytes hbase H hH h
theorem NR.block_lt {w : World} {base : Nat} {E e : TypeId} {u : Value} {vs : List Value} {gs : List (List Int)} (h : NR w base E e u vs gs) {v : Value} (hv : v ∈ vs) {q : Nat} (hq : v.ownBlock = some q) : q < w.heap.size := by
  obtain ⟨i, hi⟩ := List.getElem?_of_mem hv
  obtain ⟨gg, hgg⟩ : ∃ gg, gs[i]? = some gg := by
    have h1 := (List.getElem?_eq_some_iff.1 hi).1
    have h2 := h.len
    exact ⟨gs[i]'(by omega), by simp⟩
  exact ((h.row i v gg hi hgg).lt q hq).2
/-- a row of newer memory is pushed. -/
theorem NR.pushNew {w0 w w1 : World} {base base' : Nat} {E e : TypeId} {u : Value} {vs : List Value} {gs : List (List Int)} (h0 : NR w0 base E e u vs gs) (hB : w0.heap.size ≤ base') (hbb : base ≤ base') (hb : Below w0.heap.size w0 w) {v : Value} {g : List Int}
    (hv : w.ownsRow base' e 1 v g.length (g.map (Value.int .i64))) {gg cap n : Nat} (hn : n = gs.length)
    (hown : w1.ownsRow base E 1 (.slice (some ⟨gg, 0, none⟩) (n + 1) cap) (n + 1) (vs ++ [v])) (hg : w.grownBy w1 u.ownBlock) {H : Nat} (hH : H = w.heap.size) (hat : u.ownBlock = some gg ∨ gg = H) : NR w1 base E e (.slice (some ⟨gg, 0, none⟩) (n + 1) cap) (vs ++ [v]) (gs ++ [g]) := by
  subst hn
  refine (h0.below hb).push (owns_base hv hbb) (fun q hq v' hv' he => ?_) (fun hne he => ?_) hown hg ?_
  · have h1 := h0.block_lt hv' he
    have h2 := hv.lt q hq
    omega
  · obtain ⟨q, hq⟩ := Option.ne_none_iff_exists'.1 hne
    have h1 := hv.lt q hq
    have h2 := h0.top.lt q (by rw [← he]; exact hq)
    omega
  · rcases hat with ha | ha
    · exact Or.inl (by rw [ha]; rfl)
    · exact Or.inr ⟨gg, rfl, by omega⟩
theorem NR.put' {w w1 : World} {base : Nat} {E e : TypeId} {gU cap n : Nat} {vs : List Value} {gs : List (List Int)} (h : NR w base E e (.slice (some ⟨gU, 0, none⟩) n cap) vs gs) (hn : n = gs.length)
    {j : Nat} {v : Value} (hj : vs[j]? = some v) (hjg : j < gs.length) {x : Int} {g c m : Nat} (hm : m = gs[j].length) (hown : w1.ownsRow base e 1 (.slice (some ⟨g, 0, none⟩) (m + 1) c) (m + 1) (gs[j].map (Value.int .i64) ++ [.int .i64 x]))
    (hg : w.grownBy w1 v.ownBlock) (hat : v.ownBlock = some g ∨ w.heap.size ≤ g) :
    NR (w1.setCell ⟨gU, j, none⟩ (.slice (some ⟨g, 0, none⟩) (m + 1) c)) base E e (.slice (some ⟨gU, 0, none⟩) n cap) (vs.set j (.slice (some ⟨g, 0, none⟩) (m + 1) c)) (gs.set j (gs[j] ++ [x])) := by
  subst hn
  subst hm
  exact h.put hj hjg hown hg hat
theorem NR.cellTop {w w1 : World} {base : Nat} {E e : TypeId} {gU cap n : Nat} {vs : List Value} {gs : List (List Int)} (h : NR w base E e (.slice (some ⟨gU, 0, none⟩) n cap) vs gs) (hn : n = gs.length)
    {j : Nat} {v : Value} (hj : vs[j]? = some v) (hg : w.grownBy w1 v.ownBlock) : w1.cell? ⟨gU, j, none⟩ = some v ∧ w1.frozen? ⟨gU, j, none⟩ = false := by
  subst hn
  have hjl : j < gs.length := by have h1 := (List.getElem?_eq_some_iff.1 hj).1; have := h.len; omega
  have top1 := h.top.kept hg (Or.inr (by
    intro he
    exact h.apart v (List.mem_of_getElem? hj) (by rw [← he]; simp [Value.ownBlock]) he.symm))
  have h1 := top1.cellAt j (by omega)
  rw [hj] at h1
  exact ⟨h1, top1.frozenAt j⟩
/-- a row that is not empty: its value, its first number. -/
theorem NR.rowAt {w : World} {base : Nat} {E e : TypeId} {u : Value} {vs : List Value} {gs : List (List Int)} (h : NR w base E e u vs gs) {j : Nat} (hj : j < gs.length) (h0 : 0 < gs[j].length) :
    ∃ gr c, vs[j]? = some (.slice (some ⟨gr, 0, none⟩) gs[j].length c) ∧ w.ownsRow base e 1 (.slice (some ⟨gr, 0, none⟩) gs[j].length c) gs[j].length (gs[j].map (Value.int .i64)) ∧ w.cell? ⟨gr, 0, none⟩ = some (.int .i64 gs[j][0]) := by
  have hvl := h.len
  have hv : vs[j]? = some (vs[j]'(by omega)) := by simp
  have hr := h.row j _ gs[j] hv (by simp [hj])
  obtain ⟨gr, c, he, _⟩ := owns_some hr h0
  rw [he] at hr hv
  refine ⟨gr, c, hv, hr, ?_⟩
  have := hr.cellAt 0 (by omega)
  simpa [h0] using this
end Go.Proofs.Ytcpbpamnhdnanaa
