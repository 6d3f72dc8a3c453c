/-
  WHAT IT HOLDS: rows of the call's own memory that lie in blocks of their own (Sep): how they are kept, added, appended to. Over any program. No condition.
-/
import Derived.Test.YtcpbpamnhdnanaaZRTopDetachedInstances41
namespace Go.Proofs.Ytcpbpamnhdnanaa
open Go Go.RowKit Go.Maps
structure Rw where
  e : TypeId
  k : Nat
  v : Value
  n : Nat
  xs : List Value
def Rw.own (w : World) (base : Nat) (r : Rw) : Prop := w.ownsRow base r.e r.k r.v r.n r.xs
def Rw.off (r r' : Rw) : Prop := r.v.ownBlock ≠ none → r.v.ownBlock ≠ r'.v.ownBlock
theorem Rw.off_symm {r r' : Rw} (h : r.off r') : r'.off r := fun h0 he => h (by rw [← he]; exact h0) he.symm
def Sep (w : World) (base : Nat) (rs : List Rw) : Prop := (∀ r ∈ rs, r.own w base) ∧ rs.Pairwise Rw.off
theorem Sep.nil (w : World) (base : Nat) : Sep w base [] := ⟨by simp, .nil⟩
theorem Sep.below {w w' : World} {base : Nat} {rs : List Rw} (h : Sep w base rs) (hb : Below w.heap.size w w') : Sep w' base rs :=
  ⟨fun r hr => owns_below (h.1 r hr) hb, h.2⟩
theorem Sep.perm {w : World} {base : Nat} {rs rs' : List Rw} (h : Sep w base rs) (hp : rs.Perm rs') : Sep w base rs' :=
  ⟨fun r hr => h.1 r (hp.mem_iff.2 hr), (hp.pairwise_iff (fun {_ _} hh => Rw.off_symm hh)).1 h.2⟩
theorem Sep.mono {w : World} {base base' : Nat} {rs : List Rw} (h : Sep w base rs) (hb : base' ≤ base) : Sep w base' rs :=
  ⟨fun r hr => owns_base (h.1 r hr) hb, h.2⟩
theorem Sep.tail {w : World} {base : Nat} {r : Rw} {rs : List Rw} (h : Sep w base (r :: rs)) : Sep w base rs :=
  ⟨fun r' hr => h.1 r' (List.mem_cons_of_mem _ hr), (List.pairwise_cons.1 h.2).2⟩
theorem Sep.sub {w : World} {base : Nat} {rs rs' : List Rw} (h : Sep w base rs) (hs : rs'.Sublist rs) : Sep w base rs' :=
  ⟨fun r' hr => h.1 r' (hs.mem hr), h.2.sublist hs⟩
/-- rows stay while a block is turned that lies below them. -/
theorem Sep.grown {w w1 : World} {base : Nat} {rs : List Rw} {row : Option Nat} (h : Sep w base rs) (hg : w.grownBy w1 row) (hr : ∀ q, row = some q → q < base) : Sep w1 base rs :=
  ⟨fun r hr' => owns_grown (h.1 r hr') hg hr, h.2⟩
/-- a row of newer memory is added. -/
theorem Sep.cons {w w1 : World} {base base' : Nat} {r : Rw} {rs : List Rw} (h : Sep w base rs) (hb : Below w.heap.size w w1) (hB : w.heap.size ≤ base') (hbb : base ≤ base') (hr : r.own w1 base') : Sep w1 base (r :: rs) := by
  have h1 := h.below hb
  refine ⟨fun r' hr' => ?_, List.pairwise_cons.2 ⟨fun r' hr' h0 he => ?_, h1.2⟩⟩
  · rcases List.mem_cons.1 hr' with rfl | hm
    · exact owns_base hr hbb
    · exact h1.1 r' hm
  · obtain ⟨q, hq⟩ := Option.ne_none_iff_exists'.1 h0
    have h2 := World.ownsRow.lt hr q hq
    have h3 := World.ownsRow.lt (h.1 r' hr') q (by rw [← he]; exact hq)
    omega
/-- an empty row without memory. -/
theorem Sep.consNil {w : World} {base : Nat} {rs : List Rw} (h : Sep w base rs) (e : TypeId) (k : Nat) : Sep w base (⟨e, k, .slice none 0 0, 0, []⟩ :: rs) := by
  refine ⟨fun r' hr' => ?_, List.pairwise_cons.2 ⟨fun r' hr' h0 => absurd rfl h0, h.2⟩⟩
  rcases List.mem_cons.1 hr' with rfl | hm
  · exact World.ownsRow_nil _ _ _ _
  · exact h.1 r' hm
/-- the first row is turned. -/
theorem Sep.head {w w1 : World} {base : Nat} {r r' : Rw} {rs : List Rw} (h : Sep w base (r :: rs)) (hg : w.grownBy w1 r.v.ownBlock) (hr : r'.own w1 base) (hat : ∀ q, r'.v.ownBlock = some q → r.v.ownBlock = some q ∨ w.heap.size ≤ q) : Sep w1 base (r' :: rs) := by
  obtain ⟨h1, h2⟩ := h
  have hp := List.pairwise_cons.1 h2
  refine ⟨fun x hx => ?_, List.pairwise_cons.2 ⟨fun x hx h0 he => ?_, hp.2⟩⟩
  · rcases List.mem_cons.1 hx with rfl | hm
    · exact hr
    · refine World.ownsRow.kept (h1 x (List.mem_cons_of_mem _ hm)) hg ?_
      by_cases hn : x.v.ownBlock = none
      · exact Or.inl hn
      · exact Or.inr (fun hh => hp.1 x hm (by rw [← hh]; exact hn) hh.symm)
  · obtain ⟨q, hq⟩ := Option.ne_none_iff_exists'.1 h0
    rcases hat q hq with ha | ha
    · exact hp.1 x hx (by rw [ha]; simp) (by rw [ha, ← hq, he])
    · have h3 := World.ownsRow.lt (h1 x (List.mem_cons_of_mem _ hx)) q (by rw [← he]; exact hq)
      omega
/-- the first row is turned, as the append law tells it. -/
theorem Sep.app {w w1 : World} {base : Nat} {r : Rw} {rs : List Rw} (h : Sep w base (r :: rs)) (hg : w.grownBy w1 r.v.ownBlock) {e : TypeId} {k g n cap : Nat} {xs : List Value} (hr : w1.ownsRow base e k (.slice (some ⟨g, 0, none⟩) n cap) n xs) {H : Nat} (hH : w.heap.size = H) (hat : r.v.ownBlock = some g ∨ g = H) : Sep w1 base (⟨e, k, .slice (some ⟨g, 0, none⟩) n cap, n, xs⟩ :: rs) := by
  refine h.head hg hr (fun q hq => ?_)
  have hq' : some g = some q := hq
  simp only [Option.some.injEq] at hq'
  subst hq'
  rcases hat with ha | ha
  · exact Or.inl ha
  · exact Or.inr (by omega)
def rwT (e : TypeId) (v : Value) (g : List Int) : Rw := ⟨e, 1, v, g.length, g.map (Value.int .i64)⟩
theorem Sep.ints {w : World} {base : Nat} {rs : List Rw} {e : TypeId} {v : Value} {g : List Int} (h : Sep w base rs) (hm : rwT e v g ∈ rs) (hl : g.length ≤ 140737488355328) : Ints w v g := Ints.of_owns (h.1 _ hm) hl
/-- a list of rows: each of the values vs reads as its list of gs, and is among the rows. -/
def InS (e : TypeId) (rs : List Rw) (vs : List Value) (gs : List (List Int)) : Prop := vs.length = gs.length ∧ ∀ (j : Nat) (v : Value) (g : List Int), vs[j]? = some v → gs[j]? = some g → rwT e v g ∈ rs
theorem InS.nil (e : TypeId) (rs : List Rw) : InS e rs [] [] := ⟨rfl, fun j v g h => by simp at h⟩
theorem InS.mono {e : TypeId} {rs rs' : List Rw} {vs : List Value} {gs : List (List Int)} (h : InS e rs vs gs) (hs : ∀ r ∈ rs, r ∈ rs') : InS e rs' vs gs := ⟨h.1, fun j v g h1 h2 => hs _ (h.2 j v g h1 h2)⟩
theorem InS.push {e : TypeId} {rs : List Rw} {vs : List Value} {gs : List (List Int)} (h : InS e rs vs gs) {v : Value} {g : List Int} (hm : rwT e v g ∈ rs) : InS e rs (vs ++ [v]) (gs ++ [g]) := by
  refine ⟨by simp [h.1], fun j v' g' h1 h2 => ?_⟩
  by_cases hj : j < vs.length
  · rw [List.getElem?_append_left hj] at h1
    rw [List.getElem?_append_left (by have := h.1; omega)] at h2
    exact h.2 j v' g' h1 h2
  · have hj' : j = vs.length := by
      have := (List.getElem?_eq_some_iff.1 h1).1
      simp at this; omega
    subst hj'
    simp at h1
    rw [h.1] at h2
    simp at h2
    subst h1; subst h2
    exact hm
/-- it reads as a slice of terms. -/
theorem Sep.terms {w : World} {base : Nat} {rs : List Rw} {e E : TypeId} {u : Value} {vs : List Value} {gs : List (List Int)} (h : Sep w base rs) (hI : InS e rs vs gs) (ho : w.ownsRow base E 1 u gs.length vs) (hn : gs.length ≤ 140737488355328) (hl : ∀ g ∈ gs, g.length ≤ 140737488355328) : Terms w u gs := by
  refine ⟨vs, ?_, hI.1, fun i v t h1 h2 => h.ints (hI.2 i v t h1 h2) (hl t (List.mem_of_getElem? h2))⟩
  unfold Vals
  rw [hI.1]
  exact RowK.of_owns ho hn
end Go.Proofs.Ytcpbpamnhdnanaa
