/-
  WHAT IT HOLDS: 'a block of memory holds an array of terms, some of them nil' (ArrT), how it is kept and written. Over any program. No condition.
-/
import Derived.Test.YtcpbpamnhdnanaaZRTopDetachedInstances20
namespace Go.Proofs.Ytcpbpamnhdnanaa
open Go Go.RowKit Go.Maps

abbrev TT := Nat → Option VT
def sV : Option VT → Value
  | none => .slice none 0 0
  | some v => v.1
/-- cells off .. off + N - 1 of block pa are the terms T; all cells of the block are slices. -/
def ArrT (w : World) (pa off N : Nat) (T : TT) : Prop :=
  ∃ (cs : Array Value) (ty : TypeId), w.heap[pa]? = some (.cells cs ty (0, 0)) ∧ (∀ (i : Nat) (u : Value), cs[i]? = some u → ∃ a n c, u = Value.slice a n c) ∧
    ∀ v, v < N → cs[off + v]? = some (sV (T v)) ∧ ∀ u l, T v = some (u, l) → (∃ x n c, u = .slice (some x) n c) ∧ Ints w u l
theorem ArrT.lt {w : World} {pa off N : Nat} {T : TT} (h : ArrT w pa off N T) : pa < w.heap.size := by
  obtain ⟨cs, ty, h1, _⟩ := h
  exact (Array.getElem?_eq_some_iff.1 h1).1
theorem ArrT.cell {w : World} {pa off N : Nat} {T : TT} (h : ArrT w pa off N T) {v : Nat} (hv : v < N) : w.cell? ⟨pa, off + v, none⟩ = some (sV (T v)) := by
  obtain ⟨cs, ty, h1, _, h3⟩ := h
  rw [cell_of_row w pa (off + v) cs ty (0, 0) h1]
  exact (h3 v hv).1
theorem ArrT.frozen {w : World} {pa off N : Nat} {T : TT} (h : ArrT w pa off N T) (i : Nat) : w.frozen? ⟨pa, i, none⟩ = false := by
  obtain ⟨cs, ty, h1, _⟩ := h
  exact frozen_of_row w pa i cs ty h1
theorem ArrT.ints {w : World} {pa off N : Nat} {T : TT} (h : ArrT w pa off N T) {v : Nat} (hv : v < N) {u : Value} {l : List Int} (ht : T v = some (u, l)) : (∃ x n c, u = .slice (some x) n c) ∧ Ints w u l := by
  obtain ⟨cs, ty, _, _, h3⟩ := h
  exact (h3 v hv).2 u l ht
/-- a cell that is no slice stays while the array is written. -/
theorem ArrT.keep {w w' : World} {pa off N : Nat} {T : TT} {row : Option Nat} (h : ArrT w pa off N T) (hr : row = some pa) (hg : w.grownBy w' row) {a : Addr} {v : Value} (hc : w.cell? a = some v) (hv : ∀ x n c, v ≠ .slice x n c) : w'.cell? a = some v := by
  subst hr
  refine hg.cell hc fun e => ?_
  obtain ⟨cs, ty, h1, h2, _⟩ := h
  have e' : a.block = pa := by simpa using e
  obtain ⟨b, o, spot⟩ := a
  simp only at e'
  subst e'
  have hs := World.cell?_spot hc
  simp only at hs
  subst hs
  rw [cell_of_row w b o cs ty (0, 0) h1] at hc
  obtain ⟨x, n, c, rfl⟩ := h2 o v hc
  exact hv x n c rfl
theorem ArrT.rowK {w w' : World} {pa off N : Nat} {T : TT} {row : Option Nat} (h : ArrT w pa off N T) (hr : row = some pa) (hg : w.grownBy w' row) {v : Value} {q r : Nat} {xs : List Value} (hx : RowK w v q r xs) (hn : ∀ u ∈ xs, ∀ x n c, u ≠ .slice x n c) : RowK w' v q r xs := by
  obtain ⟨h1, a, cap, h2, h3, h4, h5, h6⟩ := hx
  refine ⟨h1, a, cap, h2, h3, h4, h5, fun j u hj => ?_⟩
  obtain ⟨b', o, h7, h8⟩ := h6 j u hj
  exact ⟨b', o, h7, h.keep hr hg h8 (hn u (List.mem_of_getElem? hj))⟩
theorem ArrT.keepInts {w w' : World} {pa off N : Nat} {T : TT} {row : Option Nat} (h : ArrT w pa off N T) (hr : row = some pa) (hg : w.grownBy w' row) {v : Value} {l : List Int} (hx : Ints w v l) : Ints w' v l :=
  h.rowK hr hg hx fun u hu x n c e => by
    obtain ⟨y, _, rfl⟩ := List.mem_map.1 hu
    cases e
theorem ArrT.keepSign {w w' : World} {pa off N : Nat} {T : TT} {row : Option Nat} (h : ArrT w pa off N T) (hr : row = some pa) (hg : w.grownBy w' row) {v : Value} {s : Sg} (hx : SignAt w v s) : SignAt w' v s :=
  ⟨h.rowK hr hg hx.1 fun u hu x n c e => by
    subst e
    obtain ⟨y, _, hy⟩ := List.mem_flatMap.1 hu
    simp at hy, hx.2⟩
theorem ArrT.below {w w' : World} {pa off N : Nat} {T : TT} (h : ArrT w pa off N T) (hb : Below w.heap.size w w') : ArrT w' pa off N T := by
  have hl := h.lt
  obtain ⟨cs, ty, h1, h2, h3⟩ := h
  refine ⟨cs, ty, by rw [hb.block pa hl]; exact h1, h2, fun v hv => ⟨(h3 v hv).1, fun u l e => ?_⟩⟩
  obtain ⟨h4, h5⟩ := (h3 v hv).2 u l e
  exact ⟨h4, h5.below hb⟩
/-- a store. -/
theorem ArrT.set {w : World} {pa off N : Nat} {T : TT} (h : ArrT w pa off N T) {v : Nat} (hv : v < N) {x : Addr} {n c : Nat} {l : List Int} (hu : Ints w (.slice (some x) n c) l) :
    ArrT (w.setCell ⟨pa, off + v, none⟩ (.slice (some x) n c)) pa off N (fun y => if y = v then some (.slice (some x) n c, l) else T y) ∧ w.grownBy (w.setCell ⟨pa, off + v, none⟩ (.slice (some x) n c)) (some pa) := by
  have hg : w.grownBy (w.setCell ⟨pa, off + v, none⟩ (.slice (some x) n c)) (some pa) :=
    ⟨rfl, rfl, rfl, by simp, fun k _ hk => heap_setCell_other w ⟨pa, off + v, none⟩ k _ (fun e => hk (by simp [e]))⟩
  have h0 := h
  obtain ⟨cs, ty, h1, h2, h3⟩ := h
  have hlt : off + v < cs.size := (Array.getElem?_eq_some_iff.1 (h3 v hv).1).1
  refine ⟨⟨cs.setIfInBounds (off + v) (.slice (some x) n c), ty, heap_setCell_same w pa (off + v) cs ty _ h1, fun i u hi => ?_, fun y hy => ?_⟩, hg⟩
  · rw [Array.getElem?_setIfInBounds] at hi
    split at hi
    · cases hi; exact ⟨_, _, _, rfl⟩
    · exact h2 i u hi
  · by_cases e : y = v
    · subst e
      refine ⟨by simp [hlt, sV], fun u l' hl => ?_⟩
      simp at hl
      obtain ⟨rfl, rfl⟩ := hl
      exact ⟨⟨_, _, _, rfl⟩, h0.keepInts rfl hg hu⟩
    · simp only [if_neg e]
      refine ⟨?_, fun u l' hl => ?_⟩
      · rw [Array.getElem?_setIfInBounds, if_neg (by omega)]
        exact (h3 y hy).1
      · obtain ⟨h4, h5⟩ := (h3 y hy).2 u l' hl
        exact ⟨h4, h0.keepInts rfl hg h5⟩
/-- what the variables of terms are sent to. -/
def mR (T : TT) : MM := fun n => if n < 0 then (T (-n - 1).toNat).map Prod.snd else none
theorem mR_at (T : TT) {n : Int} (hn : n < 0) {v : Nat} (hv : -n - 1 = v) : mR T n = (T v).map Prod.snd := by
  unfold mR
  rw [if_pos hn, hv, Int.toNat_natCast]
theorem mR_set (T : TT) {n : Int} (hn : n < 0) {v : Nat} (hv : -n - 1 = v) (u : Value) (l : List Int) : mR (fun y => if y = v then some (u, l) else T y) = updM (mR T) n l := by
  funext x
  show (if x < 0 then ((fun y => if y = v then some (u, l) else T y) (-x - 1).toNat).map Prod.snd else none) = if x = n then some l else mR T x
  by_cases hx : x < 0
  · rw [if_pos hx]
    by_cases e : x = n
    · subst e
      rw [if_pos rfl, hv, Int.toNat_natCast]
      simp
    · have : (-x - 1).toNat ≠ v := by omega
      rw [if_neg e]
      simp only [if_neg this]
      unfold mR
      rw [if_pos hx]
  · rw [if_neg hx, if_neg (by omega)]
    unfold mR
    rw [if_neg hx]
end Go.Proofs.Ytcpbpamnhdnanaa
