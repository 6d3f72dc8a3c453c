/-
  WHAT IT HOLDS: contracts of Arguments (at any head), Ways and SamePaths of package lemmaryref01. Conditions: the arguments read as data; a term.
-/
import Derived.Deep.RegionHeld3
import Derived.Test.YtldgkidojepdlaaGreatZRTopCarriedShelves20
import Derived.Test.YtldgkidojepdlaaGreatZRTopCarriedShelves15
import Derived.Test.YtldgkidojepdlaaGreatZRTopCarriedShelves18
namespace Go.Proofs.YtldgkidojepdlaaGreat
open Go Go.RowKit Go.Maps
attribute [local go_sem] Oper.semAt_some
structure WStep (s : Sg) (t : List Int) (n : Nat) (zs : List (List Int)) (p : List Int) : Prop where
  way : (wayL s t)[n]? = some p
  arg : ∀ k, k < zs.length → (wayL s t)[n + 1 + (zs.take k).flatten.length]? = some (p ++ [(k : Int)])
  lt : ∀ k, k < zs.length → n + 1 + (zs.take k).flatten.length < t.length
  set : ∀ i, setAt s t (n + 1) i → setAt s t n i ∨ ∃ k, k < zs.length ∧ i = n + 1 + (zs.take k).flatten.length
  len : zs.length ≤ t.length
theorem way_next {s : Sg} {t : List Int} {n k j g g7 c7 cu B P : Nat} {zs : List (List Int)} {p : List Int} (hP : p.length = P) {ws : List Value} {au : Option Addr} {wr w7 : World}
    (hown : wr.ownsRow B 28 1 (.slice (some ⟨g, 0, none⟩) t.length t.length) t.length ws) (hou : wr.ownsRow (g + 1) 3 1 (.slice au zs.length cu) zs.length ((startL n zs zs.length).map (Value.int .i64)))
    (hall : ∀ (i : Nat) (v : Value) (p : List Int), (setAt s t n i ∨ ∃ k', k' < k ∧ i = n + 1 + (zs.take k').flatten.length) → ws[i]? = some v → (wayL s t)[i]? = some p → wr.ownsRow (g + 1) 3 1 v p.length (p.map (Value.int .i64)))
    (hst : WStep s t n zs p) (hk : k < zs.length) (hj : n + 1 + (zs.take k).flatten.length = j) (hg : g < wr.heap.size) (hb : Below wr.heap.size wr w7) (hwl : ws.length = t.length) (hjl : j < t.length)
    (hown7 : w7.ownsRow wr.heap.size 3 1 (.slice (some ⟨g7, 0, none⟩) (0 + P + 1) c7) (0 + P + 1) ([] ++ p.map (Value.int .i64) ++ [.int .i64 k])) :
    (w7.setCell ⟨g, j, none⟩ (.slice (some ⟨g7, 0, none⟩) (P + 1) c7)).ownsRow B 28 1 (.slice (some ⟨g, 0, none⟩) t.length t.length) t.length (ws.set j (.slice (some ⟨g7, 0, none⟩) (P + 1) c7)) ∧
    (w7.setCell ⟨g, j, none⟩ (.slice (some ⟨g7, 0, none⟩) (P + 1) c7)).ownsRow (g + 1) 3 1 (.slice au zs.length cu) zs.length ((startL n zs zs.length).map (Value.int .i64)) ∧
    (∀ (i : Nat) (v : Value) (p : List Int), (setAt s t n i ∨ ∃ k', k' < k + 1 ∧ i = n + 1 + (zs.take k').flatten.length) → (ws.set j (.slice (some ⟨g7, 0, none⟩) (P + 1) c7))[i]? = some v → (wayL s t)[i]? = some p → (w7.setCell ⟨g, j, none⟩ (.slice (some ⟨g7, 0, none⟩) (P + 1) c7)).ownsRow (g + 1) 3 1 v p.length (p.map (Value.int .i64))) := by
  subst hP
  refine ⟨((owns_below hown hb).stored j _).1, owns_setCell (owns_below hou hb) (a := ⟨g, j, none⟩) (Nat.lt_succ_self _) _, fun i v q hi hv hq => ?_⟩
  by_cases hij : i = j
  · subst hij
    rw [List.getElem?_set_self (by omega)] at hv
    cases hv
    have h9 := hst.arg k hk
    rw [hj, hq] at h9
    cases h9
    refine owns_setCell (owns_base (b := wr.heap.size) ?_ (Nat.succ_le_of_lt hg)) (a := ⟨g, i, none⟩) (Nat.lt_succ_self _) _
    simpa using hown7
  · rw [List.getElem?_set_ne (by omega)] at hv
    refine owns_setCell (owns_below (hall i v q ?_ hv hq) hb) (a := ⟨g, j, none⟩) (Nat.lt_succ_self _) _
    rcases hi with hi | ⟨k', h1, h2⟩
    · exact Or.inl hi
    · rcases Nat.lt_succ_iff_lt_or_eq.1 h1 with h3 | rfl
      · exact Or.inr ⟨k', h3, h2⟩
      · omega
theorem row_one_far {W1 w5 : World} {H : Nat} {x : Value} {row : Option Nat} (h : RowK W1 (.slice (some ⟨H, 0, none⟩) 1 1) 1 1 [x]) (hg : W1.grownBy w5 row) (hne : row ≠ some H) : RowK w5 (.slice (some ⟨H, 0, none⟩) 1 1) 1 1 [x] := by
  obtain ⟨h1, a, cap, h2, h3, h4, h5, h6⟩ := h
  cases h2
  refine ⟨h1, _, _, rfl, h3, h4, h5, fun j u hj => ?_⟩
  obtain ⟨b, o, h7, h8⟩ := h6 j u hj
  cases h7
  exact ⟨_, _, rfl, (World.cell?_of_block (hg.block _ (World.block_lt_of_cell? _ _ h8) (fun e => hne e.symm))).trans h8⟩
end Go.Proofs.YtldgkidojepdlaaGreat
