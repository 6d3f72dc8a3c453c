/-
  WHAT IT HOLDS: contract of size of the reference's solver (layer 2). Conditions: the solver reads as data; the term is a term of at most 60 numbers; what is known is so.
-/
import Derived.Test.YtiacbdipagbblaaRsol
import Derived.Test.YtiacbdipagbblaaFull
import Derived.Deep.RegionHeld3
namespace Go.Proofs.Ytiacbdipagbblaa
open Go Go.RowKit Go.Maps
def szT (m : MM) (t : List Int) : Nat := min (fw m t).length 61
def Kno (m : MM) (cs : Array Value) : Prop := cs.size = 24 ∧ ∀ v : Nat, v < 24 → ∃ x : Nat, cs[v]? = some (.int .i64 x) ∧ (x = 0 ∨ ∃ p, m (-(v : Int) - 1) = some p ∧ x = szT m p)
theorem Kno.set {m : MM} {cs : Array Value} (h : Kno m cs) (v : Nat) {p : List Int} (hp : m (-(v : Int) - 1) = some p) : Kno m (cs.setIfInBounds v (.int .i64 (szT m p))) := by
  refine ⟨by simpa using h.1, fun x hx => ?_⟩
  rw [Array.getElem?_setIfInBounds]
  by_cases e : v = x
  · subst e
    exact ⟨szT m p, by simp [h.1, hx], Or.inr ⟨p, hp, rfl⟩⟩
  · rw [if_neg e]
    exact h.2 x hx
theorem Kno.at {m : MM} {cs : Array Value} (h : Kno m cs) {v : Nat} (hv : v < 24) {w : World} {pd : Nat} (ha : ArrV w pd cs) : ∃ x3 : Nat, Kno m cs ∧ ArrV w pd cs ∧ w.cell? ⟨pd, v, none⟩ = some (.int .i64 x3) := by
  obtain ⟨x, h1, -⟩ := h.2 v hv
  exact ⟨x, h, ha, by rw [ha.cell]; exact h1⟩
def SzI (m : MM) (t : List Int) (i n : Nat) : Prop := n ≤ 121 ∧ (n ≤ 60 → n = (fw m (t.take i)).length) ∧ (60 < n → 60 < (fw m (t.take i)).length)
theorem SzI.zero (m : MM) (t : List Int) : SzI m t 0 0 := ⟨by omega, fun _ => by simp [fw, full_nil], fun h => by omega⟩
theorem SzI.next {m : MM} {t : List Int} {i n : Nat} (h : SzI m t i n) (hn : n ≤ 60) (hi : i < t.length) {X : Nat} (hX : min (fw m [t[i]]).length 61 = X) : SzI m t (i + 1) (n + X) := by
  have h1 := h.2.1 hn
  unfold SzI
  rw [fw_take t hi, List.length_append]
  refine ⟨by omega, fun _ => by omega, fun _ => by omega⟩
theorem SzI.fin {m : MM} {t : List Int} {i n : Nat} (h : SzI m t i n) (hi : t.length ≤ i) (hn : n ≤ 60) : n = szT m t := by
  have h1 := h.2.1 hn
  rw [List.take_of_length_le hi] at h1
  unfold szT
  omega
theorem SzI.big {m : MM} {t : List Int} {i n : Nat} (h : SzI m t i n) (hn : 60 < n) : 61 = szT m t := by
  have h1 := h.2.2 hn
  have h2 := fw_take_le m t i
  unfold szT
  omega
theorem below_self_drewN' {w0 w : World} (h : Below w0.heap.size w0 w) (n : Nat) : Below w0.heap.size w (w.drewN n) := (below_self_drewN w n).mono h.size
end Go.Proofs.Ytiacbdipagbblaa
