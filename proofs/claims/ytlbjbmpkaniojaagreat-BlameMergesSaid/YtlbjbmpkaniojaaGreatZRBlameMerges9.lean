/-
  WHAT IT HOLDS: contracts of the small functions of package unify: code, key, after. Conditions: the arguments read as data; at 'after' a whole term stands at the index.
  WHAT IT HOLDS: contracts of End, Part and Arguments of the reference of layer 1. Conditions: the arguments read as data; a whole term stands at the index.
  WHAT IT HOLDS: where package term finds the end of a part. No program. Condition: the part is a term.
-/
import Derived.Laws.IdiomStrings
import Derived.Test.YtlbjbmpkaniojaaGreatZRBlameMerges1
import Derived.Test.YtlbjbmpkaniojaaGreatZRBlameMerges2
import Derived.Test.YtlbjbmpkaniojaaGreatZRBlameMerges4
namespace Go.Proofs.YtlbjbmpkaniojaaGreat
open Go Go.RowKit Go.Maps
end Go.Proofs.YtlbjbmpkaniojaaGreat
namespace Go.Proofs.YtlbjbmpkaniojaaGreat
open Go Go.RowKit Go.Maps
theorem owns_some {w : World} {base : Nat} {e : TypeId} {k : Nat} {v : Value} {n : Nat} {xs : List Value} (h : w.ownsRow base e k v n xs) (h0 : 0 < n) : ∃ g cap, v = .slice (some ⟨g, 0, none⟩) n cap ∧ base ≤ g ∧ n ≤ cap := by
  obtain ⟨h1, h2⟩ := h
  rcases h2 with ⟨_, rfl⟩ | ⟨g, cap, cur, rfl, hb, hg, hnc, _⟩
  · simp at h1; omega
  · exact ⟨g, cap, rfl, hb, hnc⟩
end Go.Proofs.YtlbjbmpkaniojaaGreat
namespace Go.Proofs.YtlbjbmpkaniojaaGreat
end Go.Proofs.YtlbjbmpkaniojaaGreat
