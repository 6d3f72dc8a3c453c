/-
  WHAT IT HOLDS: contracts of the small methods of package unify's solver: after, look, comes. Conditions: the solver reads as data (SolvW); the parts are terms.
  WHAT IT HOLDS: contract of solve of package unify's solver: it ends with most general binds, or there is no unifier. Conditions: the solver reads as data and is empty; both are terms of at most 60 numbers; a valid sign.
  WHAT IT HOLDS: contracts of named and apart of package unify, and of full of its solver. Conditions: the arguments read as data; numbers are small.
-/
import Derived.Deep.RegionHeld3
import Derived.Deep.QuietTactic
import Derived.Deep.LoopGhost
import Derived.Deep.RegionLaw
import Derived.Test.YtlbjbmpkaniojaaGreatZRBlameMerges10
import Derived.Test.YtlbjbmpkaniojaaGreatZRBlameMerges12
import Derived.Test.YtlbjbmpkaniojaaGreatZRBlameMerges9
import Derived.Test.YtlbjbmpkaniojaaGreatZRBlameMerges17
namespace Go.Proofs.YtlbjbmpkaniojaaGreat
open Go Go.RowKit Go.Maps
/-- a solver in memory: its sign, and what variables become. -/
structure SolvW (w : World) (px bm : Nat) (vs : Value) (s : Sg) (M : Int → Option VT) : Prop where
  c0 : w.cell? ⟨px, 0, none⟩ = some vs
  c1 : w.cell? ⟨px, 1, none⟩ = some (.map (some bm))
  sgn : SignAt w vs s
  map : ∃ n, TMap w bm n M
  its : ∀ x v l, M x = some (v, l) → Ints w v l
theorem SolvW.below {w w' : World} {px bm : Nat} {vs : Value} {s : Sg} {M : Int → Option VT} (h : SolvW w px bm vs s M) (hb : Below w.heap.size w w') : SolvW w' px bm vs s M := by
  obtain ⟨h1, h2, h3, ⟨n, h4⟩, h5⟩ := h
  exact ⟨(hb.cell (World.block_lt_of_cell? _ _ h1)).trans h1, (hb.cell (World.block_lt_of_cell? _ _ h2)).trans h2, h3.below hb, ⟨n, h4.belowS hb⟩, fun x v l hx => (h5 x v l hx).below hb⟩
theorem SolvW.grown {κ ε : Type} {w w' : World} {px bm : Nat} {vs : Value} {s : Sg} {M : Int → Option VT} (h : SolvW w px bm vs s M) {P : Program} {k : TypeId} {ek : κ → Value} {ev : ε → Value} {b n : Nat} {m : κ → Option ε} (hm : MapK P k ek ev w b n m) (hg : w.grownBy w' (some b)) (hne : bm ≠ b) : SolvW w' px bm vs s M := by
  obtain ⟨h1, h2, h3, ⟨q, h4⟩, h5⟩ := h
  exact ⟨hm.cell rfl hg h1, hm.cell rfl hg h2, hm.signAt rfl hg h3, ⟨q, h4.kept hg (fun e => hne (by simpa using e))⟩, fun x v l hx => hm.ints rfl hg (h5 x v l hx)⟩
/-- what a walk that did not find v has seen. -/
def Dfs (m : MM) (v : Int) (S t S' : List Int) : Prop := (∀ x ∈ S, x ∈ S') ∧ v ∉ t ∧ (∀ x ∈ t, x < 0 → x ∈ S') ∧ ∀ n ∈ S', n ∉ S → ∀ p, m n = some p → v ∉ p ∧ ∀ x ∈ p, x < 0 → x ∈ S'
theorem Dfs.nil (m : MM) (v : Int) (S : List Int) : Dfs m v S [] S := ⟨fun _ h => h, by simp, by simp, fun n h h' => absurd h h'⟩
theorem Dfs.skip {m : MM} {v : Int} {S t S' : List Int} {n : Int} (h : Dfs m v S t S') (h1 : n ≠ v) (h2 : n < 0 → n ∈ S') : Dfs m v S (t ++ [n]) S' := by
  refine ⟨h.1, ?_, fun x hx hx0 => ?_, h.2.2.2⟩
  · simp only [List.mem_append, List.mem_singleton, not_or]; exact ⟨h.2.1, fun e => h1 e.symm⟩
  · rcases List.mem_append.1 hx with hx | hx
    · exact h.2.2.1 x hx hx0
    · simp at hx; subst hx; exact h2 hx0
theorem Dfs.free {m : MM} {v : Int} {S t S' : List Int} {n : Int} (h : Dfs m v S t S') (h1 : n ≠ v) (h2 : m n = none) : Dfs m v S (t ++ [n]) (n :: S') := by
  refine ⟨fun x hx => by simp [h.1 x hx], ?_, fun x hx hx0 => ?_, fun x hx hxS p hp => ?_⟩
  · simp only [List.mem_append, List.mem_singleton, not_or]; exact ⟨h.2.1, fun e => h1 e.symm⟩
  · rcases List.mem_append.1 hx with hx | hx
    · simp [h.2.2.1 x hx hx0]
    · simp at hx; simp [hx]
  · rcases List.mem_cons.1 hx with rfl | hx
    · rw [h2] at hp; cases hp
    · have := h.2.2.2 x hx hxS p hp
      exact ⟨this.1, fun y hy hy0 => by simp [this.2 y hy hy0]⟩
theorem Dfs.into {m : MM} {v : Int} {S t S' S2 p : List Int} {n : Int} (h : Dfs m v S t S') (h1 : n ≠ v) (h2 : m n = some p) (k : Dfs m v (n :: S') p S2) : Dfs m v S (t ++ [n]) S2 := by
  have hS : ∀ x ∈ S', x ∈ S2 := fun x hx => k.1 x (by simp [hx])
  refine ⟨fun x hx => hS x (h.1 x hx), ?_, fun x hx hx0 => ?_, fun x hx hxS q hq => ?_⟩
  · simp only [List.mem_append, List.mem_singleton, not_or]; exact ⟨h.2.1, fun e => h1 e.symm⟩
  · rcases List.mem_append.1 hx with hx | hx
    · exact hS x (h.2.2.1 x hx hx0)
    · simp at hx; subst hx; exact k.1 x (by simp)
  · by_cases e : x = n
    · subst e
      rw [h2] at hq
      cases hq
      exact ⟨k.2.1, k.2.2.1⟩
    · by_cases hx' : x ∈ S'
      · have := h.2.2.2 x hx' hxS q hq
        exact ⟨this.1, fun y hy hy0 => hS y (this.2 y hy hy0)⟩
      · exact k.2.2.2 x hx (by simp [e, hx']) q hq
theorem Dfs.no {m : MM} {v : Int} {t S' : List Int} (h : Dfs m v [] t S') : ¬ Reach m t v := by
  intro H
  obtain ⟨_, h2, h3, h4⟩ := h
  induction H with
  | here t v g1 g2 => exact h2 g1
  | step t v n p g1 g2 g3 g4 ih =>
    have := h4 n (h3 n g1 g2) (by simp) p g3
    exact ih this.1 this.2 h4
end Go.Proofs.YtlbjbmpkaniojaaGreat
namespace Go.Proofs.YtlbjbmpkaniojaaGreat
open Go Go.RowKit Go.Maps
/-- the arguments of a part, as slices of it. -/
def ents (pb po : Nat) : Nat → List (List Int) → List VT
  | _, [] => []
  | o, z :: zs => (.slice (some ⟨pb, po + o, none⟩) z.length z.length, z) :: ents pb po (o + z.length) zs
theorem below_self_drew (w : World) : Below w.heap.size w w.drew := (Below.refl _ _).drew
end Go.Proofs.YtlbjbmpkaniojaaGreat
namespace Go.Proofs.YtlbjbmpkaniojaaGreat
open Go Go.RowKit Go.Maps
end Go.Proofs.YtlbjbmpkaniojaaGreat
