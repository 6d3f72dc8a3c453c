/-
  WHAT IT HOLDS: contracts of Detached of package unify, halves and Detach of package kernel, and what detaching is (DetR). Conditions: the arguments read as data; small signs.
  WHAT IT HOLDS: contracts of asked of package kernel, and of the two functions that say what a step says. Conditions: the arguments read as data; a small sign.
  WHAT IT HOLDS: the plain law of converses: what a converse is, that it is a statement again, that the converse of a converse is alike the statement. No program in sight.
  WHAT IT HOLDS: a new solver of the reference (layer 2). No condition.
  WHAT IT HOLDS: contracts of detach and Detach of the reference of layer 4. Conditions: the arguments read as data.
  WHAT IT HOLDS: the plain law of the pairs of names whose statements are an equivalence: one answer alone. No program in sight.
-/
import Derived.Deep.WholeRow
import Derived.Test.YtlbjbmpkaniojaaGreatZRBlameMerges17
import Derived.Test.YtlbjbmpkaniojaaGreatZRBlameMerges21
import Derived.Test.YtlbjbmpkaniojaaGreatZRBlameMerges12
import Derived.Test.YtlbjbmpkaniojaaGreatZRBlameMerges10
import Derived.Test.YtlbjbmpkaniojaaGreatZRBlameMerges20
import Derived.Test.YtlbjbmpkaniojaaGreatZRBlameMerges18
namespace Go.Proofs.YtlbjbmpkaniojaaGreat
open Go Go.RowKit Go.Maps
/-- what is detached of m and n. -/
def DetR (s : Sg) (m n : List Int) (x : List Int × Int) : Prop :=
  ((termB s m && termB s n) = false ∧ x = ([], 1)) ∨ (termB s m = true ∧ termB s n = true ∧ ((m.head? ≠ some 0 ∧ x = ([], 10)) ∨
    ∃ A B, m = 0 :: (A ++ B) ∧ IsT s 12 A ∧ IsT s 12 B ∧ UR s A (aparL n) B x))
end Go.Proofs.YtlbjbmpkaniojaaGreat
namespace Go.Proofs.YtlbjbmpkaniojaaGreat
open Go Go.RowKit Go.Maps
end Go.Proofs.YtlbjbmpkaniojaaGreat
namespace Go.Proofs.YtlbjbmpkaniojaaGreat
open Go
/-- the converse of a statement that says "if". -/
def convL (s : Sg) (t : List Int) : List Int := canonL (0 :: (t.tail.drop (pLen s t.tail 1) ++ t.tail.take (pLen s t.tail 1)))
/-- what Equivalence answers. -/
def eqvR (s : Sg) (t u : List Int) : Bool × Int := if termB s t && termB s u then (decide (t.head? = some 0) && alikeB s (convL s t) u, 0) else (false, 1)
end Go.Proofs.YtlbjbmpkaniojaaGreat
namespace Go.Proofs.YtlbjbmpkaniojaaGreat
open Go Go.RowKit Go.Maps
end Go.Proofs.YtlbjbmpkaniojaaGreat
namespace Go.Proofs.YtlbjbmpkaniojaaGreat
open Go Go.RowKit Go.Maps
end Go.Proofs.YtlbjbmpkaniojaaGreat
namespace Go.Proofs.YtlbjbmpkaniojaaGreat
open Go Go.RowKit
/-- whether a list of pairs of names is that of the equivalences, ascending. -/
structure EqsQ (s : Sg) (l : List En) (L : List N2) : Prop where
  asc : L.Pairwise ltP
  mem : ∀ p, p ∈ L ↔ ∃ x ∈ l, ∃ y ∈ l, p = (x.name, y.name) ∧ (eqvR s x.says y.says).1 = true ∧ ¬ ltN y.name x.name
theorem EqsQ.unique {s : Sg} {l : List En} {L M : List N2} (h : EqsQ s l L) (k : EqsQ s l M) : L = M :=
  asc_unique ltP.irr (fun h k => ltP.trans h k) h.asc k.asc fun x => by rw [h.mem, k.mem]
/-- what Equivalences answers. -/
def EqsA (s : Sg) (l : List En) (L : List N2) (e : Int) : Prop := (libB s l = false ∧ L = [] ∧ e = 1) ∨ (libB s l = true ∧ EqsQ s l L ∧ e = 0)
theorem EqsA.unique {s : Sg} {l : List En} {L M : List N2} {e f : Int} (h : EqsA s l L e) (k : EqsA s l M f) : L = M ∧ e = f := by
  rcases h with ⟨h1, rfl, rfl⟩ | ⟨h1, h2, rfl⟩
  · rcases k with ⟨-, rfl, rfl⟩ | ⟨k1, -⟩
    · exact ⟨rfl, rfl⟩
    · rw [h1] at k1; cases k1
  · rcases k with ⟨k1, -⟩ | ⟨-, k2, rfl⟩
    · rw [h1] at k1; cases k1
    · exact ⟨h2.unique k2, rfl⟩
/-- the list behind i whole rows and k places of the next one; ns are the names, ascending, q tells whether two statements are an equivalence. -/
structure EqI (ns : List Nm) (q : Nat → Nat → Bool) (i k : Nat) (L : List N2) : Prop where
  asc : L.Pairwise ltP
  mem : ∀ p, p ∈ L ↔ ∃ a b, ∃ (ha : a < ns.length) (hb : b < ns.length), (a < i ∨ (a = i ∧ b < k)) ∧ a ≤ b ∧ q a b = true ∧ p = (ns[a], ns[b])
theorem EqI.skip {ns : List Nm} {q : Nat → Nat → Bool} {i k : Nat} {L : List N2} (h : EqI ns q i k L) (hq : q i k = false) : EqI ns q i (k + 1) L := ⟨h.asc, fun p => by
  rw [h.mem]
  constructor
  · rintro ⟨a, b, ha, hb, h1, h2⟩
    exact ⟨a, b, ha, hb, by omega, h2⟩
  · rintro ⟨a, b, ha, hb, h1, h2, h3, h4⟩
    refine ⟨a, b, ha, hb, ?_, h2, h3, h4⟩
    rcases h1 with h1 | ⟨rfl, h1⟩
    · exact Or.inl h1
    · by_cases e : b = k
      · subst e; rw [hq] at h3; cases h3
      · exact Or.inr ⟨rfl, by omega⟩⟩
theorem EqI.next {ns : List Nm} {q : Nat → Nat → Bool} {i k : Nat} {L : List N2} (h : EqI ns q i k L) (hk : ns.length ≤ k) : EqI ns q (i + 1) (i + 1) L := ⟨h.asc, fun p => by
  rw [h.mem]
  constructor
  · rintro ⟨a, b, ha, hb, h1, h2⟩
    exact ⟨a, b, ha, hb, by omega, h2⟩
  · rintro ⟨a, b, ha, hb, h1, h2, h3, h4⟩
    exact ⟨a, b, ha, hb, by omega, h2, h3, h4⟩⟩
theorem EqI.push {ns : List Nm} {q : Nat → Nat → Bool} {i k : Nat} {L : List N2} (h : EqI ns q i k L) (hn : AscN ns) (hi : i < ns.length) (hk : k < ns.length) (hik : i ≤ k) (hq : q i k = true) : EqI ns q i (k + 1) (L ++ [(ns[i], ns[k])]) := by
  have lt : ∀ {a b : Nat} (ha : a < ns.length) (hb : b < ns.length), a < b → ltN ns[a] ns[b] := fun ha hb hab => List.pairwise_iff_getElem.1 hn _ _ ha hb hab
  refine ⟨List.pairwise_append.2 ⟨h.asc, by simp, fun p hp r hr => ?_⟩, fun p => ?_⟩
  · simp at hr
    subst hr
    obtain ⟨a, b, ha, hb, h1, h2, h3, rfl⟩ := (h.mem p).1 hp
    rcases h1 with h1 | ⟨rfl, h1⟩
    · exact Or.inl (lt ha hi h1)
    · exact Or.inr ⟨rfl, lt hb hk h1⟩
  · rw [List.mem_append, h.mem]
    constructor
    · rintro (⟨a, b, ha, hb, h1, h2⟩ | h1)
      · exact ⟨a, b, ha, hb, by omega, h2⟩
      · simp at h1
        exact ⟨i, k, hi, hk, by omega, hik, hq, h1⟩
    · rintro ⟨a, b, ha, hb, h1, h2, h3, h4⟩
      by_cases e : a = i ∧ b = k
      · obtain ⟨rfl, rfl⟩ := e
        exact Or.inr (by simp [h4])
      · exact Or.inl ⟨a, b, ha, hb, by omega, h2, h3, h4⟩
theorem asc_le {ns : List Nm} (hn : AscN ns) {a b : Nat} (ha : a < ns.length) (hb : b < ns.length) : a ≤ b ↔ ¬ ltN ns[b] ns[a] := by
  constructor
  · intro h k
    rcases Nat.lt_or_eq_of_le h with h1 | rfl
    · exact ltN.asym (List.pairwise_iff_getElem.1 hn a b ha hb h1) k
    · exact ltN.irr _ k
  · intro h
    rcases Nat.lt_or_ge b a with h1 | h1
    · exact absurd (List.pairwise_iff_getElem.1 hn b a hb ha h1) h
    · exact h1
/-- all rows are done. -/
theorem EqI.fin {s : Sg} {l : List En} (hnd : (l.map En.name).Nodup) {ns : List Nm} {q : Nat → Nat → Bool} {i k : Nat} {L : List N2} (h : EqI ns q i k L) (hi : ns.length ≤ i) (hn : AscN ns) (hm : ∀ x, x ∈ ns ↔ x ∈ l.map En.name)
    (hq : ∀ a b (ha : a < ns.length) (hb : b < ns.length) x y, x ∈ l → y ∈ l → x.name = ns[a] → y.name = ns[b] → q a b = (eqvR s x.says y.says).1) : EqsQ s l L := by
  refine ⟨h.asc, fun p => ?_⟩
  rw [h.mem]
  constructor
  · rintro ⟨a, b, ha, hb, h1, h2, h3, rfl⟩
    obtain ⟨x, hx, ex⟩ := List.mem_map.1 ((hm ns[a]).1 (List.getElem_mem ha))
    obtain ⟨y, hy, ey⟩ := List.mem_map.1 ((hm ns[b]).1 (List.getElem_mem hb))
    refine ⟨x, hx, y, hy, by rw [ex, ey], by rw [← hq a b ha hb x y hx hy ex ey]; exact h3, ?_⟩
    rw [ex, ey]
    exact (asc_le hn ha hb).1 h2
  · rintro ⟨x, hx, y, hy, rfl, h1, h2⟩
    obtain ⟨a, ha, ea⟩ := List.getElem_of_mem ((hm x.name).2 (List.mem_map.2 ⟨x, hx, rfl⟩))
    obtain ⟨b, hb, eb⟩ := List.getElem_of_mem ((hm y.name).2 (List.mem_map.2 ⟨y, hy, rfl⟩))
    rw [← ea, ← eb] at h2
    exact ⟨a, b, ha, hb, by omega, (asc_le hn ha hb).2 h2, by rw [hq a b ha hb x y hx hy ea.symm eb.symm]; exact h1, by rw [ea, eb]⟩
theorem insN_at : ∀ {l : List Nm} {n : Nm} {k : Nat}, (∀ j (h : j < l.length), j < k → ltN l[j] n) → k ≤ l.length → (∀ h : k < l.length, ¬ ltN l[k] n) → insN n l = l.take k ++ n :: l.drop k
  | [], n, k, _, hk, _ => by simp at hk; subst hk; rfl
  | x :: l, n, 0, _, _, h => by
    have := h (by simp)
    simp only [List.getElem_cons_zero] at this
    rw [insN, if_neg this]; rfl
  | x :: l, n, k + 1, h1, hk, h => by
    have h0 := h1 0 (by simp) (by omega)
    simp only [List.getElem_cons_zero] at h0
    rw [insN, if_pos h0, insN_at (l := l) (n := n) (k := k) (fun j hj hjk => by
      have := h1 (j + 1) (by simpa using hj) (by omega)
      rw [List.getElem_cons_succ] at this
      exact this) (by simpa using hk) (fun hl => by
      have := h (by simpa using hl)
      rw [List.getElem_cons_succ] at this
      exact this)]
    rfl
theorem insN_len (n : Nm) : ∀ l : List Nm, (insN n l).length = l.length + 1
  | [] => rfl
  | x :: l => by
    unfold insN
    split
    · simp [insN_len n l]
    · simp
theorem srtN_snoc (l : List Nm) (n : Nm) : srtN (l ++ [n]) = if hasN (srtN l) n then srtN l else insN n (srtN l) := by unfold srtN; rw [List.foldl_append]; rfl
theorem srtN_len (l : List Nm) : (srtN l).length ≤ l.length := by
  have key : ∀ (l o : List Nm), (l.foldl (fun o n => if hasN o n then o else insN n o) o).length ≤ o.length + l.length := by
    intro l
    induction l with
    | nil => intro o; simp
    | cons n l ih =>
      intro o
      rw [List.foldl_cons]
      have h1 := ih (if hasN o n = true then o else insN n o)
      have h2 : (if hasN o n = true then o else insN n o).length ≤ o.length + 1 := by
        split
        · omega
        · rw [insN_len]; exact Nat.le_refl _
      rw [List.length_cons]; omega
  have := key l []
  simpa [srtN] using this
end Go.Proofs.YtlbjbmpkaniojaaGreat
