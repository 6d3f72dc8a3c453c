/-
  WHAT IT HOLDS: from an input as the rows read it to the predicates that the walks use: a slice of binds, an array of three of them. Over any program.
-/
import Derived.Lib.SmallJoins
import Derived.Test.YtalodmochkodiaaGreatZRTopCarried10
import Derived.Test.YtalodmochkodiaaGreatZRTopCarried2
namespace Go.Proofs.YtalodmochkodiaaGreat
open Go Go.RowKit Go.ChangeShapes Go.WideShapes Go.Deep
section
variable {H : Type} {enc : TypeId × Value → H} {P : Program} {w : World} {base : Nat} {held : Bool}
/-- a slice of binds. -/
theorem binds_of_trod {t e q : TypeId} {f0 f1 : Field} {fuel : Nat} {cs : List Value} {x : DataW H × List MemPlace} (ht : P.underlying t = some (.slice e)) (he : P.underlying e = some (.struct #[f0, f1]))
    (ce : P.cellsOf e = 2) (o0 : f0.offset = 0) (o1 : f1.offset = 1) (c0 : P.cellsOf f0.type = 1) (c1 : P.cellsOf f1.type = 1) (u0 : P.underlying f0.type = some (.int .i64)) (u1 : P.underlying f1.type = some (.slice q)) (uq : P.underlying q = some (.int .i64)) (cq : P.cellsOf q = 1) (bq : 0 < P.bytesOf q) (be : 0 < P.bytesOf e)
    (h : DataW.trod enc P w base (fun _ => true) held fuel t cs = some x) (hs : Small P t x.1) : ∃ v l, cs = [v] ∧ BindsAt w v l := by
  rcases open_slice_pairs ht he ce o0 o1 c0 c1 h with ⟨rfl, rfl⟩ | ⟨a, len, cap, m, n, V0, V1, D0, D1, P0, P1, rfl, hb, hl, hm, hmm, rfl, hx⟩
  · exact ⟨_, [], rfl, [], ⟨⟨by simp [biC], none, 0, rfl, Nat.le_refl _, by simp, fun _ => rfl, by simp [biC]⟩, by simp⟩, rfl⟩
  · simp only [if_true] at hmm
    subst hmm
    have hn := hs.len ht be
    simp only [List.length_map, List.length_range] at hn
    have each : ∀ i, i < len → ∃ y : BV, V0 i = .int .i64 y.1 ∧ V1 i = y.2.1 ∧ Ints w y.2.1 y.2.2 := by
      intro i hi
      obtain ⟨_, _, g0, g1⟩ := hx i (by omega)
      obtain ⟨z, e0, _, _⟩ := DataW.trod_int u0 g0
      have hse : Small P e (.agg [D0 i, D1 i]) := hs.elem ht (List.mem_map.2 ⟨i, List.mem_range.2 hi, rfl⟩)
      have hp := hse.part (j := 1) (f := f1) (d := D1 i) he rfl rfl
      obtain ⟨u, xs, e1, h4, _⟩ := ints_of_trod u1 uq cq bq g1 hp
      simp only [List.cons.injEq, and_true] at e0 e1
      exact ⟨(z, u, xs), e0, e1, h4⟩
    obtain ⟨f, hf⟩ := choose_lt each
    have hsl : ((List.range len).map f).length = len := by simp
    refine ⟨_, biP ((List.range len).map f), rfl, (List.range len).map f, ⟨⟨?_, some a, m, by rw [hsl], by omega, by omega, (fun hh => by cases hh), fun j u hj => ?_⟩, ?_⟩, rfl⟩
    · rw [biC_len]
    · have hjl : j < len * 2 := by
        obtain ⟨hh, _⟩ := List.getElem?_eq_some_iff.1 hj
        rw [biC_len, hsl] at hh
        exact hh
      have hg := biC_get ((List.range len).map f) (j / 2) (by rw [hsl]; omega)
      have hd := Nat.div_add_mod j 2
      obtain ⟨c0', c1', _, _⟩ := hx (j / 2) (by omega)
      obtain ⟨e0, e1, _⟩ := hf (j / 2) (by omega)
      obtain ⟨b, o, spot⟩ := a
      have hspot := spot_none (by simpa using (hx 0 (by omega)).1)
      subst hspot
      refine ⟨b, o, rfl, ?_⟩
      rcases Nat.mod_two_eq_zero_or_one j with hm0 | hm1
      · have : j = j / 2 * 2 := by omega
        rw [this, hg.1] at hj
        simp at hj
        rw [this, ← hj]
        rw [← e0]; exact cell_add c0'
      · have : j = j / 2 * 2 + 1 := by omega
        rw [this, hg.2] at hj
        simp at hj
        rw [this, ← hj]
        rw [← e1]; exact cell_add c1'
    · intro y hy
      obtain ⟨i, hi, rfl⟩ := List.mem_map.1 hy
      exact (hf i (List.mem_range.1 hi)).2.2
end
end Go.Proofs.YtalodmochkodiaaGreat
