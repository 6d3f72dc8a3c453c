/-
  WHAT IT HOLDS: from an input as the rows read it to the predicates that the walks use: a slice of binds, an array of three of them. Over any program.
-/
import Derived.Lib.SmallJoins
import Derived.Test.YtpflkjldapmgdaaGreatZRCarryConverse13
import Derived.Test.YtpflkjldapmgdaaGreatZRCarryConverse0
namespace Go.Proofs.YtpflkjldapmgdaaGreat
open Go Go.RowKit Go.ChangeShapes Go.WideShapes Go.Deep
section
variable {H : Type} {enc : TypeId × Value → H} {P : Program} {w : World} {base : Nat} {held : Bool}
/-- a slice of binds. -/
theorem binds_of_trod {t e q : TypeId} {f0 f1 : Field} {fuel : Nat} {cs : List Value} {x : DataW H × List MemPlace} (ht : P.underlying t = some (.slice e)) (he : P.underlying e = some (.struct #[f0, f1]))
    (ce : P.cellsOf e = 2) (o0 : f0.offset = 0) (o1 : f1.offset = 1) (c0 : P.cellsOf f0.type = 1) (c1 : P.cellsOf f1.type = 1) (u0 : P.underlying f0.type = some (.int .i64)) (u1 : P.underlying f1.type = some (.slice q)) (uq : P.underlying q = some (.int .i64)) (cq : P.cellsOf q = 1) (bq : 0 < P.bytesOf q) (be : 0 < P.bytesOf e)
    (h : DataW.trod enc P w base (fun _ => true) held fuel t cs = some x) (hs : Small P t x.1) : ∃ v l, cs = [v] ∧ BindsAt w v l := by
  rcases open_slice_pairs ht he ce o0 o1 c0 c1 h with ⟨rfl, rfl⟩ | ⟨a, len, cap, m, n, V0, V1, D0, D1, P0, P1, rfl, hb, hl, hm, hmm, rfl, hx⟩
  · exact ⟨_, [], rfl, [], ⟨⟨by simp [biC], none, 0, rfl, Nat.le_refl _, by simp, fun _ => rfl, by simp [biC]⟩, by simp⟩, rfl⟩
  · simp only [if_true] at hmm
    subst hmm
    have hn := hs.len ht be
    simp only [List.length_map, List.length_range] at hn
    have each : ∀ i, i < len → ∃ y : BV, V0 i = .int .i64 y.1 ∧ V1 i = y.2.1 ∧ Ints w y.2.1 y.2.2 := by
      intro i hi
      obtain ⟨_, _, g0, g1⟩ := hx i (by omega)
      obtain ⟨z, e0, _, _⟩ := DataW.trod_int u0 g0
      have hse : Small P e (.agg [D0 i, D1 i]) := hs.elem ht (List.mem_map.2 ⟨i, List.mem_range.2 hi, rfl⟩)
      have hp := hse.part (j := 1) (f := f1) (d := D1 i) he rfl rfl
      obtain ⟨u, xs, e1, h4, _⟩ := ints_of_trod u1 uq cq bq g1 hp
      simp only [List.cons.injEq, and_true] at e0 e1
      exact ⟨(z, u, xs), e0, e1, h4⟩
    obtain ⟨f, hf⟩ := choose_lt each
    have hsl : ((List.range len).map f).length = len := by simp
    refine ⟨_, biP ((List.range len).map f), rfl, (List.range len).map f, ⟨⟨?_, some a, m, by rw [hsl], by omega, by omega, (fun hh => by cases hh), fun j u hj => ?_⟩, ?_⟩, rfl⟩
    · rw [biC_len]
    · have hjl : j < len * 2 := by
        obtain ⟨hh, _⟩ := List.getElem?_eq_some_iff.1 hj
        rw [biC_len, hsl] at hh
        exact hh
      have hg := biC_get ((List.range len).map f) (j / 2) (by rw [hsl]; omega)
      have hd := Nat.div_add_mod j 2
      obtain ⟨c0', c1', _, _⟩ := hx (j / 2) (by omega)
      obtain ⟨e0, e1, _⟩ := hf (j / 2) (by omega)
      obtain ⟨b, o, spot⟩ := a
      have hspot := spot_none (by simpa using (hx 0 (by omega)).1)
      subst hspot
      refine ⟨b, o, rfl, ?_⟩
      rcases Nat.mod_two_eq_zero_or_one j with hm0 | hm1
      · have : j = j / 2 * 2 := by omega
        rw [this, hg.1] at hj
        simp at hj
        rw [this, ← hj]
        rw [← e0]; exact cell_add c0'
      · have : j = j / 2 * 2 + 1 := by omega
        rw [this, hg.2] at hj
        simp at hj
        rw [this, ← hj]
        rw [← e1]; exact cell_add c1'
    · intro y hy
      obtain ⟨i, hi, rfl⟩ := List.mem_map.1 hy
      exact (hf i (List.mem_range.1 hi)).2.2
/-- an array of three slices of binds. -/
theorem binds3_of_trod {t e e' q : TypeId} {f0 f1 : Field} {fuel : Nat} {cs : List Value} {x : DataW H × List MemPlace} (ht : P.underlying t = some (.array 3 e)) (hte : P.underlying e = some (.slice e')) (he : P.underlying e' = some (.struct #[f0, f1]))
    (ce : P.cellsOf e' = 2) (o0 : f0.offset = 0) (o1 : f1.offset = 1) (c0 : P.cellsOf f0.type = 1) (c1 : P.cellsOf f1.type = 1) (u0 : P.underlying f0.type = some (.int .i64)) (u1 : P.underlying f1.type = some (.slice q)) (uq : P.underlying q = some (.int .i64)) (cq : P.cellsOf q = 1) (bq : 0 < P.bytesOf q) (be : 0 < P.bytesOf e')
    (ct : P.cellsOf t = 3) (cse : P.cellsOf e = 1)
    (h : DataW.trod enc P w base (fun _ => true) held fuel t cs = some x) (hs : Small P t x.1) : ∃ v0 v1 v2 l0 l1 l2, cs = [v0, v1, v2] ∧ BindsAt w v0 l0 ∧ BindsAt w v1 l1 ∧ BindsAt w v2 l2 := by
  obtain ⟨xs, m, -, rfl, hl, hn, hx⟩ := DataW.trod_array ht h
  rw [ct] at hl
  match cs, hl with
  | [v0, v1, v2], _ =>
    have one : ∀ (i : Nat) (v : Value), i < 3 → ([v0, v1, v2].drop i).take 1 = [v] → ∃ l, BindsAt w v l := by
      intro i v hi hv
      have h1 := hx i hi
      rw [cse, Nat.mul_one, hv] at h1
      have hi' : i < xs.length := by omega
      rw [List.getElem?_eq_getElem hi'] at h1
      have hsm : Small P e (xs[i]).1 := hs.item ht (List.mem_map.2 ⟨xs[i], List.getElem_mem hi', rfl⟩)
      obtain ⟨u, l, h3, h4⟩ := binds_of_trod hte he ce o0 o1 c0 c1 u0 u1 uq cq bq be h1 hsm
      simp only [List.cons.injEq, and_true] at h3
      exact ⟨l, h3 ▸ h4⟩
    obtain ⟨l0, h0⟩ := one 0 v0 (by omega) rfl
    obtain ⟨l1, h1⟩ := one 1 v1 (by omega) rfl
    obtain ⟨l2, h2⟩ := one 2 v2 (by omega) rfl
    exact ⟨v0, v1, v2, l0, l1, l2, rfl, h0, h1, h2⟩
end
end Go.Proofs.YtpflkjldapmgdaaGreat
