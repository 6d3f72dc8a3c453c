/-
  WHAT IT HOLDS: from an input as the rows read it to the predicates that the walks use. Over any program.
  WHAT IT HOLDS: from an input as the rows read it to the predicates that the walks use: an array of three terms. Over any program.
-/
import Derived.SizedLaws
import Derived.ShutString
import Derived.Below
import Derived.ProofKit
import Derived.OpenShut
import Derived.Test.YtmpjaakkjhmpmaaGreatDoorChecked
import Derived.Deep.Slices
import Derived.Deep.SlicePairs
import Derived.Test.YtmpjaakkjhmpmaaGreatDoorZRShortCites0
namespace Go.Proofs.YtmpjaakkjhmpmaaGreatDoor
open Go Go.RowKit Go.ChangeShapes Go.WideShapes Go.Deep
theorem laidOut : laidOutB Tryz.prog = true := by kernel_rfl
section
variable {H : Type} {enc : TypeId × Value → H} {P : Program} {w : World} {base : Nat} {held : Bool}

theorem spot_none {w : World} {b o : Nat} {spot : _} {u : Value} (h : w.cell? ((⟨b, o, spot⟩ : Addr).add 0) = some u) : spot = none := by
  simpa [Addr.add] using World.cell?_spot h
theorem cell_add {w : World} {b o n : Nat} {u : Value} (h : w.cell? ((⟨b, o, none⟩ : Addr).add n) = some u) : w.cell? ⟨b, o + n, none⟩ = some u := by
  rw [add_plain] at h; exact h
theorem getD_take {zs : List Int} {len j : Nat} {y : Int} (h : (zs.take len)[j]? = some y) : zs.getD j 0 = y := by
  rw [List.getElem?_take] at h
  split at h
  · simp [List.getD, h]
  · simp at h
def Small (P : Program) (t : TypeId) (d : DataW H) : Prop := ∀ n ∈ d.weights P t, n ≤ reachBytes
theorem small_of {ts : List TypeId} {ds : List (DataW H)} (h : (DataW.weightsEach P ts ds).all (· ≤ reachBytes) = true) {j : Nat} {t : TypeId} {d : DataW H} (ht : ts[j]? = some t) (hd : ds[j]? = some d) : Small P t d := by
  intro n hn
  have := List.all_eq_true.1 h _ (DataW.weights_mem_each ht hd n hn)
  simpa using this
theorem mem_weightsAll {e : TypeId} {n : Nat} {d : DataW H} : ∀ {l : List (DataW H)}, d ∈ l → n ∈ d.weights P e → n ∈ DataW.weightsAll P e l
  | x :: r, h, hn => by
    simp only [DataW.weightsAll, List.mem_append]
    rcases List.mem_cons.1 h with rfl | h
    · exact Or.inl hn
    · exact Or.inr (mem_weightsAll h hn)
theorem Small.len {t e : TypeId} {l s : List (DataW H)} (h : Small P t (.slice l s)) (ht : P.underlying t = some (.slice e)) (he : 0 < P.bytesOf e) : l.length ≤ 140737488355328 := by
  have := h ((l.length + s.length) * P.bytesOf e) (by simp [DataW.weights, ht])
  have h2 : l.length + s.length ≤ (l.length + s.length) * P.bytesOf e := Nat.le_mul_of_pos_right _ he
  have h3 : reachBytes ≤ 140737488355328 := by decide
  omega
theorem Small.elem {t e : TypeId} {l s : List (DataW H)} (h : Small P t (.slice l s)) (ht : P.underlying t = some (.slice e)) {d : DataW H} (hd : d ∈ l) : Small P e d := by
  intro n hn
  exact h n (by simp only [DataW.weights, ht, List.mem_cons, List.mem_append]; exact Or.inr (Or.inl (mem_weightsAll hd hn)))
theorem Small.part {t : TypeId} {fs : Array Field} {ds : List (DataW H)} (h : Small P t (.agg ds)) (ht : P.underlying t = some (.struct fs)) {j : Nat} {f : Field} {d : DataW H} (hf : fs[j]? = some f) (hd : ds[j]? = some d) : Small P f.type d := by
  intro n hn
  refine h n ?_
  simp only [DataW.weights, ht]
  exact DataW.weights_mem_each (j := j) (by simp [hf]) hd n hn

/-- a slice of numbers. -/
theorem ints_of_trod {t e : TypeId} {fuel : Nat} {cs : List Value} {x : DataW H × List MemPlace} (ht : P.underlying t = some (.slice e)) (he : P.underlying e = some (.int .i64)) (ce : P.cellsOf e = 1) (be : 0 < P.bytesOf e)
    (h : DataW.trod enc P w base (fun _ => true) held fuel t cs = some x) (hs : Small P t x.1) : ∃ v xs, cs = [v] ∧ Ints w v xs ∧ ∀ n ∈ xs, (Lit.int .i64 n).wf = true := by
  rcases open_ints ht he ce h with ⟨rfl, rfl⟩ | ⟨a, len, cap, zs, rfl, hb, hl, hm, hz, rfl, hcell, hwz⟩
  · exact ⟨_, [], rfl, ⟨by simp, none, 0, rfl, Nat.le_refl _, by simp, fun _ => rfl, by simp⟩, by simp⟩
  · simp only [if_true] at hz
    have hn := hs.len ht be
    simp only [lits, List.length_map, List.length_take] at hn
    have hlt : (zs.take len).length = len := by simp; omega
    refine ⟨_, zs.take len, rfl, ⟨by simp, some a, cap, by rw [hlt], by omega, by omega, (fun hh => by cases hh), fun j u hj => ?_⟩, fun n hn => hwz n (List.mem_of_mem_take hn)⟩
    obtain ⟨b, o, spot⟩ := a
    simp only [List.getElem?_map] at hj
    cases hq : (zs.take len)[j]? with
    | none => rw [hq] at hj; simp at hj
    | some y =>
      rw [hq] at hj
      simp at hj
      have hjl : j < len := by have := (List.getElem?_eq_some_iff.1 hq).1; omega
      have hc := hcell j (by omega)
      have hspot := spot_none (hcell 0 (by omega))
      subst hspot
      refine ⟨b, o, rfl, ?_⟩
      rw [getD_take hq, hj] at hc
      exact cell_add hc

/-- a slice of one-cell values. -/
theorem vals_of_trod {t e : TypeId} {fuel : Nat} {cs : List Value} {x : DataW H × List MemPlace} (ht : P.underlying t = some (.slice e)) (ce : P.cellsOf e = 1) (be : 0 < P.bytesOf e)
    (h : DataW.trod enc P w base (fun _ => true) held fuel t cs = some x) (hs : Small P t x.1) : ∃ v vs, cs = [v] ∧ Vals w v vs ∧ ∀ u ∈ vs, ∃ n y, DataW.trod enc P w base (fun _ => true) held n e [u] = some y ∧ Small P e y.1 := by
  rcases open_slice1 ht ce h with ⟨rfl, rfl⟩ | ⟨a, len, cap, m, n, V, D, Pl, rfl, hb, hl, hm, hmm, rfl, hx⟩
  · exact ⟨_, [], rfl, ⟨by simp, none, 0, rfl, Nat.le_refl _, by simp, fun _ => rfl, by simp⟩, by simp⟩
  · simp only [if_true] at hmm
    subst hmm
    have hn := hs.len ht be
    simp only [List.length_map, List.length_range] at hn
    refine ⟨_, (List.range len).map V, rfl, ⟨by simp, some a, m, by simp, by simpa using hl, by simpa using hn, (fun hh => by cases hh), fun j u hj => ?_⟩, fun u hu => ?_⟩
    · have hjl : j < len := by have := (List.getElem?_eq_some_iff.1 hj).1; simpa using this
      have hV : u = V j := by simpa [hjl] using hj.symm
      subst hV
      obtain ⟨b, o, spot⟩ := a
      have hc := (hx j (by omega)).1
      have hspot := spot_none (hx 0 (by omega)).1
      subst hspot
      exact ⟨b, o, rfl, cell_add hc⟩
    · obtain ⟨i, hi, rfl⟩ := List.mem_map.1 hu
      have hi' := List.mem_range.1 hi
      exact ⟨_, _, (hx i (by omega)).2, hs.elem ht (List.mem_map.2 ⟨i, hi, rfl⟩)⟩

/-- a slice of slices of numbers. -/
theorem terms_of_trod {t e q : TypeId} {fuel : Nat} {cs : List Value} {x : DataW H × List MemPlace} (ht : P.underlying t = some (.slice e)) (he : P.underlying e = some (.slice q)) (hq : P.underlying q = some (.int .i64))
    (ce : P.cellsOf e = 1) (cq : P.cellsOf q = 1) (be : 0 < P.bytesOf e) (bq : 0 < P.bytesOf q)
    (h : DataW.trod enc P w base (fun _ => true) held fuel t cs = some x) (hs : Small P t x.1) : ∃ v l, cs = [v] ∧ Terms w v l ∧ ∀ t ∈ l, ∀ n ∈ t, (Lit.int .i64 n).wf = true := by
  obtain ⟨v, vs, rfl, hv, hu⟩ := vals_of_trod ht ce be h hs
  have each : ∀ i, i < vs.length → ∃ xs : List Int, Ints w (vs.getD i undef) xs ∧ ∀ n ∈ xs, (Lit.int .i64 n).wf = true := by
    intro i hi
    obtain ⟨n, y, h1, h2⟩ := hu vs[i] (List.getElem_mem hi)
    obtain ⟨u, xs, h3, h4, h5⟩ := ints_of_trod he hq cq bq h1 h2
    simp only [List.cons.injEq, and_true] at h3
    refine ⟨xs, ?_, h5⟩
    rw [← h3] at h4
    simpa [List.getD, hi] using h4
  obtain ⟨f, hf⟩ := choose_lt each
  refine ⟨v, (List.range vs.length).map f, rfl, ⟨vs, hv, by simp, fun i u t h1 h2 => ?_⟩, ?_⟩
  · have hi : i < vs.length := (List.getElem?_eq_some_iff.1 h1).1
    have := (hf i hi).1
    simp [hi] at h1 h2
    subst h1; subst h2
    simpa [List.getD, hi] using this
  · intro t ht n hn
    obtain ⟨i, hi, rfl⟩ := List.mem_map.1 ht
    exact (hf i (List.mem_range.1 hi)).2 n hn

theorem symCells_len (s : List (ByteArray × Int)) : (symCells s).length = s.length * 2 := by
  induction s with
  | nil => rfl
  | cons x r ih => simp [symCells] at ih ⊢; omega
/-- a sign. -/
theorem sign_of_trod {t e : TypeId} {f0 f1 : Field} {fuel : Nat} {cs : List Value} {x : DataW H × List MemPlace} (ht : P.underlying t = some (.slice e)) (he : P.underlying e = some (.struct #[f0, f1]))
    (ce : P.cellsOf e = 2) (o0 : f0.offset = 0) (o1 : f1.offset = 1) (c0 : P.cellsOf f0.type = 1) (c1 : P.cellsOf f1.type = 1) (u0 : P.underlying f0.type = some .string) (u1 : P.underlying f1.type = some (.int .i64)) (be : 0 < P.bytesOf e)
    (h : DataW.trod enc P w base (fun _ => true) held fuel t cs = some x) (hs : Small P t x.1) : ∃ v s, cs = [v] ∧ SignAt w v s ∧ ∀ y ∈ s, (Lit.int .i64 y.2).wf = true := by
  rcases open_slice_pairs ht he ce o0 o1 c0 c1 h with ⟨rfl, rfl⟩ | ⟨a, len, cap, m, n, V0, V1, D0, D1, P0, P1, rfl, hb, hl, hm, hmm, rfl, hx⟩
  · exact ⟨_, [], rfl, ⟨⟨by simp [symCells], none, 0, rfl, Nat.le_refl _, by simp, fun _ => rfl, by simp [symCells]⟩, by simp⟩, by simp⟩
  · simp only [if_true] at hmm
    subst hmm
    have hn := hs.len ht be
    simp only [List.length_map, List.length_range] at hn
    have each : ∀ i, i < len → ∃ y : ByteArray × Int, V0 i = .string y.1 ∧ V1 i = .int .i64 y.2 ∧ y.1.size ≤ 140737488355328 ∧ (Lit.int .i64 y.2).wf = true := by
      intro i hi
      obtain ⟨_, _, g0, g1⟩ := hx i (by omega)
      obtain ⟨b, e0, d0, _⟩ := DataW.trod_string u0 g0
      obtain ⟨z, e1, d1, hz⟩ := DataW.trod_int u1 g1
      simp at e0 e1 d0 d1
      refine ⟨(b, z), e0, e1, ?_, hz⟩
      have hse : Small P e (.agg [D0 i, D1 i]) := hs.elem ht (List.mem_map.2 ⟨i, List.mem_range.2 hi, rfl⟩)
      have hp := hse.part (j := 0) (f := f0) (d := D0 i) he rfl rfl
      rw [d0.1] at hp
      have := hp b.data.toList.length (by simp [DataW.weights])
      have h3 : reachBytes ≤ 140737488355328 := by decide
      simp at this
      have h4 : b.size = b.data.size := rfl
      show b.size ≤ _
      omega
    obtain ⟨f, hf⟩ := choose_lt each
    have hsl : ((List.range len).map f).length = len := by simp
    refine ⟨_, (List.range len).map f, rfl, ⟨⟨?_, some a, m, by rw [hsl], by omega, by omega, (fun hh => by cases hh), fun j u hj => ?_⟩, ?_⟩, ?_⟩
    · rw [symCells_len]
    · have hjl : j < len * 2 := by
        obtain ⟨hh, _⟩ := List.getElem?_eq_some_iff.1 hj
        rw [symCells_len, hsl] at hh
        exact hh
      have hg := symCells_get ((List.range len).map f) (j / 2) (by rw [hsl]; omega)
      have hd := Nat.div_add_mod j 2
      obtain ⟨c0', c1', _, _⟩ := hx (j / 2) (by omega)
      obtain ⟨e0, e1, _⟩ := hf (j / 2) (by omega)
      obtain ⟨b, o, spot⟩ := a
      have hspot := spot_none (by simpa using (hx 0 (by omega)).1)
      subst hspot
      refine ⟨b, o, rfl, ?_⟩
      rcases Nat.mod_two_eq_zero_or_one j with hm0 | hm1
      · have : j = j / 2 * 2 := by omega
        rw [this, hg.1] at hj
        simp at hj
        rw [this, ← hj]
        rw [← e0]; exact cell_add c0'
      · have : j = j / 2 * 2 + 1 := by omega
        rw [this, hg.2] at hj
        simp at hj
        rw [this, ← hj]
        rw [← e1]; exact cell_add c1'
    · intro y hy
      obtain ⟨i, hi, rfl⟩ := List.mem_map.1 hy
      exact (hf i (List.mem_range.1 hi)).2.2.1
    · intro y hy
      obtain ⟨i, hi, rfl⟩ := List.mem_map.1 hy
      exact (hf i (List.mem_range.1 hi)).2.2.2
end
end Go.Proofs.YtmpjaakkjhmpmaaGreatDoor
namespace Go.Proofs.YtmpjaakkjhmpmaaGreatDoor
open Go Go.RowKit Go.ChangeShapes Go.WideShapes Go.Deep
section
variable {H : Type} {enc : TypeId × Value → H} {P : Program} {w : World} {base : Nat} {held : Bool}
end
end Go.Proofs.YtmpjaakkjhmpmaaGreatDoor
