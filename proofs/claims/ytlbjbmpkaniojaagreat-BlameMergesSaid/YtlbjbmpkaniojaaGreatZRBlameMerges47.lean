/-
  WHAT IT HOLDS: from an input as the rows read it to the predicates that the walks use: a string, a slice of strings, a slice of entries. Over any program.
-/
import Derived.Deep.Strs
import Derived.Test.YtlbjbmpkaniojaaGreatZRBlameMerges7
import Derived.Test.YtlbjbmpkaniojaaGreatZRBlameMerges12
namespace Go.Proofs.YtlbjbmpkaniojaaGreat
open Go Go.RowKit Go.ChangeShapes Go.WideShapes Go.Deep
section
variable {H : Type} {enc : TypeId × Value → H} {P : Program} {w : World} {base : Nat} {held : Bool}
/-- a string, how long. -/
theorem str_small {t : TypeId} {b : ByteArray} {d : DataW H} (h : Small P t d) (hd : d = .lit (.string b.data.toList)) : b.size ≤ 140737488355328 := by
  subst hd
  have := h b.data.toList.length (by simp [DataW.weights])
  have h3 : reachBytes ≤ 140737488355328 := by decide
  simp at this
  have h4 : b.size = b.data.size := rfl
  omega
/-- a string. -/
theorem str_of_trod {t : TypeId} {fuel : Nat} {cs : List Value} {x : DataW H × List MemPlace} (ht : P.underlying t = some .string)
    (h : DataW.trod enc P w base (fun _ => true) held fuel t cs = some x) (hs : Small P t x.1) : ∃ b : ByteArray, cs = [.string b] ∧ b.size ≤ 140737488355328 := by
  obtain ⟨b, e0, d0, _⟩ := DataW.trod_string ht h
  exact ⟨b, e0, str_small hs (by rw [d0])⟩
/-- a slice of strings. -/
theorem txts_of_trod {t e : TypeId} {fuel : Nat} {cs : List Value} {x : DataW H × List MemPlace} (ht : P.underlying t = some (.slice e)) (he : P.underlying e = some .string) (ce : P.cellsOf e = 1) (be : 0 < P.bytesOf e)
    (h : DataW.trod enc P w base (fun _ => true) held fuel t cs = some x) (hs : Small P t x.1) : ∃ v l, cs = [v] ∧ TxtsAt w v l := by
  rcases open_strs ht he ce h with ⟨rfl, rfl⟩ | ⟨a, len, cap, m, Sx, rfl, hb, hl, hm, hmm, rfl, hx⟩
  · exact ⟨_, [], rfl, TxtsAt.nil w⟩
  · simp only [if_true] at hmm
    subst hmm
    have hn := hs.len ht be
    simp only [List.length_map, List.length_range] at hn
    have hsl : ((List.range len).map Sx).length = len := by simp
    refine ⟨_, (List.range len).map Sx, rfl, ⟨by simp, some a, m, by rw [hsl], by omega, by omega, (fun hh => by cases hh), fun j u hj => ?_⟩, fun b hb => ?_⟩
    · have hjl : j < len := by have := (List.getElem?_eq_some_iff.1 hj).1; simpa using this
      have hu : u = .string (Sx j) := by simpa [hjl] using hj.symm
      subst hu
      obtain ⟨b, o, spot⟩ := a
      have hc := (hx j (by omega)).1
      have hspot := spot_none (hx 0 (by omega)).1
      subst hspot
      exact ⟨b, o, rfl, cell_add hc⟩
    · obtain ⟨i, hi, rfl⟩ := List.mem_map.1 hb
      have hi' := List.mem_range.1 hi
      exact str_small (hs.elem ht (List.mem_map.2 ⟨i, hi, rfl⟩)) rfl
/-- a struct of five fields. -/
theorem trod_struct5 {t : TypeId} {f0 f1 f2 f3 f4 : Field} {fuel : Nat} {cs : List Value} {x : DataW H × List MemPlace} (ht : P.underlying t = some (.struct #[f0, f1, f2, f3, f4])) (h : DataW.trod enc P w base (fun _ => true) held fuel t cs = some x) :
    ∃ y0 y1 y2 y3 y4 n, x.1 = .agg [y0.1, y1.1, y2.1, y3.1, y4.1] ∧ cs.length = P.cellsOf t ∧ DataW.trod enc P w base (fun _ => true) held n f0.type ((cs.drop f0.offset).take (P.cellsOf f0.type)) = some y0 ∧
      DataW.trod enc P w base (fun _ => true) held n f1.type ((cs.drop f1.offset).take (P.cellsOf f1.type)) = some y1 ∧ DataW.trod enc P w base (fun _ => true) held n f2.type ((cs.drop f2.offset).take (P.cellsOf f2.type)) = some y2 ∧
      DataW.trod enc P w base (fun _ => true) held n f3.type ((cs.drop f3.offset).take (P.cellsOf f3.type)) = some y3 ∧ DataW.trod enc P w base (fun _ => true) held n f4.type ((cs.drop f4.offset).take (P.cellsOf f4.type)) = some y4 := by
  obtain ⟨xs, n, _, rfl, hl, hlen, hf⟩ := DataW.trod_struct ht h
  match xs, hlen with
  | [y0, y1, y2, y3, y4], _ => exact ⟨y0, y1, y2, y3, y4, n, by simp, hl, by simpa using hf 0 f0 rfl, by simpa using hf 1 f1 rfl, by simpa using hf 2 f2 rfl, by simpa using hf 3 f3 rfl, by simpa using hf 4 f4 rfl⟩
/-- an entry that was read: what lies, and its slices. -/
abbrev EnR := En × V3
/-- a slice of entries. -/
theorem ents_of_trod {t e qi qt qs : TypeId} {n0 n1 n2 n3 n4 : Field} {g0 g1 g2 : Field} {fuel : Nat} {cs : List Value} {x : DataW H × List MemPlace} (ht : P.underlying t = some (.slice e)) (he : P.underlying e = some (.struct #[n0, n1, n2, n3, n4]))
    (ce : P.cellsOf e = 5) (o0 : n0.offset = 0) (o1 : n1.offset = 1) (o2 : n2.offset = 2) (o3 : n3.offset = 3) (o4 : n4.offset = 4) (c0 : P.cellsOf n0.type = 1) (c1 : P.cellsOf n1.type = 1) (c2 : P.cellsOf n2.type = 1) (c3 : P.cellsOf n3.type = 1) (c4 : P.cellsOf n4.type = 1)
    (u0 : P.underlying n0.type = some .string) (u1 : P.underlying n1.type = some .string) (u2 : P.underlying n2.type = some (.slice qi)) (u3 : P.underlying n3.type = some (.slice qt)) (u4 : P.underlying n4.type = some (.slice qs))
    (vi : P.underlying qi = some (.int .i64)) (ci : P.cellsOf qi = 1) (bi : 0 < P.bytesOf qi) (vt : P.underlying qt = some .string) (ct : P.cellsOf qt = 1) (bt : 0 < P.bytesOf qt)
    (vs : P.underlying qs = some (.struct #[g0, g1, g2])) (cq : P.cellsOf qs = 3) (p0 : g0.offset = 0) (p1 : g1.offset = 1) (p2 : g2.offset = 2) (d0 : P.cellsOf g0.type = 1) (d1 : P.cellsOf g1.type = 1) (d2 : P.cellsOf g2.type = 1)
    (w0 : P.underlying g0.type = some (.int .i64)) (w1 : P.underlying g1.type = some (.int .i64)) (w2 : P.underlying g2.type = some (.int .i64)) (bq : 0 < P.bytesOf qs) (be : 0 < P.bytesOf e)
    (h : DataW.trod enc P w base (fun _ => true) held fuel t cs = some x) (hs : Small P t x.1) : ∃ v l, cs = [v] ∧ EntsAt w v l := by
  rcases open_slice ht h with ⟨rfl, -⟩ | ⟨a, len, cap, m, n, D, Pl, rfl, hb, hl, hm, hmm, rfl, hx⟩
  · exact ⟨_, [], rfl, EntsAt.nil w⟩
  · simp only [if_true] at hmm
    subst hmm
    have hn := hs.len ht be
    simp only [List.length_map, List.length_range] at hn
    have each : ∀ i, i < len → ∃ y : EnR, w.cell? (a.add (i * 5)) = some (.string y.1.name) ∧ w.cell? (a.add (i * 5 + 1)) = some (.string y.1.who) ∧ w.cell? (a.add (i * 5 + 2)) = some y.2.1 ∧ w.cell? (a.add (i * 5 + 3)) = some y.2.2.1 ∧ w.cell? (a.add (i * 5 + 4)) = some y.2.2.2 ∧ EntAt w y.2.1 y.2.2.1 y.2.2.2 y.1 := by
      intro i hi
      obtain ⟨cs', h1, h2⟩ := hx i (by omega)
      rw [ce] at h1
      obtain ⟨_, hlen, hcell⟩ := World.cells?_some h1
      obtain ⟨y0, y1, y2, y3, y4, k, hD, -, r0, r1, r2, r3, r4⟩ := trod_struct5 he h2
      have hse : Small P e (D i) := hs.elem ht (List.mem_map.2 ⟨i, List.mem_range.2 hi, rfl⟩)
      simp only at hD
      rw [hD] at hse
      have z0 := hse.part (j := 0) he rfl rfl
      have z1 := hse.part (j := 1) he rfl rfl
      have z2 := hse.part (j := 2) he rfl rfl
      have z3 := hse.part (j := 3) he rfl rfl
      have z4 := hse.part (j := 4) he rfl rfl
      match cs', hlen with
      | [v0, v1, v2, v3, v4], _ =>
        simp [o0, o1, o2, o3, o4, c0, c1, c2, c3, c4] at r0 r1 r2 r3 r4
        obtain ⟨b0, e0, s0⟩ := str_of_trod u0 r0 z0
        obtain ⟨b1, e1, s1⟩ := str_of_trod u1 r1 z1
        obtain ⟨x2, l2, e2, s2, -⟩ := ints_of_trod u2 vi ci bi r2 z2
        obtain ⟨x3, l3, e3, s3⟩ := txts_of_trod u3 vt ct bt r3 z3
        obtain ⟨x4, l4, e4, s4⟩ := steps_of_trod u4 vs cq p0 p1 p2 d0 d1 d2 w0 w1 w2 bq r4 z4
        simp only [List.cons.injEq, and_true] at e0 e1 e2 e3 e4
        have q0 := hcell 0 (by omega)
        have q1 := hcell 1 (by omega)
        have q2 := hcell 2 (by omega)
        have q3 := hcell 3 (by omega)
        have q4 := hcell 4 (by omega)
        rw [add_add] at q0 q1 q2 q3 q4
        subst e0 e1 e2 e3 e4
        exact ⟨(⟨b0, b1, l2, l3, l4⟩, (v2, v3, v4)), by simpa using q0, by simpa using q1, by simpa using q2, by simpa using q3, by simpa using q4, s2, s3, s4, s0, s1⟩
    haveI : Inhabited EnR := ⟨(⟨ByteArray.empty, ByteArray.empty, [], [], []⟩, (undef, undef, undef))⟩
    obtain ⟨f, hf⟩ := choose_lt each
    have hsl : ((List.range len).map fun i => (f i).1).length = len := by simp
    have hsv : ((List.range len).map fun i => (f i).2).length = len := by simp
    refine ⟨_, (List.range len).map fun i => (f i).1, rfl, (List.range len).map fun i => (f i).2, ⟨by rw [ensC_len _ _ (by rw [hsl, hsv])], some a, m, by rw [hsl], by omega, by omega, (fun hh => by cases hh), fun j u hj => ?_⟩, by rw [hsl, hsv], fun j g1 g2 => ?_⟩
    · have hjl : j < len * 5 := by
        obtain ⟨hh, _⟩ := List.getElem?_eq_some_iff.1 hj
        rw [ensC_len _ _ (by rw [hsl, hsv]), hsl] at hh
        exact hh
      have hg := ensC_get ((List.range len).map fun i => (f i).1) ((List.range len).map fun i => (f i).2) (by rw [hsl, hsv]) (j / 5) (by rw [hsl]; omega) (by rw [hsv]; omega)
      obtain ⟨e0, e1, e2, e3, e4, -⟩ := hf (j / 5) (by omega)
      obtain ⟨b, o, spot⟩ := a
      have hspot := spot_none (by have := (hf 0 (by omega)).1; simpa using this)
      subst hspot
      refine ⟨b, o, rfl, ?_⟩
      have hm5 : j % 5 = 0 ∨ j % 5 = 1 ∨ j % 5 = 2 ∨ j % 5 = 3 ∨ j % 5 = 4 := by omega
      rcases hm5 with hm0 | hm0 | hm0 | hm0 | hm0
      · have : j = j / 5 * 5 := by omega
        rw [this, hg.1] at hj
        simp at hj
        rw [this, ← hj]
        exact cell_add e0
      · have : j = j / 5 * 5 + 1 := by omega
        rw [this, hg.2.1] at hj
        simp at hj
        rw [this, ← hj]
        exact cell_add e1
      · have : j = j / 5 * 5 + 2 := by omega
        rw [this, hg.2.2.1] at hj
        simp at hj
        rw [this, ← hj]
        exact cell_add e2
      · have : j = j / 5 * 5 + 3 := by omega
        rw [this, hg.2.2.2.1] at hj
        simp at hj
        rw [this, ← hj]
        exact cell_add e3
      · have : j = j / 5 * 5 + 4 := by omega
        rw [this, hg.2.2.2.2] at hj
        simp at hj
        rw [this, ← hj]
        exact cell_add e4
    · have hj : j < len := by rw [hsl] at g1; exact g1
      simp only [List.getElem_map, List.getElem_range]
      exact (hf j hj).2.2.2.2.2
end
end Go.Proofs.YtlbjbmpkaniojaaGreat
