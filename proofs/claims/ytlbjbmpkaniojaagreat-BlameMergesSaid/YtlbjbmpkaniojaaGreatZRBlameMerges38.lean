/-
  WHAT IT HOLDS: contracts of slices.Grow of the nil slice and slices.Concat at entries, of slices.Sort and slices.Compact at strings. Conditions: the arguments read as data; small.
  WHAT IT HOLDS: contract of merged of package blame. Conditions: the arguments read as data; editions. Printed by wip/gen_mgw.py.
-/
import Derived.Shelf.SlicesE.Compact
import Derived.Shelf.SortM.Plain
import Derived.Shelf.SortM.SortNone
import Derived.Lib.AppendZeros
import Derived.Test.YtlbjbmpkaniojaaGreatZRBlameMerges35
import Derived.Test.YtlbjbmpkaniojaaGreatZRBlameMerges32
import Derived.Test.YtlbjbmpkaniojaaGreatZRBlameMerges17
import Derived.Test.YtlbjbmpkaniojaaGreatZRBlameMerges16
import Derived.Test.YtlbjbmpkaniojaaGreatZRBlameMerges36
import Derived.Test.YtlbjbmpkaniojaaGreatZRBlameMerges37
import Derived.Test.YtlbjbmpkaniojaaGreatZRBlameMerges34
import Derived.Test.YtlbjbmpkaniojaaGreatZRBlameMerges18
namespace Go.Proofs.YtlbjbmpkaniojaaGreat
open Go Go.RowKit Go.Maps Go.Shelf
theorem em_szM : em.size ≤ 140737488355328 := by decide
theorem blw_setsM {B : Nat} {a : World} : ∀ {w : World} {b : Nat} (_ : Below B a w) (_ : B ≤ b) (o : Nat) (ys : List Value), Below B a (w.setCells b o ys)
  | _, _, h, _, _, [] => h
  | _, b, h, hB, o, y :: ys => blw_setsM (h.setCell (p := ⟨b, o, none⟩) hB y) hB (o + 1) ys
theorem celB {w w' : World} {p : Addr} {v : Value} (h : w.cell? p = some v) (hb : Below w.heap.size w w') : w'.cell? p = some v := (hb.cell (World.block_lt_of_cell? _ _ h)).trans h
theorem zeros_ownK (w : World) (e : TypeId) (z : Value) (k n c : Nat) (hz : z.cells.size = k) (hnc : n ≤ c) (hc : c ≤ maxLen) : (w.drew.alloc (.cells (Builtin.zeroCells z.cells n ++ Builtin.zeroCells z.cells (c - n)) e)).ownsRow w.heap.size e k (.slice (some ⟨w.heap.size, 0, none⟩) 0 c) 0 [] := by
  refine ⟨by simp, Or.inr ⟨w.heap.size, c, Builtin.zeroCells z.cells n ++ Builtin.zeroCells z.cells (c - n), rfl, Nat.le_refl _, ?_, Nat.zero_le _, hc, ?_, by simp⟩⟩
  · exact (MapKept.heap_alloc w.drew _).1
  · have hs : ∀ m, (Builtin.zeroCells z.cells m).size = m * k := by
      intro m
      simp [Builtin.zeroCells, hz]
    rw [Array.size_append, hs, hs, ← Nat.add_mul]; congr 1; omega
set_option maxRecDepth 100000 in
theorem sl_GrowE (n : Nat) (w : World) (hn : n ≤ 100000) :
    Calls Tryz.prog 182 #[.slice none 0 0, .int .i64 n] w fun e w' => ∃ u, e = .returned u ∧ w'.ownsRow w.heap.size 41 5 u 0 [] ∧ Below w.heap.size w w' := by
  by_cases h0 : n = 0
  · subst h0
    go_enter Tryz.func182, Tryz.ntmps182
    go_wp2
    go_ret
    exact ⟨_, rfl, World.ownsRow_nil _ _ _ _, Below.refl _ _⟩
  · obtain ⟨i, hi, hz0, hz1, hz2⟩ := info_parts el_ent
    have hzr := Lib.run_append_nil_zeros (P := Tryz.prog) w 24 3 24 41 i (.agg #[.string ⟨#[]⟩, .string ⟨#[]⟩, .slice none 0 0, .slice none 0 0, .slice none 0 0]) .i64 .i64 Tryz.underlying24 Tryz.underlying3 hi hz0 n (by omega) (by omega) (by omega) (by rw [hz2]; omega)
    have hcap := grownCap_ge w n 0 41
    have hcap2 := grownCap_le_maxLen w n 0 41 (by unfold maxLen; omega)
    obtain ⟨c, hc⟩ : ∃ c, grownCap w n 0 41 = c := ⟨_, rfl⟩
    rw [hc] at hzr hcap hcap2
    obtain ⟨Z, hZ⟩ : ∃ Z : Value, Value.agg #[.string ⟨#[]⟩, .string ⟨#[]⟩, .slice none 0 0, .slice none 0 0, .slice none 0 0] = Z := ⟨_, rfl⟩
    rw [hZ] at hzr
    have HO := hid (zeros_ownK w 41 Z 5 n c (by rw [← hZ]; rfl) hcap hcap2)
    have HB := hid (show Below w.heap.size w (w.drew.alloc (.cells (Builtin.zeroCells Z.cells n ++ Builtin.zeroCells Z.cells (c - n)) 41)) from ((Below.refl _ _).drew).alloc (Nat.le_refl _) _)
    obtain ⟨W, hW⟩ : ∃ W, w.drew.alloc (.cells (Builtin.zeroCells Z.cells n ++ Builtin.zeroCells Z.cells (c - n)) 41) = W := ⟨_, rfl⟩
    rw [hW] at hzr HO HB
    have hw1 : IntKind.i64.wrap ((n : Int) - (0 - 0)) = n := by rw [IntWalk.i64_in _ (by omega)]; omega
    have q0 : decide ((0 : Int) < n) = true := by simp; omega
    clear hc hcap2 hW hZ
    go_enter Tryz.func182, Tryz.ntmps182
    go_wp2_with (at_builtin; refine Lib.wpList_append_run _ rfl _ _ 24 3 rfl _ _ rfl rfl _ _ hzr ?_)
    go_ret
    exact ⟨_, rfl, HO.out, HB.out⟩
abbrev ELs := List (Value × List V3 × List En)
def flE (xs : ELs) : List En := (xs.map fun x => x.2.2).flatten
def flV (xs : ELs) : List V3 := (xs.map fun x => x.2.1).flatten
theorem flE_next {xs : ELs} {k : Nat} (h : k < xs.length) : flE (xs.take (k + 1)) = flE (xs.take k) ++ xs[k].2.2 := by
  unfold flE
  rw [List.take_succ_eq_append_getElem h, List.map_append, List.flatten_append]; simp
theorem flV_next {xs : ELs} {k : Nat} (h : k < xs.length) : flV (xs.take (k + 1)) = flV (xs.take k) ++ xs[k].2.1 := by
  unfold flV
  rw [List.take_succ_eq_append_getElem h, List.map_append, List.flatten_append]; simp
theorem fl_len {xs : ELs} (h : ∀ x ∈ xs, x.2.1.length = x.2.2.length) : (flV xs).length = (flE xs).length := by
  induction xs with
  | nil => rfl
  | cons x xs ih =>
    have h1 := h x (by simp)
    have h2 := ih fun y hy => h y (by simp [hy])
    unfold flV flE at h2 ⊢
    rw [List.map_cons, List.map_cons, List.flatten_cons, List.flatten_cons, List.length_append, List.length_append, h1, h2]
theorem flE_le (xs : ELs) (k : Nat) : (flE (xs.take k)).length ≤ (flE xs).length := by
  have : flE xs = flE (xs.take k) ++ flE (xs.drop k) := by unfold flE; rw [← List.flatten_append, ← List.map_append, List.take_append_drop]
  rw [this, List.length_append]; omega
set_option maxHeartbeats 2000000 in
set_option maxRecDepth 100000 in
theorem sl_ConcatE (v : Value) (xs : ELs) (w : World) (hv : RowK w v 1 xs.length (xs.map Prod.fst)) (hx : ∀ x ∈ xs, EntsV w x.1 x.2.1 x.2.2) (hl : (flE xs).length ≤ 1000) :
    Calls Tryz.prog 147 #[v] w fun e w' => ∃ u, e = .returned u ∧ w'.ownsRow w.heap.size 41 5 u (flE xs).length (ensC (flE xs) (flV xs)) ∧ Below w.heap.size w w' := by
  obtain ⟨-, a, cap, rfl, h2, h2b, h3, h4⟩ := hv
  have HC' := hid (fun (k : Nat) (h : k < xs.length) => h4 k xs[k].1 (by rw [List.getElem?_map, List.getElem?_eq_getElem h]; rfl))
  have HX := hid hx
  have HFL := hid (flE_le xs)
  have HLN := hid (fun (k : Nat) => fl_len (xs := xs.take k) fun x hx' => (hx x (List.mem_of_mem_take hx')).2.1)
  clear hx h4 h3
  go_enter Tryz.func147, Tryz.ntmps147
  go_wp2
  go_loop [3, 11] (fun sv kv => ∃ k : Nat, k ≤ xs.length ∧ kv = .int .i64 k ∧ sv = .int .i64 ((flE (xs.take k)).length : Nat)) (fun _ kv => xs.length - (intOf kv).toNat)
  case atStart => exact ⟨0, by omega, rfl, by simp [flE]⟩
  case round =>
    obtain ⟨k, hk, rfl, rfl⟩ := hrel
    by_cases hlt : k < xs.length
    · obtain ⟨b, o, rfl, c0⟩ := HC'.out k hlt
      obtain ⟨xa, xc, he, -⟩ := (EntsAt.open ⟨_, HX.out _ (List.getElem_mem hlt)⟩ : ∃ a cap, xs[k].1 = .slice a xs[k].2.2.length cap ∧ _)
      rw [he] at c0
      have hnl := congrArg List.length (flE_next hlt)
      rw [List.length_append] at hnl
      have hbd := HFL.out (k + 1)
      rw [hnl] at hbd
      have HN := hid hnl
      obtain ⟨n, hn'⟩ : ∃ n, xs[k].2.2.length = n := ⟨_, rfl⟩
      rw [hn'] at c0 hbd HN
      obtain ⟨m, hm'⟩ : ∃ m, (flE (xs.take k)).length = m := ⟨_, rfl⟩
      rw [hm'] at hbd HN ⊢
      have hw1 : IntKind.i64.wrap ((m : Int) + (n : Int)) = ((m + n : Nat) : Int) := by rw [IntWalk.i64_in _ (by omega)]; omega
      have q0 : decide (((m + n : Nat) : Int) < 0) = false := by simp; omega
      clear he hnl hn' hm'
      go_wp2
      go_round
      case rel => exact ⟨k + 1, by omega, by go_num, by rw [HN.out, Int.natCast_add]⟩
      case measure => simp [intOf]; omega
    · have hkl : k = xs.length := by omega
      subst hkl
      rw [List.take_of_length_le (Nat.le_refl _)]
      obtain ⟨N, hN⟩ : ∃ N, (flE xs).length = N := ⟨_, rfl⟩
      rw [hN] at hl ⊢
      have HG := hid (sl_GrowE N w (by omega))
      have HNN := hid hN
      clear hN
      go_wp2_with fail
      refine HG.out.mono ?_
      rintro e w1 ⟨u, rfl, hown, hb⟩
      have HOW := hid hown
      have HB := hid hb
      obtain ⟨ua, uc, rfl⟩ := owns_slice hown
      clear hown hb HG
      go_wp2_with fail
      go_loopw [6, 27] (fun u kv wr => ∃ k : Nat, k ≤ xs.length ∧ kv = .int .i64 k ∧ Below w.heap.size w wr ∧ wr.ownsRow w.heap.size 41 5 u (flE (xs.take k)).length (ensC (flE (xs.take k)) (flV (xs.take k)))) (fun _ kv _ => xs.length - (intOf kv).toNat)
      case atStart => exact ⟨0, by omega, rfl, HB.out, by simpa [flE, flV, ensC] using HOW.out⟩
      case round =>
        obtain ⟨k, hk, rfl, hb, hown⟩ := hrel
        have hsz := hb.size
        by_cases hlt : k < xs.length
        · obtain ⟨b, o, rfl, c0⟩ := HC'.out k hlt
          have hent := HX.out _ (List.getElem_mem hlt)
          obtain ⟨xa, xc, he, -⟩ := (EntsAt.open ⟨_, hent⟩ : ∃ a cap, xs[k].1 = .slice a xs[k].2.2.length cap ∧ _)
          have c1 := celB c0 hb
          have hone := ents_one1 hent.2.2 hent.2.1
          have hrow := hent.1.below hb
          rw [he] at c1 hrow
          have hnE := flE_next hlt
          have hnV := flV_next hlt
          have hlnk := HLN.out k
          have hnl := congrArg List.length hnE
          rw [List.length_append] at hnl
          have hbd := HFL.out (k + 1)
          rw [hnl, HNN.out] at hbd
          obtain ⟨t, ht⟩ : ∃ t, xs[k].2.2 = t := ⟨_, rfl⟩
          obtain ⟨tv, htv⟩ : ∃ t, xs[k].2.1 = t := ⟨_, rfl⟩
          rw [ht] at c1 hbd hnE hnl hrow hone
          rw [htv] at hnV hrow hone
          obtain ⟨T, hT⟩ : ∃ T, flE (xs.take k) = T := ⟨_, rfl⟩
          obtain ⟨TV, hTV⟩ : ∃ T, flV (xs.take k) = T := ⟨_, rfl⟩
          rw [hT] at hbd hnE hnl hown hlnk
          rw [hTV] at hnV hown hlnk
          have HNX : Hid (ensC (flE (xs.take (k + 1))) (flV (xs.take (k + 1))) = ensC T TV ++ ensC t tv ∧ (flE (xs.take (k + 1))).length = T.length + t.length) := hid ⟨by rw [hnE, hnV, ensC_append _ _ _ _ hlnk], hnl⟩
          have HI := hid hrow
          have HB2 := hid hb
          have HOW2 := hid hown
          have HONE := hid hone
          obtain ⟨ta, tc, rfl⟩ := owns_slice hown
          clear c0 hent he hnE hnV hnl ht htv hT hTV hb hown hrow hone hlnk
          go_wp2_with (at_builtin; refine wpList_append_row rfl _ _ 24 rfl w.heap.size 41 el_ent Tryz.underlying24 rfl (by decide) _ _ _ rfl HOW2.out _ t.length (ensC t tv) rfl HI.out HONE.out (by omega) (by omega) (by omega) ?_; intro v' w4 hown4 hgrow4 _)
          go_roundw
          case rel => exact ⟨k + 1, by omega, by go_num, HB2.out.grown hgrow4 hsz (fun q hq => (HOW2.out.lt q hq).1), by rw [HNX.out.1, HNX.out.2]; exact hown4⟩
          case measure => simp [intOf]; omega
        · have hkl : k = xs.length := by omega
          subst hkl
          rw [List.take_of_length_le (Nat.le_refl _)] at hown
          have HOW2 := hid hown
          obtain ⟨ta, tc, rfl⟩ := owns_slice hown
          clear hown
          go_wp2
          go_ret
          exact ⟨_, rfl, HOW2.out, hb⟩
theorem enc_bl (a : Nm) : encStr (bl a) = .string a := by
  cases a; simp [bl]
/-- the names in order, as the sort leaves them. -/
def srtS (l : List Nm) : List Nm := ((l.map bl).mergeSort fun x y => decide (x ≤ y)).map fun b => (⟨b.toArray⟩ : Nm)
theorem srtS_facts (l : List Nm) : (srtS l).Perm l ∧ (srtS l).Pairwise (fun a b => ¬ ltN b a) := by
  constructor
  · have h := (List.mergeSort_perm (l.map bl) fun x y => decide (x ≤ y)).map fun b => (⟨b.toArray⟩ : Nm)
    rw [List.map_map] at h
    have e : l.map ((fun b => (⟨b.toArray⟩ : Nm)) ∘ bl) = l := by
      conv => rhs; rw [← List.map_id l]
      refine List.map_congr_left fun a _ => ?_
      cases a; simp [bl]
    rw [e] at h
    exact h
  · unfold srtS
    rw [List.pairwise_map]
    have := List.pairwise_mergeSort (le := fun x y : List UInt8 => decide (x ≤ y)) (by
      intro a b c h1 h2
      simp only [decide_eq_true_eq] at *
      exact List.le_trans h1 h2) (by
      intro a b
      simp only [Bool.or_eq_true, decide_eq_true_eq]
      exact List.le_total a b) (l.map bl)
    refine this.imp fun {a b} h => ?_
    simp only [decide_eq_true_eq] at h
    unfold ltN bl
    exact List.not_lt.2 (by simpa using h)
theorem sl_SortN (base : Nat) (v : Value) (l : List Nm) (w : World) (hown : w.ownsRow base 9 1 v l.length (l.map Value.string)) (hl : l.length ≤ 100000) :
    Calls Tryz.prog 148 #[v] w fun e w' => e = .returned (.tuple #[]) ∧ w'.ownsRow base 9 1 v l.length ((srtS l).map Value.string) ∧ Kb (fun k => v.ownBlock = some k) w w' := by
  by_cases h0 : l.length = 0
  · obtain rfl : l = [] := List.length_eq_zero_iff.1 h0
    obtain ⟨a, c, rfl⟩ := owns_slice hown
    have hcon := AnyM.slices_Sort_string_none Tryz.sorto148 a c w
    change Calls Tryz.prog 148 _ _ _ at hcon
    refine hcon.mono ?_
    rintro e w' ⟨rfl, rfl⟩
    exact ⟨rfl, by simpa [srtS] using hown, Kb.refl _ _⟩
  · obtain ⟨g, c, rfl, -, -⟩ := owns_some hown (by omega)
    have hH : Go.Sort.Holds encStr w g 0 (l.map bl).toArray := fun j hj => by
      have hj : j < l.length := by simpa using hj
      have hc := hown.cellAt j (by omega)
      rw [List.getElem?_map, List.getElem?_eq_getElem hj] at hc
      refine ⟨?_, by rw [Nat.zero_add]; exact hown.frozenAt j⟩
      rw [Nat.zero_add, getElem!_pos _ j (by simpa using hj)]
      rw [hc]
      simp only [Option.map_some, List.getElem_toArray, List.getElem_map]
      rw [enc_bl]
    have hcon := AnyM.slices_Sort_string Tryz.sorto148 g 0 c (l.map bl) w hH (hown.lt g rfl).2 (by simp; omega)
    rw [List.length_map] at hcon
    change Calls Tryz.prog 148 _ _ _ at hcon
    refine hcon.mono ?_
    rintro e w' ⟨rfl, m, os, rfl⟩
    refine ⟨rfl, ?_, ?_⟩
    · have := own_sort encStr hown m ((l.map bl).mergeSort fun x y => decide (x ≤ y)).toArray (by simp) os
      have e2 : (srtS l).map Value.string = ((l.map bl).mergeSort fun x y => decide (x ≤ y)).toArray.toList.map encStr := by
        unfold srtS; rw [List.map_map]; rfl
      rw [e2]
      exact this
    · exact (kb_sort encStr w g m ((l.map bl).mergeSort fun x y => decide (x ≤ y)).toArray os).mono fun k _ h => by rw [h]; rfl
theorem cp_asc {l : List Nm} (hs : l.Pairwise fun a b => ¬ ltN b a) : AscN (Lib.compactUpTo l.toArray l.length) ∧ ∀ x, x ∈ Lib.compactUpTo l.toArray l.length ↔ x ∈ l := by
  have hget : ∀ i (h : i < l.length), l.toArray[i]! = l[i] := fun i h => by rw [getElem!_pos _ i (by simpa using h)]; simp
  have hle : ∀ i j (hi : i < l.length) (hj : j < l.length), i ≤ j → ¬ ltN l[j] l[i] := fun i j hi hj hij => by
    rcases Nat.lt_or_ge i j with h | h
    · exact List.pairwise_iff_getElem.1 hs i j hi hj h
    · obtain rfl : i = j := by omega
      exact ltN.irr _
  refine ⟨?_, fun x => ⟨fun h => ?_, fun h => ?_⟩⟩
  · unfold AscN Lib.compactUpTo
    rw [List.pairwise_map]
    have h1 : ((List.range l.length).filter (Lib.keeps l.toArray)).Pairwise (· < ·) := List.Pairwise.sublist List.filter_sublist List.pairwise_lt_range
    refine h1.imp_of_mem fun {i j} hi hj hij => ?_
    have hil := List.mem_range.1 (List.mem_filter.1 hi).1
    have hjl := List.mem_range.1 (List.mem_filter.1 hj).1
    have hk := (List.mem_filter.1 hj).2
    unfold Lib.keeps at hk
    rw [decide_eq_true_eq] at hk
    rcases hk with hk | hk
    · omega
    · rw [hget j hjl, hget (j - 1) (by omega)] at hk
      rw [hget i hil, hget j hjl]
      have a1 := hle i (j - 1) hil (by omega) (by omega)
      have a2 := hle (j - 1) j (by omega) hjl (by omega)
      have a3 : ltN (l[j - 1]'(by omega)) l[j] := by
        rcases ltN.tri (l[j - 1]'(by omega)) l[j] with k | k | k
        · exact k
        · exact absurd k.symm hk
        · exact absurd k a2
      rcases ltN.tri l[i] (l[j - 1]'(by omega)) with k | k | k
      · exact k.trans a3
      · rw [k]; exact a3
      · exact absurd k a1
  · unfold Lib.compactUpTo at h
    obtain ⟨i, hi, rfl⟩ := List.mem_map.1 h
    have hil := List.mem_range.1 (List.mem_filter.1 hi).1
    rw [hget i hil]
    exact List.getElem_mem hil
  · obtain ⟨i, hi, rfl⟩ := List.getElem_of_mem h
    have key : ∀ i (hi : i < l.length), l[i] ∈ Lib.compactUpTo l.toArray l.length := by
      intro i
      induction i with
      | zero =>
        intro hi
        unfold Lib.compactUpTo
        exact List.mem_map.2 ⟨0, List.mem_filter.2 ⟨List.mem_range.2 hi, by unfold Lib.keeps; simp⟩, hget 0 hi⟩
      | succ i ih =>
        intro hi
        by_cases e : l[i + 1] = l[i]
        · rw [e]; exact ih (by omega)
        · unfold Lib.compactUpTo
          refine List.mem_map.2 ⟨i + 1, List.mem_filter.2 ⟨List.mem_range.2 hi, ?_⟩, hget (i + 1) hi⟩
          unfold Lib.keeps
          rw [decide_eq_true_eq]
          right
          rw [hget (i + 1) hi, show i + 1 - 1 = i from rfl, hget i (by omega)]
          exact e
    exact key i hi
theorem cp_srt {l : List Nm} {ns : List Nm} (hp : l.Perm ns) (hs : l.Pairwise fun a b => ¬ ltN b a) : Lib.compactUpTo l.toArray l.length = srtN ns := by
  obtain ⟨h1, h2⟩ := cp_asc hs
  exact AscN.unique h1 (srtN_asc ns).1 fun x => by rw [h2, hp.mem_iff, (srtN_asc ns).2]
theorem eql_strD (P : Program) (T : TypeId) : EqlAt P T Value.string (fun x y => decide (x = y)) := ⟨fun x y w => by have := (EqlAt.string P T).1 x y w; simpa only [bytes_eq] using this, (EqlAt.string P T).2⟩
theorem neq_strD (P : Program) (T : TypeId) : NeqAt P T Value.string (fun x y => decide (x = y)) := ⟨fun x y w => by have := (NeqAt.string P T).1 x y w; simpa only [bytes_eq] using this, (NeqAt.string P T).2⟩
set_option maxRecDepth 100000 in
theorem sl_CompactN (base : Nat) (v : Value) (l : List Nm) (w : World) (hown : w.ownsRow base 9 1 v l.length (l.map Value.string)) (hl : l.length ≤ 100000) :
    Calls Tryz.prog 149 #[v] w fun e w' => ∃ u, e = .returned u ∧ w'.ownsRow base 9 1 u (Lib.compactUpTo l.toArray l.length).length ((Lib.compactUpTo l.toArray l.length).map Value.string) ∧ Kb (fun k => v.ownBlock = some k) w w' := by
  by_cases h0 : l.length = 0
  · obtain rfl : l = [] := List.length_eq_zero_iff.1 h0
    obtain ⟨a, c, rfl⟩ := owns_slice hown
    have HO := hid hown
    clear hown
    go_enter Tryz.func149, Tryz.ntmps149
    go_wp2
    go_ret
    exact ⟨_, rfl, by simpa [Lib.compactUpTo] using HO.out, Kb.refl _ _⟩
  · obtain ⟨g, c, rfl, -, hlc⟩ := owns_some hown (by omega)
    have hH : Go.Sort.Holds Value.string w g 0 l.toArray := fun j hj => by
      have hj : j < l.length := by simpa using hj
      have hc := hown.cellAt j (by omega)
      rw [List.getElem?_map, List.getElem?_eq_getElem hj] at hc
      refine ⟨?_, by rw [Nat.zero_add]; exact hown.frozenAt j⟩
      rw [Nat.zero_add, getElem!_pos _ j (by simpa using hj)]
      simpa using hc
    have hcon := AnyE.slices_Compact Tryz.compact149 Value.string (fun _ => rfl) (eql_strD _ _) (neq_strD _ _) em (fun w => by kernel_rfl) g 0 c l.toArray w hH (by simp; omega) (by simpa using hlc)
    rw [List.size_toArray] at hcon
    change Calls Tryz.prog 149 _ _ _ at hcon
    have hcl : (Lib.compactUpTo l.toArray l.length).length ≤ l.length := by
      unfold Lib.compactUpTo
      rw [List.length_map]
      exact Nat.le_trans (List.length_filter_le _ _) (by simp)
    obtain ⟨C, hC⟩ : ∃ C, Lib.compactUpTo l.toArray l.length = C := ⟨_, rfl⟩
    rw [hC] at hcon hcl ⊢
    refine hcon.mono ?_
    rintro e w' ⟨rfl, q, rfl⟩
    have hsz : (C ++ List.replicate (l.length - C.length) em).toArray.size = l.length := by simp; omega
    have h1 := own_sort Value.string hown q (C ++ List.replicate (l.length - C.length) em).toArray hsz #[]
    have h2 := owns_shrink h1 hcl
    refine ⟨_, rfl, ?_, ?_⟩
    · have e1 : ((C ++ List.replicate (l.length - C.length) em).toArray.toList.map Value.string).take (C.length * 1) = C.map Value.string := by simp
      rw [e1] at h2
      have e2 : Go.Sort.putRow Value.string (Go.Sort.ahead w q) g 0 (C ++ List.replicate (l.length - C.length) em).toArray = sortWorld Value.string w g 0 q (C ++ List.replicate (l.length - C.length) em).toArray #[] := (Go.Sort.grow_empty _).symm
      rw [e2]; exact h2
    · have e2 : Go.Sort.putRow Value.string (Go.Sort.ahead w q) g 0 (C ++ List.replicate (l.length - C.length) em).toArray = sortWorld Value.string w g 0 q (C ++ List.replicate (l.length - C.length) em).toArray #[] := (Go.Sort.grow_empty _).symm
      rw [e2]
      exact (kb_sort Value.string w g q _ #[]).mono fun k _ h => by rw [h]; rfl
end Go.Proofs.YtlbjbmpkaniojaaGreat
namespace Go.Proofs.YtlbjbmpkaniojaaGreat
open Go Go.RowKit Go.Maps
def evE (p : EV) : Value := .agg #[.string p.1.name, .string p.1.who, p.2.1, p.2.2.1, p.2.2.2]
def zE : Value := .agg #[.string ⟨#[]⟩, .string ⟨#[]⟩, .slice none 0 0, .slice none 0 0, .slice none 0 0]
abbrev EMap (w : World) (b n : Nat) (m : Nm → Option EV) : Prop := MapK Tryz.prog 9 Value.string evE w b n m
theorem zero_entE (w : World) : (zeroValue 41).run Tryz.prog w = .ok zE w := by kernel_rfl
def mapE (zs : List EV) (n : Nm) : Option EV := zs.reverse.find? fun p => decide (p.1.name = n)
theorem mapE_snoc (zs : List EV) (p : EV) : (fun y => if y = p.1.name then some p else mapE zs y) = mapE (zs ++ [p]) := by
  funext y
  unfold mapE
  rw [List.reverse_append, List.reverse_singleton, List.singleton_append, List.find?_cons]
  by_cases h : y = p.1.name
  · rw [if_pos h]; simp [h]
  · rw [if_neg h]
    have : decide (p.1.name = y) = false := decide_eq_false fun e => h e.symm
    rw [this]
theorem mapE_some {zs : List EV} {n : Nm} {p : EV} (h : mapE zs n = some p) : p ∈ zs ∧ p.1.name = n := by
  unfold mapE at h
  exact ⟨List.mem_reverse.1 (List.mem_of_find?_eq_some h), by have := List.find?_some h; simpa using this⟩
theorem mapE_none {zs : List EV} {n : Nm} (h : mapE zs n = none) : ∀ p ∈ zs, p.1.name ≠ n := fun p hp e => by
  unfold mapE at h
  have := List.find?_eq_none.1 h p (List.mem_reverse.2 hp)
  simp [e] at this
theorem EntsV.open5 {w : World} {v : Value} {vs : List V3} {l : List En} (h : EntsV w v vs l) : ∃ a cap, v = .slice a l.length cap ∧ l.length ≤ cap ∧ l.length ≤ 140737488355328 ∧
    ∀ j (hj : j < l.length), ∃ b o a1 k1 a2 k2 a3 k3, a = some ⟨b, o, none⟩ ∧ vs[j]? = some (.slice a1 l[j].says.length k1, .slice a2 l[j].uses.length k2, .slice a3 l[j].proof.length k3) ∧
      w.cell? ⟨b, o + j * 5, none⟩ = some (.string l[j].name) ∧ w.cell? ⟨b, o + j * 5 + 1, none⟩ = some (.string l[j].who) ∧ w.cell? ⟨b, o + j * 5 + 2, none⟩ = some (.slice a1 l[j].says.length k1) ∧ w.cell? ⟨b, o + j * 5 + 3, none⟩ = some (.slice a2 l[j].uses.length k2) ∧ w.cell? ⟨b, o + j * 5 + 4, none⟩ = some (.slice a3 l[j].proof.length k3) ∧
      EntAt w (.slice a1 l[j].says.length k1) (.slice a2 l[j].uses.length k2) (.slice a3 l[j].proof.length k3) l[j] := by
  obtain ⟨⟨_, a, cap, h2, h3, h4, h5, h6⟩, hl, he⟩ := h
  refine ⟨a, cap, h2, h3, h4, fun j hj => ?_⟩
  have hv : j < vs.length := by omega
  obtain ⟨g0, g1, g2, g3, g4⟩ := ensC_get l vs hl j hj hv
  have hej := he j hj hv
  obtain ⟨a1, k1, e1, -⟩ := hej.s.open
  obtain ⟨a2, k2, e2, -⟩ := hej.u.open
  obtain ⟨a3, k3, e3, -⟩ := hej.p.open
  obtain ⟨b, o, e0, q0⟩ := h6 _ _ g0
  obtain ⟨_, _, f1, q1⟩ := h6 _ _ g1
  obtain ⟨_, _, f2, q2⟩ := h6 _ _ g2
  obtain ⟨_, _, f3, q3⟩ := h6 _ _ g3
  obtain ⟨_, _, f4, q4⟩ := h6 _ _ g4
  rw [e0] at f1 f2 f3 f4
  cases f1; cases f2; cases f3; cases f4
  refine ⟨b, o, a1, k1, a2, k2, a3, k3, e0, ?_, q0, by rw [Nat.add_assoc]; exact q1, by rw [Nat.add_assoc, ← e1]; exact q2, by rw [Nat.add_assoc, ← e2]; exact q3, by rw [Nat.add_assoc, ← e3]; exact q4, ?_⟩
  · rw [List.getElem?_eq_getElem hv, ← e1, ← e2, ← e3]
  · rw [← e1, ← e2, ← e3]; exact hej
/-- what a look-up hands back. -/
theorem map_look {w : World} {v : Value} {vs : List V3} {l : List En} (h : EntsV w v vs l) (hn : (l.map En.name).Nodup) (n : Nm) :
    ∃ a1 k1 a2 k2 a3 k3, ((mapE (l.zip vs) n).map evE).getD zE = .agg #[.string (lkE l n).name, .string (lkE l n).who, .slice a1 (lkE l n).says.length k1, .slice a2 (lkE l n).uses.length k2, .slice a3 (lkE l n).proof.length k3] ∧
      EntAt w (.slice a1 (lkE l n).says.length k1) (.slice a2 (lkE l n).uses.length k2) (.slice a3 (lkE l n).proof.length k3) (lkE l n) := by
  cases hm : mapE (l.zip vs) n with
  | none =>
    have hno : lkE l n = en0 := lkE_no fun x hx e => by
      obtain ⟨i, hi, rfl⟩ := List.getElem_of_mem hx
      have hv : i < vs.length := by have := h.2.1; omega
      refine mapE_none hm (l[i], vs[i]) ?_ e
      refine List.mem_iff_getElem.2 ⟨i, by simp; omega, by simp⟩
    rw [hno]
    exact ⟨none, 0, none, 0, none, 0, rfl, ⟨Ints.nil _, TxtsAt.nil _, StepsAt.nil _, em_szM, em_szM⟩⟩
  | some p =>
    obtain ⟨hp, hpn⟩ := mapE_some hm
    obtain ⟨i, hi, rfl⟩ := List.getElem_of_mem hp
    have hil : i < l.length := by simp at hi; omega
    have hv : i < vs.length := by simp at hi; omega
    rw [List.getElem_zip] at hpn ⊢
    dsimp only at hpn
    have hlk : lkE l n = l[i] := by rw [← hpn]; exact lkE_at hn (List.getElem_mem hil)
    rw [hlk]
    have he := h.2.2 i hil hv
    obtain ⟨a1, k1, e1, -⟩ := he.s.open
    obtain ⟨a2, k2, e2, -⟩ := he.u.open
    obtain ⟨a3, k3, e3, -⟩ := he.p.open
    refine ⟨a1, k1, a2, k2, a3, k3, ?_, by rw [← e1, ← e2, ← e3]; exact he⟩
    show evE (l[i], vs[i]) = _
    unfold evE
    dsimp only
    rw [e1, e2, e3]
set_option maxHeartbeats 2000000 in
set_option maxRecDepth 100000 in
theorem blame_of (v : Value) (vs : List V3) (l : List En) (w : World) (h : EntsV w v vs l) :
    Calls Tryz.prog 146 #[v] w fun e w' => e = .returned (.map (some w.heap.size)) ∧ (∃ n, EMap w' w.heap.size n (mapE (l.zip vs))) ∧ Below w.heap.size w w' := by
  obtain ⟨la, lc, rfl, -, hll, ZC⟩ := h.open5
  have HCC := hid ZC
  have hvl := h.2.1
  have HM0 := hid (MapK.made Tryz.prog 9 Value.string evE w)
  have HB0 : Hid (Below w.heap.size w (w.alloc (.map #[] 0))) := hid ((Below.refl _ _).alloc (Nat.le_refl _) _)
  have hmm := @run_makeMap Tryz.prog
  clear ZC h
  go_enter Tryz.func146, Tryz.ntmps146
  go_wp2
  clear hmm
  go_loopw [9] (fun kv wr => ∃ k n : Nat, k ≤ l.length ∧ kv = .int .i64 k ∧ EMap wr w.heap.size n (mapE ((l.zip vs).take k)) ∧ Below w.heap.size w wr) (fun kv _ => l.length - (intOf kv).toNat)
  case atStart => exact ⟨0, 0, by omega, rfl, (show EMap _ _ _ (fun _ => none) from HM0.out), HB0.out⟩
  case round =>
    clear HM0 HB0
    obtain ⟨k, n, hk, rfl, hM, hb⟩ := hrel
    have hsz := hb.size
    by_cases hlt : k < l.length
    · obtain ⟨b, o, a1, k1, a2, k2, a3, k3, rfl, hvk, z0, z1, z2, z3, z4, he⟩ := HCC.out k hlt
      have hv : k < vs.length := by omega
      rw [List.getElem?_eq_getElem hv] at hvk
      have hvk := Option.some.inj hvk
      have x0 := celB z0 hb
      have x1 := celB z1 hb
      have x2 := celB z2 hb
      have x3 := celB z3 hb
      have x4 := celB z4 hb
      have hzk : (l.zip vs).take (k + 1) = (l.zip vs).take k ++ [(l[k], vs[k])] := by
        rw [List.take_succ_eq_append_getElem (by simp; omega), List.getElem_zip]
      rw [hvk] at hzk
      have hsm := he.n1
      obtain ⟨x, hx⟩ : ∃ x, l[k] = x := ⟨_, rfl⟩
      rw [hx] at x0 x1 x2 x3 x4 hzk hsm
      obtain ⟨Z, hZ⟩ : ∃ Z, (l.zip vs).take k = Z := ⟨_, rfl⟩
      rw [hZ] at hzk hM
      have HZ := hid hzk
      have HNK := hid (str_key hsm)
      have hBX := BX.new wr [.string x.name, .string x.who, .slice a1 x.says.length k1, .slice a2 x.uses.length k2, .slice a3 x.proof.length k3] 41
      obtain ⟨W, hW⟩ : ∃ W, wr.alloc (.cells #[.string x.name, .string x.who, .slice a1 x.says.length k1, .slice a2 x.uses.length k2, .slice a3 x.proof.length k3] 41) = W := ⟨_, rfl⟩
      have hW' : wr.alloc (.cells ([.string x.name, .string x.who, .slice a1 x.says.length k1, .slice a2 x.uses.length k2, .slice a3 x.proof.length k3] : List Value).toArray 41) = W := hW
      rw [hW'] at hBX
      have hbW : Below wr.heap.size wr W := hW ▸ (Below.refl _ _).alloc (Nat.le_refl _) _
      have y0 : W.cell? ⟨wr.heap.size, 0, none⟩ = some (.string x.name) := hBX.c 0 (by simp)
      have y1 : W.cell? ⟨wr.heap.size, 1, none⟩ = some (.string x.who) := hBX.c 1 (by simp)
      have y2 : W.cell? ⟨wr.heap.size, 2, none⟩ = some (.slice a1 x.says.length k1) := hBX.c 2 (by simp)
      have y3 : W.cell? ⟨wr.heap.size, 3, none⟩ = some (.slice a2 x.uses.length k2) := hBX.c 3 (by simp)
      have y4 : W.cell? ⟨wr.heap.size, 4, none⟩ = some (.slice a3 x.proof.length k3) := hBX.c 4 (by simp)
      have HM := hid (hM.belowS hbW)
      have HBW := hid (hb.trans (hbW.mono hsz))
      have HHW := hid hW
      clear z0 z1 z2 z3 z4 he hvk hzk hx hZ hBX hW hW' hbW hM hb hsm
      go_wp2_with (first | rw [HHW.out] | (at_mapUpdate; refine wpList_update_mapK rfl _ _ _ 155 rfl (string_keyed Tryz.underlying9) ek_string_inj Tryz.underlying155 rfl HM.out x.name (x, (.slice a1 x.says.length k1, .slice a2 x.uses.length k2, .slice a3 x.proof.length k3)) rfl rfl HNK.out ?_; intro w2 hm2 hg2))
      go_roundw
      case rel =>
        have hm3 := hm2
        rw [mapE_snoc Z (x, (.slice a1 x.says.length k1, .slice a2 x.uses.length k2, .slice a3 x.proof.length k3)), ← HZ.out] at hm3
        exact ⟨k + 1, _, by omega, by go_num, hm3, HBW.out.grown hg2 HBW.out.size (fun q hq => by cases hq; exact Nat.le_refl _)⟩
      case measure => simp [intOf]; omega
    · have hkl : k = l.length := by omega
      subst hkl
      rw [List.take_of_length_le (by simp; omega)] at hM
      have HM := hid hM
      clear hM
      go_wp2
      go_ret
      exact ⟨rfl, ⟨n, HM.out⟩, hb⟩
theorem row_three (w : World) (x y z : Value) (t : TypeId) : RowK (w.alloc (.cells #[x, y, z] t)) (.slice (some ⟨w.heap.size, 0, none⟩) 3 3) 1 3 [x, y, z] := by
  refine ⟨rfl, _, _, rfl, Nat.le_refl _, by omega, (fun h => by cases h), fun j u hj => ⟨_, _, rfl, ?_⟩⟩
  rw [World.cell?_alloc_new, Nat.zero_add]
  simpa using hj
theorem cat_ents {w : World} : ∀ {xs : ELs}, (∀ x ∈ xs, EntsV w x.1 x.2.1 x.2.2) → ∀ (j : Nat) (h : j < (flE xs).length) (h' : j < (flV xs).length), EntAt w (flV xs)[j].1 (flV xs)[j].2.1 (flV xs)[j].2.2 (flE xs)[j]
  | [], _, j, h, _ => by simp [flE] at h
  | x :: xs, hx, j, h, h' => by
    have e1 : flE (x :: xs) = x.2.2 ++ flE xs := by unfold flE; rw [List.map_cons, List.flatten_cons]
    have e2 : flV (x :: xs) = x.2.1 ++ flV xs := by unfold flV; rw [List.map_cons, List.flatten_cons]
    have h0 := hx x (by simp)
    have hlen := h0.2.1
    have g1 : (flE (x :: xs))[j]? = (x.2.2 ++ flE xs)[j]? := by rw [e1]
    have g2 : (flV (x :: xs))[j]? = (x.2.1 ++ flV xs)[j]? := by rw [e2]
    rw [List.getElem?_eq_getElem h] at g1
    rw [List.getElem?_eq_getElem h'] at g2
    by_cases hj : j < x.2.2.length
    · have hj2 : j < x.2.1.length := by omega
      rw [List.getElem?_append_left hj, List.getElem?_eq_getElem hj] at g1
      rw [List.getElem?_append_left hj2, List.getElem?_eq_getElem hj2] at g2
      rw [Option.some.inj g1, Option.some.inj g2]
      exact h0.2.2 j hj hj2
    · have hj3 : j - x.2.2.length < (flE xs).length := by rw [e1, List.length_append] at h; omega
      have hj4 : j - x.2.2.length < (flV xs).length := by rw [e2, List.length_append] at h'; omega
      rw [List.getElem?_append_right (by omega), List.getElem?_eq_getElem hj3] at g1
      rw [List.getElem?_append_right (by omega), hlen, List.getElem?_eq_getElem hj4] at g2
      rw [Option.some.inj g1, Option.some.inj g2]
      exact cat_ents (fun y hy => hx y (by simp [hy])) _ hj3 hj4
/-- the row and what its entries hold do not lie in a block. -/
def AvB (x : Option Nat) (u : Value) (vs : List V3) : Prop := (∀ q, u.ownBlock = some q → some q ≠ x) ∧ ∀ v ∈ vs, ∀ q, (v.1.ownBlock = some q ∨ v.2.1.ownBlock = some q ∨ v.2.2.ownBlock = some q) → some q ≠ x
theorem EnW.off {w W' : World} {base : Nat} {u : Value} {vs : List V3} {l : List En} (h : EnW w base u vs l) {x : Option Nat} (ha : AvB x u vs) (hs : ∀ q, q < w.heap.size → some q ≠ x → W'.heap[q]? = w.heap[q]?) : EnW W' base u vs l :=
  ⟨owns_blocks h.top fun q _ h2 h3 => hs q h2 (ha.1 q h3), h.len, fun j h1 h2 => (h.own j h1 h2).keep (Nat.le_refl _) fun q _ hq hb => hs q hq (ha.2 _ (List.getElem_mem h2) q hb), h.dis⟩
theorem EnW.lt {w : World} {base : Nat} {u : Value} {vs : List V3} {l : List En} (h : EnW w base u vs l) : (∀ q, u.ownBlock = some q → q < w.heap.size) ∧ ∀ v ∈ vs, ∀ q, (v.1.ownBlock = some q ∨ v.2.1.ownBlock = some q ∨ v.2.2.ownBlock = some q) → q < w.heap.size := by
  refine ⟨fun q hq => (h.top.lt q hq).2, fun v hv q hq => ?_⟩
  obtain ⟨i, hi, rfl⟩ := List.getElem_of_mem hv
  have ho := h.own i (by rw [← h.len]; exact hi) hi
  rcases hq with hq | hq | hq
  · exact (ho.s.lt q hq).2
  · exact (ho.u.lt q hq).2
  · exact (ho.p.lt q hq).2
theorem AvB.nil (x : Option Nat) : AvB x (.slice none 0 0) [] := ⟨fun q h => (by have h : (none : Option Nat) = some q := h; cases h), fun v hv => (by cases hv)⟩
theorem AvB.fresh {w : World} {base : Nat} {u : Value} {vs : List V3} {l : List En} (h : EnW w base u vs l) {x : Option Nat} (ha : AvB x u vs) {g H : Nat} (hH : w.heap.size ≤ H) (hat : x = some g ∨ g = H) : AvB (some g) u vs := by
  rcases hat with e | e
  · rw [← e]; exact ha
  · subst e
    exact ⟨fun q hq e => by have := h.lt.1 q hq; have := Option.some.inj e; omega, fun v hv q hq e => by have := h.lt.2 v hv q hq; have := Option.some.inj e; omega⟩
theorem AvB.push {x : Option Nat} {u : Value} {vs : List V3} (ha : AvB x u vs) {g n c : Nat} {v : V3} {H B : Nat} (hat : u.ownBlock = some g ∨ g = H) (hx : ∀ q, x = some q → q < B) (hH : B ≤ H) (hv : ∀ q, (v.1.ownBlock = some q ∨ v.2.1.ownBlock = some q ∨ v.2.2.ownBlock = some q) → B ≤ q) : AvB x (.slice (some ⟨g, 0, none⟩) n c) (vs ++ [v]) := by
  refine ⟨fun q hq e => ?_, fun z hz q hq e => ?_⟩
  · have h1 : g = q := Option.some.inj hq
    subst h1
    rcases hat with h | h
    · exact ha.1 g h e
    · have := hx g e.symm; omega
  · rcases List.mem_append.1 hz with hz | hz
    · exact ha.2 z hz q hq e
    · simp at hz; subst hz
      have := hv q hq; have := hx q e.symm; omega
end Go.Proofs.YtlbjbmpkaniojaaGreat
