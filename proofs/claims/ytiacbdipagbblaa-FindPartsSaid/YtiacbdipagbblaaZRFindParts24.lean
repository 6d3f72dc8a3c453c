/-
  WHAT IT HOLDS: the contract of With of package find. Conditions: the arguments read as data; at most 1000 names, terms and symbols.
-/
import Derived.Deep.RegionWith
import Derived.Test.YtiacbdipagbblaaZRFindParts10
namespace Go.Proofs.Ytiacbdipagbblaa
open Go Go.RowKit Go.Maps
theorem find_With1 (n : Int) (vs : Value) (ps : Nat) (s : Sg) (w : World) (hs : SignAt w vs s) (hc : w.cell? ⟨ps, 0, none⟩ = some vs) :
    Calls Try.prog 61 #[.int .i64 n, .pointer (some ⟨ps, 0, none⟩)] w fun e w' => e = .returned (.bool (!inB n 0 (s.length - 1))) ∧ Below w.heap.size w w' := by
  obtain ⟨sa, scap, rfl, h1, h2, _⟩ := hs.open
  go_enter Try.func61, Try.ntmps61
  go_wp2_with (go_at_call 62; refine (find_within _ _ _ _).mono ?_; rintro e w1 ⟨rfl, rfl⟩)
  go_ret
  exact ⟨rfl, Below.refl _ _⟩
theorem find_With21 (n : Int) (vt : Value) (pt : Nat) (t : List Int) (w : World) (ht : Ints w vt t) (hc : w.cell? ⟨pt, 0, none⟩ = some vt) :
    Calls Try.prog 65 #[.int .i64 n, .pointer (some ⟨pt, 0, none⟩)] w fun e w' => e = .returned (.bool (!decide (n ∈ t))) ∧ Below w.heap.size w w' := by
  obtain ⟨ta, tcap, rfl, h1, h2, _⟩ := ht.open
  go_enter Try.func65, Try.ntmps65
  go_wp2_with (go_at_call 66; refine (sl_Contains_term _ _ _ _ ht).mono ?_; rintro e w1 ⟨rfl, rfl⟩)
  go_ret
  exact ⟨rfl, Below.refl _ _⟩
theorem any_hasAll (q t : List Int) : (List.range q.length).any (fun i => !decide (q.getD i 0 ∈ t)) = !hasAllB q t := by
  rw [Bool.eq_iff_iff, List.any_eq_true]
  unfold hasAllB
  simp only [Bool.not_eq_true', List.all_eq_false]
  constructor
  · rintro ⟨i, hi, h⟩
    have hil : i < q.length := by simpa using hi
    rw [List.getD_eq_getElem?_getD, List.getElem?_eq_getElem hil] at h
    exact ⟨q[i], List.getElem_mem hil, by simpa using h⟩
  · rintro ⟨x, hx, h⟩
    obtain ⟨i, hi, rfl⟩ := List.getElem_of_mem hx
    refine ⟨i, by simpa using hi, ?_⟩
    rw [List.getD_eq_getElem?_getD, List.getElem?_eq_getElem hi]
    simpa using h
theorem find_With2 (vt vq : Value) (pq : Nat) (t q : List Int) (w : World) (ht : Ints w vt t) (hq : Ints w vq q) (hc : w.cell? ⟨pq, 0, none⟩ = some vq) :
    Calls Try.prog 64 #[vt, .pointer (some ⟨pq, 0, none⟩)] w fun e w' => e = .returned (.bool (hasAllB q t)) ∧ Below w.heap.size w w' := by
  obtain ⟨ta, tcap, rfl, _⟩ := ht.open
  obtain ⟨qa, qcap, rfl, _⟩ := hq.open
  have hbx : Below w.heap.size w (w.alloc (.cells #[.slice ta t.length tcap] 37)) := (Below.refl _ _).alloc (Nat.le_refl _) _
  have hcell := cell_new1 w (.slice ta t.length tcap) 37
  have hc2 := hbx.cell (World.block_lt_of_cell? _ _ hc)
  have key := sl_ContainsFunc_ints 65 #[.pointer (some ⟨w.heap.size, 0, none⟩)] (enters_of Try.func65 (by kernel_rfl) rfl) (.slice qa q.length qcap) q.length _ (w.alloc (.cells #[.slice ta t.length tcap] 37)) (hq.below hbx) (fun i => !decide (q.getD i 0 ∈ t)) (by
    intro i x W hx hbW
    have hil : i < q.length := by simpa using (List.getElem?_eq_some_iff.1 hx).1
    obtain rfl : x = .int .i64 (q.getD i 0) := by
      rw [List.getElem?_map, List.getElem?_eq_getElem hil] at hx
      rw [List.getD_eq_getElem?_getD, List.getElem?_eq_getElem hil]
      simpa using hx.symm
    exact find_With21 _ _ _ _ _ ((ht.below hbx).below hbW) (by rw [hbW.cell (p := ⟨w.heap.size, 0, none⟩) (by simp)]; exact hcell))
  rw [any_hasAll] at key
  have KEY := hid key
  have hcq : (w.alloc (.cells #[.slice ta t.length tcap] 37)).cell? ⟨pq, 0, none⟩ = some (.slice qa q.length qcap) := hc2.trans hc
  clear key hcell hc2 hc
  go_enter Try.func64, Try.ntmps64
  go_wp2_with (go_at_call 60; refine KEY.out.mono ?_; rintro e w1 ⟨rfl, hb1⟩)
  go_ret
  exact ⟨ret_bool (by simp), hbx.trans (hb1.mono (by simp))⟩
theorem any_symbols (s : Sg) (q : List Int) : (List.range q.length).any (fun i => !inB (q.getD i 0) 0 (s.length - 1)) = !q.all (fun n => inB n 0 (s.length - 1)) := by
  rw [Bool.eq_iff_iff, List.any_eq_true]
  simp only [Bool.not_eq_true', List.all_eq_false]
  constructor
  · rintro ⟨i, hi, h⟩
    have hil : i < q.length := by simpa using hi
    rw [List.getD_eq_getElem?_getD, List.getElem?_eq_getElem hil] at h
    exact ⟨q[i], List.getElem_mem hil, by simpa using h⟩
  · rintro ⟨x, hx, h⟩
    obtain ⟨i, hi, rfl⟩ := List.getElem_of_mem hx
    refine ⟨i, by simpa using hi, ?_⟩
    rw [List.getD_eq_getElem?_getD, List.getElem?_eq_getElem hi]
    simpa using h
theorem shelf_first {s : Sg} {l : List (List Int)} (h : shelfB s l = true) : ∃ h0 : 0 < l.length, termB s l[0] = true := by
  unfold shelfB at h
  simp only [Bool.and_eq_true] at h
  have h1 := inB_true.1 h.1.2
  have h0 : 0 < l.length := by omega
  refine ⟨h0, ?_⟩
  have := h.2
  unfold allB at this
  rw [List.all_eq_true] at this
  exact this _ (List.getElem_mem h0)

set_option maxHeartbeats 1000000 in
set_option maxRecDepth 100000 in
theorem find_With (v vl vq : Value) (s : Sg) (l : List (List Int)) (q : List Int) (w : World) (hs : SignAt w v s) (hv : Terms w vl l) (hq : Ints w vq q) (b1 : s.length ≤ 1000) (b2 : l.length ≤ 1000) (b3 : q.length ≤ 1000) :
    Calls Try.prog 15 #[v, vl, vq] w fun e w' => ∃ u, e = .returned (.tuple #[u, .int .i64 (withB s l q).2]) ∧ w'.ownsRow w.heap.size 3 1 u (withB s l q).1.length ((withB s l q).1.map (Value.int .i64)) ∧ Below w.heap.size w w' := by
  obtain ⟨sa, scap, rfl, _⟩ := hs.open
  obtain ⟨qa, qcap, rfl, _⟩ := hq.open
  obtain ⟨la, lcap, rfl, hl1, hl2, hl3, LC⟩ := hv.open
  have LC' := hid LC
  clear LC hl3
  obtain ⟨k1, k2, k3⟩ := boxes2 w (.slice sa s.length scap) (.slice qa q.length qcap) 23 25
  cases h1 : shelfB s l
  · have HF : Hid (withB s l q = ([], 1)) := hid (by unfold withB; rw [h1]; rfl)
    go_enter Try.func15, Try.ntmps15
    go_wp2_with (first | (go_at_call 39; refine (find_Valid _ _ _ _ _ (hs.below k3) (hv.below k3) b1).mono ?_; rintro e w1 ⟨rfl, hb1⟩))
    go_ret2
    rw [HF.out]
    exact ⟨_, rfl, World.ownsRow_nil _ _ _ _, k3.trans (hb1.mono (by simp; omega))⟩
  · have key : ∀ w1, Below ((w.alloc (.cells #[.slice sa s.length scap] 23)).alloc (.cells #[.slice qa q.length qcap] 25)).heap.size ((w.alloc (.cells #[.slice sa s.length scap] 23)).alloc (.cells #[.slice qa q.length qcap] 25)) w1 →
        Calls Try.prog 60 #[.slice qa q.length qcap, .func (.func 61) #[] #[.pointer (some ⟨w.heap.size, 0, none⟩)]] w1 fun e w' => e = .returned (.bool (!q.all (fun n => inB n 0 (s.length - 1)))) ∧ Below w1.heap.size w1 w' := by
      intro w1 hb1
      have := sl_ContainsFunc_ints 61 #[.pointer (some ⟨w.heap.size, 0, none⟩)] (enters_of Try.func61 (by kernel_rfl) rfl) (.slice qa q.length qcap) q.length _ w1 ((hq.below k3).below hb1) (fun i => !inB (q.getD i 0) 0 (s.length - 1)) (by
        intro i x W hx hbW
        have hil : i < q.length := by simpa using (List.getElem?_eq_some_iff.1 hx).1
        obtain rfl : x = .int .i64 (q.getD i 0) := by
          rw [List.getElem?_map, List.getElem?_eq_getElem hil] at hx
          rw [List.getD_eq_getElem?_getD, List.getElem?_eq_getElem hil]
          simpa using hx.symm
        exact find_With1 _ _ _ _ _ (((hs.below k3).below hb1).below hbW) (by
          rw [hbW.cell (p := ⟨w.heap.size, 0, none⟩) (by have := hb1.size; simp at this; show w.heap.size < _; omega), hb1.cell (p := ⟨w.heap.size, 0, none⟩) (by simp; omega)]
          exact k1))
      rw [any_symbols] at this
      exact this
    have KEY := hid key
    clear key
    cases h2 : q.all (fun n => inB n 0 (s.length - 1))
    · have HF : Hid (withB s l q = ([], 5)) := hid (by unfold withB; rw [h1, h2]; rfl)
      rw [h2] at KEY
      have hcells : ∀ w1, Below ((w.alloc (.cells #[.slice sa s.length scap] 23)).alloc (.cells #[.slice qa q.length qcap] 25)).heap.size ((w.alloc (.cells #[.slice sa s.length scap] 23)).alloc (.cells #[.slice qa q.length qcap] 25)) w1 → w1.cell? ⟨w.heap.size + 1, 0, none⟩ = some (.slice qa q.length qcap) :=
        fun w1 hb1 => (hb1.cell (p := ⟨w.heap.size + 1, 0, none⟩) (by simp)).trans k2
      have HCS := hid hcells
      clear hcells h2
      go_enter Try.func15, Try.ntmps15
      go_wp2_with (first | (go_at_call 39; refine (find_Valid _ _ _ _ _ (hs.below k3) (hv.below k3) b1).mono ?_; rintro e w1 ⟨rfl, hb1⟩; have hcq := HCS.out _ hb1) | (go_at_call 60; refine (KEY.out _ hb1).mono ?_; rintro e w2 ⟨rfl, hb2⟩))
      go_ret2
      rw [HF.out]
      exact ⟨_, rfl, World.ownsRow_nil _ _ _ _, (k3.trans (hb1.mono (by simp; omega))).trans (hb2.mono (by have := hb1.size; simp at this; omega))⟩
    · have HF : Hid (withB s l q = (chosenL 0 (l.map (hasAllB q)), 0)) := hid (by unfold withB; rw [h1, h2]; rfl)
      rw [h2] at KEY
      obtain ⟨hl0, hT0⟩ := shelf_first h1
      obtain ⟨b, o, x, rfl, hx0, hxI⟩ := LC'.out 0 hl0
      have hcells : ∀ w1, Below ((w.alloc (.cells #[.slice sa s.length scap] 23)).alloc (.cells #[.slice qa q.length qcap] 25)).heap.size ((w.alloc (.cells #[.slice sa s.length scap] 23)).alloc (.cells #[.slice qa q.length qcap] 25)) w1 → w1.cell? ⟨w.heap.size + 1, 0, none⟩ = some (.slice qa q.length qcap) ∧ w1.cell? ⟨w.heap.size, 0, none⟩ = some (.slice sa s.length scap) ∧ w1.cell? ⟨b, o, none⟩ = some x :=
        fun w1 hb1 => ⟨(hb1.cell (p := ⟨w.heap.size + 1, 0, none⟩) (by simp)).trans k2, (hb1.cell (p := ⟨w.heap.size, 0, none⟩) (by simp; omega)).trans k1, ((k3.trans (hb1.mono (by simp; omega))).cell (p := ⟨b, o, none⟩) (World.block_lt_of_cell? _ _ hx0)).trans (by simpa using hx0)⟩
      have HCS := hid hcells
      clear hcells h2
      have KS : ∀ w2, Below ((w.alloc (.cells #[.slice sa s.length scap] 23)).alloc (.cells #[.slice qa q.length qcap] 25)).heap.size ((w.alloc (.cells #[.slice sa s.length scap] 23)).alloc (.cells #[.slice qa q.length qcap] 25)) w2 →
          Calls Try.prog 63 #[.slice sa s.length scap, .slice (some ⟨b, o, none⟩) l.length lcap, x, .func (.func 64) #[] #[.pointer (some ⟨w.heap.size + 1, 0, none⟩)]] w2 fun e w' => ∃ u, e = .returned (.tuple #[u, .int .i64 0]) ∧
            w'.ownsRow w2.heap.size 3 1 u (chosenL 0 (l.map (hasAllB q))).length ((chosenL 0 (l.map (hasAllB q))).map (Value.int .i64)) ∧ Below w2.heap.size w2 w' := by
        intro w2 hb2
        have hww : Below w.heap.size w w2 := k3.trans (hb2.mono (by simp; omega))
        have := find_search 64 #[.pointer (some ⟨w.heap.size + 1, 0, none⟩)] (enters_of Try.func64 (by kernel_rfl) rfl) (.slice sa s.length scap) (.slice (some ⟨b, o, none⟩) l.length lcap) x s l l[0] (l.map (hasAllB q)) w2 (hs.below hww) (hv.below hww) (hxI.below hww) b1 b2 (by simp) (by
          intro _ _ i y W hi hi' hy hbW
          rw [List.getElem_map]
          exact find_With2 _ _ _ _ _ _ hy ((hq.below hww).below hbW) (by
            rw [hbW.cell (p := ⟨w.heap.size + 1, 0, none⟩) (by have := hb2.size; simp at this; show w.heap.size + 1 < _; omega)]
            exact (HCS.out _ hb2).1))
        rw [show searchB s l l[0] (l.map (hasAllB q)) = (chosenL 0 (l.map (hasAllB q)), 0) by unfold searchB; rw [h1, hT0]; rfl] at this
        exact this
      have KS' := hid KS
      clear KS
      go_enter Try.func15, Try.ntmps15
      go_wp2_with (first | (go_at_call 39; refine (find_Valid _ _ _ _ _ (hs.below k3) (hv.below k3) b1).mono ?_; rintro e w1 ⟨rfl, hb1⟩; obtain ⟨hcq, _, _⟩ := HCS.out _ hb1) | (go_at_call 60; refine (KEY.out _ hb1).mono ?_; rintro e w2 ⟨rfl, hb2⟩))
      have hb3 := hb1.trans (hb2.mono hb1.size)
      obtain ⟨d1, d2, d3⟩ := HCS.out _ hb3
      clear hb1 hb2 hcq
      have hb4 := hb3.drew
      have hsz : w.heap.size ≤ w2.drew.heap.size := by have := hb4.size; simp only [World.size_alloc] at this; omega
      have HB4 := hid hb4
      have HSZ := hid hsz
      clear hb3 hb4 hsz
      go_region_with ((go_at_call 63; refine (KS'.out _ HB4.out).mono ?_; rintro e w4 ⟨u, rfl, hown4, hb5⟩))
      all_goals go_wp2
      all_goals go_ret2
      all_goals rw [HF.out]
      all_goals exact ⟨u, rfl, owns_base hown4 HSZ.out, (k3.trans (HB4.out.mono (by simp; omega))).trans (hb5.mono HSZ.out)⟩
end Go.Proofs.Ytiacbdipagbblaa
