/-
  WHAT IT HOLDS: contracts of Meeting, Instances, Generals, Alike of package find. Conditions: the arguments read as data; the shelf and the sign are small.
  WHAT IT HOLDS: contracts of Shape of package term, and of shape and Shaped of package find. Conditions: the arguments read as data; the shelf and the sign are small.
  WHAT IT HOLDS: groups, plain: each index is in one; groups of equal forms lie in groups of equal shapes; there are as many as sorted forms. No program. No condition.
-/
import Derived.Test.YtiacbdipagbblaaZRFindGroups23
import Derived.Test.YtiacbdipagbblaaZRFindGroups12
import Derived.Test.YtiacbdipagbblaaZRFindGroups2
import Derived.Test.YtiacbdipagbblaaZRFindGroups24
namespace Go.Proofs.Ytiacbdipagbblaa
open Go Go.RowKit Go.Maps
theorem find_Meeting1 (vs vt vq : Value) (ps pq : Nat) (s : Sg) (t q : List Int) (w : World) (hs : SignAt w vs s) (ht : Ints w vt t) (hq : Ints w vq q) (hs1 : s.length ≤ 1000) (c1 : w.cell? ⟨ps, 0, none⟩ = some vs) (c2 : w.cell? ⟨pq, 0, none⟩ = some vq) :
    Calls Try.prog 95 #[vt, .pointer (some ⟨ps, 0, none⟩), .pointer (some ⟨pq, 0, none⟩)] w fun e w' => ∃ z, (MeetsA s t q z) ∧ e = .returned (.bool z) ∧ Below w.heap.size w w' := by
  obtain ⟨sa, sc, rfl, -⟩ := hs.open
  obtain ⟨ta, tc, rfl, -⟩ := ht.open
  obtain ⟨qa, qc, rfl, -⟩ := hq.open
  go_enter Try.func95, Try.ntmps95
  go_wp2_with fail
  refine (unify_Meets _ _ _ s t q _ hs ht hq hs1).mono ?_
  rintro e w1 ⟨z, hz, rfl, hb1⟩
  go_wp2
  go_ret
  exact ⟨_, hz, rfl, hb1⟩
theorem find_Instances1 (vs vt vq : Value) (ps pq : Nat) (s : Sg) (t q : List Int) (w : World) (hs : SignAt w vs s) (ht : Ints w vt t) (hq : Ints w vq q) (hs1 : s.length ≤ 1000) (c1 : w.cell? ⟨ps, 0, none⟩ = some vs) (c2 : w.cell? ⟨pq, 0, none⟩ = some vq) :
    Calls Try.prog 75 #[vt, .pointer (some ⟨ps, 0, none⟩), .pointer (some ⟨pq, 0, none⟩)] w fun e w' => ∃ z, (z = instB s q t) ∧ e = .returned (.bool z) ∧ Below w.heap.size w w' := by
  obtain ⟨sa, sc, rfl, -⟩ := hs.open
  obtain ⟨ta, tc, rfl, -⟩ := ht.open
  obtain ⟨qa, qc, rfl, -⟩ := hq.open
  go_enter Try.func75, Try.ntmps75
  go_wp2_with fail
  refine (unify_Instance _ _ _ s q t _ hs hq ht hs1).mono ?_
  rintro e w1 ⟨rfl, hb1⟩
  go_wp2
  go_ret
  exact ⟨_, rfl, rfl, hb1⟩
theorem find_Generals1 (vs vt vq : Value) (ps pq : Nat) (s : Sg) (t q : List Int) (w : World) (hs : SignAt w vs s) (ht : Ints w vt t) (hq : Ints w vq q) (hs1 : s.length ≤ 1000) (c1 : w.cell? ⟨ps, 0, none⟩ = some vs) (c2 : w.cell? ⟨pq, 0, none⟩ = some vq) :
    Calls Try.prog 102 #[vt, .pointer (some ⟨ps, 0, none⟩), .pointer (some ⟨pq, 0, none⟩)] w fun e w' => ∃ z, (z = instB s t q) ∧ e = .returned (.bool z) ∧ Below w.heap.size w w' := by
  obtain ⟨sa, sc, rfl, -⟩ := hs.open
  obtain ⟨ta, tc, rfl, -⟩ := ht.open
  obtain ⟨qa, qc, rfl, -⟩ := hq.open
  go_enter Try.func102, Try.ntmps102
  go_wp2_with fail
  refine (unify_Instance _ _ _ s t q _ hs ht hq hs1).mono ?_
  rintro e w1 ⟨rfl, hb1⟩
  go_wp2
  go_ret
  exact ⟨_, rfl, rfl, hb1⟩
theorem find_Alike1 (vs vt vq : Value) (ps pq : Nat) (s : Sg) (t q : List Int) (w : World) (hs : SignAt w vs s) (ht : Ints w vt t) (hq : Ints w vq q) (hs1 : s.length ≤ 1000) (c1 : w.cell? ⟨ps, 0, none⟩ = some vs) (c2 : w.cell? ⟨pq, 0, none⟩ = some vq) :
    Calls Try.prog 93 #[vt, .pointer (some ⟨ps, 0, none⟩), .pointer (some ⟨pq, 0, none⟩)] w fun e w' => ∃ z, (z = alikeB s t q) ∧ e = .returned (.bool z) ∧ Below w.heap.size w w' := by
  obtain ⟨sa, sc, rfl, -⟩ := hs.open
  obtain ⟨ta, tc, rfl, -⟩ := ht.open
  obtain ⟨qa, qc, rfl, -⟩ := hq.open
  go_enter Try.func93, Try.ntmps93
  go_wp2_with fail
  refine (term_Alike _ _ _ s t q _ hs ht hq hs1).mono ?_
  rintro e w1 ⟨rfl, hb1⟩
  go_wp2
  go_ret
  exact ⟨_, rfl, rfl, hb1⟩
set_option maxHeartbeats 1000000 in
theorem find_Meeting (v vl vq : Value) (s : Sg) (l : List (List Int)) (q : List Int) (f : List Int → Bool) (hf : ∀ t, MeetsA s t q (f t)) (w : World) (hs : SignAt w v s) (hv : Terms w vl l) (hq : Ints w vq q) (b1 : s.length ≤ 1000) (b2 : l.length ≤ 1000) :
    Calls Try.prog 37 #[v, vl, vq] w fun e w' => ∃ u, e = .returned (.tuple #[u, .int .i64 (searchB s l q (l.map f)).2]) ∧ w'.ownsRow w.heap.size 3 1 u (searchB s l q (l.map f)).1.length ((searchB s l q (l.map f)).1.map (Value.int .i64)) ∧ Below w.heap.size w w' := by
  have MeetsA_eq : ∀ {t : List Int} {x y : Bool}, (x = true ↔ MeetsQ s t q) → (y = true ↔ MeetsQ s t q) → x = y := fun {t x y} h k => Bool.eq_iff_iff.2 (h.trans k.symm)
  obtain ⟨sa, scap, rfl, _⟩ := hs.open
  obtain ⟨qa, qcap, rfl, _⟩ := hq.open
  obtain ⟨k1, k2, k3⟩ := boxes2 w (.slice sa s.length scap) (.slice qa q.length qcap) 23 37
  have KS := find_search 95 #[.pointer (some ⟨w.heap.size, 0, none⟩), .pointer (some ⟨w.heap.size + 1, 0, none⟩)] (enters_of Try.func95 (by kernel_rfl) rfl) (.slice sa s.length scap) vl (.slice qa q.length qcap) s l q (l.map f) _ (hs.below k3) (hv.below k3) (hq.below k3) b1 b2 (by simp) (by
    intro _ _ i y W hi hi' hy hbW
    rw [List.getElem_map]
    refine (find_Meeting1 _ _ _ w.heap.size (w.heap.size + 1) s l[i] q W ((hs.below k3).below hbW) hy ((hq.below k3).below hbW) b1 ?_ ?_).mono ?_
    · rw [hbW.cell (p := ⟨w.heap.size, 0, none⟩) (by simp; omega)]; exact k1
    · rw [hbW.cell (p := ⟨w.heap.size + 1, 0, none⟩) (by simp)]; exact k2
    · rintro e w' ⟨z, h, rfl, hb⟩
      exact ⟨by have : z = f l[i] := by have hfl := hf l[i]; first | exact h.trans hfl.symm | exact MeetsA_eq h hfl
                rw [this], hb⟩)
  have KS' := hid KS
  have K3 := hid k3
  clear KS hs hv hq
  go_enter Try.func37, Try.ntmps37
  go_wp2_with fail
  refine KS'.out.mono ?_
  rintro e w1 ⟨u, rfl, hown, hb1⟩
  have HO := hid (owns_base hown (b' := w.heap.size) (by simp; omega))
  have HB := hid (K3.out.trans (hb1.mono (by simp; omega)))
  clear hown hb1
  go_wp2
  go_ret2
  exact ⟨_, rfl, HO.out, HB.out⟩
set_option maxHeartbeats 1000000 in
theorem find_Instances (v vl vq : Value) (s : Sg) (l : List (List Int)) (q : List Int) (f : List Int → Bool) (hf : ∀ t, f t = instB s q t) (w : World) (hs : SignAt w v s) (hv : Terms w vl l) (hq : Ints w vq q) (b1 : s.length ≤ 1000) (b2 : l.length ≤ 1000) :
    Calls Try.prog 23 #[v, vl, vq] w fun e w' => ∃ u, e = .returned (.tuple #[u, .int .i64 (searchB s l q (l.map f)).2]) ∧ w'.ownsRow w.heap.size 3 1 u (searchB s l q (l.map f)).1.length ((searchB s l q (l.map f)).1.map (Value.int .i64)) ∧ Below w.heap.size w w' := by
  have MeetsA_eq : ∀ {t : List Int} {x y : Bool}, (x = true ↔ MeetsQ s t q) → (y = true ↔ MeetsQ s t q) → x = y := fun {t x y} h k => Bool.eq_iff_iff.2 (h.trans k.symm)
  obtain ⟨sa, scap, rfl, _⟩ := hs.open
  obtain ⟨qa, qcap, rfl, _⟩ := hq.open
  obtain ⟨k1, k2, k3⟩ := boxes2 w (.slice sa s.length scap) (.slice qa q.length qcap) 23 37
  have KS := find_search 75 #[.pointer (some ⟨w.heap.size, 0, none⟩), .pointer (some ⟨w.heap.size + 1, 0, none⟩)] (enters_of Try.func75 (by kernel_rfl) rfl) (.slice sa s.length scap) vl (.slice qa q.length qcap) s l q (l.map f) _ (hs.below k3) (hv.below k3) (hq.below k3) b1 b2 (by simp) (by
    intro _ _ i y W hi hi' hy hbW
    rw [List.getElem_map]
    refine (find_Instances1 _ _ _ w.heap.size (w.heap.size + 1) s l[i] q W ((hs.below k3).below hbW) hy ((hq.below k3).below hbW) b1 ?_ ?_).mono ?_
    · rw [hbW.cell (p := ⟨w.heap.size, 0, none⟩) (by simp; omega)]; exact k1
    · rw [hbW.cell (p := ⟨w.heap.size + 1, 0, none⟩) (by simp)]; exact k2
    · rintro e w' ⟨z, h, rfl, hb⟩
      exact ⟨by have : z = f l[i] := by have hfl := hf l[i]; first | exact h.trans hfl.symm | exact MeetsA_eq h hfl
                rw [this], hb⟩)
  have KS' := hid KS
  have K3 := hid k3
  clear KS hs hv hq
  go_enter Try.func23, Try.ntmps23
  go_wp2_with fail
  refine KS'.out.mono ?_
  rintro e w1 ⟨u, rfl, hown, hb1⟩
  have HO := hid (owns_base hown (b' := w.heap.size) (by simp; omega))
  have HB := hid (K3.out.trans (hb1.mono (by simp; omega)))
  clear hown hb1
  go_wp2
  go_ret2
  exact ⟨_, rfl, HO.out, HB.out⟩
set_option maxHeartbeats 1000000 in
theorem find_Generals (v vl vq : Value) (s : Sg) (l : List (List Int)) (q : List Int) (f : List Int → Bool) (hf : ∀ t, f t = instB s t q) (w : World) (hs : SignAt w v s) (hv : Terms w vl l) (hq : Ints w vq q) (b1 : s.length ≤ 1000) (b2 : l.length ≤ 1000) :
    Calls Try.prog 42 #[v, vl, vq] w fun e w' => ∃ u, e = .returned (.tuple #[u, .int .i64 (searchB s l q (l.map f)).2]) ∧ w'.ownsRow w.heap.size 3 1 u (searchB s l q (l.map f)).1.length ((searchB s l q (l.map f)).1.map (Value.int .i64)) ∧ Below w.heap.size w w' := by
  have MeetsA_eq : ∀ {t : List Int} {x y : Bool}, (x = true ↔ MeetsQ s t q) → (y = true ↔ MeetsQ s t q) → x = y := fun {t x y} h k => Bool.eq_iff_iff.2 (h.trans k.symm)
  obtain ⟨sa, scap, rfl, _⟩ := hs.open
  obtain ⟨qa, qcap, rfl, _⟩ := hq.open
  obtain ⟨k1, k2, k3⟩ := boxes2 w (.slice sa s.length scap) (.slice qa q.length qcap) 23 37
  have KS := find_search 102 #[.pointer (some ⟨w.heap.size, 0, none⟩), .pointer (some ⟨w.heap.size + 1, 0, none⟩)] (enters_of Try.func102 (by kernel_rfl) rfl) (.slice sa s.length scap) vl (.slice qa q.length qcap) s l q (l.map f) _ (hs.below k3) (hv.below k3) (hq.below k3) b1 b2 (by simp) (by
    intro _ _ i y W hi hi' hy hbW
    rw [List.getElem_map]
    refine (find_Generals1 _ _ _ w.heap.size (w.heap.size + 1) s l[i] q W ((hs.below k3).below hbW) hy ((hq.below k3).below hbW) b1 ?_ ?_).mono ?_
    · rw [hbW.cell (p := ⟨w.heap.size, 0, none⟩) (by simp; omega)]; exact k1
    · rw [hbW.cell (p := ⟨w.heap.size + 1, 0, none⟩) (by simp)]; exact k2
    · rintro e w' ⟨z, h, rfl, hb⟩
      exact ⟨by have : z = f l[i] := by have hfl := hf l[i]; first | exact h.trans hfl.symm | exact MeetsA_eq h hfl
                rw [this], hb⟩)
  have KS' := hid KS
  have K3 := hid k3
  clear KS hs hv hq
  go_enter Try.func42, Try.ntmps42
  go_wp2_with fail
  refine KS'.out.mono ?_
  rintro e w1 ⟨u, rfl, hown, hb1⟩
  have HO := hid (owns_base hown (b' := w.heap.size) (by simp; omega))
  have HB := hid (K3.out.trans (hb1.mono (by simp; omega)))
  clear hown hb1
  go_wp2
  go_ret2
  exact ⟨_, rfl, HO.out, HB.out⟩
set_option maxHeartbeats 1000000 in
theorem find_Alike (v vl vq : Value) (s : Sg) (l : List (List Int)) (q : List Int) (f : List Int → Bool) (hf : ∀ t, f t = alikeB s t q) (w : World) (hs : SignAt w v s) (hv : Terms w vl l) (hq : Ints w vq q) (b1 : s.length ≤ 1000) (b2 : l.length ≤ 1000) :
    Calls Try.prog 36 #[v, vl, vq] w fun e w' => ∃ u, e = .returned (.tuple #[u, .int .i64 (searchB s l q (l.map f)).2]) ∧ w'.ownsRow w.heap.size 3 1 u (searchB s l q (l.map f)).1.length ((searchB s l q (l.map f)).1.map (Value.int .i64)) ∧ Below w.heap.size w w' := by
  have MeetsA_eq : ∀ {t : List Int} {x y : Bool}, (x = true ↔ MeetsQ s t q) → (y = true ↔ MeetsQ s t q) → x = y := fun {t x y} h k => Bool.eq_iff_iff.2 (h.trans k.symm)
  obtain ⟨sa, scap, rfl, _⟩ := hs.open
  obtain ⟨qa, qcap, rfl, _⟩ := hq.open
  obtain ⟨k1, k2, k3⟩ := boxes2 w (.slice sa s.length scap) (.slice qa q.length qcap) 23 37
  have KS := find_search 93 #[.pointer (some ⟨w.heap.size, 0, none⟩), .pointer (some ⟨w.heap.size + 1, 0, none⟩)] (enters_of Try.func93 (by kernel_rfl) rfl) (.slice sa s.length scap) vl (.slice qa q.length qcap) s l q (l.map f) _ (hs.below k3) (hv.below k3) (hq.below k3) b1 b2 (by simp) (by
    intro _ _ i y W hi hi' hy hbW
    rw [List.getElem_map]
    refine (find_Alike1 _ _ _ w.heap.size (w.heap.size + 1) s l[i] q W ((hs.below k3).below hbW) hy ((hq.below k3).below hbW) b1 ?_ ?_).mono ?_
    · rw [hbW.cell (p := ⟨w.heap.size, 0, none⟩) (by simp; omega)]; exact k1
    · rw [hbW.cell (p := ⟨w.heap.size + 1, 0, none⟩) (by simp)]; exact k2
    · rintro e w' ⟨z, h, rfl, hb⟩
      exact ⟨by have : z = f l[i] := by have hfl := hf l[i]; first | exact h.trans hfl.symm | exact MeetsA_eq h hfl
                rw [this], hb⟩)
  have KS' := hid KS
  have K3 := hid k3
  clear KS hs hv hq
  go_enter Try.func36, Try.ntmps36
  go_wp2_with fail
  refine KS'.out.mono ?_
  rintro e w1 ⟨u, rfl, hown, hb1⟩
  have HO := hid (owns_base hown (b' := w.heap.size) (by simp; omega))
  have HB := hid (K3.out.trans (hb1.mono (by simp; omega)))
  clear hown hb1
  go_wp2
  go_ret2
  exact ⟨_, rfl, HO.out, HB.out⟩
end Go.Proofs.Ytiacbdipagbblaa
namespace Go.Proofs.Ytiacbdipagbblaa
open Go Go.RowKit Go.Maps
def shapeL (t : List Int) : List Int := t.map fun n => max n (-1)
def shapK (t : List Int) (k : Nat) : List Int := shapeL (t.take k) ++ t.drop k
theorem shapK_all (t : List Int) {k : Nat} (h : t.length ≤ k) : shapK t k = shapeL t := by
  unfold shapK
  rw [List.take_of_length_le h, List.drop_eq_nil_of_le h, List.append_nil]
theorem shapK_step (t : List Int) {k : Nat} (h : k < t.length) : shapK t (k + 1) = (shapK t k).set k (if t[k] < -1 then -1 else t[k]) := by
  rw [show (if t[k] < -1 then -1 else t[k]) = max t[k] (-1) by split <;> omega]
  unfold shapK shapeL
  rw [List.take_succ_eq_append_getElem h, List.map_append, List.set_append_right _ _ (by simp; omega)]
  have e2 : k - ((t.take k).map fun n => max n (-1)).length = 0 := by simp; omega
  rw [e2, List.drop_eq_getElem_cons h, List.set_cons_zero, List.append_assoc]
  rfl
theorem shapK_get (t : List Int) {k : Nat} (h : k < t.length) : ((shapK t k).map (Value.int .i64))[k]? = some (.int .i64 t[k]) := by
  have : (shapK t k)[k]? = some t[k] := by
    unfold shapK shapeL
    rw [List.getElem?_append_right (by simp; omega)]
    simp
    have : k - min k t.length = 0 := by omega
    rw [this]; simp [h]
  rw [List.getElem?_map, this]; rfl
theorem shape_canon {a b : List Int} (h : canonL a = canonL b) : shapeL a = shapeL b := by
  have key : ∀ t, shapeL (canonL t) = shapeL t := by
    intro t
    unfold shapeL canonL
    rw [List.map_map]
    apply List.map_congr_left
    intro n _
    simp only [Function.comp]
    by_cases hn : n < 0
    · have := (numV_neg (vs := varsF [] t) (n := n)).2 hn
      omega
    · unfold numV; rw [if_neg hn]
  rw [← key a, ← key b, h]
set_option maxHeartbeats 1000000 in
set_option maxRecDepth 100000 in
theorem term_Shape (vs v : Value) (s : Sg) (t : List Int) (w : World) (hs : SignAt w vs s) (ht : Ints w v t) (hs1 : s.length ≤ 1000) (hv : termB s t = true) :
    Calls Try.prog 140 #[vs, v] w fun e w' => ∃ u, e = .returned (.tuple #[u, .int .i64 0]) ∧ w'.ownsRow w.heap.size 3 1 u (shapeL t).length ((shapeL t).map (Value.int .i64)) ∧ Below w.heap.size w w' := by
  have h0 := (termB_T hv).ne
  have hl := (termB_facts hv).2.2.2
  have HR := hid (termB_wf hv)
  have HV := hid (term_Valid' vs v s t w hs ht hs1)
  rw [hv] at HV
  obtain ⟨ta, tcap, rfl, ht1, ht2, -, TC⟩ := ht.open
  have TC' := hid TC
  have HT := hid ht
  clear TC ht hs hv
  go_enter Try.func140, Try.ntmps140
  go_wp2_with fail
  refine HV.out.mono ?_
  rintro e w0 ⟨rfl, hb0⟩
  go_wp2_with fail
  refine (sl_CloneT _ t _ (HT.out.below hb0) h0 (by omega)).mono ?_
  rintro e w1 ⟨u, rfl, hown, hb1⟩
  have hb01 := hb0.trans (hb1.mono hb0.size)
  have hown := owns_base hown hb0.size
  obtain ⟨g, cap, rfl, hg, hgc⟩ := owns_some hown h0
  have HOWN := hid hown
  have HB1 := hid hb01
  clear hown hb1 hb01 hb0
  go_wp2
  go_loopw [17] (fun kv wr => ∃ k : Nat, k ≤ t.length ∧ kv = .int .i64 k ∧ wr.ownsRow w.heap.size 3 1 (.slice (some ⟨g, 0, none⟩) t.length cap) t.length ((shapK t k).map (Value.int .i64)) ∧ Below w.heap.size w wr) (fun kv _ => t.length - (intOf kv).toNat)
  case atStart => exact ⟨0, by omega, rfl, by simpa [shapK, shapeL] using HOWN.out, HB1.out⟩
  case round =>
    clear HOWN HB1
    obtain ⟨k, hk, rfl, hown, hb⟩ := hrel
    by_cases hlt : k < t.length
    · obtain ⟨tb, to, rfl, hc0⟩ := TC'.out k hlt
      have hcell := (hb.cell (World.block_lt_of_cell? _ _ hc0)).trans hc0
      have hrk := HR.out t[k] (List.getElem_mem hlt)
      have hc1 := hown.cellAt k (by omega)
      rw [shapK_get t hlt] at hc1
      have hf1 := hown.frozenAt k
      have HST := hid (hown.stored k (.int .i64 (if t[k] < -1 then -1 else t[k])))
      have HB2 : Hid (Below w.heap.size w (wr.setCell ⟨g, k, none⟩ (.int .i64 (if t[k] < -1 then -1 else t[k])))) := hid (hb.setCell (p := ⟨g, k, none⟩) (by show w.heap.size ≤ g; omega) _)
      have HS := hid (shapK_step t hlt)
      clear hown hc0
      go_wp2
      go_roundw
      case rel => exact ⟨k + 1, by omega, by go_num, by rw [HS.out, List.map_set]; exact HST.out.1, HB2.out⟩
      case measure => simp [intOf]; omega
    · have HE := hid (shapK_all t (k := k) (by omega))
      rw [HE.out] at hown
      have HL : Hid ((shapeL t).length = t.length) := hid (by simp [shapeL])
      have HOW := hid hown
      clear hown
      go_wp2
      go_ret2
      exact ⟨_, rfl, by rw [HL.out]; exact HOW.out, hb⟩
theorem find_shape (vs v : Value) (s : Sg) (t : List Int) (w : World) (hs : SignAt w vs s) (ht : Ints w v t) (hs1 : s.length ≤ 1000) (hv : termB s t = true) :
    Calls Try.prog 105 #[vs, v] w fun e w' => ∃ u, e = .returned u ∧ w'.ownsRow w.heap.size 3 1 u (shapeL t).length ((shapeL t).map (Value.int .i64)) ∧ Below w.heap.size w w' := by
  have HC := hid (term_Shape vs v s t w hs ht hs1 hv)
  clear hs ht hv
  go_enter Try.func105, Try.ntmps105
  go_wp2_with fail
  refine HC.out.mono ?_
  rintro e w1 ⟨u, rfl, hown, hb⟩
  have HO := hid hown
  clear hown
  go_wp2
  go_ret
  exact ⟨_, rfl, HO.out, hb⟩
set_option maxHeartbeats 1000000 in
theorem find_Shaped1 (vs vt vq : Value) (ps pq : Nat) (s : Sg) (t q : List Int) (w : World) (hs : SignAt w vs s) (ht : Ints w vt t) (hq : Ints w vq q) (hs1 : s.length ≤ 1000) (h1 : termB s t = true) (h2 : termB s q = true) (c1 : w.cell? ⟨ps, 0, none⟩ = some vs) (c2 : w.cell? ⟨pq, 0, none⟩ = some vq) :
    Calls Try.prog 103 #[vt, .pointer (some ⟨ps, 0, none⟩), .pointer (some ⟨pq, 0, none⟩)] w fun e w' => e = .returned (.bool (decide (shapeL t = shapeL q))) ∧ Below w.heap.size w w' := by
  have hl1 := (termB_facts h1).2.2.2
  have hl2 := (termB_facts h2).2.2.2
  have e1 : (shapeL t).length = t.length := by simp [shapeL]
  have e2 : (shapeL q).length = q.length := by simp [shapeL]
  have HX := hid (fun (X : World) (hX : Below w.heap.size w X) => find_shape vs vt s t X (hs.below hX) (ht.below hX) hs1 h1)
  have HY := hid (fun (X : World) (hX : Below w.heap.size w X) => find_shape vs vq s q X (hs.below hX) (hq.below hX) hs1 h2)
  obtain ⟨sa, sc, rfl, -⟩ := hs.open
  obtain ⟨ta, tc, rfl, -⟩ := ht.open
  obtain ⟨qa, qc, rfl, -⟩ := hq.open
  have E1 := hid e1
  have E2 := hid e2
  clear hs ht hq h1 h2 e1 e2
  go_enter Try.func103, Try.ntmps103
  go_wp2_with fail
  go_region_held3 (fun w' => w'.cell? ⟨ps, 0, none⟩ = some (.slice sa s.length sc) ∧ w'.cell? ⟨pq, 0, none⟩ = some (.slice qa q.length qc)) (first | exact ⟨by assumption, by assumption⟩ | go_keep)
    (first
      | (go_at_call 105; with_reducible refine (HX.out _ (by first | exact (Below.refl _ _).drew)).mono ?_; rintro e w1 ⟨u1, rfl, o1, hb1'⟩; have hb1 := (Below.refl w.heap.size w).drew.trans (hb1'.mono (by simp)); have d1 := (hb1.cell (World.block_lt_of_cell? _ _ c1)).trans c1; have d2 := (hb1.cell (World.block_lt_of_cell? _ _ c2)).trans c2)
      | (go_at_call 105; with_reducible refine (HY.out _ (by first | exact hb1)).mono ?_; rintro e w2 ⟨u2, rfl, o2, hb2'⟩; have hb2 := hb1.trans (hb2'.mono hb1.size); have d1 := (hb2.cell (World.block_lt_of_cell? _ _ c1)).trans c1; have d2 := (hb2.cell (World.block_lt_of_cell? _ _ c2)).trans c2)
      | (go_at_call 104; refine (sl_EqualT _ _ _ _ _ ((Ints.of_owns o1 (by rw [E1.out]; omega)).below hb2') (Ints.of_owns o2 (by rw [E2.out]; omega))).mono ?_; rintro e w3 ⟨rfl, n3, rfl⟩; have d1 := (below_drewN hb2 n3).cell (World.block_lt_of_cell? _ _ c1) |>.trans c1; have d2 := (below_drewN hb2 n3).cell (World.block_lt_of_cell? _ _ c2) |>.trans c2))
  go_wp2
  go_ret
  exact ⟨rfl, below_drewN hb2 _⟩
set_option maxHeartbeats 1000000 in
theorem find_Shaped (v vl vq : Value) (s : Sg) (l : List (List Int)) (q : List Int) (w : World) (hs : SignAt w v s) (hv : Terms w vl l) (hq : Ints w vq q) (b1 : s.length ≤ 1000) (b2 : l.length ≤ 1000) :
    Calls Try.prog 45 #[v, vl, vq] w fun e w' => ∃ u, e = .returned (.tuple #[u, .int .i64 (searchB s l q (l.map fun t => decide (shapeL t = shapeL q))).2]) ∧ w'.ownsRow w.heap.size 3 1 u (searchB s l q (l.map fun t => decide (shapeL t = shapeL q))).1.length ((searchB s l q (l.map fun t => decide (shapeL t = shapeL q))).1.map (Value.int .i64)) ∧ Below w.heap.size w w' := by
  obtain ⟨sa, scap, rfl, _⟩ := hs.open
  obtain ⟨qa, qcap, rfl, _⟩ := hq.open
  obtain ⟨k1, k2, k3⟩ := boxes2 w (.slice sa s.length scap) (.slice qa q.length qcap) 23 37
  have KS := find_search 103 #[.pointer (some ⟨w.heap.size, 0, none⟩), .pointer (some ⟨w.heap.size + 1, 0, none⟩)] (enters_of Try.func103 (by kernel_rfl) rfl) (.slice sa s.length scap) vl (.slice qa q.length qcap) s l q (l.map fun t => decide (shapeL t = shapeL q)) _ (hs.below k3) (hv.below k3) (hq.below k3) b1 b2 (by simp) (by
    intro g1 g2 i y W hi hi' hy hbW
    rw [List.getElem_map]
    have hvi : termB s l[i] = true := by
      unfold shelfB at g1
      simp only [Bool.and_eq_true] at g1
      have := g1.2
      unfold allB at this
      rw [List.all_eq_true] at this
      exact this _ (List.getElem_mem hi)
    refine (find_Shaped1 _ _ _ w.heap.size (w.heap.size + 1) s l[i] q W ((hs.below k3).below hbW) hy ((hq.below k3).below hbW) b1 hvi g2 ?_ ?_)
    · rw [hbW.cell (p := ⟨w.heap.size, 0, none⟩) (by simp; omega)]; exact k1
    · rw [hbW.cell (p := ⟨w.heap.size + 1, 0, none⟩) (by simp)]; exact k2)
  have KS' := hid KS
  have K3 := hid k3
  clear KS hs hv hq
  go_enter Try.func45, Try.ntmps45
  go_wp2_with fail
  refine KS'.out.mono ?_
  rintro e w1 ⟨u, rfl, hown, hb1⟩
  have HO := hid (owns_base hown (b' := w.heap.size) (by simp; omega))
  have HB := hid (K3.out.trans (hb1.mono (by simp; omega)))
  clear hown hb1
  go_wp2
  go_ret2
  exact ⟨_, rfl, HO.out, HB.out⟩
end Go.Proofs.Ytiacbdipagbblaa
namespace Go.Proofs.Ytiacbdipagbblaa
def sumL (A : List (List Int)) : Nat := (A.map List.length).sum
theorem sumL_snoc (A : List (List Int)) (g : List Int) : sumL (A ++ [g]) = sumL A + g.length := by simp [sumL]
theorem sumL_set : ∀ (A : List (List Int)) (j : Nat) (h : j < A.length) (x : Int), sumL (A.set j (A[j] ++ [x])) = sumL A + 1
  | [], j, h, x => by simp at h
  | g :: A, 0, h, x => by simp [sumL]; omega
  | g :: A, j + 1, h, x => by
    have := sumL_set A j (by simpa using h) x
    simp only [sumL, List.set_cons_succ, List.map_cons, List.sum_cons, List.getElem_cons_succ] at this ⊢
    omega
theorem sum_grp (ks : List (List Int)) : ∀ n, n ≤ ks.length → sumL (grpL ks n) = n
  | 0, _ => by simp [grpL, hdsL, dedF, sumL]
  | n + 1, h => by
    have ih := sum_grp ks n (by omega)
    have hn : n < ks.length := by omega
    by_cases hx : ks[n] ∈ hdsL ks n
    · obtain ⟨j, hj⟩ : ∃ j, (hdsL ks n).idxOf ks[n] = j := ⟨_, rfl⟩
      have hjl : j < (grpL ks n).length := by rw [grpL_len, ← hj]; exact List.idxOf_lt_length_of_mem hx
      rw [grpL_old hn hx hj hjl, sumL_set, ih]
    · rw [grpL_new hn hx, sumL_snoc, ih]; rfl
theorem sumL_take {A : List (List Int)} {i : Nat} (h : i < A.length) : sumL (A.take (i + 1)) = sumL (A.take i) + A[i].length := by
  rw [List.take_succ_eq_append_getElem h, sumL_snoc]
theorem sumL_le {A : List (List Int)} (i : Nat) : sumL (A.take i) ≤ sumL A := by
  have : sumL A = sumL (A.take i) + sumL (A.drop i) := by
    conv => lhs; rw [← List.take_append_drop i A]
    unfold sumL
    rw [List.map_append, List.sum_append]
  omega
def inQ (A C : List (List Int)) (i k : Nat) : Bool := (A.getD i []).all fun y => decide (y ∈ C.getD k [])
theorem grp_within {l : List (List Int)} {i : Nat} (hi : i < (grpL (l.map canonL) l.length).length) : ((List.range (grpL (l.map shapeL) l.length).length).any fun k => inQ (grpL (l.map canonL) l.length) (grpL (l.map shapeL) l.length) i k) = true := by
  have hih : i < (hdsL (l.map canonL) l.length).length := by rw [grpL_len] at hi; exact hi
  obtain ⟨h, hh⟩ : ∃ h, (hdsL (l.map canonL) l.length)[i] = h := ⟨_, rfl⟩
  have hmem : h ∈ hdsL (l.map canonL) l.length := by rw [← hh]; exact List.getElem_mem _
  rw [hdsL_mem, List.take_of_length_le (by simp)] at hmem
  obtain ⟨t, ht, hth⟩ := List.mem_map.1 hmem
  have hsm : shapeL t ∈ hdsL (l.map shapeL) l.length := by
    rw [hdsL_mem, List.take_of_length_le (by simp)]; exact List.mem_map.2 ⟨t, ht, rfl⟩
  have hk := List.idxOf_lt_length_of_mem hsm
  obtain ⟨k, hke⟩ : ∃ k, (hdsL (l.map shapeL) l.length).idxOf (shapeL t) = k := ⟨_, rfl⟩
  rw [hke] at hk
  have hkg : (hdsL (l.map shapeL) l.length)[k] = shapeL t := by subst hke; simp
  rw [List.any_eq_true]
  refine ⟨k, by rw [List.mem_range, grpL_len]; exact hk, ?_⟩
  unfold inQ
  rw [List.all_eq_true]
  intro y hy
  rw [decide_eq_true_eq]
  have e1 : (grpL (l.map canonL) l.length).getD i [] = clsL (l.map canonL) l.length h := by
    rw [List.getD_eq_getElem?_getD, List.getElem?_eq_getElem hi]
    simp [grpL, hh]
  have e2 : (grpL (l.map shapeL) l.length).getD k [] = clsL (l.map shapeL) l.length (shapeL t) := by
    rw [List.getD_eq_getElem?_getD, List.getElem?_eq_getElem (by rw [grpL_len]; exact hk)]
    simp [grpL, hkg]
  rw [e1] at hy
  rw [e2]
  unfold clsL at hy ⊢
  obtain ⟨m, hm, rfl⟩ := List.mem_map.1 hy
  obtain ⟨hm1, hm2⟩ := List.mem_filter.1 hm
  refine List.mem_map.2 ⟨m, List.mem_filter.2 ⟨hm1, ?_⟩, rfl⟩
  rw [decide_eq_true_eq] at hm2 ⊢
  rw [List.getElem?_map] at hm2 ⊢
  cases hlm : l[m]? with
  | none => rw [hlm] at hm2; cases hm2
  | some u =>
    rw [hlm] at hm2
    simp only [Option.map_some, Option.some.injEq] at hm2 ⊢
    exact shape_canon (hm2.trans hth.symm)
theorem SS_nodup {l : List (List Int)} (h : SS l) : l.Nodup := by
  refine List.Pairwise.imp ?_ h
  intro a b hab e
  subst e
  exact cmpL_irr a hab
theorem sorted_grp (l : List (List Int)) : (sortedL (l.map canonL)).length = (grpL (l.map canonL) l.length).length := by
  rw [grpL_len]
  refine List.Perm.length_eq ((List.perm_ext_iff_of_nodup (SS_nodup (sortedL_ss _)) (hdsL_nodup _ _)).2 fun x => ?_)
  rw [sortedL_mem, hdsL_mem, List.take_of_length_le (by simp)]
end Go.Proofs.Ytiacbdipagbblaa
