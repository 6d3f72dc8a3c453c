/-
  WHAT IT HOLDS: contracts of Meeting, Instances, Generals, Alike of package find. Conditions: the arguments read as data; the shelf and the sign are small.
-/
import Derived.Test.YtiacbdipagbblaaZRFindOwn43
import Derived.Test.YtiacbdipagbblaaZRFindOwn15
namespace Go.Proofs.Ytiacbdipagbblaa
open Go Go.RowKit Go.Maps
theorem find_Meeting1 (vs vt vq : Value) (ps pq : Nat) (s : Sg) (t q : List Int) (w : World) (hs : SignAt w vs s) (ht : Ints w vt t) (hq : Ints w vq q) (hs1 : s.length ≤ 1000) (c1 : w.cell? ⟨ps, 0, none⟩ = some vs) (c2 : w.cell? ⟨pq, 0, none⟩ = some vq) :
    Calls Try.prog 95 #[vt, .pointer (some ⟨ps, 0, none⟩), .pointer (some ⟨pq, 0, none⟩)] w fun e w' => ∃ z, (MeetsA s t q z) ∧ e = .returned (.bool z) ∧ Below w.heap.size w w' := by
  obtain ⟨sa, sc, rfl, -⟩ := hs.open
  obtain ⟨ta, tc, rfl, -⟩ := ht.open
  obtain ⟨qa, qc, rfl, -⟩ := hq.open
  go_enter Try.func95, Try.ntmps95
  go_wp2_with fail
  refine (unify_Meets _ _ _ s t q _ hs ht hq hs1).mono ?_
  rintro e w1 ⟨z, hz, rfl, hb1⟩
  go_wp2
  go_ret
  exact ⟨_, hz, rfl, hb1⟩
theorem find_Instances1 (vs vt vq : Value) (ps pq : Nat) (s : Sg) (t q : List Int) (w : World) (hs : SignAt w vs s) (ht : Ints w vt t) (hq : Ints w vq q) (hs1 : s.length ≤ 1000) (c1 : w.cell? ⟨ps, 0, none⟩ = some vs) (c2 : w.cell? ⟨pq, 0, none⟩ = some vq) :
    Calls Try.prog 75 #[vt, .pointer (some ⟨ps, 0, none⟩), .pointer (some ⟨pq, 0, none⟩)] w fun e w' => ∃ z, (z = instB s q t) ∧ e = .returned (.bool z) ∧ Below w.heap.size w w' := by
  obtain ⟨sa, sc, rfl, -⟩ := hs.open
  obtain ⟨ta, tc, rfl, -⟩ := ht.open
  obtain ⟨qa, qc, rfl, -⟩ := hq.open
  go_enter Try.func75, Try.ntmps75
  go_wp2_with fail
  refine (unify_Instance _ _ _ s q t _ hs hq ht hs1).mono ?_
  rintro e w1 ⟨rfl, hb1⟩
  go_wp2
  go_ret
  exact ⟨_, rfl, rfl, hb1⟩
theorem find_Generals1 (vs vt vq : Value) (ps pq : Nat) (s : Sg) (t q : List Int) (w : World) (hs : SignAt w vs s) (ht : Ints w vt t) (hq : Ints w vq q) (hs1 : s.length ≤ 1000) (c1 : w.cell? ⟨ps, 0, none⟩ = some vs) (c2 : w.cell? ⟨pq, 0, none⟩ = some vq) :
    Calls Try.prog 102 #[vt, .pointer (some ⟨ps, 0, none⟩), .pointer (some ⟨pq, 0, none⟩)] w fun e w' => ∃ z, (z = instB s t q) ∧ e = .returned (.bool z) ∧ Below w.heap.size w w' := by
  obtain ⟨sa, sc, rfl, -⟩ := hs.open
  obtain ⟨ta, tc, rfl, -⟩ := ht.open
  obtain ⟨qa, qc, rfl, -⟩ := hq.open
  go_enter Try.func102, Try.ntmps102
  go_wp2_with fail
  refine (unify_Instance _ _ _ s t q _ hs ht hq hs1).mono ?_
  rintro e w1 ⟨rfl, hb1⟩
  go_wp2
  go_ret
  exact ⟨_, rfl, rfl, hb1⟩
theorem find_Alike1 (vs vt vq : Value) (ps pq : Nat) (s : Sg) (t q : List Int) (w : World) (hs : SignAt w vs s) (ht : Ints w vt t) (hq : Ints w vq q) (hs1 : s.length ≤ 1000) (c1 : w.cell? ⟨ps, 0, none⟩ = some vs) (c2 : w.cell? ⟨pq, 0, none⟩ = some vq) :
    Calls Try.prog 93 #[vt, .pointer (some ⟨ps, 0, none⟩), .pointer (some ⟨pq, 0, none⟩)] w fun e w' => ∃ z, (z = alikeB s t q) ∧ e = .returned (.bool z) ∧ Below w.heap.size w w' := by
  obtain ⟨sa, sc, rfl, -⟩ := hs.open
  obtain ⟨ta, tc, rfl, -⟩ := ht.open
  obtain ⟨qa, qc, rfl, -⟩ := hq.open
  go_enter Try.func93, Try.ntmps93
  go_wp2_with fail
  refine (term_Alike _ _ _ s t q _ hs ht hq hs1).mono ?_
  rintro e w1 ⟨rfl, hb1⟩
  go_wp2
  go_ret
  exact ⟨_, rfl, rfl, hb1⟩
set_option maxHeartbeats 1000000 in
theorem find_Meeting (v vl vq : Value) (s : Sg) (l : List (List Int)) (q : List Int) (f : List Int → Bool) (hf : ∀ t, MeetsA s t q (f t)) (w : World) (hs : SignAt w v s) (hv : Terms w vl l) (hq : Ints w vq q) (b1 : s.length ≤ 1000) (b2 : l.length ≤ 1000) :
    Calls Try.prog 37 #[v, vl, vq] w fun e w' => ∃ u, e = .returned (.tuple #[u, .int .i64 (searchB s l q (l.map f)).2]) ∧ w'.ownsRow w.heap.size 3 1 u (searchB s l q (l.map f)).1.length ((searchB s l q (l.map f)).1.map (Value.int .i64)) ∧ Below w.heap.size w w' := by
  have MeetsA_eq : ∀ {t : List Int} {x y : Bool}, (x = true ↔ MeetsQ s t q) → (y = true ↔ MeetsQ s t q) → x = y := fun {t x y} h k => Bool.eq_iff_iff.2 (h.trans k.symm)
  obtain ⟨sa, scap, rfl, _⟩ := hs.open
  obtain ⟨qa, qcap, rfl, _⟩ := hq.open
  obtain ⟨k1, k2, k3⟩ := boxes2 w (.slice sa s.length scap) (.slice qa q.length qcap) 23 37
  have KS := find_search 95 #[.pointer (some ⟨w.heap.size, 0, none⟩), .pointer (some ⟨w.heap.size + 1, 0, none⟩)] (enters_of Try.func95 (by kernel_rfl) rfl) (.slice sa s.length scap) vl (.slice qa q.length qcap) s l q (l.map f) _ (hs.below k3) (hv.below k3) (hq.below k3) b1 b2 (by simp) (by
    intro _ _ i y W hi hi' hy hbW
    rw [List.getElem_map]
    refine (find_Meeting1 _ _ _ w.heap.size (w.heap.size + 1) s l[i] q W ((hs.below k3).below hbW) hy ((hq.below k3).below hbW) b1 ?_ ?_).mono ?_
    · rw [hbW.cell (p := ⟨w.heap.size, 0, none⟩) (by simp; omega)]; exact k1
    · rw [hbW.cell (p := ⟨w.heap.size + 1, 0, none⟩) (by simp)]; exact k2
    · rintro e w' ⟨z, h, rfl, hb⟩
      exact ⟨by have : z = f l[i] := by have hfl := hf l[i]; first | exact h.trans hfl.symm | exact MeetsA_eq h hfl
                rw [this], hb⟩)
  have KS' := hid KS
  have K3 := hid k3
  clear KS hs hv hq
  go_enter Try.func37, Try.ntmps37
  go_wp2_with fail
  refine KS'.out.mono ?_
  rintro e w1 ⟨u, rfl, hown, hb1⟩
  have HO := hid (owns_base hown (b' := w.heap.size) (by simp; omega))
  have HB := hid (K3.out.trans (hb1.mono (by simp; omega)))
  clear hown hb1
  go_wp2
  go_ret2
  exact ⟨_, rfl, HO.out, HB.out⟩
set_option maxHeartbeats 1000000 in
theorem find_Instances (v vl vq : Value) (s : Sg) (l : List (List Int)) (q : List Int) (f : List Int → Bool) (hf : ∀ t, f t = instB s q t) (w : World) (hs : SignAt w v s) (hv : Terms w vl l) (hq : Ints w vq q) (b1 : s.length ≤ 1000) (b2 : l.length ≤ 1000) :
    Calls Try.prog 23 #[v, vl, vq] w fun e w' => ∃ u, e = .returned (.tuple #[u, .int .i64 (searchB s l q (l.map f)).2]) ∧ w'.ownsRow w.heap.size 3 1 u (searchB s l q (l.map f)).1.length ((searchB s l q (l.map f)).1.map (Value.int .i64)) ∧ Below w.heap.size w w' := by
  have MeetsA_eq : ∀ {t : List Int} {x y : Bool}, (x = true ↔ MeetsQ s t q) → (y = true ↔ MeetsQ s t q) → x = y := fun {t x y} h k => Bool.eq_iff_iff.2 (h.trans k.symm)
  obtain ⟨sa, scap, rfl, _⟩ := hs.open
  obtain ⟨qa, qcap, rfl, _⟩ := hq.open
  obtain ⟨k1, k2, k3⟩ := boxes2 w (.slice sa s.length scap) (.slice qa q.length qcap) 23 37
  have KS := find_search 75 #[.pointer (some ⟨w.heap.size, 0, none⟩), .pointer (some ⟨w.heap.size + 1, 0, none⟩)] (enters_of Try.func75 (by kernel_rfl) rfl) (.slice sa s.length scap) vl (.slice qa q.length qcap) s l q (l.map f) _ (hs.below k3) (hv.below k3) (hq.below k3) b1 b2 (by simp) (by
    intro _ _ i y W hi hi' hy hbW
    rw [List.getElem_map]
    refine (find_Instances1 _ _ _ w.heap.size (w.heap.size + 1) s l[i] q W ((hs.below k3).below hbW) hy ((hq.below k3).below hbW) b1 ?_ ?_).mono ?_
    · rw [hbW.cell (p := ⟨w.heap.size, 0, none⟩) (by simp; omega)]; exact k1
    · rw [hbW.cell (p := ⟨w.heap.size + 1, 0, none⟩) (by simp)]; exact k2
    · rintro e w' ⟨z, h, rfl, hb⟩
      exact ⟨by have : z = f l[i] := by have hfl := hf l[i]; first | exact h.trans hfl.symm | exact MeetsA_eq h hfl
                rw [this], hb⟩)
  have KS' := hid KS
  have K3 := hid k3
  clear KS hs hv hq
  go_enter Try.func23, Try.ntmps23
  go_wp2_with fail
  refine KS'.out.mono ?_
  rintro e w1 ⟨u, rfl, hown, hb1⟩
  have HO := hid (owns_base hown (b' := w.heap.size) (by simp; omega))
  have HB := hid (K3.out.trans (hb1.mono (by simp; omega)))
  clear hown hb1
  go_wp2
  go_ret2
  exact ⟨_, rfl, HO.out, HB.out⟩
set_option maxHeartbeats 1000000 in
theorem find_Generals (v vl vq : Value) (s : Sg) (l : List (List Int)) (q : List Int) (f : List Int → Bool) (hf : ∀ t, f t = instB s t q) (w : World) (hs : SignAt w v s) (hv : Terms w vl l) (hq : Ints w vq q) (b1 : s.length ≤ 1000) (b2 : l.length ≤ 1000) :
    Calls Try.prog 42 #[v, vl, vq] w fun e w' => ∃ u, e = .returned (.tuple #[u, .int .i64 (searchB s l q (l.map f)).2]) ∧ w'.ownsRow w.heap.size 3 1 u (searchB s l q (l.map f)).1.length ((searchB s l q (l.map f)).1.map (Value.int .i64)) ∧ Below w.heap.size w w' := by
  have MeetsA_eq : ∀ {t : List Int} {x y : Bool}, (x = true ↔ MeetsQ s t q) → (y = true ↔ MeetsQ s t q) → x = y := fun {t x y} h k => Bool.eq_iff_iff.2 (h.trans k.symm)
  obtain ⟨sa, scap, rfl, _⟩ := hs.open
  obtain ⟨qa, qcap, rfl, _⟩ := hq.open
  obtain ⟨k1, k2, k3⟩ := boxes2 w (.slice sa s.length scap) (.slice qa q.length qcap) 23 37
  have KS := find_search 102 #[.pointer (some ⟨w.heap.size, 0, none⟩), .pointer (some ⟨w.heap.size + 1, 0, none⟩)] (enters_of Try.func102 (by kernel_rfl) rfl) (.slice sa s.length scap) vl (.slice qa q.length qcap) s l q (l.map f) _ (hs.below k3) (hv.below k3) (hq.below k3) b1 b2 (by simp) (by
    intro _ _ i y W hi hi' hy hbW
    rw [List.getElem_map]
    refine (find_Generals1 _ _ _ w.heap.size (w.heap.size + 1) s l[i] q W ((hs.below k3).below hbW) hy ((hq.below k3).below hbW) b1 ?_ ?_).mono ?_
    · rw [hbW.cell (p := ⟨w.heap.size, 0, none⟩) (by simp; omega)]; exact k1
    · rw [hbW.cell (p := ⟨w.heap.size + 1, 0, none⟩) (by simp)]; exact k2
    · rintro e w' ⟨z, h, rfl, hb⟩
      exact ⟨by have : z = f l[i] := by have hfl := hf l[i]; first | exact h.trans hfl.symm | exact MeetsA_eq h hfl
                rw [this], hb⟩)
  have KS' := hid KS
  have K3 := hid k3
  clear KS hs hv hq
  go_enter Try.func42, Try.ntmps42
  go_wp2_with fail
  refine KS'.out.mono ?_
  rintro e w1 ⟨u, rfl, hown, hb1⟩
  have HO := hid (owns_base hown (b' := w.heap.size) (by simp; omega))
  have HB := hid (K3.out.trans (hb1.mono (by simp; omega)))
  clear hown hb1
  go_wp2
  go_ret2
  exact ⟨_, rfl, HO.out, HB.out⟩
set_option maxHeartbeats 1000000 in
theorem find_Alike (v vl vq : Value) (s : Sg) (l : List (List Int)) (q : List Int) (f : List Int → Bool) (hf : ∀ t, f t = alikeB s t q) (w : World) (hs : SignAt w v s) (hv : Terms w vl l) (hq : Ints w vq q) (b1 : s.length ≤ 1000) (b2 : l.length ≤ 1000) :
    Calls Try.prog 36 #[v, vl, vq] w fun e w' => ∃ u, e = .returned (.tuple #[u, .int .i64 (searchB s l q (l.map f)).2]) ∧ w'.ownsRow w.heap.size 3 1 u (searchB s l q (l.map f)).1.length ((searchB s l q (l.map f)).1.map (Value.int .i64)) ∧ Below w.heap.size w w' := by
  have MeetsA_eq : ∀ {t : List Int} {x y : Bool}, (x = true ↔ MeetsQ s t q) → (y = true ↔ MeetsQ s t q) → x = y := fun {t x y} h k => Bool.eq_iff_iff.2 (h.trans k.symm)
  obtain ⟨sa, scap, rfl, _⟩ := hs.open
  obtain ⟨qa, qcap, rfl, _⟩ := hq.open
  obtain ⟨k1, k2, k3⟩ := boxes2 w (.slice sa s.length scap) (.slice qa q.length qcap) 23 37
  have KS := find_search 93 #[.pointer (some ⟨w.heap.size, 0, none⟩), .pointer (some ⟨w.heap.size + 1, 0, none⟩)] (enters_of Try.func93 (by kernel_rfl) rfl) (.slice sa s.length scap) vl (.slice qa q.length qcap) s l q (l.map f) _ (hs.below k3) (hv.below k3) (hq.below k3) b1 b2 (by simp) (by
    intro _ _ i y W hi hi' hy hbW
    rw [List.getElem_map]
    refine (find_Alike1 _ _ _ w.heap.size (w.heap.size + 1) s l[i] q W ((hs.below k3).below hbW) hy ((hq.below k3).below hbW) b1 ?_ ?_).mono ?_
    · rw [hbW.cell (p := ⟨w.heap.size, 0, none⟩) (by simp; omega)]; exact k1
    · rw [hbW.cell (p := ⟨w.heap.size + 1, 0, none⟩) (by simp)]; exact k2
    · rintro e w' ⟨z, h, rfl, hb⟩
      exact ⟨by have : z = f l[i] := by have hfl := hf l[i]; first | exact h.trans hfl.symm | exact MeetsA_eq h hfl
                rw [this], hb⟩)
  have KS' := hid KS
  have K3 := hid k3
  clear KS hs hv hq
  go_enter Try.func36, Try.ntmps36
  go_wp2_with fail
  refine KS'.out.mono ?_
  rintro e w1 ⟨u, rfl, hown, hb1⟩
  have HO := hid (owns_base hown (b' := w.heap.size) (by simp; omega))
  have HB := hid (K3.out.trans (hb1.mono (by simp; omega)))
  clear hown hb1
  go_wp2
  go_ret2
  exact ⟨_, rfl, HO.out, HB.out⟩
end Go.Proofs.Ytiacbdipagbblaa
