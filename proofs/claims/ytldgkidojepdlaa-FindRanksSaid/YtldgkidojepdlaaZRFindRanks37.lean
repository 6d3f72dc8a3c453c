/-
  WHAT IT HOLDS: contracts of Meets, Join of package unify, and of the helper awake of the laws of layer 2. Conditions: the arguments read as data; small signs.
  WHAT IT HOLDS: contracts of Meeting, Instances, Generals, Alike of package find. Conditions: the arguments read as data; the shelf and the sign are small.
-/
import Derived.Test.YtldgkidojepdlaaZRFindRanks36
import Derived.Test.YtldgkidojepdlaaZRFindRanks17
import Derived.Test.YtldgkidojepdlaaZRFindRanks13
namespace Go.Proofs.Ytldgkidojepdlaa
open Go Go.RowKit Go.Maps
set_option maxHeartbeats 1000000 in
theorem unify_Meets (vs va vb : Value) (s : Sg) (a b : List Int) (w : World) (hs : SignAt w vs s) (ra : Ints w va a) (rb : Ints w vb b) (hs1 : s.length ≤ 1000) :
    Calls Try.prog 30 #[vs, va, vb] w fun e w' => ∃ z, MeetsA s a b z ∧ e = .returned (.bool z) ∧ Below w.heap.size w w' := by
  cases h1 : termB s a
  · have HR : Hid (MeetsA s a b false) := hid (by unfold MeetsA MeetsQ; rw [h1]; simp)
    go_enter Try.func30, Try.ntmps30
    go_wp2_with (first | (go_at_call 41; refine (term_Valid' _ _ _ _ _ hs ra hs1).mono ?_; rintro e w1 ⟨rfl, hb1⟩))
    go_ret
    exact ⟨_, HR.out, rfl, hb1⟩
  · cases h2 : termB s b
    · have HR : Hid (MeetsA s a b false) := hid (by unfold MeetsA MeetsQ; rw [h2]; simp)
      have H1 := hid h1
      have H2 := hid h2
      clear h1 h2
      go_enter Try.func30, Try.ntmps30
      go_wp2_with fail
      refine (term_Valid' _ _ _ _ _ hs ra hs1).mono ?_
      rintro e w1 ⟨rfl, hb1⟩
      rw [H1.out]
      go_wp2_with fail
      refine (term_Valid' _ _ _ _ _ (hs.below hb1) (rb.below hb1) hs1).mono ?_
      rintro e w2 ⟨rfl, hb2⟩
      rw [H2.out]
      have HB := hid (hb1.trans (hb2.mono hb1.size))
      clear hb1 hb2
      go_wp2
      go_ret
      exact ⟨_, HR.out, rfl, HB.out⟩
    · have HR : Hid (¬ NoU s a (aparL b) ↔ MeetsQ s a b) := hid (by unfold MeetsQ; rw [h1, h2]; simp)
      obtain ⟨f1, f2, f3, f4⟩ := termB_facts h1
      obtain ⟨_, _, _, f5⟩ := termB_facts h2
      have ta := termB_T h1
      have tb := termB_T h2
      have hb0 := tb.ne
      have H1 := hid h1
      have H2 := hid h2
      have TA := hid (ta.mono (m' := 24) (by omega))
      have TB := hid (aparL_T tb)
      have TS := hid (T_small12 tb f3)
      have LB := hid (aparL_len b)
      clear h1 h2 ta tb
      go_enter Try.func30, Try.ntmps30
      go_wp2_with fail
      refine (term_Valid' _ _ _ _ _ hs ra hs1).mono ?_
      rintro e w1 ⟨rfl, hb1⟩
      rw [H1.out]
      go_wp2_with fail
      refine (term_Valid' _ _ _ _ _ (hs.below hb1) (rb.below hb1) hs1).mono ?_
      rintro e w2 ⟨rfl, hb2'⟩
      rw [H2.out]
      have hb2 := hb1.trans (hb2'.mono hb1.size)
      go_wp2_with fail
      refine (unify_apart _ b _ (rb.below hb2) hb0 (by omega) TS.out).mono ?_
      rintro e w3 ⟨ub, rfl, hown, hb3'⟩
      have hb3 := hb2.trans (hb3'.mono hb2.size)
      have rb3 := Ints.of_owns hown (by rw [LB.out]; omega)
      clear hb2' hb3' hb2 hown
      go_wp2_with fail
      refine (unify_solved _ _ _ s a (aparL b) _ f1 TA.out TB.out f4 (by rw [LB.out]; exact f5) (hs.below hb3) (ra.below hb3) rb3).mono ?_
      rintro e w4 ⟨hb4', px, ⟨rfl, hno⟩ | ⟨rfl, bm, M, hS, hmgu⟩⟩
      · have HB := hid (hb3.trans (hb4'.mono hb3.size))
        have HX : Hid (MeetsA s a b false) := hid (by unfold MeetsA; rw [← HR.out]; simpa using hno)
        clear hb4' hb3 hno rb3 hb1
        go_wp2
        go_ret
        exact ⟨_, HX.out, rfl, HB.out⟩
      · have HB := hid (hb3.trans (hb4'.mono hb3.size))
        have HX : Hid (MeetsA s a b true) := hid (by unfold MeetsA; rw [← HR.out]; simpa using fun h => hmgu.not_no h)
        clear hb4' hb3 hmgu hS rb3 hb1
        go_wp2
        go_ret
        exact ⟨true, HX.out, rfl, HB.out⟩
theorem mgu_awake : Mgu sCN [-1] [1, -13] (updM noM (-1) [1, -13]) := by
  have h1 : IsT sCN 24 [-1] := .var _ (by omega) (by omega)
  have h2 : IsT sCN 24 [1, -13] := .app 1 [[-13]] (by simp [sCN]) (by simp [sCN, arOf]) (by simp; exact .var _ (by omega) (by omega))
  have h0 := UInv.start h1 h2 (by simp) (by simp)
  have h3 := (UInv.bind (L := []) (x := [-1]) (y := [1, -13]) (v := -1) (q := [1, -13]) h0 (Or.inl ⟨.refl h1 (by simp), .refl h2 (by simp)⟩) (by omega) rfl (fun H => by
    cases H with
    | here _ _ h _ => simp at h
    | step _ _ n p g1 g2 g3 _ => simp [noM] at g3)).1
  exact h3.done
theorem meet_awake {x : List Int × Int} (h : MeetR sCN [-1] [1, -1] x) : x = ([1, -1], 0) := by
  have hv : (termB sCN [-1] && termB sCN [1, -1]) = true := by decide +kernel
  unfold MeetR at h
  rw [hv] at h
  simp only [if_true] at h
  have ha : aparL [1, -1] = [1, -13] := by decide +kernel
  rw [ha] at h
  have h1 : IsT sCN 24 [-1] := .var _ (by omega) (by omega)
  refine h.unique h1 (Or.inr ⟨_, mgu_awake, Or.inl ⟨?_, ?_⟩⟩)
  · decide +kernel
  · have : canonL (fw (updM noM (-1) [1, -13]) [-1]) = [1, -1] := by decide +kernel
    rw [this]
theorem join_awake {x : List Int × Int} (h : JoinR sCN [0, -1, -1] [0, 1, -1, 1, -2] x) : x = ([0, -1, -2], 0) := by
  unfold JoinR at h
  rw [h]
  decide +kernel
theorem ints_lit (w : World) (l : List Int) (T : TypeId) {arr : Array Value} {n : Nat} (h : arr = (l.map (Value.int .i64)).toArray := by rfl) (hn : n = l.length := by rfl) (hl : l.length ≤ 1000 := by decide) : Ints (w.alloc (.cells arr T)) (.slice (some ⟨w.heap.size, 0, none⟩) n n) l := by
  subst h hn
  have r := World.ownsRow_lit (base := 0) (e := T) (size := 1) w (l.map (Value.int .i64)).toArray l.length (by omega) (by simp [maxLen]; omega) (by simp)
  simp only [List.toList_toArray] at r
  exact Ints.of_owns r (by omega)
theorem sign_lit (w : World) (T : TypeId) : SignAt (w.alloc (.cells #[.string ⟨#[67]⟩, .int .i64 2, .string ⟨#[78]⟩, .int .i64 1] T)) (.slice (some ⟨w.heap.size, 0, none⟩) 2 2) sCN := by
  have r1 := World.ownsRow_lit (base := 0) (e := T) (size := 2) w #[.string ⟨#[67]⟩, .int .i64 2, .string ⟨#[78]⟩, .int .i64 1] 2 (by omega) (by simp [maxLen]) rfl
  refine ⟨RowK.of_owns r1 (by simp [sCN]), ?_⟩
  intro x hx
  simp [sCN] at hx
  rcases hx with rfl | rfl <;> simp [ByteArray.size]
end Go.Proofs.Ytldgkidojepdlaa
namespace Go.Proofs.Ytldgkidojepdlaa
open Go Go.RowKit Go.Maps
theorem find_Instances1 (vs vt vq : Value) (ps pq : Nat) (s : Sg) (t q : List Int) (w : World) (hs : SignAt w vs s) (ht : Ints w vt t) (hq : Ints w vq q) (hs1 : s.length ≤ 1000) (c1 : w.cell? ⟨ps, 0, none⟩ = some vs) (c2 : w.cell? ⟨pq, 0, none⟩ = some vq) :
    Calls Try.prog 49 #[vt, .pointer (some ⟨ps, 0, none⟩), .pointer (some ⟨pq, 0, none⟩)] w fun e w' => ∃ z, (z = instB s q t) ∧ e = .returned (.bool z) ∧ Below w.heap.size w w' := by
  obtain ⟨sa, sc, rfl, -⟩ := hs.open
  obtain ⟨ta, tc, rfl, -⟩ := ht.open
  obtain ⟨qa, qc, rfl, -⟩ := hq.open
  go_enter Try.func49, Try.ntmps49
  go_wp2_with fail
  refine (unify_Instance _ _ _ s q t _ hs hq ht hs1).mono ?_
  rintro e w1 ⟨rfl, hb1⟩
  go_wp2
  go_ret
  exact ⟨_, rfl, rfl, hb1⟩
theorem find_Generals1 (vs vt vq : Value) (ps pq : Nat) (s : Sg) (t q : List Int) (w : World) (hs : SignAt w vs s) (ht : Ints w vt t) (hq : Ints w vq q) (hs1 : s.length ≤ 1000) (c1 : w.cell? ⟨ps, 0, none⟩ = some vs) (c2 : w.cell? ⟨pq, 0, none⟩ = some vq) :
    Calls Try.prog 39 #[vt, .pointer (some ⟨ps, 0, none⟩), .pointer (some ⟨pq, 0, none⟩)] w fun e w' => ∃ z, (z = instB s t q) ∧ e = .returned (.bool z) ∧ Below w.heap.size w w' := by
  obtain ⟨sa, sc, rfl, -⟩ := hs.open
  obtain ⟨ta, tc, rfl, -⟩ := ht.open
  obtain ⟨qa, qc, rfl, -⟩ := hq.open
  go_enter Try.func39, Try.ntmps39
  go_wp2_with fail
  refine (unify_Instance _ _ _ s t q _ hs ht hq hs1).mono ?_
  rintro e w1 ⟨rfl, hb1⟩
  go_wp2
  go_ret
  exact ⟨_, rfl, rfl, hb1⟩
theorem find_Alike1 (vs vt vq : Value) (ps pq : Nat) (s : Sg) (t q : List Int) (w : World) (hs : SignAt w vs s) (ht : Ints w vt t) (hq : Ints w vq q) (hs1 : s.length ≤ 1000) (c1 : w.cell? ⟨ps, 0, none⟩ = some vs) (c2 : w.cell? ⟨pq, 0, none⟩ = some vq) :
    Calls Try.prog 34 #[vt, .pointer (some ⟨ps, 0, none⟩), .pointer (some ⟨pq, 0, none⟩)] w fun e w' => ∃ z, (z = alikeB s t q) ∧ e = .returned (.bool z) ∧ Below w.heap.size w w' := by
  obtain ⟨sa, sc, rfl, -⟩ := hs.open
  obtain ⟨ta, tc, rfl, -⟩ := ht.open
  obtain ⟨qa, qc, rfl, -⟩ := hq.open
  go_enter Try.func34, Try.ntmps34
  go_wp2_with fail
  refine (term_Alike _ _ _ s t q _ hs ht hq hs1).mono ?_
  rintro e w1 ⟨rfl, hb1⟩
  go_wp2
  go_ret
  exact ⟨_, rfl, rfl, hb1⟩
set_option maxHeartbeats 1000000 in
theorem find_Instances (v vl vq : Value) (s : Sg) (l : List (List Int)) (q : List Int) (f : List Int → Bool) (hf : ∀ t, f t = instB s q t) (w : World) (hs : SignAt w v s) (hv : Terms w vl l) (hq : Ints w vq q) (b1 : s.length ≤ 1000) (b2 : l.length ≤ 1000) :
    Calls Try.prog 19 #[v, vl, vq] w fun e w' => ∃ u, e = .returned (.tuple #[u, .int .i64 (searchB s l q (l.map f)).2]) ∧ w'.ownsRow w.heap.size 3 1 u (searchB s l q (l.map f)).1.length ((searchB s l q (l.map f)).1.map (Value.int .i64)) ∧ Below w.heap.size w w' := by
  have MeetsA_eq : ∀ {t : List Int} {x y : Bool}, (x = true ↔ MeetsQ s t q) → (y = true ↔ MeetsQ s t q) → x = y := fun {t x y} h k => Bool.eq_iff_iff.2 (h.trans k.symm)
  obtain ⟨sa, scap, rfl, _⟩ := hs.open
  obtain ⟨qa, qcap, rfl, _⟩ := hq.open
  obtain ⟨k1, k2, k3⟩ := boxes2 w (.slice sa s.length scap) (.slice qa q.length qcap) 23 37
  have KS := find_search 49 #[.pointer (some ⟨w.heap.size, 0, none⟩), .pointer (some ⟨w.heap.size + 1, 0, none⟩)] (enters_of Try.func49 (by kernel_rfl) rfl) (.slice sa s.length scap) vl (.slice qa q.length qcap) s l q (l.map f) _ (hs.below k3) (hv.below k3) (hq.below k3) b1 b2 (by simp) (by
    intro _ _ i y W hi hi' hy hbW
    rw [List.getElem_map]
    refine (find_Instances1 _ _ _ w.heap.size (w.heap.size + 1) s l[i] q W ((hs.below k3).below hbW) hy ((hq.below k3).below hbW) b1 ?_ ?_).mono ?_
    · rw [hbW.cell (p := ⟨w.heap.size, 0, none⟩) (by simp; omega)]; exact k1
    · rw [hbW.cell (p := ⟨w.heap.size + 1, 0, none⟩) (by simp)]; exact k2
    · rintro e w' ⟨z, h, rfl, hb⟩
      exact ⟨by have : z = f l[i] := by have hfl := hf l[i]; first | exact h.trans hfl.symm | exact MeetsA_eq h hfl
                rw [this], hb⟩)
  have KS' := hid KS
  have K3 := hid k3
  clear KS hs hv hq
  go_enter Try.func19, Try.ntmps19
  go_wp2_with fail
  refine KS'.out.mono ?_
  rintro e w1 ⟨u, rfl, hown, hb1⟩
  have HO := hid (owns_base hown (b' := w.heap.size) (by simp; omega))
  have HB := hid (K3.out.trans (hb1.mono (by simp; omega)))
  clear hown hb1
  go_wp2
  go_ret2
  exact ⟨_, rfl, HO.out, HB.out⟩
set_option maxHeartbeats 1000000 in
theorem find_Generals (v vl vq : Value) (s : Sg) (l : List (List Int)) (q : List Int) (f : List Int → Bool) (hf : ∀ t, f t = instB s t q) (w : World) (hs : SignAt w v s) (hv : Terms w vl l) (hq : Ints w vq q) (b1 : s.length ≤ 1000) (b2 : l.length ≤ 1000) :
    Calls Try.prog 13 #[v, vl, vq] w fun e w' => ∃ u, e = .returned (.tuple #[u, .int .i64 (searchB s l q (l.map f)).2]) ∧ w'.ownsRow w.heap.size 3 1 u (searchB s l q (l.map f)).1.length ((searchB s l q (l.map f)).1.map (Value.int .i64)) ∧ Below w.heap.size w w' := by
  have MeetsA_eq : ∀ {t : List Int} {x y : Bool}, (x = true ↔ MeetsQ s t q) → (y = true ↔ MeetsQ s t q) → x = y := fun {t x y} h k => Bool.eq_iff_iff.2 (h.trans k.symm)
  obtain ⟨sa, scap, rfl, _⟩ := hs.open
  obtain ⟨qa, qcap, rfl, _⟩ := hq.open
  obtain ⟨k1, k2, k3⟩ := boxes2 w (.slice sa s.length scap) (.slice qa q.length qcap) 23 37
  have KS := find_search 39 #[.pointer (some ⟨w.heap.size, 0, none⟩), .pointer (some ⟨w.heap.size + 1, 0, none⟩)] (enters_of Try.func39 (by kernel_rfl) rfl) (.slice sa s.length scap) vl (.slice qa q.length qcap) s l q (l.map f) _ (hs.below k3) (hv.below k3) (hq.below k3) b1 b2 (by simp) (by
    intro _ _ i y W hi hi' hy hbW
    rw [List.getElem_map]
    refine (find_Generals1 _ _ _ w.heap.size (w.heap.size + 1) s l[i] q W ((hs.below k3).below hbW) hy ((hq.below k3).below hbW) b1 ?_ ?_).mono ?_
    · rw [hbW.cell (p := ⟨w.heap.size, 0, none⟩) (by simp; omega)]; exact k1
    · rw [hbW.cell (p := ⟨w.heap.size + 1, 0, none⟩) (by simp)]; exact k2
    · rintro e w' ⟨z, h, rfl, hb⟩
      exact ⟨by have : z = f l[i] := by have hfl := hf l[i]; first | exact h.trans hfl.symm | exact MeetsA_eq h hfl
                rw [this], hb⟩)
  have KS' := hid KS
  have K3 := hid k3
  clear KS hs hv hq
  go_enter Try.func13, Try.ntmps13
  go_wp2_with fail
  refine KS'.out.mono ?_
  rintro e w1 ⟨u, rfl, hown, hb1⟩
  have HO := hid (owns_base hown (b' := w.heap.size) (by simp; omega))
  have HB := hid (K3.out.trans (hb1.mono (by simp; omega)))
  clear hown hb1
  go_wp2
  go_ret2
  exact ⟨_, rfl, HO.out, HB.out⟩
set_option maxHeartbeats 1000000 in
theorem find_Alike (v vl vq : Value) (s : Sg) (l : List (List Int)) (q : List Int) (f : List Int → Bool) (hf : ∀ t, f t = alikeB s t q) (w : World) (hs : SignAt w v s) (hv : Terms w vl l) (hq : Ints w vq q) (b1 : s.length ≤ 1000) (b2 : l.length ≤ 1000) :
    Calls Try.prog 10 #[v, vl, vq] w fun e w' => ∃ u, e = .returned (.tuple #[u, .int .i64 (searchB s l q (l.map f)).2]) ∧ w'.ownsRow w.heap.size 3 1 u (searchB s l q (l.map f)).1.length ((searchB s l q (l.map f)).1.map (Value.int .i64)) ∧ Below w.heap.size w w' := by
  have MeetsA_eq : ∀ {t : List Int} {x y : Bool}, (x = true ↔ MeetsQ s t q) → (y = true ↔ MeetsQ s t q) → x = y := fun {t x y} h k => Bool.eq_iff_iff.2 (h.trans k.symm)
  obtain ⟨sa, scap, rfl, _⟩ := hs.open
  obtain ⟨qa, qcap, rfl, _⟩ := hq.open
  obtain ⟨k1, k2, k3⟩ := boxes2 w (.slice sa s.length scap) (.slice qa q.length qcap) 23 37
  have KS := find_search 34 #[.pointer (some ⟨w.heap.size, 0, none⟩), .pointer (some ⟨w.heap.size + 1, 0, none⟩)] (enters_of Try.func34 (by kernel_rfl) rfl) (.slice sa s.length scap) vl (.slice qa q.length qcap) s l q (l.map f) _ (hs.below k3) (hv.below k3) (hq.below k3) b1 b2 (by simp) (by
    intro _ _ i y W hi hi' hy hbW
    rw [List.getElem_map]
    refine (find_Alike1 _ _ _ w.heap.size (w.heap.size + 1) s l[i] q W ((hs.below k3).below hbW) hy ((hq.below k3).below hbW) b1 ?_ ?_).mono ?_
    · rw [hbW.cell (p := ⟨w.heap.size, 0, none⟩) (by simp; omega)]; exact k1
    · rw [hbW.cell (p := ⟨w.heap.size + 1, 0, none⟩) (by simp)]; exact k2
    · rintro e w' ⟨z, h, rfl, hb⟩
      exact ⟨by have : z = f l[i] := by have hfl := hf l[i]; first | exact h.trans hfl.symm | exact MeetsA_eq h hfl
                rw [this], hb⟩)
  have KS' := hid KS
  have K3 := hid k3
  clear KS hs hv hq
  go_enter Try.func10, Try.ntmps10
  go_wp2_with fail
  refine KS'.out.mono ?_
  rintro e w1 ⟨u, rfl, hown, hb1⟩
  have HO := hid (owns_base hown (b' := w.heap.size) (by simp; omega))
  have HB := hid (K3.out.trans (hb1.mono (by simp; omega)))
  clear hown hb1
  go_wp2
  go_ret2
  exact ⟨_, rfl, HO.out, HB.out⟩
end Go.Proofs.Ytldgkidojepdlaa
