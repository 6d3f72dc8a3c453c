/-
  WHAT IT HOLDS: contracts of Meets, Join of package unify, and of the helper awake of the laws of layer 2. Conditions: the arguments read as data; small signs.
  WHAT IT HOLDS: contracts of Unifiable, Unified of package unify. Conditions: the arguments read as data; small signs.
  WHAT IT HOLDS: the contract of the helper awake5 of the laws through the layers. No condition.
  WHAT IT HOLDS: contracts of Meeting, Instances, Generals, Alike of package find. Conditions: the arguments read as data; the shelf and the sign are small.
  WHAT IT HOLDS: contracts of Shape of package term, and of shape and Shaped of package find. Conditions: the arguments read as data; the shelf and the sign are small.
-/
import Derived.Test.YtldgkidojepdlaaGreatZRTopCarriedShelves22
import Derived.Test.YtldgkidojepdlaaGreatZRTopCarriedShelves12
import Derived.Test.YtldgkidojepdlaaGreatZRTopCarriedShelves9
namespace Go.Proofs.YtldgkidojepdlaaGreat
open Go Go.RowKit Go.Maps
set_option maxHeartbeats 1000000 in
theorem unify_Meets (vs va vb : Value) (s : Sg) (a b : List Int) (w : World) (hs : SignAt w vs s) (ra : Ints w va a) (rb : Ints w vb b) (hs1 : s.length ≤ 1000) :
    Calls Tryz.prog 16 #[vs, va, vb] w fun e w' => ∃ z, MeetsA s a b z ∧ e = .returned (.bool z) ∧ Below w.heap.size w w' := by
  cases h1 : termB s a
  · have HR : Hid (MeetsA s a b false) := hid (by unfold MeetsA MeetsQ; rw [h1]; simp)
    go_enter Tryz.func16, Tryz.ntmps16
    go_wp2_with (first | (go_at_call 18; refine (term_Valid' _ _ _ _ _ hs ra hs1).mono ?_; rintro e w1 ⟨rfl, hb1⟩))
    go_ret
    exact ⟨_, HR.out, rfl, hb1⟩
  · cases h2 : termB s b
    · have HR : Hid (MeetsA s a b false) := hid (by unfold MeetsA MeetsQ; rw [h2]; simp)
      have H1 := hid h1
      have H2 := hid h2
      clear h1 h2
      go_enter Tryz.func16, Tryz.ntmps16
      go_wp2_with fail
      refine (term_Valid' _ _ _ _ _ hs ra hs1).mono ?_
      rintro e w1 ⟨rfl, hb1⟩
      rw [H1.out]
      go_wp2_with fail
      refine (term_Valid' _ _ _ _ _ (hs.below hb1) (rb.below hb1) hs1).mono ?_
      rintro e w2 ⟨rfl, hb2⟩
      rw [H2.out]
      have HB := hid (hb1.trans (hb2.mono hb1.size))
      clear hb1 hb2
      go_wp2
      go_ret
      exact ⟨_, HR.out, rfl, HB.out⟩
    · have HR : Hid (¬ NoU s a (aparL b) ↔ MeetsQ s a b) := hid (by unfold MeetsQ; rw [h1, h2]; simp)
      obtain ⟨f1, f2, f3, f4⟩ := termB_facts h1
      obtain ⟨_, _, _, f5⟩ := termB_facts h2
      have ta := termB_T h1
      have tb := termB_T h2
      have hb0 := tb.ne
      have H1 := hid h1
      have H2 := hid h2
      have TA := hid (ta.mono (m' := 24) (by omega))
      have TB := hid (aparL_T tb)
      have TS := hid (T_small12 tb f3)
      have LB := hid (aparL_len b)
      clear h1 h2 ta tb
      go_enter Tryz.func16, Tryz.ntmps16
      go_wp2_with fail
      refine (term_Valid' _ _ _ _ _ hs ra hs1).mono ?_
      rintro e w1 ⟨rfl, hb1⟩
      rw [H1.out]
      go_wp2_with fail
      refine (term_Valid' _ _ _ _ _ (hs.below hb1) (rb.below hb1) hs1).mono ?_
      rintro e w2 ⟨rfl, hb2'⟩
      rw [H2.out]
      have hb2 := hb1.trans (hb2'.mono hb1.size)
      go_wp2_with fail
      refine (unify_apart _ b _ (rb.below hb2) hb0 (by omega) TS.out).mono ?_
      rintro e w3 ⟨ub, rfl, hown, hb3'⟩
      have hb3 := hb2.trans (hb3'.mono hb2.size)
      have rb3 := Ints.of_owns hown (by rw [LB.out]; omega)
      clear hb2' hb3' hb2 hown
      go_wp2_with fail
      refine (unify_solved _ _ _ s a (aparL b) _ f1 TA.out TB.out f4 (by rw [LB.out]; exact f5) (hs.below hb3) (ra.below hb3) rb3).mono ?_
      rintro e w4 ⟨hb4', px, ⟨rfl, hno⟩ | ⟨rfl, bm, M, hS, hmgu⟩⟩
      · have HB := hid (hb3.trans (hb4'.mono hb3.size))
        have HX : Hid (MeetsA s a b false) := hid (by unfold MeetsA; rw [← HR.out]; simpa using hno)
        clear hb4' hb3 hno rb3 hb1
        go_wp2
        go_ret
        exact ⟨_, HX.out, rfl, HB.out⟩
      · have HB := hid (hb3.trans (hb4'.mono hb3.size))
        have HX : Hid (MeetsA s a b true) := hid (by unfold MeetsA; rw [← HR.out]; simpa using fun h => hmgu.not_no h)
        clear hb4' hb3 hmgu hS rb3 hb1
        go_wp2
        go_ret
        exact ⟨true, HX.out, rfl, HB.out⟩
theorem mgu_awake : Mgu sCN [-1] [1, -13] (updM noM (-1) [1, -13]) := by
  have h1 : IsT sCN 24 [-1] := .var _ (by omega) (by omega)
  have h2 : IsT sCN 24 [1, -13] := .app 1 [[-13]] (by simp [sCN]) (by simp [sCN, arOf]) (by simp; exact .var _ (by omega) (by omega))
  have h0 := UInv.start h1 h2 (by simp) (by simp)
  have h3 := (UInv.bind (L := []) (x := [-1]) (y := [1, -13]) (v := -1) (q := [1, -13]) h0 (Or.inl ⟨.refl h1 (by simp), .refl h2 (by simp)⟩) (by omega) rfl (fun H => by
    cases H with
    | here _ _ h _ => simp at h
    | step _ _ n p g1 g2 g3 _ => simp [noM] at g3)).1
  exact h3.done
theorem meet_awake {x : List Int × Int} (h : MeetR sCN [-1] [1, -1] x) : x = ([1, -1], 0) := by
  have hv : (termB sCN [-1] && termB sCN [1, -1]) = true := by decide +kernel
  unfold MeetR at h
  rw [hv] at h
  simp only [if_true] at h
  have ha : aparL [1, -1] = [1, -13] := by decide +kernel
  rw [ha] at h
  have h1 : IsT sCN 24 [-1] := .var _ (by omega) (by omega)
  refine h.unique h1 (Or.inr ⟨_, mgu_awake, Or.inl ⟨?_, ?_⟩⟩)
  · decide +kernel
  · have : canonL (fw (updM noM (-1) [1, -13]) [-1]) = [1, -1] := by decide +kernel
    rw [this]
theorem join_awake {x : List Int × Int} (h : JoinR sCN [0, -1, -1] [0, 1, -1, 1, -2] x) : x = ([0, -1, -2], 0) := by
  unfold JoinR at h
  rw [h]
  decide +kernel
theorem ints_lit (w : World) (l : List Int) (T : TypeId) {arr : Array Value} {n : Nat} (h : arr = (l.map (Value.int .i64)).toArray := by rfl) (hn : n = l.length := by rfl) (hl : l.length ≤ 1000 := by decide) : Ints (w.alloc (.cells arr T)) (.slice (some ⟨w.heap.size, 0, none⟩) n n) l := by
  subst h hn
  have r := World.ownsRow_lit (base := 0) (e := T) (size := 1) w (l.map (Value.int .i64)).toArray l.length (by omega) (by simp [maxLen]; omega) (by simp)
  simp only [List.toList_toArray] at r
  exact Ints.of_owns r (by omega)
theorem sign_lit (w : World) (T : TypeId) : SignAt (w.alloc (.cells #[.string ⟨#[67]⟩, .int .i64 2, .string ⟨#[78]⟩, .int .i64 1] T)) (.slice (some ⟨w.heap.size, 0, none⟩) 2 2) sCN := by
  have r1 := World.ownsRow_lit (base := 0) (e := T) (size := 2) w #[.string ⟨#[67]⟩, .int .i64 2, .string ⟨#[78]⟩, .int .i64 1] 2 (by omega) (by simp [maxLen]) rfl
  refine ⟨RowK.of_owns r1 (by simp [sCN]), ?_⟩
  intro x hx
  simp [sCN] at hx
  rcases hx with rfl | rfl <;> simp [ByteArray.size]
end Go.Proofs.YtldgkidojepdlaaGreat
namespace Go.Proofs.YtldgkidojepdlaaGreat
open Go Go.RowKit Go.Maps
/-- whether two terms have a unifier, as an answer. -/
def UniQ (s : Sg) (a b : List Int) : Prop := termB s a = true ∧ termB s b = true ∧ ¬ NoU s a b
def UniA (s : Sg) (a b : List Int) (z : Bool) : Prop := z = true ↔ UniQ s a b
theorem UniA.unique {s : Sg} {a b : List Int} {z y : Bool} (h : UniA s a b z) (k : UniA s a b y) : z = y := by
  unfold UniA at h k; cases z <;> cases y <;> simp_all
set_option maxHeartbeats 1000000 in
theorem unify_Unifiable (vs va vb : Value) (s : Sg) (a b : List Int) (w : World) (hs : SignAt w vs s) (ra : Ints w va a) (rb : Ints w vb b) (hs1 : s.length ≤ 1000) :
    Calls Tryz.prog 17 #[vs, va, vb] w fun e w' => ∃ z, UniA s a b z ∧ e = .returned (.bool z) ∧ Below w.heap.size w w' := by
  cases h1 : termB s a
  · have HR : Hid (UniA s a b false) := hid (by unfold UniA UniQ; rw [h1]; simp)
    go_enter Tryz.func17, Tryz.ntmps17
    go_wp2_with (first | (go_at_call 18; refine (term_Valid' _ _ _ _ _ hs ra hs1).mono ?_; rintro e w1 ⟨rfl, hb1⟩))
    go_ret
    exact ⟨_, HR.out, rfl, hb1⟩
  · cases h2 : termB s b
    · have HR : Hid (UniA s a b false) := hid (by unfold UniA UniQ; rw [h2]; simp)
      have H1 := hid h1
      have H2 := hid h2
      clear h1 h2
      go_enter Tryz.func17, Tryz.ntmps17
      go_wp2_with fail
      refine (term_Valid' _ _ _ _ _ hs ra hs1).mono ?_
      rintro e w1 ⟨rfl, hb1⟩
      rw [H1.out]
      go_wp2_with fail
      refine (term_Valid' _ _ _ _ _ (hs.below hb1) (rb.below hb1) hs1).mono ?_
      rintro e w2 ⟨rfl, hb2⟩
      rw [H2.out]
      have HB := hid (hb1.trans (hb2.mono hb1.size))
      clear hb1 hb2
      go_wp2
      go_ret
      exact ⟨_, HR.out, rfl, HB.out⟩
    · have HR : Hid (¬ NoU s a b ↔ UniQ s a b) := hid (by unfold UniQ; rw [h1, h2]; simp)
      obtain ⟨f1, f2, f3, f4⟩ := termB_facts h1
      obtain ⟨_, _, _, f5⟩ := termB_facts h2
      have ta := termB_T h1
      have tb := termB_T h2
      have hb0 := tb.ne
      have H1 := hid h1
      have H2 := hid h2
      have TA := hid (ta.mono (m' := 24) (by omega))
      have TB := hid (tb.mono (m' := 24) (by omega))
      clear h1 h2 ta tb
      go_enter Tryz.func17, Tryz.ntmps17
      go_wp2_with fail
      refine (term_Valid' _ _ _ _ _ hs ra hs1).mono ?_
      rintro e w1 ⟨rfl, hb1⟩
      rw [H1.out]
      go_wp2_with fail
      refine (term_Valid' _ _ _ _ _ (hs.below hb1) (rb.below hb1) hs1).mono ?_
      rintro e w2 ⟨rfl, hb2'⟩
      rw [H2.out]
      have hb2 := hb1.trans (hb2'.mono hb1.size)
      go_wp2_with fail
      clear hb2'
      refine (unify_solved _ _ _ s a b _ f1 TA.out TB.out f4 f5 (hs.below hb2) (ra.below hb2) (rb.below hb2)).mono ?_
      rintro e w4 ⟨hb4', px, ⟨rfl, hno⟩ | ⟨rfl, bm, M, hS, hmgu⟩⟩
      · have HB := hid (hb2.trans (hb4'.mono hb2.size))
        have HX : Hid (UniA s a b false) := hid (by unfold UniA; rw [← HR.out]; simpa using hno)
        clear hb4' hno hb1 hb2
        go_wp2
        go_ret
        exact ⟨_, HX.out, rfl, HB.out⟩
      · have HB := hid (hb2.trans (hb4'.mono hb2.size))
        have HX : Hid (UniA s a b true) := hid (by unfold UniA; rw [← HR.out]; simpa using fun h => hmgu.not_no h)
        clear hb4' hmgu hS hb1 hb2
        go_wp2
        go_ret
        exact ⟨true, HX.out, rfl, HB.out⟩
end Go.Proofs.YtldgkidojepdlaaGreat
namespace Go.Proofs.YtldgkidojepdlaaGreat
open Go Go.RowKit Go.Maps
theorem meetsA_awake {z : Bool} (h : MeetsA sCN [-1] [1, -1] z) : z = true := by
  refine h.2 ⟨by decide +kernel, by decide +kernel, ?_⟩
  have ha : aparL [1, -1] = [1, -13] := by decide +kernel
  rw [ha]
  exact fun hn => mgu_awake.not_no hn
theorem uniA_awake {z : Bool} (h : UniA sCN [-1] [1, -1] z) : z = false := by
  cases z
  · rfl
  · obtain ⟨-, -, hn⟩ := h.1 rfl
    refine absurd (fun σ _ he => ?_) hn
    have h1 := congrArg List.length he
    rw [show subL σ [-1] = σ (-1) from by rw [subL_one]; rfl, show subL σ [1, -1] = 1 :: σ (-1) from by rw [subL_cons_app _ (by omega), subL_one]; rfl] at h1
    simp at h1
set_option maxHeartbeats 1000000 in
theorem top_awake5 (w : World) :
    Calls Tryz.prog 7 #[] w fun e w' => e = .returned (.bool true) ∧ Below w.heap.size w w' := by
  go_enter Tryz.func7, Tryz.ntmps7
  go_wp2_with fail
  have q1 := sign_lit w 45
  obtain ⟨W1, hW1⟩ : ∃ W1, w.alloc (.cells #[.string ⟨#[67]⟩, .int .i64 2, .string ⟨#[78]⟩, .int .i64 1] 45) = W1 := ⟨_, rfl⟩
  have b1 : Below w.heap.size w W1 := hW1 ▸ (Below.refl _ _).alloc (Nat.le_refl _) _
  have z1 : W1.heap.size = w.heap.size + 1 := by rw [← hW1]; simp
  rw [hW1] at q1 ⊢
  have q2 := ints_lit W1 [-1] 3
  obtain ⟨W2, hW2⟩ : ∃ W2, W1.alloc (.cells #[.int .i64 (-1)] 3) = W2 := ⟨_, rfl⟩
  have b2 : Below W1.heap.size W1 W2 := hW2 ▸ (Below.refl _ _).alloc (Nat.le_refl _) _
  have z2 : W2.heap.size = W1.heap.size + 1 := by rw [← hW2]; simp
  have q2' : Ints W2 (.slice (some ⟨w.heap.size + 1, 0, none⟩) 1 1) [-1] := by rw [← hW2, ← z1]; exact q2
  rw [hW2]
  have q3 := ints_lit W2 [1, -1] 3
  obtain ⟨W3, hW3⟩ : ∃ W3, W2.alloc (.cells #[.int .i64 1, .int .i64 (-1)] 3) = W3 := ⟨_, rfl⟩
  have b3 : Below W2.heap.size W2 W3 := hW3 ▸ (Below.refl _ _).alloc (Nat.le_refl _) _
  have z3 : W3.heap.size = W2.heap.size + 1 := by rw [← hW3]; simp
  have q3' : Ints W3 (.slice (some ⟨w.heap.size + 1 + 1, 0, none⟩) 2 2) [1, -1] := by rw [← hW3, ← z1, ← z2]; exact q3
  rw [hW3]
  clear q2 q3 hW1 hW2 hW3
  have HC := hid (unify_Meets _ _ _ sCN _ _ _ ((q1.below b2).below b3) (q2'.below b3) q3' (by simp [sCN]))
  have Q1 := hid ((q1.below b2).below b3)
  have bW3 : Below w.heap.size w W3 := (b1.trans (b2.mono b1.size)).trans (b3.mono (by omega))
  clear q1 q2' q3' b1 b2 b3
  refine HC.out.mono ?_
  rintro e w4 ⟨z, hz, rfl, hb4'⟩
  have hz2 := meetsA_awake hz
  subst hz2
  have hb4 := bW3.trans (hb4'.mono bW3.size)
  have S4 := hid (Q1.out.below hb4')
  have hz4 := hb4.size
  clear hz HC Q1 hb4' bW3
  go_wp2_with fail
  have q2 : Ints (w4.alloc (.cells #[.int .i64 (-1)] 3)) (.slice (some ⟨w4.heap.size, 0, none⟩) 1 1) [-1] := ints_lit w4 [-1] 3
  obtain ⟨W2, hW2⟩ : ∃ W2, w4.alloc (.cells #[.int .i64 (-1)] 3) = W2 := ⟨_, rfl⟩
  have b2 : Below w4.heap.size w4 W2 := hW2 ▸ (Below.refl _ _).alloc (Nat.le_refl _) _
  have z2 : W2.heap.size = w4.heap.size + 1 := by rw [← hW2]; simp
  rw [hW2] at q2 ⊢
  have q3 := ints_lit W2 [1, -1] 3
  obtain ⟨W3, hW3⟩ : ∃ W3, W2.alloc (.cells #[.int .i64 1, .int .i64 (-1)] 3) = W3 := ⟨_, rfl⟩
  have b3 : Below W2.heap.size W2 W3 := hW3 ▸ (Below.refl _ _).alloc (Nat.le_refl _) _
  have q3' : Ints W3 (.slice (some ⟨w4.heap.size + 1, 0, none⟩) 2 2) [1, -1] := by rw [← hW3, ← z2]; exact q3
  rw [hW3]
  clear q3 hW2 hW3
  have b23 : Below w4.heap.size w4 W3 := b2.trans (b3.mono (by omega))
  have HC := hid (unify_Unifiable _ _ _ sCN _ _ _ (S4.out.below b23) (q2.below b3) q3' (by simp [sCN]))
  have b4 := hb4.trans (b23.mono hz4)
  clear q2 q3' b2 b3 z2 b23
  refine HC.out.mono ?_
  rintro e w5 ⟨z, hz, rfl, hb5'⟩
  have hz2 := uniA_awake hz
  subst hz2
  have HB5 := hid (b4.trans (hb5'.mono b4.size))
  clear hz HC hb5' b4 S4 hb4
  go_wp2
  go_ret
  exact ⟨rfl, HB5.out⟩
end Go.Proofs.YtldgkidojepdlaaGreat
namespace Go.Proofs.YtldgkidojepdlaaGreat
open Go Go.RowKit Go.Maps
theorem find_Meeting1 (vs vt vq : Value) (ps pq : Nat) (s : Sg) (t q : List Int) (w : World) (hs : SignAt w vs s) (ht : Ints w vt t) (hq : Ints w vq q) (hs1 : s.length ≤ 1000) (c1 : w.cell? ⟨ps, 0, none⟩ = some vs) (c2 : w.cell? ⟨pq, 0, none⟩ = some vq) :
    Calls Tryz.prog 21 #[vt, .pointer (some ⟨ps, 0, none⟩), .pointer (some ⟨pq, 0, none⟩)] w fun e w' => ∃ z, (MeetsA s t q z) ∧ e = .returned (.bool z) ∧ Below w.heap.size w w' := by
  obtain ⟨sa, sc, rfl, -⟩ := hs.open
  obtain ⟨ta, tc, rfl, -⟩ := ht.open
  obtain ⟨qa, qc, rfl, -⟩ := hq.open
  go_enter Tryz.func21, Tryz.ntmps21
  go_wp2_with fail
  refine (unify_Meets _ _ _ s t q _ hs ht hq hs1).mono ?_
  rintro e w1 ⟨z, hz, rfl, hb1⟩
  go_wp2
  go_ret
  exact ⟨_, hz, rfl, hb1⟩
set_option maxHeartbeats 1000000 in
theorem find_Meeting (v vl vq : Value) (s : Sg) (l : List (List Int)) (q : List Int) (f : List Int → Bool) (hf : ∀ t, MeetsA s t q (f t)) (w : World) (hs : SignAt w v s) (hv : Terms w vl l) (hq : Ints w vq q) (b1 : s.length ≤ 1000) (b2 : l.length ≤ 1000) :
    Calls Tryz.prog 9 #[v, vl, vq] w fun e w' => ∃ u, e = .returned (.tuple #[u, .int .i64 (searchB s l q (l.map f)).2]) ∧ w'.ownsRow w.heap.size 3 1 u (searchB s l q (l.map f)).1.length ((searchB s l q (l.map f)).1.map (Value.int .i64)) ∧ Below w.heap.size w w' := by
  have MeetsA_eq : ∀ {t : List Int} {x y : Bool}, (x = true ↔ MeetsQ s t q) → (y = true ↔ MeetsQ s t q) → x = y := fun {t x y} h k => Bool.eq_iff_iff.2 (h.trans k.symm)
  obtain ⟨sa, scap, rfl, _⟩ := hs.open
  obtain ⟨qa, qcap, rfl, _⟩ := hq.open
  obtain ⟨k1, k2, k3⟩ := boxes2 w (.slice sa s.length scap) (.slice qa q.length qcap) 23 29
  have KS := find_search 21 #[.pointer (some ⟨w.heap.size, 0, none⟩), .pointer (some ⟨w.heap.size + 1, 0, none⟩)] (enters_of Tryz.func21 (by kernel_rfl) rfl) (.slice sa s.length scap) vl (.slice qa q.length qcap) s l q (l.map f) _ (hs.below k3) (hv.below k3) (hq.below k3) b1 b2 (by simp) (by
    intro _ _ i y W hi hi' hy hbW
    rw [List.getElem_map]
    refine (find_Meeting1 _ _ _ w.heap.size (w.heap.size + 1) s l[i] q W ((hs.below k3).below hbW) hy ((hq.below k3).below hbW) b1 ?_ ?_).mono ?_
    · rw [hbW.cell (p := ⟨w.heap.size, 0, none⟩) (by simp; omega)]; exact k1
    · rw [hbW.cell (p := ⟨w.heap.size + 1, 0, none⟩) (by simp)]; exact k2
    · rintro e w' ⟨z, h, rfl, hb⟩
      exact ⟨by have : z = f l[i] := by have hfl := hf l[i]; first | exact h.trans hfl.symm | exact MeetsA_eq h hfl
                rw [this], hb⟩)
  have KS' := hid KS
  have K3 := hid k3
  clear KS hs hv hq
  go_enter Tryz.func9, Tryz.ntmps9
  go_wp2_with fail
  refine KS'.out.mono ?_
  rintro e w1 ⟨u, rfl, hown, hb1⟩
  have HO := hid (owns_base hown (b' := w.heap.size) (by simp; omega))
  have HB := hid (K3.out.trans (hb1.mono (by simp; omega)))
  clear hown hb1
  go_wp2
  go_ret2
  exact ⟨_, rfl, HO.out, HB.out⟩
end Go.Proofs.YtldgkidojepdlaaGreat
namespace Go.Proofs.YtldgkidojepdlaaGreat
open Go Go.RowKit Go.Maps
def shapeL (t : List Int) : List Int := t.map fun n => max n (-1)
def shapK (t : List Int) (k : Nat) : List Int := shapeL (t.take k) ++ t.drop k
theorem shapK_all (t : List Int) {k : Nat} (h : t.length ≤ k) : shapK t k = shapeL t := by
  unfold shapK
  rw [List.take_of_length_le h, List.drop_eq_nil_of_le h, List.append_nil]
theorem shapK_step (t : List Int) {k : Nat} (h : k < t.length) : shapK t (k + 1) = (shapK t k).set k (if t[k] < -1 then -1 else t[k]) := by
  rw [show (if t[k] < -1 then -1 else t[k]) = max t[k] (-1) by split <;> omega]
  unfold shapK shapeL
  rw [List.take_succ_eq_append_getElem h, List.map_append, List.set_append_right _ _ (by simp; omega)]
  have e2 : k - ((t.take k).map fun n => max n (-1)).length = 0 := by simp; omega
  rw [e2, List.drop_eq_getElem_cons h, List.set_cons_zero, List.append_assoc]
  rfl
theorem shapK_get (t : List Int) {k : Nat} (h : k < t.length) : ((shapK t k).map (Value.int .i64))[k]? = some (.int .i64 t[k]) := by
  have : (shapK t k)[k]? = some t[k] := by
    unfold shapK shapeL
    rw [List.getElem?_append_right (by simp; omega)]
    simp
    have : k - min k t.length = 0 := by omega
    rw [this]; simp [h]
  rw [List.getElem?_map, this]; rfl
theorem shape_canon {a b : List Int} (h : canonL a = canonL b) : shapeL a = shapeL b := by
  have key : ∀ t, shapeL (canonL t) = shapeL t := by
    intro t
    unfold shapeL canonL
    rw [List.map_map]
    apply List.map_congr_left
    intro n _
    simp only [Function.comp]
    by_cases hn : n < 0
    · have := (numV_neg (vs := varsF [] t) (n := n)).2 hn
      omega
    · unfold numV; rw [if_neg hn]
  rw [← key a, ← key b, h]
end Go.Proofs.YtldgkidojepdlaaGreat
