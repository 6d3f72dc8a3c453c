/-
  WHAT IT HOLDS: contracts of solved, Meets, Meet, Unifiable, Unified, Detached of package unify and of made of its solver: what they answer, by most general binds. Conditions: the arguments read as data; small signs.
  WHAT IT HOLDS: contracts of Meets, Join of package unify, and of the helper awake of the laws of layer 2. Conditions: the arguments read as data; small signs.
-/
import Derived.Test.YtidigpfiagjeiaaZRUnifyUnifies20
import Derived.Test.YtidigpfiagjeiaaZRUnifyUnifies18
import Derived.Test.YtidigpfiagjeiaaZRUnifyUnifies21
import Derived.Test.YtidigpfiagjeiaaZRUnifyUnifies14
namespace Go.Proofs.Ytidigpfiagjeiaa
open Go Go.RowKit Go.Maps
def madeB (F : List Int) : Bool := decide (F.length ≤ 60) && decide ((varsF [] F).length ≤ 12)
/-- what is made of t where a and b are unified. -/
def UR (s : Sg) (a b t : List Int) (x : List Int × Int) : Prop :=
  (NoU s a b ∧ x = ([], 8)) ∨ ∃ m, Mgu s a b m ∧ ((madeB (fw m t) = true ∧ x = (canonL (fw m t), 0)) ∨ (madeB (fw m t) = false ∧ x = ([], 4)))
theorem varsF_canon_len (t : List Int) : (varsF [] (canonL t)).length = (varsF [] t).length := by
  have h := varsF_map (ρ := numV (varsF [] t)) t [] (fun n _ h => numV_neg.2 h) (fun n _ h => by unfold numV; rw [if_neg (by omega)]) (fun n hn m _ h1 h2 e => numV_inj h1 h2 ((varsF_mem t [] n).2 (Or.inr ⟨by simpa using hn, h1⟩)) e) (by simp)
  rw [List.map_nil] at h
  unfold canonL
  rw [h, List.length_map]
theorem madeB_canon {F G : List Int} (h : canonL F = canonL G) : madeB F = madeB G := by
  have h1 : F.length = G.length := by have := congrArg List.length h; simpa [canonL_len] using this
  have h2 : (varsF [] F).length = (varsF [] G).length := by rw [← varsF_canon_len F, ← varsF_canon_len G, h]
  unfold madeB
  rw [h1, h2]
theorem UR.unique {s : Sg} {a b t : List Int} (ht : IsT s 24 t) {x y : List Int × Int} (h : UR s a b t x) (k : UR s a b t y) : x = y := by
  rcases h with ⟨h1, rfl⟩ | ⟨m, hm, h⟩
  · rcases k with ⟨_, rfl⟩ | ⟨m', hm', _⟩
    · rfl
    · exact (hm'.not_no h1).elim
  · rcases k with ⟨k1, _⟩ | ⟨m', hm', k⟩
    · exact (hm.not_no k1).elim
    · have hc := hm.canon hm' ht
      have hb := madeB_canon hc
      rcases h with ⟨h1, rfl⟩ | ⟨h1, rfl⟩ <;> rcases k with ⟨k1, rfl⟩ | ⟨k1, rfl⟩
      · rw [hc]
      · rw [hb, k1] at h1; cases h1
      · rw [hb, k1] at h1; cases h1
      · rfl
theorem aparL_sub (t : List Int) : aparL t = subL (fun n => [n - 12]) t := by
  induction t with
  | nil => rfl
  | cons n t ih =>
    by_cases h : n < 0
    · rw [subL_cons_var _ h, ← ih]; simp [aparL, h]
    · rw [subL_cons_app _ (by omega), ← ih]; simp [aparL, h]
theorem aparL_T {s : Sg} {t : List Int} (h : IsT s 12 t) : IsT s 24 (aparL t) := by
  rw [aparL_sub]
  exact h.sub fun n hn hn0 => .var _ (by have := h.vars n hn hn0; omega) (by omega)
theorem aparL_len (t : List Int) : (aparL t).length = t.length := by simp [aparL]
def MeetR (s : Sg) (a b : List Int) (x : List Int × Int) : Prop := if termB s a && termB s b then UR s a (aparL b) a x else x = ([], 1)
def UnifR (s : Sg) (a b : List Int) (x : List Int × Int) : Prop := if termB s a && termB s b then UR s a b a x else x = ([], 1)
/-- whether two terms have a unifier. -/
def HasU (s : Sg) (a b : List Int) : Prop := ∃ m, Mgu s a b m
theorem T_small12 {s : Sg} {t : List Int} (h : IsT s 12 t) (hs : s.length ≤ 12) : ∀ x ∈ t, -1000000 ≤ x ∧ x ≤ 1000000 := by
  intro x hx
  rcases h.range x hx with h | h <;> omega
/-- whether two terms meet. -/
def MeetsQ (s : Sg) (a b : List Int) : Prop := termB s a = true ∧ termB s b = true ∧ ¬ NoU s a (aparL b)
def MeetsA (s : Sg) (a b : List Int) (z : Bool) : Prop := z = true ↔ MeetsQ s a b
def JoinR (s : Sg) (a b : List Int) (x : List Int × Int) : Prop :=
  x = if termB s a && termB s b then (if (varsF [] (comW s a b []).1).length ≤ 12 then (canonL (comW s a b []).1, 0) else ([], 4)) else ([], 1)
theorem comW_range {s : Sg} (hs : s.length ≤ 12) {a : List Int} (ha : IsT s 12 a) (hl : a.length ≤ 60) (b : List Int) : ∀ x ∈ (comW s a b []).1, -1000000 ≤ x ∧ x ≤ 1000000 := by
  have key : ∀ (f : Nat) (a b : List Int) (σ : List KK), (∀ x ∈ a, x ≤ 12) → ∀ x ∈ (com s f a b σ).1, -((σ.length + a.length : Nat) : Int) - 1 ≤ x ∧ x ≤ 12 := by
    intro f
    induction f with
    | zero => intro a b σ _ x hx; simp [com] at hx
    | succ f ih =>
      intro a b σ ha x hx
      cases a with
      | nil => rw [com_nil] at hx; cases hx
      | cons y a =>
        cases b with
        | nil => rw [com_nil2] at hx; cases hx
        | cons z b =>
          unfold com at hx
          split at hx
          · simp only [List.mem_cons] at hx
            rcases hx with rfl | hx
            · have := ha x (by simp)
              rename_i hh
              refine ⟨?_, this⟩
              omega
            · have := ih a b σ (fun w hw => ha w (by simp [hw])) x hx
              simp at this ⊢; omega
          · simp only [List.mem_cons] at hx
            rcases hx with rfl | hx
            · unfold numK
              have := List.idxOf_le_length (a := (keyL ((y :: a).take (pLen s (y :: a) 1)), keyL ((z :: b).take (pLen s (z :: b) 1)))) (l := σ)
              simp only [List.length_cons]
              first | omega | (constructor <;> omega)
            · have h1 := ih _ _ _ (fun w hw => ha w (List.mem_of_mem_drop hw)) x hx
              have h2 := insK_len σ (keyL ((y :: a).take (pLen s (y :: a) 1)), keyL ((z :: b).take (pLen s (z :: b) 1)))
              have h3 := pLen_pos s y a
              simp only [List.length_drop, List.length_cons] at h1 ⊢
              omega
  intro x hx
  have := key a.length a b [] (fun y hy => by rcases ha.range y hy with h | h <;> omega) x hx
  simp at this
  omega
set_option maxHeartbeats 1000000 in
set_option maxRecDepth 100000 in
theorem unify_solved (vs va vb : Value) (s : Sg) (a b : List Int) (w : World) (hsg : signB s = true) (hT : IsT s 24 a) (hU : IsT s 24 b) (hla : a.length ≤ 60) (hlb : b.length ≤ 60) (hs : SignAt w vs s) (ra : Ints w va a) (rb : Ints w vb b) :
    Calls Try.prog 59 #[vs, va, vb] w fun e w' => Below w.heap.size w w' ∧ ∃ px, ((e = .returned (.tuple #[.pointer (some ⟨px, 0, none⟩), .bool false]) ∧ NoU s a b) ∨
      (e = .returned (.tuple #[.pointer (some ⟨px, 0, none⟩), .bool true]) ∧ ∃ bm M, SolvW w' px bm vs s M ∧ Mgu s a b (mOf M))) := by
  obtain ⟨sa, sc, hse, -⟩ := hs.open
  subst hse
  obtain ⟨aa, ac, hae, -⟩ := ra.open
  subst hae
  obtain ⟨ba, bc, hbe, -⟩ := rb.open
  subst hbe
  have hmm := @run_makeMap Try.prog
  have HS := hid hs
  have HA := hid ra
  have HB := hid rb
  clear hs ra rb
  go_enter Try.func59, Try.ntmps59
  go_wp2_with fail
  clear hmm
  have hb1 : Below w.heap.size w ((w.alloc (.map #[] 0)).alloc (.cells #[.slice sa s.length sc, .map (some w.heap.size)] 105)) := ((Below.refl _ _).alloc (Nat.le_refl _) _).alloc (by simp) _
  have c0 : ((w.alloc (.map #[] 0)).alloc (.cells #[.slice sa s.length sc, .map (some w.heap.size)] 105)).cell? ⟨w.heap.size + 1, 0, none⟩ = some (.slice sa s.length sc) := by
    have := World.cell?_alloc_new (w := w.alloc (.map #[] 0)) #[.slice sa s.length sc, .map (some w.heap.size)] 105 0
    rw [World.size_alloc] at this
    rw [this]; rfl
  have c1 : ((w.alloc (.map #[] 0)).alloc (.cells #[.slice sa s.length sc, .map (some w.heap.size)] 105)).cell? ⟨w.heap.size + 1, 1, none⟩ = some (.map (some w.heap.size)) := by
    have := World.cell?_alloc_new (w := w.alloc (.map #[] 0)) #[.slice sa s.length sc, .map (some w.heap.size)] 105 1
    rw [World.size_alloc] at this
    rw [this]; rfl
  have km := (MapK.made Try.prog 3 eI eV w).alloc (.cells #[.slice sa s.length sc, .map (some w.heap.size)] 105)
  have hS0 : SolvW ((w.alloc (.map #[] 0)).alloc (.cells #[.slice sa s.length sc, .map (some w.heap.size)] 105)) (w.heap.size + 1) w.heap.size (.slice sa s.length sc) s (fun _ => none) := ⟨c0, c1, HS.out.below hb1, ⟨0, km⟩, fun _ _ _ h => by cases h⟩
  refine Calls.mono (unify_solve (w.heap.size + 1) w.heap.size _ _ _ s _ a b _ hsg hT hU hla hlb (HA.out.below hb1) (HB.out.below hb1) hS0 rfl) ?_
  rintro e w2 ⟨hg, ⟨rfl, hn⟩ | ⟨rfl, M, n, hM, hmgu, hi⟩⟩
  · have HB2 := hid (hb1.grown hg hb1.size (fun q hq => by cases hq; exact Nat.le_refl _))
    have HN := hid hn
    clear hg hn hS0 km c0 c1 hb1
    go_wp2
    go_ret2
    exact ⟨HB2.out, _, Or.inl ⟨rfl, HN.out⟩⟩
  · have HB2 := hid (hb1.grown hg hb1.size (fun q hq => by cases hq; exact Nat.le_refl _))
    have HMG := hid hmgu
    have HS2 : Hid (SolvW w2 (w.heap.size + 1) w.heap.size (.slice sa s.length sc) s M) := hid ⟨km.cell rfl hg c0, km.cell rfl hg c1, km.signAt rfl hg hS0.sgn, ⟨n, hM⟩, fun x v l h => km.ints rfl hg (hi x v l h)⟩
    clear hg hmgu hM hi hS0 km c0 c1 hb1
    go_wp2
    go_ret2
    exact ⟨HB2.out, _, Or.inr ⟨rfl, _, M, HS2.out, HMG.out⟩⟩
theorem fw_small {s : Sg} {m : MM} (hm : MOK s m) {t : List Int} (hT : IsT s 24 t) (hs : s.length ≤ 1000) : ∀ x ∈ fw m t, -1000000 ≤ x ∧ x ≤ 1000000 := by
  intro x hx
  rcases (fw_T hm hT).range x hx with h | h <;> omega
set_option maxHeartbeats 1000000 in
theorem unify_made (px bm : Nat) (vs vt : Value) (s : Sg) (M : Int → Option VT) (t : List Int) (w : World) (hm : MOK s (mOf M)) (hS : SolvW w px bm vs s M) (hT : IsT s 24 t) (hl : t.length ≤ 60) (ra : Ints w vt t) (hsl : s.length ≤ 1000) :
    Calls Try.prog 61 #[.pointer (some ⟨px, 0, none⟩), vt] w fun e w' => Below w.heap.size w w' ∧
      ((madeB (fw (mOf M) t) = true ∧ ∃ u, e = .returned (.tuple #[u, .int .i64 0]) ∧ w'.ownsRow w.heap.size 3 1 u (canonL (fw (mOf M) t)).length ((canonL (fw (mOf M) t)).map (Value.int .i64))) ∨
       (madeB (fw (mOf M) t) = false ∧ e = .returned (.tuple #[.slice none 0 0, .int .i64 4]))) := by
  have HF := hid (unify_full px bm vs vt s M t w hm hS hT hl ra hsl)
  have HSM := hid (fw_small hm hT hsl)
  obtain ⟨ta, tc, hte, -⟩ := ra.open
  subst hte
  obtain ⟨F, hFe⟩ : ∃ F, fw (mOf M) t = F := ⟨_, rfl⟩
  rw [hFe] at HF HSM ⊢
  clear hm hS hT ra hFe
  go_enter Try.func61, Try.ntmps61
  go_wp2_with fail
  refine HF.out.mono ?_
  rintro e w1 ⟨u, hb1, ⟨rfl, hl1, hown⟩ | ⟨rfl, hbig⟩⟩
  · have hI := Ints.of_owns hown (by omega)
    have HN := hid (unify_named u F w1 hI (by omega) HSM.out)
    obtain ⟨ua, uc, hue, -⟩ := hI.open
    subst hue
    have HB1 := hid hb1
    have hsz := hb1.size
    clear hI hown hb1
    cases hv : decide ((varsF [] F).length ≤ 12)
    · have HMB : Hid (madeB F = false) := hid (by unfold madeB; rw [hv]; simp)
      rw [hv] at HN
      clear hv
      go_wp2_with fail
      refine HN.out.mono ?_
      rintro e w2 ⟨u2, rfl, hown2, hb2⟩
      have HB2 := hid (HB1.out.trans (hb2.mono hsz))
      clear hown2 hb2
      go_wp2
      go_ret2
      exact ⟨HB2.out, Or.inr ⟨HMB.out, rfl⟩⟩
    · have HMB : Hid (madeB F = true) := hid (by unfold madeB; rw [hv]; simpa using hl1)
      rw [hv] at HN
      clear hv
      go_wp2_with fail
      refine HN.out.mono ?_
      rintro e w2 ⟨u2, rfl, hown2, hb2⟩
      have HB2 := hid (HB1.out.trans (hb2.mono hsz))
      have HOW := hid (owns_base hown2 hsz)
      clear hown2 hb2
      go_wp2
      go_ret2
      exact ⟨HB2.out, Or.inl ⟨HMB.out, _, rfl, HOW.out⟩⟩
  · have HMB : Hid (madeB F = false) := hid (by unfold madeB; rw [decide_eq_false (by omega)]; rfl)
    have HB1 := hid hb1
    clear hb1
    go_wp2
    go_ret2
    exact ⟨HB1.out, Or.inr ⟨HMB.out, rfl⟩⟩
set_option maxHeartbeats 1000000 in
theorem unify_Meet (vs va vb : Value) (s : Sg) (a b : List Int) (w : World) (hs : SignAt w vs s) (ra : Ints w va a) (rb : Ints w vb b) (hs1 : s.length ≤ 1000) :
    Calls Try.prog 18 #[vs, va, vb] w fun e w' => ∃ x u, MeetR s a b x ∧ e = .returned (.tuple #[u, .int .i64 x.2]) ∧ w'.ownsRow w.heap.size 3 1 u x.1.length (x.1.map (Value.int .i64)) ∧ Below w.heap.size w w' := by
  cases h1 : termB s a
  · have HR : Hid (MeetR s a b ([], 1)) := hid (by unfold MeetR; rw [h1]; simp)
    go_enter Try.func18, Try.ntmps18
    go_wp2_with (first | (go_at_call 21; refine (term_Valid' _ _ _ _ _ hs ra hs1).mono ?_; rintro e w1 ⟨rfl, hb1⟩))
    go_ret2
    exact ⟨([], 1), _, HR.out, rfl, World.ownsRow_nil _ _ _ _, hb1⟩
  · cases h2 : termB s b
    · have HR : Hid (MeetR s a b ([], 1)) := hid (by unfold MeetR; rw [h2]; simp)
      have H1 := hid h1
      have H2 := hid h2
      clear h1 h2
      go_enter Try.func18, Try.ntmps18
      go_wp2_with fail
      refine (term_Valid' _ _ _ _ _ hs ra hs1).mono ?_
      rintro e w1 ⟨rfl, hb1⟩
      rw [H1.out]
      go_wp2_with fail
      refine (term_Valid' _ _ _ _ _ (hs.below hb1) (rb.below hb1) hs1).mono ?_
      rintro e w2 ⟨rfl, hb2⟩
      rw [H2.out]
      have HB := hid (hb1.trans (hb2.mono hb1.size))
      clear hb1 hb2
      go_wp2
      go_ret2
      exact ⟨([], 1), _, HR.out, rfl, World.ownsRow_nil _ _ _ _, HB.out⟩
    · have HR : Hid (∀ x, UR s a (aparL b) a x → MeetR s a b x) := hid (by intro x hx; unfold MeetR; rw [h1, h2]; simpa using hx)
      obtain ⟨f1, f2, f3, f4⟩ := termB_facts h1
      obtain ⟨_, _, _, f5⟩ := termB_facts h2
      have ta := termB_T h1
      have tb := termB_T h2
      have hb0 := tb.ne
      have H1 := hid h1
      have H2 := hid h2
      have TA := hid (ta.mono (m' := 24) (by omega))
      have TB := hid (aparL_T tb)
      have TS := hid (T_small12 tb f3)
      have LB := hid (aparL_len b)
      clear h1 h2 ta tb
      go_enter Try.func18, Try.ntmps18
      go_wp2_with fail
      refine (term_Valid' _ _ _ _ _ hs ra hs1).mono ?_
      rintro e w1 ⟨rfl, hb1⟩
      rw [H1.out]
      go_wp2_with fail
      refine (term_Valid' _ _ _ _ _ (hs.below hb1) (rb.below hb1) hs1).mono ?_
      rintro e w2 ⟨rfl, hb2'⟩
      rw [H2.out]
      have hb2 := hb1.trans (hb2'.mono hb1.size)
      go_wp2_with fail
      refine (unify_apart _ b _ (rb.below hb2) hb0 (by omega) TS.out).mono ?_
      rintro e w3 ⟨ub, rfl, hown, hb3'⟩
      have hb3 := hb2.trans (hb3'.mono hb2.size)
      have rb3 := Ints.of_owns hown (by rw [LB.out]; omega)
      clear hb2' hb3' hb2 hown
      go_wp2_with fail
      refine (unify_solved _ _ _ s a (aparL b) _ f1 TA.out TB.out f4 (by rw [LB.out]; exact f5) (hs.below hb3) (ra.below hb3) rb3).mono ?_
      rintro e w4 ⟨hb4', px, ⟨rfl, hno⟩ | ⟨rfl, bm, M, hS, hmgu⟩⟩
      · have HB := hid (hb3.trans (hb4'.mono hb3.size))
        have HX : Hid (MeetR s a b ([], 8)) := hid (HR.out _ (Or.inl ⟨hno, rfl⟩))
        clear hb4' hb3 hno rb3 hb1
        go_wp2
        go_ret2
        exact ⟨([], 8), _, HX.out, rfl, World.ownsRow_nil _ _ _ _, HB.out⟩
      · have hb4 := hb3.trans (hb4'.mono hb3.size)
        have HMD := hid (unify_made px bm _ _ s M a w4 hmgu.1 hS TA.out f4 (ra.below hb4) hs1)
        have HMG := hid hmgu
        have HB := hid hb4
        have hsz := hb4.size
        clear hb4' hb3 hb4 hmgu hS rb3 hb1
        go_wp2_with fail
        refine HMD.out.mono ?_
        rintro e w5 ⟨hb5, ⟨hm, u, rfl, hown⟩ | ⟨hm, rfl⟩⟩
        · have HX : Hid (MeetR s a b (canonL (fw (mOf M) a), 0)) := hid (HR.out _ (Or.inr ⟨_, HMG.out, Or.inl ⟨hm, rfl⟩⟩))
          have HO := hid (owns_base hown hsz)
          have HB5 := hid (HB.out.trans (hb5.mono hsz))
          clear hown hb5 hm
          go_wp2
          go_ret2
          exact ⟨_, _, HX.out, rfl, HO.out, HB5.out⟩
        · have HX : Hid (MeetR s a b ([], 4)) := hid (HR.out _ (Or.inr ⟨_, HMG.out, Or.inr ⟨hm, rfl⟩⟩))
          have HB5 := hid (HB.out.trans (hb5.mono hsz))
          clear hb5 hm
          go_wp2
          go_ret2
          exact ⟨([], 4), _, HX.out, rfl, World.ownsRow_nil _ _ _ _, HB5.out⟩
end Go.Proofs.Ytidigpfiagjeiaa
namespace Go.Proofs.Ytidigpfiagjeiaa
open Go Go.RowKit Go.Maps
set_option maxHeartbeats 1000000 in
theorem unify_Meets (vs va vb : Value) (s : Sg) (a b : List Int) (w : World) (hs : SignAt w vs s) (ra : Ints w va a) (rb : Ints w vb b) (hs1 : s.length ≤ 1000) :
    Calls Try.prog 19 #[vs, va, vb] w fun e w' => ∃ z, MeetsA s a b z ∧ e = .returned (.bool z) ∧ Below w.heap.size w w' := by
  cases h1 : termB s a
  · have HR : Hid (MeetsA s a b false) := hid (by unfold MeetsA MeetsQ; rw [h1]; simp)
    go_enter Try.func19, Try.ntmps19
    go_wp2_with (first | (go_at_call 21; refine (term_Valid' _ _ _ _ _ hs ra hs1).mono ?_; rintro e w1 ⟨rfl, hb1⟩))
    go_ret
    exact ⟨_, HR.out, rfl, hb1⟩
  · cases h2 : termB s b
    · have HR : Hid (MeetsA s a b false) := hid (by unfold MeetsA MeetsQ; rw [h2]; simp)
      have H1 := hid h1
      have H2 := hid h2
      clear h1 h2
      go_enter Try.func19, Try.ntmps19
      go_wp2_with fail
      refine (term_Valid' _ _ _ _ _ hs ra hs1).mono ?_
      rintro e w1 ⟨rfl, hb1⟩
      rw [H1.out]
      go_wp2_with fail
      refine (term_Valid' _ _ _ _ _ (hs.below hb1) (rb.below hb1) hs1).mono ?_
      rintro e w2 ⟨rfl, hb2⟩
      rw [H2.out]
      have HB := hid (hb1.trans (hb2.mono hb1.size))
      clear hb1 hb2
      go_wp2
      go_ret
      exact ⟨_, HR.out, rfl, HB.out⟩
    · have HR : Hid (¬ NoU s a (aparL b) ↔ MeetsQ s a b) := hid (by unfold MeetsQ; rw [h1, h2]; simp)
      obtain ⟨f1, f2, f3, f4⟩ := termB_facts h1
      obtain ⟨_, _, _, f5⟩ := termB_facts h2
      have ta := termB_T h1
      have tb := termB_T h2
      have hb0 := tb.ne
      have H1 := hid h1
      have H2 := hid h2
      have TA := hid (ta.mono (m' := 24) (by omega))
      have TB := hid (aparL_T tb)
      have TS := hid (T_small12 tb f3)
      have LB := hid (aparL_len b)
      clear h1 h2 ta tb
      go_enter Try.func19, Try.ntmps19
      go_wp2_with fail
      refine (term_Valid' _ _ _ _ _ hs ra hs1).mono ?_
      rintro e w1 ⟨rfl, hb1⟩
      rw [H1.out]
      go_wp2_with fail
      refine (term_Valid' _ _ _ _ _ (hs.below hb1) (rb.below hb1) hs1).mono ?_
      rintro e w2 ⟨rfl, hb2'⟩
      rw [H2.out]
      have hb2 := hb1.trans (hb2'.mono hb1.size)
      go_wp2_with fail
      refine (unify_apart _ b _ (rb.below hb2) hb0 (by omega) TS.out).mono ?_
      rintro e w3 ⟨ub, rfl, hown, hb3'⟩
      have hb3 := hb2.trans (hb3'.mono hb2.size)
      have rb3 := Ints.of_owns hown (by rw [LB.out]; omega)
      clear hb2' hb3' hb2 hown
      go_wp2_with fail
      refine (unify_solved _ _ _ s a (aparL b) _ f1 TA.out TB.out f4 (by rw [LB.out]; exact f5) (hs.below hb3) (ra.below hb3) rb3).mono ?_
      rintro e w4 ⟨hb4', px, ⟨rfl, hno⟩ | ⟨rfl, bm, M, hS, hmgu⟩⟩
      · have HB := hid (hb3.trans (hb4'.mono hb3.size))
        have HX : Hid (MeetsA s a b false) := hid (by unfold MeetsA; rw [← HR.out]; simpa using hno)
        clear hb4' hb3 hno rb3 hb1
        go_wp2
        go_ret
        exact ⟨_, HX.out, rfl, HB.out⟩
      · have HB := hid (hb3.trans (hb4'.mono hb3.size))
        have HX : Hid (MeetsA s a b true) := hid (by unfold MeetsA; rw [← HR.out]; simpa using fun h => hmgu.not_no h)
        clear hb4' hb3 hmgu hS rb3 hb1
        go_wp2
        go_ret
        exact ⟨true, HX.out, rfl, HB.out⟩
set_option maxHeartbeats 1000000 in
theorem unify_Join (vs va vb : Value) (s : Sg) (a b : List Int) (w : World) (hs : SignAt w vs s) (ra : Ints w va a) (rb : Ints w vb b) (hs1 : s.length ≤ 1000) :
    Calls Try.prog 20 #[vs, va, vb] w fun e w' => ∃ x u, JoinR s a b x ∧ e = .returned (.tuple #[u, .int .i64 x.2]) ∧ w'.ownsRow w.heap.size 3 1 u x.1.length (x.1.map (Value.int .i64)) ∧ Below w.heap.size w w' := by
  cases h1 : termB s a
  · have HR : Hid (JoinR s a b ([], 1)) := hid (by unfold JoinR; rw [h1]; simp)
    go_enter Try.func20, Try.ntmps20
    go_wp2_with (first | (go_at_call 21; refine (term_Valid' _ _ _ _ _ hs ra hs1).mono ?_; rintro e w1 ⟨rfl, hb1⟩))
    go_ret2
    exact ⟨([], 1), _, HR.out, rfl, World.ownsRow_nil _ _ _ _, hb1⟩
  · cases h2 : termB s b
    · have HR : Hid (JoinR s a b ([], 1)) := hid (by unfold JoinR; rw [h2]; simp)
      have H1 := hid h1
      have H2 := hid h2
      clear h1 h2
      go_enter Try.func20, Try.ntmps20
      go_wp2_with fail
      refine (term_Valid' _ _ _ _ _ hs ra hs1).mono ?_
      rintro e w1 ⟨rfl, hb1⟩
      rw [H1.out]
      go_wp2_with fail
      refine (term_Valid' _ _ _ _ _ (hs.below hb1) (rb.below hb1) hs1).mono ?_
      rintro e w2 ⟨rfl, hb2⟩
      rw [H2.out]
      have HB := hid (hb1.trans (hb2.mono hb1.size))
      clear hb1 hb2
      go_wp2
      go_ret2
      exact ⟨([], 1), _, HR.out, rfl, World.ownsRow_nil _ _ _ _, HB.out⟩
    · obtain ⟨f1, f2, f3, f4⟩ := termB_facts h1
      obtain ⟨_, _, _, f5⟩ := termB_facts h2
      have ta := termB_T h1
      have tb := termB_T h2
      have H1 := hid h1
      have H2 := hid h2
      have TA := hid ta
      have TB := hid tb
      have CR := hid (comW_range f3 ta f4 b)
      have hcl := (comW_len s a b []).1
      obtain ⟨C, hC⟩ : ∃ C, (comW s a b []).1 = C := ⟨_, rfl⟩
      have HR : Hid (∀ x, x = (if (varsF [] C).length ≤ 12 then (canonL C, 0) else ([], 4)) → JoinR s a b x) := hid (by intro x hx; unfold JoinR; rw [h1, h2, hC]; simpa using hx)
      rw [hC] at CR hcl
      have HC := hid hC
      clear h1 h2 ta tb hC
      go_enter Try.func20, Try.ntmps20
      go_wp2_with fail
      refine (term_Valid' _ _ _ _ _ hs ra hs1).mono ?_
      rintro e w1 ⟨rfl, hb1⟩
      rw [H1.out]
      go_wp2_with fail
      refine (term_Valid' _ _ _ _ _ (hs.below hb1) (rb.below hb1) hs1).mono ?_
      rintro e w2 ⟨rfl, hb2'⟩
      rw [H2.out]
      have hb2 := hb1.trans (hb2'.mono hb1.size)
      go_wp2_with fail
      refine (unify_join s _ _ _ a b _ f2 f3 TA.out TB.out (hs.below hb2) (ra.below hb2) (rb.below hb2) (by omega) (by omega)).mono ?_
      rintro e w3 ⟨uc, rfl, hown, hb3'⟩
      rw [HC.out] at hown
      have hb3 := hb2.trans (hb3'.mono hb2.size)
      have rc := Ints.of_owns hown (by omega)
      have hsz := hb3.size
      have HN := hid (unify_named uc C w3 rc (by omega) CR.out)
      have HB3 := hid hb3
      clear hb2' hb3' hb2 hb1 hown rc hb3
      cases hv : decide ((varsF [] C).length ≤ 12)
      · have HX : Hid (JoinR s a b ([], 4)) := hid (HR.out _ (by rw [if_neg (by simpa using hv)]))
        rw [hv] at HN
        clear hv
        go_wp2_with fail
        refine HN.out.mono ?_
        rintro e w4 ⟨u4, rfl, hown4, hb4⟩
        have HB4 := hid (HB3.out.trans (hb4.mono hsz))
        clear hown4 hb4
        go_wp2
        go_ret2
        exact ⟨([], 4), _, HX.out, rfl, World.ownsRow_nil _ _ _ _, HB4.out⟩
      · have HX : Hid (JoinR s a b (canonL C, 0)) := hid (HR.out _ (by rw [if_pos (by simpa using hv)]))
        rw [hv] at HN
        clear hv
        go_wp2_with fail
        refine HN.out.mono ?_
        rintro e w4 ⟨u4, rfl, hown4, hb4⟩
        have HB4 := hid (HB3.out.trans (hb4.mono hsz))
        have HO := hid (owns_base hown4 hsz)
        clear hown4 hb4
        go_wp2
        go_ret2
        exact ⟨_, _, HX.out, rfl, HO.out, HB4.out⟩
theorem mgu_awake : Mgu sCN [-1] [1, -13] (updM noM (-1) [1, -13]) := by
  have h1 : IsT sCN 24 [-1] := .var _ (by omega) (by omega)
  have h2 : IsT sCN 24 [1, -13] := .app 1 [[-13]] (by simp [sCN]) (by simp [sCN, arOf]) (by simp; exact .var _ (by omega) (by omega))
  have h0 := UInv.start h1 h2 (by simp) (by simp)
  have h3 := (UInv.bind (L := []) (x := [-1]) (y := [1, -13]) (v := -1) (q := [1, -13]) h0 (Or.inl ⟨.refl h1 (by simp), .refl h2 (by simp)⟩) (by omega) rfl (fun H => by
    cases H with
    | here _ _ h _ => simp at h
    | step _ _ n p g1 g2 g3 _ => simp [noM] at g3)).1
  exact h3.done
theorem meet_awake {x : List Int × Int} (h : MeetR sCN [-1] [1, -1] x) : x = ([1, -1], 0) := by
  have hv : (termB sCN [-1] && termB sCN [1, -1]) = true := by decide +kernel
  unfold MeetR at h
  rw [hv] at h
  simp only [if_true] at h
  have ha : aparL [1, -1] = [1, -13] := by decide +kernel
  rw [ha] at h
  have h1 : IsT sCN 24 [-1] := .var _ (by omega) (by omega)
  refine h.unique h1 (Or.inr ⟨_, mgu_awake, Or.inl ⟨?_, ?_⟩⟩)
  · decide +kernel
  · have : canonL (fw (updM noM (-1) [1, -13]) [-1]) = [1, -1] := by decide +kernel
    rw [this]
theorem join_awake {x : List Int × Int} (h : JoinR sCN [0, -1, -1] [0, 1, -1, 1, -2] x) : x = ([0, -1, -2], 0) := by
  unfold JoinR at h
  rw [h]
  decide +kernel
theorem ints_lit (w : World) (l : List Int) (T : TypeId) {arr : Array Value} {n : Nat} (h : arr = (l.map (Value.int .i64)).toArray := by rfl) (hn : n = l.length := by rfl) (hl : l.length ≤ 1000 := by decide) : Ints (w.alloc (.cells arr T)) (.slice (some ⟨w.heap.size, 0, none⟩) n n) l := by
  subst h hn
  have r := World.ownsRow_lit (base := 0) (e := T) (size := 1) w (l.map (Value.int .i64)).toArray l.length (by omega) (by simp [maxLen]; omega) (by simp)
  simp only [List.toList_toArray] at r
  exact Ints.of_owns r (by omega)
theorem sign_lit (w : World) (T : TypeId) : SignAt (w.alloc (.cells #[.string ⟨#[67]⟩, .int .i64 2, .string ⟨#[78]⟩, .int .i64 1] T)) (.slice (some ⟨w.heap.size, 0, none⟩) 2 2) sCN := by
  have r1 := World.ownsRow_lit (base := 0) (e := T) (size := 2) w #[.string ⟨#[67]⟩, .int .i64 2, .string ⟨#[78]⟩, .int .i64 1] 2 (by omega) (by simp [maxLen]) rfl
  refine ⟨RowK.of_owns r1 (by simp [sCN]), ?_⟩
  intro x hx
  simp [sCN] at hx
  rcases hx with rfl | rfl <;> simp [ByteArray.size]
set_option maxHeartbeats 1000000 in
theorem law2_awake (w : World) :
    Calls Try.prog 16 #[] w fun e w' => e = .returned (.bool true) ∧ Below w.heap.size w w' := by
  go_enter Try.func16, Try.ntmps16
  go_wp2_with fail
  have q1 := sign_lit w 64
  obtain ⟨W1, hW1⟩ : ∃ W1, w.alloc (.cells #[.string ⟨#[67]⟩, .int .i64 2, .string ⟨#[78]⟩, .int .i64 1] 64) = W1 := ⟨_, rfl⟩
  have b1 : Below w.heap.size w W1 := hW1 ▸ (Below.refl _ _).alloc (Nat.le_refl _) _
  have z1 : W1.heap.size = w.heap.size + 1 := by rw [← hW1]; simp
  rw [hW1] at q1 ⊢
  have q2 := ints_lit W1 [-1] 3
  obtain ⟨W2, hW2⟩ : ∃ W2, W1.alloc (.cells #[.int .i64 (-1)] 3) = W2 := ⟨_, rfl⟩
  have b2 : Below W1.heap.size W1 W2 := hW2 ▸ (Below.refl _ _).alloc (Nat.le_refl _) _
  have z2 : W2.heap.size = W1.heap.size + 1 := by rw [← hW2]; simp
  have q2' : Ints W2 (.slice (some ⟨w.heap.size + 1, 0, none⟩) 1 1) [-1] := by rw [← hW2, ← z1]; exact q2
  rw [hW2]
  have q3 := ints_lit W2 [1, -1] 3
  obtain ⟨W3, hW3⟩ : ∃ W3, W2.alloc (.cells #[.int .i64 1, .int .i64 (-1)] 3) = W3 := ⟨_, rfl⟩
  have b3 : Below W2.heap.size W2 W3 := hW3 ▸ (Below.refl _ _).alloc (Nat.le_refl _) _
  have z3 : W3.heap.size = W2.heap.size + 1 := by rw [← hW3]; simp
  have q3' : Ints W3 (.slice (some ⟨w.heap.size + 1 + 1, 0, none⟩) 2 2) [1, -1] := by rw [← hW3, ← z1, ← z2]; exact q3
  rw [hW3]
  clear q2 q3 hW1 hW2 hW3
  have HC := hid (unify_Meet _ _ _ sCN _ _ _ ((q1.below b2).below b3) (q2'.below b3) q3' (by simp [sCN]))
  have Q1 := hid ((q1.below b2).below b3)
  have bW3 : Below w.heap.size w W3 := (b1.trans (b2.mono b1.size)).trans (b3.mono (by omega))
  clear q1 q2' q3' b1 b2 b3
  refine HC.out.mono ?_
  rintro e w4 ⟨x, u, hx, rfl, hown, hb4'⟩
  have hx2 := meet_awake hx
  subst hx2
  simp only [List.length_cons, List.length_nil, Nat.zero_add, Nat.reduceAdd] at hown
  obtain ⟨g, cap, rfl, -⟩ := owns_some hown (by omega)
  have HI := hid (Ints.of_owns (w := w4) (xs := [1, -1]) hown (by simp))
  have hb4 := bW3.trans (hb4'.mono bW3.size)
  have S4 := hid (Q1.out.below hb4')
  have hz4 := hb4.size
  clear hx hown HC Q1 hb4' bW3
  go_wp2_with fail
  have q2 : Ints (w4.alloc (.cells #[.int .i64 0, .int .i64 (-1), .int .i64 (-1)] 3)) (.slice (some ⟨w4.heap.size, 0, none⟩) 3 3) [0, -1, -1] := ints_lit w4 [0, -1, -1] 3
  obtain ⟨W2, hW2⟩ : ∃ W2, w4.alloc (.cells #[.int .i64 0, .int .i64 (-1), .int .i64 (-1)] 3) = W2 := ⟨_, rfl⟩
  have b2 : Below w4.heap.size w4 W2 := hW2 ▸ (Below.refl _ _).alloc (Nat.le_refl _) _
  have z2 : W2.heap.size = w4.heap.size + 1 := by rw [← hW2]; simp
  rw [hW2] at q2 ⊢
  have q3 := ints_lit W2 [0, 1, -1, 1, -2] 3
  obtain ⟨W3, hW3⟩ : ∃ W3, W2.alloc (.cells #[.int .i64 0, .int .i64 1, .int .i64 (-1), .int .i64 1, .int .i64 (-2)] 3) = W3 := ⟨_, rfl⟩
  have b3 : Below W2.heap.size W2 W3 := hW3 ▸ (Below.refl _ _).alloc (Nat.le_refl _) _
  have q3' : Ints W3 (.slice (some ⟨w4.heap.size + 1, 0, none⟩) 5 5) [0, 1, -1, 1, -2] := by rw [← hW3, ← z2]; exact q3
  rw [hW3]
  clear q3 hW2 hW3
  have b23 : Below w4.heap.size w4 W3 := b2.trans (b3.mono (by omega))
  have HC := hid (unify_Join _ _ _ sCN _ _ _ (S4.out.below b23) (q2.below b3) q3' (by simp [sCN]))
  have b4 := hb4.trans (b23.mono hz4)
  have HI4 := hid (HI.out.below b23)
  clear q2 q3' b2 b3 z2 b23
  refine HC.out.mono ?_
  rintro e w5 ⟨x, u, hx, rfl, hown, hb5'⟩
  have hx2 := join_awake hx
  subst hx2
  simp only [List.length_cons, List.length_nil, Nat.zero_add, Nat.reduceAdd] at hown
  obtain ⟨g5, cap5, rfl, -⟩ := owns_some hown (by omega)
  have HJ := hid (Ints.of_owns (w := w5) (xs := [0, -1, -2]) hown (by simp))
  have hb5 := b4.trans (hb5'.mono b4.size)
  have HI5 := hid (HI4.out.below hb5')
  clear hx hown HC hb5' b4 HI4 HI S4 hb4
  go_wp2_with fail
  have q6 : Ints (w5.alloc (.cells #[.int .i64 1, .int .i64 (-1)] 3)) (.slice (some ⟨w5.heap.size, 0, none⟩) 2 2) [1, -1] := ints_lit w5 [1, -1] 3
  obtain ⟨W6, hW6⟩ : ∃ W6, w5.alloc (.cells #[.int .i64 1, .int .i64 (-1)] 3) = W6 := ⟨_, rfl⟩
  have b6 : Below w5.heap.size w5 W6 := hW6 ▸ (Below.refl _ _).alloc (Nat.le_refl _) _
  rw [hW6] at q6 ⊢
  refine (ref1_Same _ _ _ _ _ (HI5.out.below b6) q6).mono ?_
  rintro e w7 ⟨rfl, n7, rfl⟩
  have HJ7 := hid ((HJ.out.below b6).drewN n7)
  have hb7 := below_drewN (hb5.trans (b6.mono hb5.size)) n7
  have hdec : (decide ([1, -1] = ([1, -1] : List Int))) = true := rfl
  have HB7 := hid hb7
  rw [hdec]
  clear q6 b6 hb5 hb7 hW6 HJ HI5
  obtain ⟨W7, hW7⟩ : ∃ W7, W6.drewN n7 = W7 := ⟨_, rfl⟩
  rw [hW7] at HJ7 HB7 ⊢
  go_wp2_with fail
  have q8 : Ints (W7.alloc (.cells #[.int .i64 0, .int .i64 (-1), .int .i64 (-2)] 3)) (.slice (some ⟨W7.heap.size, 0, none⟩) 3 3) [0, -1, -2] := ints_lit W7 [0, -1, -2] 3
  have b8 : Below W7.heap.size W7 (W7.alloc (.cells #[.int .i64 0, .int .i64 (-1), .int .i64 (-2)] 3)) := (Below.refl _ _).alloc (Nat.le_refl _) _
  refine (ref1_Same _ _ _ _ _ (HJ7.out.below b8) q8).mono ?_
  rintro e w8 ⟨rfl, n8, rfl⟩
  have hdec2 : (decide ([0, -1, -2] = ([0, -1, -2] : List Int))) = true := rfl
  rw [hdec2]
  have HB8 := hid (below_drewN (HB7.out.trans (b8.mono HB7.out.size)) n8)
  clear q8 b8
  go_wp2
  go_ret
  exact ⟨rfl, HB8.out⟩
end Go.Proofs.Ytidigpfiagjeiaa
