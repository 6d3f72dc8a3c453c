/-
  WHAT IT HOLDS: contracts of solved, Meets, Meet, Unifiable, Unified, Detached of package unify and of made of its solver: what they answer, by most general binds. Conditions: the arguments read as data; small signs.
  WHAT IT HOLDS: plain laws of meets and joins: a common instance is one of the meet; what has both as instances has the join; meets and joins are valid. No program in sight.
-/
import Derived.Test.YtldgkidojepdlaaZRTopCarriedUnify22
import Derived.Test.YtldgkidojepdlaaZRTopCarriedUnify24
import Derived.Test.YtldgkidojepdlaaZRTopCarriedUnify25
import Derived.Test.YtldgkidojepdlaaZRTopCarriedUnify23
namespace Go.Proofs.Ytldgkidojepdlaa
open Go Go.RowKit Go.Maps
def madeB (F : List Int) : Bool := decide (F.length ≤ 60) && decide ((varsF [] F).length ≤ 12)
/-- what is made of t where a and b are unified. -/
def UR (s : Sg) (a b t : List Int) (x : List Int × Int) : Prop :=
  (NoU s a b ∧ x = ([], 8)) ∨ ∃ m, Mgu s a b m ∧ ((madeB (fw m t) = true ∧ x = (canonL (fw m t), 0)) ∨ (madeB (fw m t) = false ∧ x = ([], 4)))
theorem varsF_canon_len (t : List Int) : (varsF [] (canonL t)).length = (varsF [] t).length := by
  have h := varsF_map (ρ := numV (varsF [] t)) t [] (fun n _ h => numV_neg.2 h) (fun n _ h => by unfold numV; rw [if_neg (by omega)]) (fun n hn m _ h1 h2 e => numV_inj h1 h2 ((varsF_mem t [] n).2 (Or.inr ⟨by simpa using hn, h1⟩)) e) (by simp)
  rw [List.map_nil] at h
  unfold canonL
  rw [h, List.length_map]
theorem madeB_canon {F G : List Int} (h : canonL F = canonL G) : madeB F = madeB G := by
  have h1 : F.length = G.length := by have := congrArg List.length h; simpa [canonL_len] using this
  have h2 : (varsF [] F).length = (varsF [] G).length := by rw [← varsF_canon_len F, ← varsF_canon_len G, h]
  unfold madeB
  rw [h1, h2]
theorem UR.unique {s : Sg} {a b t : List Int} (ht : IsT s 24 t) {x y : List Int × Int} (h : UR s a b t x) (k : UR s a b t y) : x = y := by
  rcases h with ⟨h1, rfl⟩ | ⟨m, hm, h⟩
  · rcases k with ⟨_, rfl⟩ | ⟨m', hm', _⟩
    · rfl
    · exact (hm'.not_no h1).elim
  · rcases k with ⟨k1, _⟩ | ⟨m', hm', k⟩
    · exact (hm.not_no k1).elim
    · have hc := hm.canon hm' ht
      have hb := madeB_canon hc
      rcases h with ⟨h1, rfl⟩ | ⟨h1, rfl⟩ <;> rcases k with ⟨k1, rfl⟩ | ⟨k1, rfl⟩
      · rw [hc]
      · rw [hb, k1] at h1; cases h1
      · rw [hb, k1] at h1; cases h1
      · rfl
theorem aparL_sub (t : List Int) : aparL t = subL (fun n => [n - 12]) t := by
  induction t with
  | nil => rfl
  | cons n t ih =>
    by_cases h : n < 0
    · rw [subL_cons_var _ h, ← ih]; simp [aparL, h]
    · rw [subL_cons_app _ (by omega), ← ih]; simp [aparL, h]
theorem aparL_T {s : Sg} {t : List Int} (h : IsT s 12 t) : IsT s 24 (aparL t) := by
  rw [aparL_sub]
  exact h.sub fun n hn hn0 => .var _ (by have := h.vars n hn hn0; omega) (by omega)
theorem aparL_len (t : List Int) : (aparL t).length = t.length := by simp [aparL]
def MeetR (s : Sg) (a b : List Int) (x : List Int × Int) : Prop := if termB s a && termB s b then UR s a (aparL b) a x else x = ([], 1)
def UnifR (s : Sg) (a b : List Int) (x : List Int × Int) : Prop := if termB s a && termB s b then UR s a b a x else x = ([], 1)
/-- whether two terms have a unifier. -/
def HasU (s : Sg) (a b : List Int) : Prop := ∃ m, Mgu s a b m
theorem T_small12 {s : Sg} {t : List Int} (h : IsT s 12 t) (hs : s.length ≤ 12) : ∀ x ∈ t, -1000000 ≤ x ∧ x ≤ 1000000 := by
  intro x hx
  rcases h.range x hx with h | h <;> omega
/-- whether two terms meet. -/
def MeetsQ (s : Sg) (a b : List Int) : Prop := termB s a = true ∧ termB s b = true ∧ ¬ NoU s a (aparL b)
def MeetsA (s : Sg) (a b : List Int) (z : Bool) : Prop := z = true ↔ MeetsQ s a b
def JoinR (s : Sg) (a b : List Int) (x : List Int × Int) : Prop :=
  x = if termB s a && termB s b then (if (varsF [] (comW s a b []).1).length ≤ 12 then (canonL (comW s a b []).1, 0) else ([], 4)) else ([], 1)
theorem comW_range {s : Sg} (hs : s.length ≤ 12) {a : List Int} (ha : IsT s 12 a) (hl : a.length ≤ 60) (b : List Int) : ∀ x ∈ (comW s a b []).1, -1000000 ≤ x ∧ x ≤ 1000000 := by
  have key : ∀ (f : Nat) (a b : List Int) (σ : List KK), (∀ x ∈ a, x ≤ 12) → ∀ x ∈ (com s f a b σ).1, -((σ.length + a.length : Nat) : Int) - 1 ≤ x ∧ x ≤ 12 := by
    intro f
    induction f with
    | zero => intro a b σ _ x hx; simp [com] at hx
    | succ f ih =>
      intro a b σ ha x hx
      cases a with
      | nil => rw [com_nil] at hx; cases hx
      | cons y a =>
        cases b with
        | nil => rw [com_nil2] at hx; cases hx
        | cons z b =>
          unfold com at hx
          split at hx
          · simp only [List.mem_cons] at hx
            rcases hx with rfl | hx
            · have := ha x (by simp)
              rename_i hh
              refine ⟨?_, this⟩
              omega
            · have := ih a b σ (fun w hw => ha w (by simp [hw])) x hx
              simp at this ⊢; omega
          · simp only [List.mem_cons] at hx
            rcases hx with rfl | hx
            · unfold numK
              have := List.idxOf_le_length (a := (keyL ((y :: a).take (pLen s (y :: a) 1)), keyL ((z :: b).take (pLen s (z :: b) 1)))) (l := σ)
              simp only [List.length_cons]
              first | omega | (constructor <;> omega)
            · have h1 := ih _ _ _ (fun w hw => ha w (List.mem_of_mem_drop hw)) x hx
              have h2 := insK_len σ (keyL ((y :: a).take (pLen s (y :: a) 1)), keyL ((z :: b).take (pLen s (z :: b) 1)))
              have h3 := pLen_pos s y a
              simp only [List.length_drop, List.length_cons] at h1 ⊢
              omega
  intro x hx
  have := key a.length a b [] (fun y hy => by rcases ha.range y hy with h | h <;> omega) x hx
  simp at this
  omega
set_option maxHeartbeats 1000000 in
set_option maxRecDepth 100000 in
theorem unify_solved (vs va vb : Value) (s : Sg) (a b : List Int) (w : World) (hsg : signB s = true) (hT : IsT s 24 a) (hU : IsT s 24 b) (hla : a.length ≤ 60) (hlb : b.length ≤ 60) (hs : SignAt w vs s) (ra : Ints w va a) (rb : Ints w vb b) :
    Calls Try.prog 54 #[vs, va, vb] w fun e w' => Below w.heap.size w w' ∧ ∃ px, ((e = .returned (.tuple #[.pointer (some ⟨px, 0, none⟩), .bool false]) ∧ NoU s a b) ∨
      (e = .returned (.tuple #[.pointer (some ⟨px, 0, none⟩), .bool true]) ∧ ∃ bm M, SolvW w' px bm vs s M ∧ Mgu s a b (mOf M))) := by
  obtain ⟨sa, sc, hse, -⟩ := hs.open
  subst hse
  obtain ⟨aa, ac, hae, -⟩ := ra.open
  subst hae
  obtain ⟨ba, bc, hbe, -⟩ := rb.open
  subst hbe
  have hmm := @run_makeMap Try.prog
  have HS := hid hs
  have HA := hid ra
  have HB := hid rb
  clear hs ra rb
  go_enter Try.func54, Try.ntmps54
  go_wp2_with fail
  clear hmm
  have hb1 : Below w.heap.size w ((w.alloc (.map #[] 0)).alloc (.cells #[.slice sa s.length sc, .map (some w.heap.size)] 109)) := ((Below.refl _ _).alloc (Nat.le_refl _) _).alloc (by simp) _
  have c0 : ((w.alloc (.map #[] 0)).alloc (.cells #[.slice sa s.length sc, .map (some w.heap.size)] 109)).cell? ⟨w.heap.size + 1, 0, none⟩ = some (.slice sa s.length sc) := by
    have := World.cell?_alloc_new (w := w.alloc (.map #[] 0)) #[.slice sa s.length sc, .map (some w.heap.size)] 109 0
    rw [World.size_alloc] at this
    rw [this]; rfl
  have c1 : ((w.alloc (.map #[] 0)).alloc (.cells #[.slice sa s.length sc, .map (some w.heap.size)] 109)).cell? ⟨w.heap.size + 1, 1, none⟩ = some (.map (some w.heap.size)) := by
    have := World.cell?_alloc_new (w := w.alloc (.map #[] 0)) #[.slice sa s.length sc, .map (some w.heap.size)] 109 1
    rw [World.size_alloc] at this
    rw [this]; rfl
  have km := (MapK.made Try.prog 3 eI eV w).alloc (.cells #[.slice sa s.length sc, .map (some w.heap.size)] 109)
  have hS0 : SolvW ((w.alloc (.map #[] 0)).alloc (.cells #[.slice sa s.length sc, .map (some w.heap.size)] 109)) (w.heap.size + 1) w.heap.size (.slice sa s.length sc) s (fun _ => none) := ⟨c0, c1, HS.out.below hb1, ⟨0, km⟩, fun _ _ _ h => by cases h⟩
  refine Calls.mono (unify_solve (w.heap.size + 1) w.heap.size _ _ _ s _ a b _ hsg hT hU hla hlb (HA.out.below hb1) (HB.out.below hb1) hS0 rfl) ?_
  rintro e w2 ⟨hg, ⟨rfl, hn⟩ | ⟨rfl, M, n, hM, hmgu, hi⟩⟩
  · have HB2 := hid (hb1.grown hg hb1.size (fun q hq => by cases hq; exact Nat.le_refl _))
    have HN := hid hn
    clear hg hn hS0 km c0 c1 hb1
    go_wp2
    go_ret2
    exact ⟨HB2.out, _, Or.inl ⟨rfl, HN.out⟩⟩
  · have HB2 := hid (hb1.grown hg hb1.size (fun q hq => by cases hq; exact Nat.le_refl _))
    have HMG := hid hmgu
    have HS2 : Hid (SolvW w2 (w.heap.size + 1) w.heap.size (.slice sa s.length sc) s M) := hid ⟨km.cell rfl hg c0, km.cell rfl hg c1, km.signAt rfl hg hS0.sgn, ⟨n, hM⟩, fun x v l h => km.ints rfl hg (hi x v l h)⟩
    clear hg hmgu hM hi hS0 km c0 c1 hb1
    go_wp2
    go_ret2
    exact ⟨HB2.out, _, Or.inr ⟨rfl, _, M, HS2.out, HMG.out⟩⟩
theorem fw_small {s : Sg} {m : MM} (hm : MOK s m) {t : List Int} (hT : IsT s 24 t) (hs : s.length ≤ 1000) : ∀ x ∈ fw m t, -1000000 ≤ x ∧ x ≤ 1000000 := by
  intro x hx
  rcases (fw_T hm hT).range x hx with h | h <;> omega
set_option maxHeartbeats 1000000 in
theorem unify_made (px bm : Nat) (vs vt : Value) (s : Sg) (M : Int → Option VT) (t : List Int) (w : World) (hm : MOK s (mOf M)) (hS : SolvW w px bm vs s M) (hT : IsT s 24 t) (hl : t.length ≤ 60) (ra : Ints w vt t) (hsl : s.length ≤ 1000) :
    Calls Try.prog 55 #[.pointer (some ⟨px, 0, none⟩), vt] w fun e w' => Below w.heap.size w w' ∧
      ((madeB (fw (mOf M) t) = true ∧ ∃ u, e = .returned (.tuple #[u, .int .i64 0]) ∧ w'.ownsRow w.heap.size 3 1 u (canonL (fw (mOf M) t)).length ((canonL (fw (mOf M) t)).map (Value.int .i64))) ∨
       (madeB (fw (mOf M) t) = false ∧ e = .returned (.tuple #[.slice none 0 0, .int .i64 4]))) := by
  have HF := hid (unify_full px bm vs vt s M t w hm hS hT hl ra hsl)
  have HSM := hid (fw_small hm hT hsl)
  obtain ⟨ta, tc, hte, -⟩ := ra.open
  subst hte
  obtain ⟨F, hFe⟩ : ∃ F, fw (mOf M) t = F := ⟨_, rfl⟩
  rw [hFe] at HF HSM ⊢
  clear hm hS hT ra hFe
  go_enter Try.func55, Try.ntmps55
  go_wp2_with fail
  refine HF.out.mono ?_
  rintro e w1 ⟨u, hb1, ⟨rfl, hl1, hown⟩ | ⟨rfl, hbig⟩⟩
  · have hI := Ints.of_owns hown (by omega)
    have HN := hid (unify_named u F w1 hI (by omega) HSM.out)
    obtain ⟨ua, uc, hue, -⟩ := hI.open
    subst hue
    have HB1 := hid hb1
    have hsz := hb1.size
    clear hI hown hb1
    cases hv : decide ((varsF [] F).length ≤ 12)
    · have HMB : Hid (madeB F = false) := hid (by unfold madeB; rw [hv]; simp)
      rw [hv] at HN
      clear hv
      go_wp2_with fail
      refine HN.out.mono ?_
      rintro e w2 ⟨u2, rfl, hown2, hb2⟩
      have HB2 := hid (HB1.out.trans (hb2.mono hsz))
      clear hown2 hb2
      go_wp2
      go_ret2
      exact ⟨HB2.out, Or.inr ⟨HMB.out, rfl⟩⟩
    · have HMB : Hid (madeB F = true) := hid (by unfold madeB; rw [hv]; simpa using hl1)
      rw [hv] at HN
      clear hv
      go_wp2_with fail
      refine HN.out.mono ?_
      rintro e w2 ⟨u2, rfl, hown2, hb2⟩
      have HB2 := hid (HB1.out.trans (hb2.mono hsz))
      have HOW := hid (owns_base hown2 hsz)
      clear hown2 hb2
      go_wp2
      go_ret2
      exact ⟨HB2.out, Or.inl ⟨HMB.out, _, rfl, HOW.out⟩⟩
  · have HMB : Hid (madeB F = false) := hid (by unfold madeB; rw [decide_eq_false (by omega)]; rfl)
    have HB1 := hid hb1
    clear hb1
    go_wp2
    go_ret2
    exact ⟨HB1.out, Or.inr ⟨HMB.out, rfl⟩⟩
end Go.Proofs.Ytldgkidojepdlaa
namespace Go.Proofs.Ytldgkidojepdlaa
theorem unif_of_inst {s : Sg} {a b c : List Int} (ha : IsT s 12 a) (hb : IsT s 12 b) (h0 : Inst s 12 a c) (h1 : Inst s 12 b c) : ∃ σ : Int → List Int, (∀ v, -24 ≤ v → v < 0 → IsT s 12 (σ v)) ∧ subL σ a = c ∧ subL σ (aparL b) = c := by
  obtain ⟨σ0, g0, e0⟩ := h0
  obtain ⟨σ1, g1, e1⟩ := h1
  refine ⟨fun n => if -12 ≤ n then (if n ∈ a then σ0 n else [n]) else (if n + 12 ∈ b then σ1 (n + 12) else [-1]), fun v h1 h2 => ?_, ?_, ?_⟩
  · (try simp only)
    split
    · split
      · rename_i h; exact g0 v h h2
      · exact .var v (by omega) h2
    · split
      · rename_i h; exact g1 _ h (by omega)
      · exact .var _ (by omega) (by omega)
  · rw [← e0]
    refine subL_congr fun n hn hn0 => ?_
    have := ha.vars n hn hn0
    (try simp only)
    rw [if_pos (by omega), if_pos hn]
  · rw [← e1, aparL_sub, subL_comp]
    refine subL_congr fun n hn hn0 => ?_
    (try simp only)
    rw [subL_one, if_pos (by omega), if_neg (by omega), show n - 12 + 12 = n by omega, if_pos hn]
theorem madeB_iff {F : List Int} : madeB F = true ↔ F.length ≤ 60 ∧ (varsF [] F).length ≤ 12 := by simp [madeB]
theorem made_term {s : Sg} {q : Int} {F : List Int} (hs : signB s = true) (hT : IsT s q F) (h : madeB F = true) : termB s (canonL F) = true := by
  obtain ⟨h1, h2⟩ := madeB_iff.1 h
  exact T_termB hs (canonL_T hT h2) (by rw [canonL_len]; exact h1)
theorem bounds_meet {s : Sg} {t0 t1 t2 : List Int} {x : List Int × Int} (h0 : instB s t0 t2 = true) (h1 : instB s t1 t2 = true) (hx : MeetR s t0 t1 x) : (¬ NoU s t0 (aparL t1)) ∧ ((x.2 = 0 ∧ instB s x.1 t2 = true) ∨ x.2 = 4) := by
  obtain ⟨v0, v2, i0⟩ := instB_iff.1 h0
  obtain ⟨v1, _, i1⟩ := instB_iff.1 h1
  have T0 := termB_T v0
  have T1 := termB_T v1
  have T2 := termB_T v2
  obtain ⟨σ, g, e0, e1⟩ := unif_of_inst T0 T1 i0 i1
  have hTS : TS s σ := ⟨12, g⟩
  have hno : ¬ NoU s t0 (aparL t1) := fun h => h σ hTS (e0.trans e1.symm)
  refine ⟨hno, ?_⟩
  unfold MeetR at hx
  rw [v0, v1] at hx
  simp only [Bool.and_self, if_true] at hx
  rcases hx with ⟨h, _⟩ | ⟨m, hm, ⟨hb, rfl⟩ | ⟨hb, rfl⟩⟩
  · exact absurd h hno
  · left
    refine ⟨rfl, ?_⟩
    have hF := fw_T hm.1 (T0.mono (m' := 24) (by omega))
    have hv := made_term (termB_facts v0).1 hF hb
    refine instB_iff.2 ⟨hv, v2, Inst.down (q := 24) (by omega) (termB_T hv) T2 ((inst_canon hF).trans ⟨σ, fun n hn hn0 => (g n (hF.vars n hn hn0) hn0).mono (by omega), ?_⟩)⟩
    rw [hm.gen hTS (e0.trans e1.symm), e0]
  · exact Or.inr rfl
theorem bounds_join {s : Sg} {t0 t1 t2 : List Int} {x : List Int × Int} (h0 : instB s t2 t0 = true) (h1 : instB s t2 t1 = true) (hx : JoinR s t0 t1 x) : (x.2 = 0 ∧ instB s t2 x.1 = true) ∨ x.2 = 4 := by
  obtain ⟨v2, v0, i0⟩ := instB_iff.1 h0
  obtain ⟨_, v1, i1⟩ := instB_iff.1 h1
  have T0 := termB_T v0
  have T1 := termB_T v1
  have T2 := termB_T v2
  have hf := termB_facts v0
  obtain ⟨j1, j2, j3, j4⟩ := join_facts hf.2.2.1 T0 T1 hf.2.2.2
  have hl := (comW_len s t0 t1 []).1
  unfold JoinR at hx
  rw [v0, v1] at hx
  simp only [Bool.and_self, if_true] at hx
  by_cases hv : (varsF [] (comW s t0 t1 []).1).length ≤ 12
  · rw [if_pos hv] at hx
    subst hx
    left
    refine ⟨rfl, ?_⟩
    have hT := canonL_T j1 hv
    have hx := T_termB hf.1 hT (by rw [canonL_len]; omega)
    refine instB_iff.2 ⟨v2, hx, Inst.down (q := 60) (by omega) T2 hT ((j4 t2 i0 i1).trans (canon_inst (hT.mono (by omega)) (canonL_canon _).symm))⟩
  · rw [if_neg hv] at hx
    subst hx
    exact Or.inr rfl
end Go.Proofs.Ytldgkidojepdlaa
