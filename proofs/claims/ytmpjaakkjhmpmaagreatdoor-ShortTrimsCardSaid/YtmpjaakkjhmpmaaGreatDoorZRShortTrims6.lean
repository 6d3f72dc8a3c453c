/-
  WHAT IT HOLDS: plain theory of unification: what binds that lean on each other make of a term, that they are most general while two terms are solved step by step, and that each step keeps this. No program in sight. Condition: the lists are terms.
  WHAT IT HOLDS: plain theory of unification, the steps: what the state of a solver says (UInv), that each step of the solver keeps it and comes nearer to the end, and what the end says (Mgu, or no unifier). No program in sight. Condition: the lists are terms.
-/
import Derived.Test.YtmpjaakkjhmpmaaGreatDoorZRShortTrims1
namespace Go.Proofs.YtmpjaakkjhmpmaaGreatDoor

/-- a substitution does what m says. -/
def Sol (m : MM) (σ : Int → List Int) : Prop := ∀ v p, m v = some p → σ v = subL σ p
/-- a substitution of terms. -/
def TS (s : Sg) (σ : Int → List Int) : Prop := ∃ q, ∀ v, -24 ≤ v → v < 0 → IsT s q (σ v)
/-- a rank that shows that nothing leans on itself. -/
def Rk (m : MM) (r : Int → Nat) : Prop := ∀ v p, m v = some p → ∀ x ∈ p, x < 0 → r x < r v
structure MOK (s : Sg) (m : MM) : Prop where
  val : ∀ v p, m v = some p → -24 ≤ v ∧ v < 0 ∧ IsT s 24 p ∧ p.length ≤ 60
  rank : ∃ r : Int → Nat, Rk m r ∧ ∀ v, r v ≤ 24

def full (m : MM) : Nat → List Int → List Int
  | 0, t => t
  | k + 1, t => subL (fun n => match m n with | some p => full m k p | none => [n]) t
/-- a term with all that is bound put in. -/
def fw (m : MM) (t : List Int) : List Int := full m 25 t
def sg (m : MM) (n : Int) : List Int := fw m [n]

theorem filter_lt {α : Type} (P Q : α → Bool) : ∀ (l : List α), (∀ a ∈ l, P a = true → Q a = true) → (∃ a ∈ l, P a = false ∧ Q a = true) → (l.filter P).length < (l.filter Q).length
  | [], _, h => by obtain ⟨a, ha, _⟩ := h; cases ha
  | a :: l, h1, h2 => by
    have hle : ∀ (l : List α), (∀ a ∈ l, P a = true → Q a = true) → (l.filter P).length ≤ (l.filter Q).length := by
      intro l
      induction l with
      | nil => intro _; simp
      | cons b l ih =>
        intro h
        have := ih fun x hx => h x (by simp [hx])
        have hb := h b (by simp)
        simp only [List.filter_cons]
        cases hP : P b
        · cases hQ : Q b <;> simp <;> omega
        · rw [hb hP]; simp; omega
    have h1' : ∀ x ∈ l, P x = true → Q x = true := fun x hx => h1 x (by simp [hx])
    have hb := h1 a (by simp)
    obtain ⟨x, hx, hPx, hQx⟩ := h2
    simp only [List.filter_cons]
    rcases List.mem_cons.1 hx with rfl | hx
    · rw [hPx, hQx]
      have := hle l h1'
      simp; omega
    · have := filter_lt P Q l h1' ⟨x, hx, hPx, hQx⟩
      cases hP : P a
      · cases hQ : Q a <;> simp <;> omega
      · rw [hb hP]; simp; omega
/-- a rank among 24 variables is at most 24. -/
theorem rank_small {s : Sg} {m : MM} (h : ∀ v p, m v = some p → -24 ≤ v ∧ v < 0 ∧ IsT s 24 p ∧ p.length ≤ 60) {r : Int → Nat} (hr : Rk m r) : ∃ r : Int → Nat, Rk m r ∧ ∀ v, r v ≤ 24 := by
  refine ⟨fun v => ((List.range 24).filter fun i : Nat => decide (r (-(i : Int) - 1) < r v)).length, fun v p hv x hx hx0 => ?_, fun v => ?_⟩
  · have h1 := hr v p hv x hx hx0
    have h2 := ((h v p hv).2.2.1).vars x hx hx0
    refine filter_lt _ _ _ (fun a _ ha => ?_) ⟨(-x - 1).toNat, List.mem_range.2 (by omega), ?_, ?_⟩
    · simp only [decide_eq_true_eq] at ha ⊢; omega
    · simp only [decide_eq_false_iff_not]; rw [show -(((-x - 1).toNat : Nat) : Int) - 1 = x by omega]; omega
    · simp only [decide_eq_true_eq]; rw [show -(((-x - 1).toNat : Nat) : Int) - 1 = x by omega]; exact h1
  · have := List.length_filter_le (fun i : Nat => decide (r (-(i : Int) - 1) < r v)) (List.range 24)
    simpa using this

theorem full_append (m : MM) (k : Nat) (a b : List Int) : full m k (a ++ b) = full m k a ++ full m k b := by
  cases k with
  | zero => rfl
  | succ k => exact subL_append _ _ _
theorem full_nil (m : MM) (k : Nat) : full m k [] = [] := by cases k <;> rfl
theorem full_app (m : MM) (k : Nat) {c : Int} (h : 0 ≤ c) (a : List Int) : full m k (c :: a) = c :: full m k a := by
  cases k with
  | zero => rfl
  | succ k => exact subL_cons_app _ h _
theorem full_step {m : MM} {r : Int → Nat} (hr : Rk m r) : ∀ (k : Nat) (t : List Int), (∀ n ∈ t, n < 0 → r n < k) → full m (k + 1) t = full m k t
  | 0, t, h => by
    show subL _ t = t
    have : subL (fun n => match m n with | some p => full m 0 p | none => [n]) t = subL (fun n => [n]) t := subL_congr fun n hn hn0 => absurd (h n hn hn0) (by omega)
    rw [this, subL_id]
  | k + 1, t, h => by
    show subL _ t = subL _ t
    refine subL_congr fun n hn hn0 => ?_
    cases hm : m n with
    | none => rfl
    | some p =>
      simp only
      exact full_step hr k p fun x hx hx0 => by have := hr n p hm x hx hx0; have := h n hn hn0; omega
theorem fw_eq {s : Sg} {m : MM} (h : MOK s m) (t : List Int) : fw m t = subL (fun n => match m n with | some p => fw m p | none => [n]) t := by
  obtain ⟨r, hr, hb⟩ := h.rank
  unfold fw
  rw [← full_step hr 25 t fun n _ _ => by have := hb n; omega]
  rfl
theorem sg_eq {s : Sg} {m : MM} (h : MOK s m) {n : Int} (hn : n < 0) : sg m n = match m n with | some p => fw m p | none => [n] := by
  unfold sg
  rw [fw_eq h, subL_one, if_pos hn]
theorem sg_none {s : Sg} {m : MM} (h : MOK s m) {n : Int} (hn : n < 0) (hm : m n = none) : sg m n = [n] := by rw [sg_eq h hn, hm]
theorem sg_some {s : Sg} {m : MM} (h : MOK s m) {n : Int} {p : List Int} (hm : m n = some p) : sg m n = fw m p := by rw [sg_eq h (h.val n p hm).2.1, hm]
theorem fw_sub {s : Sg} {m : MM} (h : MOK s m) (t : List Int) : fw m t = subL (sg m) t := by
  rw [fw_eq h]
  exact subL_congr fun n _ hn => (sg_eq h hn).symm
theorem sg_sol {s : Sg} {m : MM} (h : MOK s m) : Sol m (sg m) := fun v p hv => by rw [sg_some h hv, fw_sub h]
theorem fw_append (m : MM) (a b : List Int) : fw m (a ++ b) = fw m a ++ fw m b := full_append m 25 a b
theorem fw_app (m : MM) {c : Int} (h : 0 ≤ c) (a : List Int) : fw m (c :: a) = c :: fw m a := full_app m 25 h a
theorem sol_full {m : MM} {σ : Int → List Int} (h : Sol m σ) : ∀ (k : Nat) (t : List Int), subL σ (full m k t) = subL σ t
  | 0, t => rfl
  | k + 1, t => by
    show subL σ (subL _ t) = _
    rw [subL_comp]
    refine subL_congr fun n hn hn0 => ?_
    cases hm : m n with
    | none => simp only; rw [subL_one, if_pos hn0]
    | some p => simp only; rw [sol_full h k p, h n p hm]
theorem sol_fw {m : MM} {σ : Int → List Int} (h : Sol m σ) (t : List Int) : subL σ (fw m t) = subL σ t := sol_full h 25 t
theorem full_T {s : Sg} {m : MM} (h : MOK s m) : ∀ (k : Nat) {t : List Int}, IsT s 24 t → IsT s 24 (full m k t)
  | 0, t, ht => ht
  | k + 1, t, ht => by
    refine IsT.sub ht fun n hn hn0 => ?_
    cases hm : m n with
    | none => exact .var n (ht.vars n hn hn0) hn0
    | some p => exact full_T h k (h.val n p hm).2.2.1
theorem fw_T {s : Sg} {m : MM} (h : MOK s m) {t : List Int} (ht : IsT s 24 t) : IsT s 24 (fw m t) := full_T h 25 ht
theorem sg_T {s : Sg} {m : MM} (h : MOK s m) {n : Int} (h1 : -24 ≤ n) (h2 : n < 0) : IsT s 24 (sg m n) := fw_T h (.var n h1 h2)
theorem sg_TS {s : Sg} {m : MM} (h : MOK s m) : TS s (sg m) := ⟨24, fun v h1 h2 => sg_T h h1 h2⟩
theorem subL_T {s : Sg} {σ : Int → List Int} {q : Int} (h : ∀ v, -24 ≤ v → v < 0 → IsT s q (σ v)) {t : List Int} (ht : IsT s 24 t) : IsT s q (subL σ t) :=
  IsT.sub ht fun n hn hn0 => h n (ht.vars n hn hn0) hn0

/-! ### sizes -/
theorem subL_len_le {σ : Int → List Int} {B : Nat} (hB : 1 ≤ B) : ∀ (t : List Int), (∀ n ∈ t, n < 0 → (σ n).length ≤ B) → (subL σ t).length ≤ B * t.length
  | [], _ => by simp [subL]
  | n :: t, h => by
    have ih := subL_len_le hB t fun x hx => h x (by simp [hx])
    rw [List.length_cons, Nat.mul_succ]
    by_cases hn : n < 0
    · rw [subL_cons_var _ hn, List.length_append]
      have := h n (by simp) hn
      omega
    · rw [subL_cons_app _ (by omega), List.length_cons]
      omega
theorem full_len {s : Sg} {m : MM} (h : MOK s m) : ∀ (k : Nat) (t : List Int), (full m k t).length ≤ 60 ^ k * t.length
  | 0, t => by simp [full]
  | k + 1, t => by
    have hp : 1 ≤ 60 ^ (k + 1) := Nat.pos_of_ne_zero (by simp)
    refine subL_len_le hp t fun n hn hn0 => ?_
    cases hm : m n with
    | none => simpa using hp
    | some p =>
      have h1 := full_len h k p
      have h2 := (h.val n p hm).2.2.2
      simp only
      calc (full m k p).length ≤ 60 ^ k * p.length := h1
        _ ≤ 60 ^ k * 60 := Nat.mul_le_mul_left _ h2
        _ = 60 ^ (k + 1) := (Nat.pow_succ ..).symm
theorem fw_len {s : Sg} {m : MM} (h : MOK s m) {t : List Int} (ht : t.length ≤ 60) : (fw m t).length ≤ 60 ^ 26 :=
  calc (fw m t).length ≤ 60 ^ 25 * t.length := full_len h 25 t
    _ ≤ 60 ^ 25 * 60 := Nat.mul_le_mul_left _ ht
    _ = 60 ^ 26 := (Nat.pow_succ ..).symm

/-! ### depths -/
inductive Ht (s : Sg) : Nat → List Int → Prop
  | var (h : Nat) (n : Int) : n < 0 → Ht s h [n]
  | app (h : Nat) (c : Nat) (ars : List (List Int)) : (ars.length : Int) = arOf s c → (∀ a ∈ ars, IsT s 24 a) → (∀ a ∈ ars, Ht s h a) → Ht s (h + 1) ((c : Int) :: ars.flatten)
theorem Ht.mono {s : Sg} {h : Nat} {t : List Int} (H : Ht s h t) : ∀ {h' : Nat}, h ≤ h' → Ht s h' t := by
  induction H with
  | var h n hn => intro h' _; exact .var h' n hn
  | app h c ars h1 h2 h3 ih =>
    intro h' hh
    obtain ⟨q, rfl⟩ : ∃ q, h' = q + 1 := ⟨h' - 1, by omega⟩
    exact .app q c ars h1 h2 fun a ha => ih a ha (by omega)
theorem IsT.ht {s : Sg} {t : List Int} (h : IsT s 24 t) : Ht s t.length t := by
  induction h with
  | var n h1 h2 => exact .var _ n h2
  | app c ars h1 h2 h3 ih =>
    rw [List.length_cons]
    refine .app _ c ars h2 h3 fun a ha => (ih a ha).mono ?_
    have : ∀ (bs : List (List Int)), a ∈ bs → a.length ≤ bs.flatten.length := by
      intro bs
      induction bs with
      | nil => intro h; cases h
      | cons b bs ihb =>
        intro h
        rw [List.flatten_cons, List.length_append]
        rcases List.mem_cons.1 h with rfl | h
        · omega
        · have := ihb h; omega
    exact this ars ha
theorem subL_flatten (σ : Int → List Int) : ∀ (ars : List (List Int)), subL σ ars.flatten = (ars.map (subL σ)).flatten
  | [] => rfl
  | a :: ars => by rw [List.flatten_cons, subL_append, subL_flatten σ ars, List.map_cons, List.flatten_cons]
theorem subL_node (σ : Int → List Int) (c : Nat) (ars : List (List Int)) : subL σ ((c : Int) :: ars.flatten) = (c : Int) :: (ars.map (subL σ)).flatten := by
  rw [subL_cons_app _ (by omega), subL_flatten]
theorem Ht.sub {s : Sg} {σ : Int → List Int} {h' : Nat} {h : Nat} {t : List Int} (H : Ht s h t) : (∀ n ∈ t, n < 0 → Ht s h' (σ n) ∧ IsT s 24 (σ n)) → Ht s (h + h') (subL σ t) := by
  induction H with
  | var h n hn =>
    intro hs
    rw [subL_one, if_pos hn]
    exact (hs n (by simp) hn).1.mono (by omega)
  | app h c ars h1 h2 h3 ih =>
    intro hs
    have hs' : ∀ a ∈ ars, ∀ n ∈ a, n < 0 → Ht s h' (σ n) ∧ IsT s 24 (σ n) := fun a ha n hn => hs n (by simp only [List.mem_cons, List.mem_flatten]; exact Or.inr ⟨a, ha, hn⟩)
    rw [subL_node, show h + 1 + h' = h + h' + 1 by omega]
    refine .app _ c _ (by simpa using h1) (fun b hb => ?_) fun b hb => ?_
    · obtain ⟨a, ha, rfl⟩ := List.mem_map.1 hb
      exact IsT.sub (h2 a ha) fun n hn hn0 => (hs' a ha n hn hn0).2
    · obtain ⟨a, ha, rfl⟩ := List.mem_map.1 hb
      exact ih a ha (hs' a ha)
theorem full_ht {s : Sg} {m : MM} (h : MOK s m) : ∀ (k : Nat) {t : List Int}, IsT s 24 t → t.length ≤ 60 → Ht s (60 + 60 * k) (full m k t)
  | 0, t, ht, hl => ht.ht.mono (by omega)
  | k + 1, t, ht, hl => by
    have h1 := Ht.sub (s := s) (σ := fun n => match m n with | some p => full m k p | none => [n]) (h' := 60 + 60 * k) ht.ht fun n hn hn0 => by
      cases hm : m n with
      | none => exact ⟨.var _ n hn0, .var n (ht.vars n hn hn0) hn0⟩
      | some p => exact ⟨full_ht h k (h.val n p hm).2.2.1 (h.val n p hm).2.2.2, full_T h k (h.val n p hm).2.2.1⟩
    exact h1.mono (by omega)
theorem fw_ht {s : Sg} {m : MM} (h : MOK s m) {t : List Int} (ht : IsT s 24 t) (hl : t.length ≤ 60) : Ht s 1560 (fw m t) := (full_ht h 25 ht hl).mono (by omega)
/-- a term lies in another one, so many symbols down. -/
inductive Dp (s : Sg) : Nat → List Int → List Int → Prop
  | here (t : List Int) : Dp s 0 t t
  | down (d : Nat) (c : Nat) (ars : List (List Int)) (u a : List Int) : (ars.length : Int) = arOf s c → (∀ a ∈ ars, IsT s 24 a) → a ∈ ars → Dp s d u a → Dp s (d + 1) u ((c : Int) :: ars.flatten)
theorem Dp.le {s : Sg} {d : Nat} {u t : List Int} (H : Dp s d u t) : ∀ {h : Nat}, Ht s h t → d ≤ h := by
  induction H with
  | here t => intro h _; omega
  | down d c ars u a h1 h2 h3 h4 ih =>
    intro h hh
    generalize ht : (c : Int) :: ars.flatten = t at hh
    cases hh with
    | var h n hn => simp at ht; omega
    | app h c' ars' g1 g2 g3 =>
      have hc : c = c' := by have := (List.cons.inj ht).1; omega
      subst hc
      have := app_unique h2 g2 (by omega) ht
      subst this
      have := ih (g3 a h3)
      omega
theorem Dp.sub {s : Sg} {σ : Int → List Int} (hσ : ∀ v, -24 ≤ v → v < 0 → IsT s 24 (σ v)) {d : Nat} {u t : List Int} (H : Dp s d u t) : Dp s d (subL σ u) (subL σ t) := by
  induction H with
  | here t => exact .here _
  | down d c ars u a h1 h2 h3 h4 ih =>
    rw [subL_node]
    refine .down d c _ _ (subL σ a) (by simpa using h1) (fun b hb => ?_) (List.mem_map.2 ⟨a, h3, rfl⟩) ih
    obtain ⟨x, hx, rfl⟩ := List.mem_map.1 hb
    exact subL_T hσ (h2 x hx)
/-- what lies under what lies in a term. -/
theorem Dp.arg {s : Sg} {d : Nat} {u t : List Int} (H : Dp s d u t) : ∀ {c : Nat} {ars : List (List Int)} {a : List Int}, u = (c : Int) :: ars.flatten → (ars.length : Int) = arOf s c → (∀ a ∈ ars, IsT s 24 a) → a ∈ ars → Dp s (d + 1) a t := by
  induction H with
  | here t => intro c ars a e h1 h2 h3; rw [e]; exact .down 0 c ars a a h1 h2 h3 (.here a)
  | down d c ars u a h1 h2 h3 h4 ih => intro c' ars' a' e g1 g2 g3; exact .down _ c ars _ a h1 h2 h3 (ih e g1 g2 g3)

/-! ### what a variable leads to -/
inductive Reach (m : MM) : List Int → Int → Prop
  | here (t : List Int) (v : Int) : v ∈ t → v < 0 → Reach m t v
  | step (t : List Int) (v n : Int) (p : List Int) : n ∈ t → n < 0 → m n = some p → Reach m p v → Reach m t v
theorem Reach.fw {s : Sg} {m : MM} (h : MOK s m) {v : Int} (hm : m v = none) {t : List Int} (H : Reach m t v) : v ∈ fw m t := by
  induction H with
  | here t v h1 h2 =>
    rw [fw_sub h]
    exact mem_subL h1 h2 (by rw [sg_none h h2 hm]; simp)
  | step t v n p h1 h2 h3 h4 ih =>
    rw [fw_sub h]
    exact mem_subL h1 h2 (by rw [sg_some h h3]; exact ih hm)
theorem Reach.neg {m : MM} {v : Int} {t : List Int} (H : Reach m t v) : v < 0 := by
  induction H with
  | here _ _ _ h => exact h
  | step _ _ _ _ _ _ _ _ ih => exact ih
theorem reach_one {m : MM} {v x : Int} {t : List Int} (hx : x ∈ t) (H : Reach m [x] v) : Reach m t v := by
  generalize hy : [x] = y at H
  cases H with
  | here t' v h1 h2 => subst hy; simp at h1; subst h1; exact .here _ _ hx h2
  | step t' v n p h1 h2 h3 h4 => subst hy; simp at h1; subst h1; exact .step _ _ n p hx h2 h3 h4
theorem subL_mem_len {s : Sg} {q : Int} {σ : Int → List Int} : ∀ (t : List Int) {v : Int}, v ∈ t → v < 0 → (∀ n ∈ t, n < 0 → IsT s q (σ n)) → (σ v).length ≤ (subL σ t).length
  | [], v, h, _, _ => by cases h
  | n :: t, v, h, hv, hT => by
    rcases List.mem_cons.1 h with rfl | h
    · rw [subL_cons_var _ hv, List.length_append]; omega
    · have := subL_mem_len t h hv fun x hx => hT x (by simp [hx])
      by_cases hn : n < 0
      · rw [subL_cons_var _ hn, List.length_append]; omega
      · rw [subL_cons_app _ (by omega), List.length_cons]; omega
/-- a variable that comes in a term is never equal to it. -/
theorem occurs_no {s : Sg} {m : MM} (h : MOK s m) {v c : Int} {q : List Int} (hm : m v = none) (hc : 0 ≤ c) (hq : IsT s 24 (c :: q)) (H : Reach m (c :: q) v) {σ : Int → List Int} (hT : TS s σ) (hσ : Sol m σ) : σ v ≠ subL σ (c :: q) := by
  intro e
  obtain ⟨w, hw⟩ := hT
  have h1 := H.fw h hm
  have h2 := fw_T h hq
  rw [← sol_fw hσ, fw_app _ hc] at e
  rw [fw_app _ hc] at h1 h2
  have hv : v < 0 := H.neg
  rw [subL_cons_app _ hc] at e
  have h3 : v ∈ fw m q := by
    rcases List.mem_cons.1 h1 with h | h
    · omega
    · exact h
  have := subL_mem_len (s := s) (q := w) (σ := σ) (fw m q) h3 hv fun n hn hn0 => hw n (h2.vars n (by simp [hn]) hn0) hn0
  have := congrArg List.length e
  simp at this
  omega
theorem updM_same (m : MM) (v : Int) (q : List Int) : updM m v q v = some q := by simp [updM]
theorem updM_ne (m : MM) {v x : Int} (q : List Int) (h : x ≠ v) : updM m v q x = m x := by simp [updM, h]
/-- a variable that does not come in a term may become it. -/
theorem MOK.bind {s : Sg} {m : MM} (h : MOK s m) {v : Int} {q : List Int} (h1 : -24 ≤ v) (h2 : v < 0) (hq : IsT s 24 q) (hl : q.length ≤ 60) (H : ¬ Reach m q v) : MOK s (updM m v q) := by
  have hval : ∀ x p, updM m v q x = some p → -24 ≤ x ∧ x < 0 ∧ IsT s 24 p ∧ p.length ≤ 60 := by
    intro x p hx
    by_cases e : x = v
    · subst e; rw [updM_same] at hx; cases hx; exact ⟨h1, h2, hq, hl⟩
    · rw [updM_ne m q e] at hx; exact h.val x p hx
  refine ⟨hval, ?_⟩
  obtain ⟨r, hr, hb⟩ := h.rank
  have hd : ∀ n : Int, ∃ b : Bool, b = true ↔ Reach m [n] v := fun n => by
    by_cases hh : Reach m [n] v
    · exact ⟨true, by simp [hh]⟩
    · exact ⟨false, by simp [hh]⟩
  obtain ⟨f, hf⟩ : ∃ f : Int → Bool, ∀ n, f n = true ↔ Reach m [n] v := ⟨fun n => Classical.choose (hd n), fun n => Classical.choose_spec (hd n)⟩
  refine rank_small hval (r := fun n => r n + if f n then 25 else 0) fun x p hx y hy hy0 => ?_
  by_cases e : x = v
  · subst e
    rw [updM_same] at hx
    cases hx
    have g1 : f x = true := (hf x).2 (.here _ _ (by simp) h2)
    have g2 : f y = false := by
      cases g : f y with
      | false => rfl
      | true => exact absurd (reach_one hy ((hf y).1 g)) H
    have := hb y
    simp only [g1, g2, if_true]
    simp
    omega
  · rw [updM_ne m q e] at hx
    have g := hr x p hx y hy hy0
    cases g2 : f y with
    | false => simp only [g2]; simp; omega
    | true =>
      have g1 : f x = true := (hf x).2 (.step _ _ x p (by simp) (h.val x p hx).2.1 hx (reach_one hy ((hf y).1 g2)))
      simp only [g1, g2, if_true]; omega
theorem fw_upd {s : Sg} {m m' : MM} (h : MOK s m) (h' : MOK s m') (hs : Sol m (sg m')) (t : List Int) : fw m' t = subL (sg m') (fw m t) := by
  rw [sol_fw hs, fw_sub h']
theorem sol_upd {m : MM} {v : Int} {q : List Int} (hm : m v = none) (σ : Int → List Int) : Sol (updM m v q) σ ↔ Sol m σ ∧ σ v = subL σ q := by
  constructor
  · intro h
    refine ⟨fun x p hx => h x p ?_, h v q (updM_same _ _ _)⟩
    rw [updM_ne]
    · exact hx
    · intro e; subst e; rw [hm] at hx; cases hx
  · rintro ⟨h1, h2⟩ x p hx
    by_cases e : x = v
    · subst e; rw [updM_same] at hx; cases hx; exact h2
    · rw [updM_ne m q e] at hx; exact h1 x p hx
end Go.Proofs.YtmpjaakkjhmpmaaGreatDoor
namespace Go.Proofs.YtmpjaakkjhmpmaaGreatDoor

abbrev Pr := List Int × List Int
def BIG : Nat := 60 ^ 30
def ub (m : MM) : Nat := ((List.range 24).filter fun i : Nat => (m (-(i : Int) - 1)).isNone).length
def wt (m : MM) (L : List Pr) : Nat := (L.map fun p => (fw m p.1).length).sum
def meas (m : MM) (L : List Pr) : Nat := ub m * BIG + wt m L
theorem wt_append (m : MM) (L K : List Pr) : wt m (L ++ K) = wt m L + wt m K := by simp [wt]
theorem wt_one (m : MM) (p : Pr) : wt m [p] = (fw m p.1).length := by simp [wt]
theorem ub_upd {m : MM} {v : Int} {q : List Int} (hm : m v = none) (h1 : -24 ≤ v) (h2 : v < 0) : ub (updM m v q) < ub m := by
  refine filter_lt _ _ _ (fun i _ hi => ?_) ⟨(-v - 1).toNat, List.mem_range.2 (by omega), ?_, ?_⟩
  · by_cases e : -(i : Int) - 1 = v
    · rw [e, updM_same] at hi; simp at hi
    · rwa [updM_ne m q e] at hi
  · rw [show -(((-v - 1).toNat : Nat) : Int) - 1 = v by omega, updM_same]; rfl
  · rw [show -(((-v - 1).toNat : Nat) : Int) - 1 = v by omega, hm]; rfl
theorem wt_le {s : Sg} {m : MM} (h : MOK s m) : ∀ (L : List Pr), (∀ p ∈ L, p.1.length ≤ 60) → wt m L ≤ L.length * 60 ^ 26
  | [], _ => by simp [wt]
  | p :: L, hl => by
    have ih := wt_le h L fun x hx => hl x (by simp [hx])
    have := fw_len h (hl p (by simp))
    have e : wt m (p :: L) = (fw m p.1).length + wt m L := by simp [wt]
    rw [e, List.length_cons, Nat.succ_mul]
    omega

/-- a term, looked up. -/
structure Lk (s : Sg) (m : MM) (t t' : List Int) : Prop where
  fwe : fw m t' = fw m t
  sub : ∀ σ, Sol m σ → subL σ t' = subL σ t
  T : IsT s 24 t'
  len : t'.length ≤ 60
theorem Lk.refl {s : Sg} {m : MM} {t : List Int} (h : IsT s 24 t) (hl : t.length ≤ 60) : Lk s m t t := ⟨rfl, fun _ _ => rfl, h, hl⟩
theorem Lk.next {s : Sg} {m : MM} (h : MOK s m) {t u : List Int} {v : Int} (k : Lk s m t [v]) (hv : m v = some u) : Lk s m t u := by
  obtain ⟨h1, h2, h3, h4⟩ := h.val v u hv
  refine ⟨?_, fun σ hσ => ?_, h3, h4⟩
  · rw [← k.fwe]; exact (sg_some h hv).symm
  · rw [← k.sub σ hσ, subL_one, if_pos h2]; exact (hσ v u hv).symm
theorem Lk.trans {s : Sg} {m : MM} {t u v : List Int} (h : Lk s m t u) (k : Lk s m u v) : Lk s m t v := ⟨k.fwe.trans h.fwe, fun σ hσ => (k.sub σ hσ).trans (h.sub σ hσ), k.T, k.len⟩
/-- a term's first number: a variable alone, or a symbol. -/
theorem IsT.head_var {s : Sg} {q : Int} {x : Int} {r : List Int} (h : IsT s q (x :: r)) (hx : x < 0) : r = [] ∧ -q ≤ x := by
  generalize ht : x :: r = t at h
  cases h with
  | var n h1 h2 => simp at ht; obtain ⟨rfl, rfl⟩ := ht; exact ⟨rfl, h1⟩
  | app c ars _ _ _ => simp at ht; omega
theorem IsT.head_app {s : Sg} {q : Int} {x : Int} {r : List Int} (h : IsT s q (x :: r)) (hx : 0 ≤ x) : ∃ (c : Nat) (ars : List (List Int)), x = c ∧ r = ars.flatten ∧ c < s.length ∧ (ars.length : Int) = arOf s c ∧ ∀ a ∈ ars, IsT s q a := by
  generalize ht : x :: r = t at h
  cases h with
  | var n h1 h2 => simp at ht; omega
  | app c ars h1 h2 h3 => simp at ht; exact ⟨c, ars, ht.1, ht.2, h1, h2, h3⟩

structure UInv (s : Sg) (a b : List Int) (m : MM) (L : List Pr) : Prop where
  ta : IsT s 24 a
  la : a.length ≤ 60
  ok : MOK s m
  prs : ∀ p ∈ L, IsT s 24 p.1 ∧ IsT s 24 p.2 ∧ p.1.length ≤ 60 ∧ p.2.length ≤ 60
  eqv : ∀ σ, TS s σ → (subL σ a = subL σ b ↔ Sol m σ ∧ ∀ p ∈ L, subL σ p.1 = subL σ p.2)
  dep : ∀ (i : Nat) (p : Pr), L[i]? = some p → ∃ d, i ≤ 3 * d ∧ Dp s d (fw m p.1) (fw m a)
/-- binds that are most general. -/
def Mgu (s : Sg) (a b : List Int) (m : MM) : Prop := MOK s m ∧ ∀ σ, TS s σ → (subL σ a = subL σ b ↔ Sol m σ)
def NoU (s : Sg) (a b : List Int) : Prop := ∀ σ, TS s σ → subL σ a ≠ subL σ b
theorem MOK.empty (s : Sg) : MOK s noM := ⟨fun _ _ h => (by cases h), fun _ => 0, (fun _ _ h => by cases h), fun _ => Nat.zero_le _⟩
theorem UInv.start {s : Sg} {a b : List Int} (ha : IsT s 24 a) (hb : IsT s 24 b) (la : a.length ≤ 60) (lb : b.length ≤ 60) : UInv s a b noM [(a, b)] := by
  refine ⟨ha, la, MOK.empty s, by simpa using ⟨ha, hb, la, lb⟩, fun σ _ => by simp [Sol, noM], fun i p h => ?_⟩
  cases i with
  | zero => simp at h; subst h; exact ⟨0, by omega, .here _⟩
  | succ i => simp at h
theorem UInv.done {s : Sg} {a b : List Int} {m : MM} (h : UInv s a b m []) : Mgu s a b m := ⟨h.ok, fun σ hσ => by simpa using h.eqv σ hσ⟩
theorem UInv.len {s : Sg} {a b : List Int} {m : MM} {L : List Pr} (h : UInv s a b m L) : L.length ≤ 4681 := by
  cases hL : L.length with
  | zero => omega
  | succ n =>
    have hn : n < L.length := by omega
    obtain ⟨d, h1, h2⟩ := h.dep n L[n] (by simp [hn])
    have := h2.le (fw_ht h.ok h.ta h.la)
    omega
theorem UInv.wt_lt {s : Sg} {a b : List Int} {m : MM} {L : List Pr} (h : UInv s a b m L) : wt m L < BIG := by
  have h1 := wt_le h.ok L fun p hp => (h.prs p hp).2.2.1
  have h2 := h.len
  have h3 : L.length * 60 ^ 26 ≤ 4681 * 60 ^ 26 := Nat.mul_le_mul_right _ h2
  unfold BIG
  have h4 : (4681 : Nat) * 60 ^ 26 < 60 ^ 30 := by decide
  omega
/-- the pair on top, looked up. -/
theorem UInv.top {s : Sg} {a b : List Int} {m : MM} {L : List Pr} {x y p q : List Int} (h : UInv s a b m (L ++ [(x, y)])) (hp : Lk s m x p) (hq : Lk s m y q) (σ : Int → List Int) (hσ : TS s σ) :
    subL σ a = subL σ b ↔ Sol m σ ∧ (∀ r ∈ L, subL σ r.1 = subL σ r.2) ∧ subL σ p = subL σ q := by
  rw [h.eqv σ hσ]
  constructor
  · rintro ⟨h1, h2⟩
    exact ⟨h1, fun r hr => h2 r (by simp [hr]), by rw [hp.sub σ h1, hq.sub σ h1]; exact h2 (x, y) (by simp)⟩
  · rintro ⟨h1, h2, h3⟩
    refine ⟨h1, fun r hr => ?_⟩
    rcases List.mem_append.1 hr with hr | hr
    · exact h2 r hr
    · simp at hr; subst hr
      rw [hp.sub σ h1, hq.sub σ h1] at h3; exact h3
theorem UInv.rest {s : Sg} {a b : List Int} {m : MM} {L : List Pr} {x : Pr} (h : UInv s a b m (L ++ [x])) : (∀ p ∈ L, IsT s 24 p.1 ∧ IsT s 24 p.2 ∧ p.1.length ≤ 60 ∧ p.2.length ≤ 60) ∧ (∀ (i : Nat) (p : Pr), L[i]? = some p → ∃ d, i ≤ 3 * d ∧ Dp s d (fw m p.1) (fw m a)) :=
  ⟨fun p hp => h.prs p (by simp [hp]), fun i p hi => h.dep i p (by
    rw [List.getElem?_append_left]
    · exact hi
    · exact (List.getElem?_eq_some_iff.1 hi).1)⟩
/-- both are one variable. -/
theorem UInv.drop {s : Sg} {a b : List Int} {m : MM} {L : List Pr} {x y p : List Int} (h : UInv s a b m (L ++ [(x, y)])) (hp : Lk s m x p) (hq : Lk s m y p) : UInv s a b m L ∧ meas m L < meas m (L ++ [(x, y)]) := by
  refine ⟨⟨h.ta, h.la, h.ok, h.rest.1, fun σ hσ => ?_, h.rest.2⟩, ?_⟩
  · rw [h.top hp hq σ hσ]; simp
  · have : 0 < (fw m x).length := (fw_T h.ok (h.prs (x, y) (by simp)).1).ne
    unfold meas
    rw [wt_append, wt_one]
    show _ < _ + (_ + (fw m x).length)
    omega
/-- a variable that comes in the other part: no unifier. -/
theorem UInv.occurs {s : Sg} {a b : List Int} {m : MM} {L : List Pr} {x y q : List Int} {v : Int} (h : UInv s a b m (L ++ [(x, y)])) (hor : (Lk s m x [v] ∧ Lk s m y q) ∨ (Lk s m y [v] ∧ Lk s m x q)) (hv : v < 0) (hm : m v = none)
    (hqv : ∀ w, w < 0 → q.head? = some w → w ≠ v ∧ m w = none) (H : Reach m q v) : NoU s a b := by
  intro σ hσ e
  have hq : IsT s 24 q := by rcases hor with h | h <;> exact h.2.T
  have key : Sol m σ ∧ σ v = subL σ q := by
    rcases hor with ⟨h1, h2⟩ | ⟨h1, h2⟩
    · have := (h.top h1 h2 σ hσ).1 e
      exact ⟨this.1, by have := this.2.2; rwa [subL_one, if_pos hv] at this⟩
    · have := (h.top h2 h1 σ hσ).1 e
      exact ⟨this.1, by have := this.2.2; rw [subL_one, if_pos hv] at this; exact this.symm⟩
  cases q with
  | nil => exact absurd rfl hq.nonempty
  | cons c q =>
    by_cases hc : c < 0
    · obtain ⟨h1, h2⟩ := hqv c hc rfl
      obtain ⟨hr, _⟩ := hq.head_var hc
      subst hr
      cases H with
      | here _ _ g1 g2 => simp at g1; exact h1 g1.symm
      | step _ _ n p g1 g2 g3 g4 => simp at g1; subst g1; rw [h2] at g3; cases g3
    · exact occurs_no h.ok hm (by omega) hq H hσ key.1 key.2
/-- a variable becomes the other part. -/
theorem UInv.bind {s : Sg} {a b : List Int} {m : MM} {L : List Pr} {x y q : List Int} {v : Int} (h : UInv s a b m (L ++ [(x, y)])) (hor : (Lk s m x [v] ∧ Lk s m y q) ∨ (Lk s m y [v] ∧ Lk s m x q)) (hv : v < 0) (hm : m v = none)
    (H : ¬ Reach m q v) : UInv s a b (updM m v q) L ∧ meas (updM m v q) L < meas m (L ++ [(x, y)]) := by
  have hq : Lk s m x q ∨ Lk s m y q := by rcases hor with h | h <;> simp [h.2]
  have hqT : IsT s 24 q ∧ q.length ≤ 60 := by rcases hq with h | h <;> exact ⟨h.T, h.len⟩
  have hv24 : -24 ≤ v := by
    have : IsT s 24 [v] := by rcases hor with h | h <;> exact h.1.T
    exact this.vars v (by simp) hv
  have hok := h.ok.bind hv24 hv hqT.1 hqT.2 H
  have hsol : Sol m (sg (updM m v q)) := ((sol_upd hm _).1 (sg_sol hok)).1
  have hI : UInv s a b (updM m v q) L := by
    refine ⟨h.ta, h.la, hok, h.rest.1, fun σ hσ => ?_, fun i p hi => ?_⟩
    · rw [sol_upd hm]
      rcases hor with ⟨h1, h2⟩ | ⟨h1, h2⟩
      · rw [h.top h1 h2 σ hσ, subL_one, if_pos hv]
        constructor
        · rintro ⟨a, b, c⟩; exact ⟨⟨a, c⟩, b⟩
        · rintro ⟨⟨a, c⟩, b⟩; exact ⟨a, b, c⟩
      · rw [h.top h2 h1 σ hσ, subL_one, if_pos hv]
        constructor
        · rintro ⟨a, b, c⟩; exact ⟨⟨a, c.symm⟩, b⟩
        · rintro ⟨⟨a, c⟩, b⟩; exact ⟨a, b, c.symm⟩
    · obtain ⟨d, h1, h2⟩ := h.rest.2 i p hi
      refine ⟨d, h1, ?_⟩
      rw [fw_upd h.ok hok hsol, fw_upd h.ok hok hsol]
      exact h2.sub fun w h1 h2 => sg_T hok h1 h2
  refine ⟨hI, ?_⟩
  have h1 := ub_upd (q := q) hm hv24 hv
  have h2 := hI.wt_lt
  have h3 : (ub (updM m v q) + 1) * BIG ≤ ub m * BIG := Nat.mul_le_mul_right _ h1
  rw [Nat.add_mul, Nat.one_mul] at h3
  unfold meas
  omega
/-- two symbols: no unifier. -/
theorem UInv.clash {s : Sg} {a b : List Int} {m : MM} {L : List Pr} {x y p q : List Int} {c c' : Int} (h : UInv s a b m (L ++ [(x, y)])) (hp : Lk s m x (c :: p)) (hq : Lk s m y (c' :: q)) (h1 : 0 ≤ c) (h2 : 0 ≤ c') (hne : c ≠ c') : NoU s a b := by
  intro σ hσ e
  have := ((h.top hp hq σ hσ).1 e).2.2
  rw [subL_cons_app _ h1, subL_cons_app _ h2] at this
  exact hne (List.cons.inj this).1
theorem zip_all {α β : Type} {P : α → Prop} {Q : β → Prop} : ∀ {ars : List α} {bs : List β}, (∀ a ∈ ars, P a) → (∀ b ∈ bs, Q b) → ∀ r ∈ ars.zip bs, P r.1 ∧ Q r.2 := by
  intro ars bs h1 h2 r hr
  obtain ⟨a, b⟩ := r
  exact ⟨h1 a (List.of_mem_zip hr).1, h2 b (List.of_mem_zip hr).2⟩
theorem map_zip_eq {α β : Type} (f g : α → β) : ∀ (ars bs : List α), ars.length = bs.length → ((∀ r ∈ ars.zip bs, f r.1 = g r.2) ↔ ars.map f = bs.map g)
  | [], [], _ => by simp
  | a :: ars, b :: bs, h => by
    have := map_zip_eq f g ars bs (by simpa using h)
    simp only [List.zip_cons_cons, List.mem_cons, List.map_cons, List.cons.injEq]
    rw [← this]
    constructor
    · intro h; exact ⟨h (a, b) (Or.inl rfl), fun r hr => h r (Or.inr hr)⟩
    · rintro ⟨h1, h2⟩ r (rfl | hr)
      · exact h1
      · exact h2 r hr
theorem wt_zip {m : MM} : ∀ (ars bs : List (List Int)), ars.length = bs.length → wt m (ars.zip bs) = (fw m ars.flatten).length
  | [], [], _ => by rw [show (([] : List (List Int)).flatten) = [] from rfl]; unfold fw; rw [full_nil]; rfl
  | a :: ars, b :: bs, h => by
    have := wt_zip (m := m) ars bs (by simpa using h)
    rw [List.zip_cons_cons, List.flatten_cons, fw_append, List.length_append, ← this]
    simp [wt]
theorem flat_le {a : List Int} : ∀ {ars : List (List Int)}, a ∈ ars → a.length ≤ ars.flatten.length
  | [], h => by cases h
  | b :: bs, h => by
    rw [List.flatten_cons, List.length_append]
    rcases List.mem_cons.1 h with rfl | h
    · omega
    · have := flat_le h; omega
/-- two parts with one symbol: their arguments, two by two. -/
theorem UInv.args {s : Sg} (hsg : signB s = true) {a b : List Int} {m : MM} {L : List Pr} {x y : List Int} {c : Nat} {ars bs : List (List Int)} (h : UInv s a b m (L ++ [(x, y)])) (hp : Lk s m x ((c : Int) :: ars.flatten)) (hq : Lk s m y ((c : Int) :: bs.flatten))
    (ha : (ars.length : Int) = arOf s c) (hb : (bs.length : Int) = arOf s c) (h1 : ∀ a ∈ ars, IsT s 24 a) (h2 : ∀ b ∈ bs, IsT s 24 b) : UInv s a b m (L ++ ars.zip bs) ∧ meas m (L ++ ars.zip bs) < meas m (L ++ [(x, y)]) := by
  have hl : ars.length = bs.length := by omega
  refine ⟨⟨h.ta, h.la, h.ok, fun p hp' => ?_, fun σ hσ => ?_, fun i p hi => ?_⟩, ?_⟩
  · rcases List.mem_append.1 hp' with hp' | hp'
    · exact h.rest.1 p hp'
    · have g := zip_all h1 h2 p hp'
      have g2 := zip_all (P := fun u : List Int => u.length ≤ ars.flatten.length) (Q := fun u : List Int => u.length ≤ bs.flatten.length) (fun _ h => flat_le h) (fun _ h => flat_le h) p hp'
      have g3 := hp.len
      have g4 := hq.len
      simp at g3 g4
      simp at g2
      exact ⟨g.1, g.2, by omega, by omega⟩
  · rw [h.top hp hq σ hσ, subL_node, subL_node]
    obtain ⟨w, hw⟩ := hσ
    have e : (((c : Int) :: (ars.map (subL σ)).flatten) = ((c : Int) :: (bs.map (subL σ)).flatten)) ↔ ∀ r ∈ ars.zip bs, subL σ r.1 = subL σ r.2 := by
      rw [map_zip_eq _ _ _ _ hl]
      constructor
      · intro e
        refine app_unique (s := s) (m := w) (fun z hz => ?_) (fun z hz => ?_) (by simpa using hl) e
        · obtain ⟨u, hu, rfl⟩ := List.mem_map.1 hz
          exact subL_T hw (h1 u hu)
        · obtain ⟨u, hu, rfl⟩ := List.mem_map.1 hz
          exact subL_T hw (h2 u hu)
      · intro e; rw [e]
    rw [e]
    constructor
    · rintro ⟨u, v, w⟩
      refine ⟨u, fun r hr => ?_⟩
      rcases List.mem_append.1 hr with hr | hr
      · exact v r hr
      · exact w r hr
    · rintro ⟨u, v⟩
      exact ⟨u, fun r hr => v r (by simp [hr]), fun r hr => v r (by simp [hr])⟩
  · by_cases hiL : i < L.length
    · rw [List.getElem?_append_left hiL] at hi
      exact h.rest.2 i p hi
    · rw [List.getElem?_append_right (by omega)] at hi
      obtain ⟨d, g1, g2⟩ := h.dep L.length (x, y) (by simp)
      have hlt : i - L.length < ars.length := by
        have := (List.getElem?_eq_some_iff.1 hi).1
        simp at this; omega
      have har := signB_ar' hsg c
      refine ⟨d + 1, by omega, ?_⟩
      have hmem : p.1 ∈ ars := (List.of_mem_zip (by exact List.mem_of_getElem? hi : (p.1, p.2) ∈ ars.zip bs)).1
      have e : fw m x = (c : Int) :: (ars.map (subL (sg m))).flatten := by rw [← hp.fwe, fw_sub h.ok, subL_node]
      rw [fw_sub h.ok p.1]
      refine Dp.arg g2 e (by simpa using ha) (fun z hz => ?_) (List.mem_map.2 ⟨p.1, hmem, rfl⟩)
      obtain ⟨u, hu, rfl⟩ := List.mem_map.1 hz
      exact subL_T (fun v h1 h2 => sg_T h.ok h1 h2) (h1 u hu)
  · unfold meas
    rw [wt_append, wt_append, wt_one, wt_zip ars bs hl]
    have e : fw m x = (c : Int) :: fw m ars.flatten := by rw [← hp.fwe, fw_app _ (by omega)]
    show _ < _ + (_ + (fw m x).length)
    rw [e, List.length_cons]
    omega

/-! ### what most general binds are good for -/
theorem Mgu.sol {s : Sg} {a b : List Int} {m : MM} (h : Mgu s a b m) : subL (sg m) a = subL (sg m) b := (h.2 _ (sg_TS h.1)).2 (sg_sol h.1)
theorem Mgu.not_no {s : Sg} {a b : List Int} {m : MM} (h : Mgu s a b m) (k : NoU s a b) : False := k _ (sg_TS h.1) h.sol
theorem Mgu.gen {s : Sg} {a b : List Int} {m : MM} (h : Mgu s a b m) {σ : Int → List Int} (hσ : TS s σ) (e : subL σ a = subL σ b) (t : List Int) : subL σ (fw m t) = subL σ t := sol_fw ((h.2 σ hσ).1 e) t
/-- what two most general binds make of a term is alike. -/
theorem Mgu.canon {s : Sg} {a b : List Int} {m m' : MM} (h : Mgu s a b m) (h' : Mgu s a b m') {t : List Int} (ht : IsT s 24 t) : canonL (fw m t) = canonL (fw m' t) := by
  have key : ∀ {m m' : MM}, Mgu s a b m → Mgu s a b m' → Inst s 24 (fw m t) (fw m' t) := by
    intro m m' h h'
    refine ⟨sg m', fun n hn hn0 => sg_T h'.1 ((fw_T h.1 ht).vars n hn hn0) hn0, ?_⟩
    rw [h.gen (sg_TS h'.1) h'.sol, fw_sub h'.1]
  exact inst_alike (key h h') (key h' h)
end Go.Proofs.YtmpjaakkjhmpmaaGreatDoor
