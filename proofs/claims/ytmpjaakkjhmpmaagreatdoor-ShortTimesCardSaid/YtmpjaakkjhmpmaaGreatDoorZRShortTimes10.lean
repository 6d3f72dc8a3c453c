/-
  WHAT IT HOLDS: plain theory of unification: what binds that lean on each other make of a term, that they are most general while two terms are solved step by step, and that each step keeps this. No program in sight. Condition: the lists are terms.
-/
import Derived.Test.YtmpjaakkjhmpmaaGreatDoorZRShortTimes8
namespace Go.Proofs.YtmpjaakkjhmpmaaGreatDoor

/-- a substitution does what m says. -/
def Sol (m : MM) (σ : Int → List Int) : Prop := ∀ v p, m v = some p → σ v = subL σ p
/-- a substitution of terms. -/
def TS (s : Sg) (σ : Int → List Int) : Prop := ∃ q, ∀ v, -24 ≤ v → v < 0 → IsT s q (σ v)
/-- a rank that shows that nothing leans on itself. -/
def Rk (m : MM) (r : Int → Nat) : Prop := ∀ v p, m v = some p → ∀ x ∈ p, x < 0 → r x < r v
structure MOK (s : Sg) (m : MM) : Prop where
  val : ∀ v p, m v = some p → -24 ≤ v ∧ v < 0 ∧ IsT s 24 p ∧ p.length ≤ 60
  rank : ∃ r : Int → Nat, Rk m r ∧ ∀ v, r v ≤ 24

def full (m : MM) : Nat → List Int → List Int
  | 0, t => t
  | k + 1, t => subL (fun n => match m n with | some p => full m k p | none => [n]) t
/-- a term with all that is bound put in. -/
def fw (m : MM) (t : List Int) : List Int := full m 25 t
def sg (m : MM) (n : Int) : List Int := fw m [n]

theorem filter_lt {α : Type} (P Q : α → Bool) : ∀ (l : List α), (∀ a ∈ l, P a = true → Q a = true) → (∃ a ∈ l, P a = false ∧ Q a = true) → (l.filter P).length < (l.filter Q).length
  | [], _, h => by obtain ⟨a, ha, _⟩ := h; cases ha
  | a :: l, h1, h2 => by
    have hle : ∀ (l : List α), (∀ a ∈ l, P a = true → Q a = true) → (l.filter P).length ≤ (l.filter Q).length := by
      intro l
      induction l with
      | nil => intro _; simp
      | cons b l ih =>
        intro h
        have := ih fun x hx => h x (by simp [hx])
        have hb := h b (by simp)
        simp only [List.filter_cons]
        cases hP : P b
        · cases hQ : Q b <;> simp <;> omega
        · rw [hb hP]; simp; omega
    have h1' : ∀ x ∈ l, P x = true → Q x = true := fun x hx => h1 x (by simp [hx])
    have hb := h1 a (by simp)
    obtain ⟨x, hx, hPx, hQx⟩ := h2
    simp only [List.filter_cons]
    rcases List.mem_cons.1 hx with rfl | hx
    · rw [hPx, hQx]
      have := hle l h1'
      simp; omega
    · have := filter_lt P Q l h1' ⟨x, hx, hPx, hQx⟩
      cases hP : P a
      · cases hQ : Q a <;> simp <;> omega
      · rw [hb hP]; simp; omega
/-- a rank among 24 variables is at most 24. -/
theorem rank_small {s : Sg} {m : MM} (h : ∀ v p, m v = some p → -24 ≤ v ∧ v < 0 ∧ IsT s 24 p ∧ p.length ≤ 60) {r : Int → Nat} (hr : Rk m r) : ∃ r : Int → Nat, Rk m r ∧ ∀ v, r v ≤ 24 := by
  refine ⟨fun v => ((List.range 24).filter fun i : Nat => decide (r (-(i : Int) - 1) < r v)).length, fun v p hv x hx hx0 => ?_, fun v => ?_⟩
  · have h1 := hr v p hv x hx hx0
    have h2 := ((h v p hv).2.2.1).vars x hx hx0
    refine filter_lt _ _ _ (fun a _ ha => ?_) ⟨(-x - 1).toNat, List.mem_range.2 (by omega), ?_, ?_⟩
    · simp only [decide_eq_true_eq] at ha ⊢; omega
    · simp only [decide_eq_false_iff_not]; rw [show -(((-x - 1).toNat : Nat) : Int) - 1 = x by omega]; omega
    · simp only [decide_eq_true_eq]; rw [show -(((-x - 1).toNat : Nat) : Int) - 1 = x by omega]; exact h1
  · have := List.length_filter_le (fun i : Nat => decide (r (-(i : Int) - 1) < r v)) (List.range 24)
    simpa using this

theorem full_append (m : MM) (k : Nat) (a b : List Int) : full m k (a ++ b) = full m k a ++ full m k b := by
  cases k with
  | zero => rfl
  | succ k => exact subL_append _ _ _
theorem full_nil (m : MM) (k : Nat) : full m k [] = [] := by cases k <;> rfl
theorem full_app (m : MM) (k : Nat) {c : Int} (h : 0 ≤ c) (a : List Int) : full m k (c :: a) = c :: full m k a := by
  cases k with
  | zero => rfl
  | succ k => exact subL_cons_app _ h _
theorem full_step {m : MM} {r : Int → Nat} (hr : Rk m r) : ∀ (k : Nat) (t : List Int), (∀ n ∈ t, n < 0 → r n < k) → full m (k + 1) t = full m k t
  | 0, t, h => by
    show subL _ t = t
    have : subL (fun n => match m n with | some p => full m 0 p | none => [n]) t = subL (fun n => [n]) t := subL_congr fun n hn hn0 => absurd (h n hn hn0) (by omega)
    rw [this, subL_id]
  | k + 1, t, h => by
    show subL _ t = subL _ t
    refine subL_congr fun n hn hn0 => ?_
    cases hm : m n with
    | none => rfl
    | some p =>
      simp only
      exact full_step hr k p fun x hx hx0 => by have := hr n p hm x hx hx0; have := h n hn hn0; omega
theorem fw_eq {s : Sg} {m : MM} (h : MOK s m) (t : List Int) : fw m t = subL (fun n => match m n with | some p => fw m p | none => [n]) t := by
  obtain ⟨r, hr, hb⟩ := h.rank
  unfold fw
  rw [← full_step hr 25 t fun n _ _ => by have := hb n; omega]
  rfl
theorem sg_eq {s : Sg} {m : MM} (h : MOK s m) {n : Int} (hn : n < 0) : sg m n = match m n with | some p => fw m p | none => [n] := by
  unfold sg
  rw [fw_eq h, subL_one, if_pos hn]
theorem sg_none {s : Sg} {m : MM} (h : MOK s m) {n : Int} (hn : n < 0) (hm : m n = none) : sg m n = [n] := by rw [sg_eq h hn, hm]
theorem sg_some {s : Sg} {m : MM} (h : MOK s m) {n : Int} {p : List Int} (hm : m n = some p) : sg m n = fw m p := by rw [sg_eq h (h.val n p hm).2.1, hm]
theorem fw_sub {s : Sg} {m : MM} (h : MOK s m) (t : List Int) : fw m t = subL (sg m) t := by
  rw [fw_eq h]
  exact subL_congr fun n _ hn => (sg_eq h hn).symm
theorem sg_sol {s : Sg} {m : MM} (h : MOK s m) : Sol m (sg m) := fun v p hv => by rw [sg_some h hv, fw_sub h]
theorem fw_append (m : MM) (a b : List Int) : fw m (a ++ b) = fw m a ++ fw m b := full_append m 25 a b
theorem fw_app (m : MM) {c : Int} (h : 0 ≤ c) (a : List Int) : fw m (c :: a) = c :: fw m a := full_app m 25 h a
theorem sol_full {m : MM} {σ : Int → List Int} (h : Sol m σ) : ∀ (k : Nat) (t : List Int), subL σ (full m k t) = subL σ t
  | 0, t => rfl
  | k + 1, t => by
    show subL σ (subL _ t) = _
    rw [subL_comp]
    refine subL_congr fun n hn hn0 => ?_
    cases hm : m n with
    | none => simp only; rw [subL_one, if_pos hn0]
    | some p => simp only; rw [sol_full h k p, h n p hm]
theorem sol_fw {m : MM} {σ : Int → List Int} (h : Sol m σ) (t : List Int) : subL σ (fw m t) = subL σ t := sol_full h 25 t
theorem full_T {s : Sg} {m : MM} (h : MOK s m) : ∀ (k : Nat) {t : List Int}, IsT s 24 t → IsT s 24 (full m k t)
  | 0, t, ht => ht
  | k + 1, t, ht => by
    refine IsT.sub ht fun n hn hn0 => ?_
    cases hm : m n with
    | none => exact .var n (ht.vars n hn hn0) hn0
    | some p => exact full_T h k (h.val n p hm).2.2.1
theorem fw_T {s : Sg} {m : MM} (h : MOK s m) {t : List Int} (ht : IsT s 24 t) : IsT s 24 (fw m t) := full_T h 25 ht
theorem sg_T {s : Sg} {m : MM} (h : MOK s m) {n : Int} (h1 : -24 ≤ n) (h2 : n < 0) : IsT s 24 (sg m n) := fw_T h (.var n h1 h2)
theorem sg_TS {s : Sg} {m : MM} (h : MOK s m) : TS s (sg m) := ⟨24, fun v h1 h2 => sg_T h h1 h2⟩
theorem subL_T {s : Sg} {σ : Int → List Int} {q : Int} (h : ∀ v, -24 ≤ v → v < 0 → IsT s q (σ v)) {t : List Int} (ht : IsT s 24 t) : IsT s q (subL σ t) :=
  IsT.sub ht fun n hn hn0 => h n (ht.vars n hn hn0) hn0

/-! ### sizes -/
theorem subL_len_le {σ : Int → List Int} {B : Nat} (hB : 1 ≤ B) : ∀ (t : List Int), (∀ n ∈ t, n < 0 → (σ n).length ≤ B) → (subL σ t).length ≤ B * t.length
  | [], _ => by simp [subL]
  | n :: t, h => by
    have ih := subL_len_le hB t fun x hx => h x (by simp [hx])
    rw [List.length_cons, Nat.mul_succ]
    by_cases hn : n < 0
    · rw [subL_cons_var _ hn, List.length_append]
      have := h n (by simp) hn
      omega
    · rw [subL_cons_app _ (by omega), List.length_cons]
      omega
theorem full_len {s : Sg} {m : MM} (h : MOK s m) : ∀ (k : Nat) (t : List Int), (full m k t).length ≤ 60 ^ k * t.length
  | 0, t => by simp [full]
  | k + 1, t => by
    have hp : 1 ≤ 60 ^ (k + 1) := Nat.pos_of_ne_zero (by simp)
    refine subL_len_le hp t fun n hn hn0 => ?_
    cases hm : m n with
    | none => simpa using hp
    | some p =>
      have h1 := full_len h k p
      have h2 := (h.val n p hm).2.2.2
      simp only
      calc (full m k p).length ≤ 60 ^ k * p.length := h1
        _ ≤ 60 ^ k * 60 := Nat.mul_le_mul_left _ h2
        _ = 60 ^ (k + 1) := (Nat.pow_succ ..).symm
theorem fw_len {s : Sg} {m : MM} (h : MOK s m) {t : List Int} (ht : t.length ≤ 60) : (fw m t).length ≤ 60 ^ 26 :=
  calc (fw m t).length ≤ 60 ^ 25 * t.length := full_len h 25 t
    _ ≤ 60 ^ 25 * 60 := Nat.mul_le_mul_left _ ht
    _ = 60 ^ 26 := (Nat.pow_succ ..).symm

/-! ### depths -/
inductive Ht (s : Sg) : Nat → List Int → Prop
  | var (h : Nat) (n : Int) : n < 0 → Ht s h [n]
  | app (h : Nat) (c : Nat) (ars : List (List Int)) : (ars.length : Int) = arOf s c → (∀ a ∈ ars, IsT s 24 a) → (∀ a ∈ ars, Ht s h a) → Ht s (h + 1) ((c : Int) :: ars.flatten)
theorem Ht.mono {s : Sg} {h : Nat} {t : List Int} (H : Ht s h t) : ∀ {h' : Nat}, h ≤ h' → Ht s h' t := by
  induction H with
  | var h n hn => intro h' _; exact .var h' n hn
  | app h c ars h1 h2 h3 ih =>
    intro h' hh
    obtain ⟨q, rfl⟩ : ∃ q, h' = q + 1 := ⟨h' - 1, by omega⟩
    exact .app q c ars h1 h2 fun a ha => ih a ha (by omega)
theorem IsT.ht {s : Sg} {t : List Int} (h : IsT s 24 t) : Ht s t.length t := by
  induction h with
  | var n h1 h2 => exact .var _ n h2
  | app c ars h1 h2 h3 ih =>
    rw [List.length_cons]
    refine .app _ c ars h2 h3 fun a ha => (ih a ha).mono ?_
    have : ∀ (bs : List (List Int)), a ∈ bs → a.length ≤ bs.flatten.length := by
      intro bs
      induction bs with
      | nil => intro h; cases h
      | cons b bs ihb =>
        intro h
        rw [List.flatten_cons, List.length_append]
        rcases List.mem_cons.1 h with rfl | h
        · omega
        · have := ihb h; omega
    exact this ars ha
theorem subL_flatten (σ : Int → List Int) : ∀ (ars : List (List Int)), subL σ ars.flatten = (ars.map (subL σ)).flatten
  | [] => rfl
  | a :: ars => by rw [List.flatten_cons, subL_append, subL_flatten σ ars, List.map_cons, List.flatten_cons]
theorem subL_node (σ : Int → List Int) (c : Nat) (ars : List (List Int)) : subL σ ((c : Int) :: ars.flatten) = (c : Int) :: (ars.map (subL σ)).flatten := by
  rw [subL_cons_app _ (by omega), subL_flatten]
theorem Ht.sub {s : Sg} {σ : Int → List Int} {h' : Nat} {h : Nat} {t : List Int} (H : Ht s h t) : (∀ n ∈ t, n < 0 → Ht s h' (σ n) ∧ IsT s 24 (σ n)) → Ht s (h + h') (subL σ t) := by
  induction H with
  | var h n hn =>
    intro hs
    rw [subL_one, if_pos hn]
    exact (hs n (by simp) hn).1.mono (by omega)
  | app h c ars h1 h2 h3 ih =>
    intro hs
    have hs' : ∀ a ∈ ars, ∀ n ∈ a, n < 0 → Ht s h' (σ n) ∧ IsT s 24 (σ n) := fun a ha n hn => hs n (by simp only [List.mem_cons, List.mem_flatten]; exact Or.inr ⟨a, ha, hn⟩)
    rw [subL_node, show h + 1 + h' = h + h' + 1 by omega]
    refine .app _ c _ (by simpa using h1) (fun b hb => ?_) fun b hb => ?_
    · obtain ⟨a, ha, rfl⟩ := List.mem_map.1 hb
      exact IsT.sub (h2 a ha) fun n hn hn0 => (hs' a ha n hn hn0).2
    · obtain ⟨a, ha, rfl⟩ := List.mem_map.1 hb
      exact ih a ha (hs' a ha)
theorem full_ht {s : Sg} {m : MM} (h : MOK s m) : ∀ (k : Nat) {t : List Int}, IsT s 24 t → t.length ≤ 60 → Ht s (60 + 60 * k) (full m k t)
  | 0, t, ht, hl => ht.ht.mono (by omega)
  | k + 1, t, ht, hl => by
    have h1 := Ht.sub (s := s) (σ := fun n => match m n with | some p => full m k p | none => [n]) (h' := 60 + 60 * k) ht.ht fun n hn hn0 => by
      cases hm : m n with
      | none => exact ⟨.var _ n hn0, .var n (ht.vars n hn hn0) hn0⟩
      | some p => exact ⟨full_ht h k (h.val n p hm).2.2.1 (h.val n p hm).2.2.2, full_T h k (h.val n p hm).2.2.1⟩
    exact h1.mono (by omega)
theorem fw_ht {s : Sg} {m : MM} (h : MOK s m) {t : List Int} (ht : IsT s 24 t) (hl : t.length ≤ 60) : Ht s 1560 (fw m t) := (full_ht h 25 ht hl).mono (by omega)
/-- a term lies in another one, so many symbols down. -/
inductive Dp (s : Sg) : Nat → List Int → List Int → Prop
  | here (t : List Int) : Dp s 0 t t
  | down (d : Nat) (c : Nat) (ars : List (List Int)) (u a : List Int) : (ars.length : Int) = arOf s c → (∀ a ∈ ars, IsT s 24 a) → a ∈ ars → Dp s d u a → Dp s (d + 1) u ((c : Int) :: ars.flatten)
theorem Dp.le {s : Sg} {d : Nat} {u t : List Int} (H : Dp s d u t) : ∀ {h : Nat}, Ht s h t → d ≤ h := by
  induction H with
  | here t => intro h _; omega
  | down d c ars u a h1 h2 h3 h4 ih =>
    intro h hh
    generalize ht : (c : Int) :: ars.flatten = t at hh
    cases hh with
    | var h n hn => simp at ht; omega
    | app h c' ars' g1 g2 g3 =>
      have hc : c = c' := by have := (List.cons.inj ht).1; omega
      subst hc
      have := app_unique h2 g2 (by omega) ht
      subst this
      have := ih (g3 a h3)
      omega
theorem Dp.sub {s : Sg} {σ : Int → List Int} (hσ : ∀ v, -24 ≤ v → v < 0 → IsT s 24 (σ v)) {d : Nat} {u t : List Int} (H : Dp s d u t) : Dp s d (subL σ u) (subL σ t) := by
  induction H with
  | here t => exact .here _
  | down d c ars u a h1 h2 h3 h4 ih =>
    rw [subL_node]
    refine .down d c _ _ (subL σ a) (by simpa using h1) (fun b hb => ?_) (List.mem_map.2 ⟨a, h3, rfl⟩) ih
    obtain ⟨x, hx, rfl⟩ := List.mem_map.1 hb
    exact subL_T hσ (h2 x hx)
/-- what lies under what lies in a term. -/
theorem Dp.arg {s : Sg} {d : Nat} {u t : List Int} (H : Dp s d u t) : ∀ {c : Nat} {ars : List (List Int)} {a : List Int}, u = (c : Int) :: ars.flatten → (ars.length : Int) = arOf s c → (∀ a ∈ ars, IsT s 24 a) → a ∈ ars → Dp s (d + 1) a t := by
  induction H with
  | here t => intro c ars a e h1 h2 h3; rw [e]; exact .down 0 c ars a a h1 h2 h3 (.here a)
  | down d c ars u a h1 h2 h3 h4 ih => intro c' ars' a' e g1 g2 g3; exact .down _ c ars _ a h1 h2 h3 (ih e g1 g2 g3)

/-! ### what a variable leads to -/
inductive Reach (m : MM) : List Int → Int → Prop
  | here (t : List Int) (v : Int) : v ∈ t → v < 0 → Reach m t v
  | step (t : List Int) (v n : Int) (p : List Int) : n ∈ t → n < 0 → m n = some p → Reach m p v → Reach m t v
theorem Reach.fw {s : Sg} {m : MM} (h : MOK s m) {v : Int} (hm : m v = none) {t : List Int} (H : Reach m t v) : v ∈ fw m t := by
  induction H with
  | here t v h1 h2 =>
    rw [fw_sub h]
    exact mem_subL h1 h2 (by rw [sg_none h h2 hm]; simp)
  | step t v n p h1 h2 h3 h4 ih =>
    rw [fw_sub h]
    exact mem_subL h1 h2 (by rw [sg_some h h3]; exact ih hm)
theorem Reach.neg {m : MM} {v : Int} {t : List Int} (H : Reach m t v) : v < 0 := by
  induction H with
  | here _ _ _ h => exact h
  | step _ _ _ _ _ _ _ _ ih => exact ih
theorem reach_one {m : MM} {v x : Int} {t : List Int} (hx : x ∈ t) (H : Reach m [x] v) : Reach m t v := by
  generalize hy : [x] = y at H
  cases H with
  | here t' v h1 h2 => subst hy; simp at h1; subst h1; exact .here _ _ hx h2
  | step t' v n p h1 h2 h3 h4 => subst hy; simp at h1; subst h1; exact .step _ _ n p hx h2 h3 h4
theorem subL_mem_len {s : Sg} {q : Int} {σ : Int → List Int} : ∀ (t : List Int) {v : Int}, v ∈ t → v < 0 → (∀ n ∈ t, n < 0 → IsT s q (σ n)) → (σ v).length ≤ (subL σ t).length
  | [], v, h, _, _ => by cases h
  | n :: t, v, h, hv, hT => by
    rcases List.mem_cons.1 h with rfl | h
    · rw [subL_cons_var _ hv, List.length_append]; omega
    · have := subL_mem_len t h hv fun x hx => hT x (by simp [hx])
      by_cases hn : n < 0
      · rw [subL_cons_var _ hn, List.length_append]; omega
      · rw [subL_cons_app _ (by omega), List.length_cons]; omega
/-- a variable that comes in a term is never equal to it. -/
theorem occurs_no {s : Sg} {m : MM} (h : MOK s m) {v c : Int} {q : List Int} (hm : m v = none) (hc : 0 ≤ c) (hq : IsT s 24 (c :: q)) (H : Reach m (c :: q) v) {σ : Int → List Int} (hT : TS s σ) (hσ : Sol m σ) : σ v ≠ subL σ (c :: q) := by
  intro e
  obtain ⟨w, hw⟩ := hT
  have h1 := H.fw h hm
  have h2 := fw_T h hq
  rw [← sol_fw hσ, fw_app _ hc] at e
  rw [fw_app _ hc] at h1 h2
  have hv : v < 0 := H.neg
  rw [subL_cons_app _ hc] at e
  have h3 : v ∈ fw m q := by
    rcases List.mem_cons.1 h1 with h | h
    · omega
    · exact h
  have := subL_mem_len (s := s) (q := w) (σ := σ) (fw m q) h3 hv fun n hn hn0 => hw n (h2.vars n (by simp [hn]) hn0) hn0
  have := congrArg List.length e
  simp at this
  omega
theorem updM_same (m : MM) (v : Int) (q : List Int) : updM m v q v = some q := by simp [updM]
theorem updM_ne (m : MM) {v x : Int} (q : List Int) (h : x ≠ v) : updM m v q x = m x := by simp [updM, h]
/-- a variable that does not come in a term may become it. -/
theorem MOK.bind {s : Sg} {m : MM} (h : MOK s m) {v : Int} {q : List Int} (h1 : -24 ≤ v) (h2 : v < 0) (hq : IsT s 24 q) (hl : q.length ≤ 60) (H : ¬ Reach m q v) : MOK s (updM m v q) := by
  have hval : ∀ x p, updM m v q x = some p → -24 ≤ x ∧ x < 0 ∧ IsT s 24 p ∧ p.length ≤ 60 := by
    intro x p hx
    by_cases e : x = v
    · subst e; rw [updM_same] at hx; cases hx; exact ⟨h1, h2, hq, hl⟩
    · rw [updM_ne m q e] at hx; exact h.val x p hx
  refine ⟨hval, ?_⟩
  obtain ⟨r, hr, hb⟩ := h.rank
  have hd : ∀ n : Int, ∃ b : Bool, b = true ↔ Reach m [n] v := fun n => by
    by_cases hh : Reach m [n] v
    · exact ⟨true, by simp [hh]⟩
    · exact ⟨false, by simp [hh]⟩
  obtain ⟨f, hf⟩ : ∃ f : Int → Bool, ∀ n, f n = true ↔ Reach m [n] v := ⟨fun n => Classical.choose (hd n), fun n => Classical.choose_spec (hd n)⟩
  refine rank_small hval (r := fun n => r n + if f n then 25 else 0) fun x p hx y hy hy0 => ?_
  by_cases e : x = v
  · subst e
    rw [updM_same] at hx
    cases hx
    have g1 : f x = true := (hf x).2 (.here _ _ (by simp) h2)
    have g2 : f y = false := by
      cases g : f y with
      | false => rfl
      | true => exact absurd (reach_one hy ((hf y).1 g)) H
    have := hb y
    simp only [g1, g2, if_true]
    simp
    omega
  · rw [updM_ne m q e] at hx
    have g := hr x p hx y hy hy0
    cases g2 : f y with
    | false => simp only [g2]; simp; omega
    | true =>
      have g1 : f x = true := (hf x).2 (.step _ _ x p (by simp) (h.val x p hx).2.1 hx (reach_one hy ((hf y).1 g2)))
      simp only [g1, g2, if_true]; omega
theorem fw_upd {s : Sg} {m m' : MM} (h : MOK s m) (h' : MOK s m') (hs : Sol m (sg m')) (t : List Int) : fw m' t = subL (sg m') (fw m t) := by
  rw [sol_fw hs, fw_sub h']
theorem sol_upd {m : MM} {v : Int} {q : List Int} (hm : m v = none) (σ : Int → List Int) : Sol (updM m v q) σ ↔ Sol m σ ∧ σ v = subL σ q := by
  constructor
  · intro h
    refine ⟨fun x p hx => h x p ?_, h v q (updM_same _ _ _)⟩
    rw [updM_ne]
    · exact hx
    · intro e; subst e; rw [hm] at hx; cases hx
  · rintro ⟨h1, h2⟩ x p hx
    by_cases e : x = v
    · subst e; rw [updM_same] at hx; cases hx; exact h2
    · rw [updM_ne m q e] at hx; exact h1 x p hx
end Go.Proofs.YtmpjaakkjhmpmaaGreatDoor
