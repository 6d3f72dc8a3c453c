/-
  WHAT IT HOLDS: a plain function that says what the join of two terms computes (com), with the pairs that it has named so far; how it is put together over lists of terms. No program in sight. No condition.
-/
import Derived.Test.YtcpbpamnhdnanaaZRTopDetachedInstances16
namespace Go.Proofs.Ytcpbpamnhdnanaa

abbrev KK := List UInt8 × List UInt8
def insK (σ : List KK) (k : KK) : List KK := if k ∈ σ then σ else σ ++ [k]
def numK (σ : List KK) (k : KK) : Int := -(σ.idxOf k : Int) - 1
def mapK (σ : List KK) : KK → Option Int := fun k => if k ∈ σ then some (numK σ k) else none

theorem pLen_pos (s : Sg) (x : Int) (a : List Int) : 1 ≤ pLen s (x :: a) 1 := by simp only [pLen]; omega
theorem pLen_le (s : Sg) : ∀ (l : List Int) (k : Nat), pLen s l k ≤ l.length := by
  intro l
  induction l with
  | nil => intro k; simp [pLen]
  | cons x r ih =>
    intro k
    cases k with
    | zero => simp [pLen]
    | succ k => simp only [pLen, List.length_cons]; have := ih (k + (arOf s x).toNat); omega

/-- the join of two lists of terms; numbers below 0 are the names of pairs. -/
def com (s : Sg) : Nat → List Int → List Int → List KK → List Int × List KK
  | 0, _, _, σ => ([], σ)
  | f + 1, x :: a, y :: b, σ =>
    if x = y ∧ 0 ≤ x then (x :: (com s f a b σ).1, (com s f a b σ).2)
    else
      (numK σ (keyL ((x :: a).take (pLen s (x :: a) 1)), keyL ((y :: b).take (pLen s (y :: b) 1))) ::
        (com s f ((x :: a).drop (pLen s (x :: a) 1)) ((y :: b).drop (pLen s (y :: b) 1)) (insK σ (keyL ((x :: a).take (pLen s (x :: a) 1)), keyL ((y :: b).take (pLen s (y :: b) 1))))).1,
       (com s f ((x :: a).drop (pLen s (x :: a) 1)) ((y :: b).drop (pLen s (y :: b) 1)) (insK σ (keyL ((x :: a).take (pLen s (x :: a) 1)), keyL ((y :: b).take (pLen s (y :: b) 1))))).2)
  | _ + 1, _, _, σ => ([], σ)

theorem com_nil (s : Sg) (f : Nat) (b : List Int) (σ : List KK) : com s f [] b σ = ([], σ) := by cases f <;> rfl
theorem com_nil2 (s : Sg) (f : Nat) (a : List Int) (σ : List KK) : com s f a [] σ = ([], σ) := by cases f <;> cases a <;> rfl
theorem com_fuel (s : Sg) : ∀ (f g : Nat) (a b : List Int) (σ : List KK), a.length ≤ f → a.length ≤ g → com s f a b σ = com s g a b σ := by
  intro f
  induction f with
  | zero =>
    intro g a b σ h _
    have : a = [] := by cases a with
      | nil => rfl
      | cons => simp at h
    subst this
    rw [com_nil, com_nil]
  | succ f ih =>
    intro g a b σ h h'
    cases a with
    | nil => rw [com_nil, com_nil]
    | cons x a =>
      cases b with
      | nil => rw [com_nil2, com_nil2]
      | cons y b =>
        obtain ⟨g, rfl⟩ : ∃ q, g = q + 1 := ⟨g - 1, by simp at h'; omega⟩
        simp only [List.length_cons, Nat.add_le_add_iff_right] at h h'
        have hp := pLen_pos s x a
        have hd : ((x :: a).drop (pLen s (x :: a) 1)).length ≤ a.length := by rw [List.length_drop, List.length_cons]; omega
        simp only [com]
        rw [ih g a b σ h h', ih g ((x :: a).drop (pLen s (x :: a) 1)) _ _ (by omega) (by omega)]

/-- with fuel enough. -/
def comW (s : Sg) (a b : List Int) (σ : List KK) : List Int × List KK := com s a.length a b σ
theorem comW_nil (s : Sg) (b : List Int) (σ : List KK) : comW s [] b σ = ([], σ) := com_nil _ _ _ _
theorem comW_same {s : Sg} {x y : Int} {a b : List Int} {σ : List KK} (h : x = y ∧ 0 ≤ x) : comW s (x :: a) (y :: b) σ = (x :: (comW s a b σ).1, (comW s a b σ).2) := by
  unfold comW
  simp only [List.length_cons, com, if_pos h]
theorem comW_diff {s : Sg} {m m' : Int} {x y : Int} {p q a b : List Int} {σ : List KK} (hp : IsT s m p) (hq : IsT s m' q) (hx : p.head? = some x) (hy : q.head? = some y) (h : ¬ (x = y ∧ 0 ≤ x)) :
    comW s (p ++ a) (q ++ b) σ = (numK σ (keyL p, keyL q) :: (comW s a b (insK σ (keyL p, keyL q))).1, (comW s a b (insK σ (keyL p, keyL q))).2) := by
  cases p with
  | nil => simp at hx
  | cons x' p =>
    cases q with
    | nil => simp at hy
    | cons y' q =>
      simp at hx hy
      subst hx; subst hy
      have e1 := pLen_T1 hp a
      have e2 := pLen_T1 hq b
      unfold comW
      simp only [List.cons_append] at e1 e2
      simp only [List.cons_append, List.length_cons, com, if_neg h]
      rw [e1, e2]
      have t1 : List.take (x' :: p).length (x' :: (p ++ a)) = x' :: p := by rw [← List.cons_append, List.take_left]
      have t2 : List.take (y' :: q).length (y' :: (q ++ b)) = y' :: q := by rw [← List.cons_append, List.take_left]
      have d1 : List.drop (x' :: p).length (x' :: (p ++ a)) = a := by rw [← List.cons_append, List.drop_left]
      have d2 : List.drop (y' :: q).length (y' :: (q ++ b)) = b := by rw [← List.cons_append, List.drop_left]
      rw [t1, t2, d1, d2, com_fuel s _ a.length a b _ (by simp) (Nat.le_refl _)]

theorem comW_append {s : Sg} {m : Int} {p : List Int} (hp : IsT s m p) : ∀ {m' : Int} {q : List Int}, IsT s m' q → ∀ (a b : List Int) (σ : List KK),
    comW s (p ++ a) (q ++ b) σ = ((comW s p q σ).1 ++ (comW s a b (comW s p q σ).2).1, (comW s a b (comW s p q σ).2).2) := by
  induction hp with
  | var n h1 h2 =>
    intro m' q hq a b σ
    obtain ⟨y, hy⟩ : ∃ y, q.head? = some y := by cases hq <;> simp
    have hd : ¬ (n = y ∧ 0 ≤ n) := by omega
    have e1 := comW_diff (a := a) (b := b) (σ := σ) (.var (s := s) (m := m) n h1 h2) hq (by simp) hy hd
    have e2 := comW_diff (a := []) (b := []) (σ := σ) (.var (s := s) (m := m) n h1 h2) hq (by simp) hy hd
    rw [comW_nil] at e2
    simp only [List.append_nil] at e2
    rw [e1, e2]
    simp
  | app c zs h1 h2 h3 ih =>
    intro m' q hq a b σ
    have hP : IsT s m ((c : Int) :: zs.flatten) := .app c zs h1 h2 h3
    cases hq with
    | var n k1 k2 =>
      have hd : ¬ ((c : Int) = n ∧ 0 ≤ (c : Int)) := by omega
      have e1 := comW_diff (a := a) (b := b) (σ := σ) hP (.var (s := s) (m := m') n k1 k2) (by simp) (by simp) hd
      have e2 := comW_diff (a := []) (b := []) (σ := σ) hP (.var (s := s) (m := m') n k1 k2) (by simp) (by simp) hd
      rw [comW_nil] at e2
      simp only [List.append_nil] at e2
      rw [e1, e2]
      simp
    | app d ws k1 k2 k3 =>
      have hQ : IsT s m' ((d : Int) :: ws.flatten) := .app d ws k1 k2 k3
      by_cases hcd : c = d
      · subst hcd
        have hl : zs.length = ws.length := by have := h2.trans k2.symm; omega
        have key : ∀ (us vs : List (List Int)), (∀ u ∈ us, u ∈ zs) → (∀ v ∈ vs, IsT s m' v) → us.length = vs.length → ∀ (a b : List Int) (σ : List KK),
            comW s (us.flatten ++ a) (vs.flatten ++ b) σ = ((comW s us.flatten vs.flatten σ).1 ++ (comW s a b (comW s us.flatten vs.flatten σ).2).1, (comW s a b (comW s us.flatten vs.flatten σ).2).2) := by
          intro us
          induction us with
          | nil =>
            intro vs _ _ hl a b σ
            have : vs = [] := by cases vs with
              | nil => rfl
              | cons => simp at hl
            subst this
            simp [comW_nil]
          | cons u us ihu =>
            intro vs hu hv hl a b σ
            cases vs with
            | nil => simp at hl
            | cons v vs =>
              simp only [List.flatten_cons, List.append_assoc]
              have q1 := ih u (hu u (by simp)) (hv v (by simp)) (us.flatten ++ a) (vs.flatten ++ b) σ
              have q2 := ih u (hu u (by simp)) (hv v (by simp)) us.flatten vs.flatten σ
              have q3 := ihu vs (fun x hx => hu x (by simp [hx])) (fun x hx => hv x (by simp [hx])) (by simpa using hl) a b (comW s u v σ).2
              rw [q1, q2, q3]
              simp
        have e := key zs ws (fun _ h => h) k3 hl a b σ
        simp only [List.cons_append]
        rw [comW_same ⟨rfl, by omega⟩, comW_same ⟨rfl, by omega⟩, e]
        simp
      · have hd : ¬ ((c : Int) = (d : Int) ∧ 0 ≤ (c : Int)) := by omega
        have e1 := comW_diff (a := a) (b := b) (σ := σ) hP hQ (by simp) (by simp) hd
        have e2 := comW_diff (a := []) (b := []) (σ := σ) hP hQ (by simp) (by simp) hd
        rw [comW_nil] at e2
        simp only [List.append_nil] at e2
        rw [e1, e2]
        simp

theorem comW_flat {s : Sg} {m m' : Int} : ∀ (us vs : List (List Int)), (∀ u ∈ us, IsT s m u) → (∀ v ∈ vs, IsT s m' v) → us.length = vs.length → ∀ (a b : List Int) (σ : List KK),
    comW s (us.flatten ++ a) (vs.flatten ++ b) σ = ((comW s us.flatten vs.flatten σ).1 ++ (comW s a b (comW s us.flatten vs.flatten σ).2).1, (comW s a b (comW s us.flatten vs.flatten σ).2).2) := by
  intro us
  induction us with
  | nil =>
    intro vs _ _ hl a b σ
    have : vs = [] := by cases vs with
      | nil => rfl
      | cons => simp at hl
    subst this
    simp [comW_nil]
  | cons u us ihu =>
    intro vs hu hv hl a b σ
    cases vs with
    | nil => simp at hl
    | cons v vs =>
      simp only [List.flatten_cons, List.append_assoc]
      have q1 := comW_append (hu u (by simp)) (hv v (by simp)) (us.flatten ++ a) (vs.flatten ++ b) σ
      have q2 := comW_append (hu u (by simp)) (hv v (by simp)) us.flatten vs.flatten σ
      have q3 := ihu vs (fun x hx => hu x (by simp [hx])) (fun x hx => hv x (by simp [hx])) (by simpa using hl) a b (comW s u v σ).2
      rw [q1, q2, q3]
      simp

/-- bounds. -/
theorem insK_len (σ : List KK) (k : KK) : (insK σ k).length ≤ σ.length + 1 := by unfold insK; split <;> simp
theorem com_len (s : Sg) : ∀ (f : Nat) (a b : List Int) (σ : List KK), (com s f a b σ).1.length ≤ a.length ∧ (com s f a b σ).2.length ≤ σ.length + a.length ∧ σ.length ≤ (com s f a b σ).2.length := by
  intro f
  induction f with
  | zero => intro a b σ; simp [com]
  | succ f ih =>
    intro a b σ
    cases a with
    | nil => rw [com_nil]; simp
    | cons x a =>
      cases b with
      | nil => rw [com_nil2]; simp
      | cons y b =>
        simp only [com]
        have hp := pLen_pos s x a
        have hd : ((x :: a).drop (pLen s (x :: a) 1)).length ≤ a.length := by rw [List.length_drop, List.length_cons]; omega
        split
        · have := ih a b σ
          simp only [List.length_cons]
          omega
        · have h1 := ih ((x :: a).drop (pLen s (x :: a) 1)) ((y :: b).drop (pLen s (y :: b) 1)) (insK σ (keyL ((x :: a).take (pLen s (x :: a) 1)), keyL ((y :: b).take (pLen s (y :: b) 1))))
          have h2 := insK_len σ (keyL ((x :: a).take (pLen s (x :: a) 1)), keyL ((y :: b).take (pLen s (y :: b) 1)))
          have h3 : σ.length ≤ (insK σ (keyL ((x :: a).take (pLen s (x :: a) 1)), keyL ((y :: b).take (pLen s (y :: b) 1)))).length := by unfold insK; split <;> simp
          simp only [List.length_cons]
          omega
theorem comW_len (s : Sg) (a b : List Int) (σ : List KK) : (comW s a b σ).1.length ≤ a.length ∧ (comW s a b σ).2.length ≤ σ.length + a.length ∧ σ.length ≤ (comW s a b σ).2.length := com_len s _ a b σ

theorem mapK_ins {σ : List KK} {k : KK} (h : k ∉ σ) : (fun y => if y = k then some (numK σ k) else mapK σ y) = mapK (insK σ k) := by
  funext y
  unfold mapK insK
  rw [if_neg h]
  by_cases hy : y = k
  · subst hy
    simp only [if_true]
    rw [if_pos (by simp)]
    unfold numK
    rw [List.idxOf_append]
    simp [h, List.idxOf_eq_length h]
  · rw [if_neg hy]
    by_cases hm : y ∈ σ
    · rw [if_pos hm, if_pos (by simp [hm])]
      unfold numK
      rw [List.idxOf_append, if_pos hm]
    · rw [if_neg hm, if_neg (by simp [hm, hy])]

end Go.Proofs.Ytcpbpamnhdnanaa
