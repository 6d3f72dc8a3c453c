/-
  WHAT IT HOLDS: the contract of key of package unify: a list of small numbers as a text. Conditions: the argument reads as data; its numbers lie in -12 .. 200; it is not empty and has at most 1000 numbers.
  WHAT IT HOLDS: a plain function that says what the join of two terms computes (com), with the pairs that it has named so far; how it is put together over lists of terms. No program in sight. No condition.
  WHAT IT HOLDS: plain theory of joins and of canonical forms with few variables: both terms are instances of their join, and each term that has both as instances has their join. No program in sight. Condition: the lists are terms.
-/
import Derived.Laws.IdiomStrings
import Derived.Test.YtpflkjldapmgdaaGreatZRCarryConverse3
import Derived.Test.YtpflkjldapmgdaaGreatZRCarryConverse1
import Derived.Test.YtpflkjldapmgdaaGreatZRCarryConverse10
namespace Go.Proofs.YtpflkjldapmgdaaGreat
open Go Go.RowKit Go.Maps
def keyL (t : List Int) : List UInt8 := t.map fun n => UInt8.ofNat (n + 12).toNat
def keyB (t : List Int) : ByteArray := ⟨(keyL t).toArray⟩
theorem keyL_cells {t : List Int} (h : ∀ x ∈ t, -12 ≤ x ∧ x ≤ 200) : (keyL t).map (fun b => Value.int .u8 (b.toNat : Int)) = t.map (fun n => Value.int .u8 (n + 12)) := by
  unfold keyL
  rw [List.map_map]
  apply List.map_congr_left
  intro x hx
  have := h x hx
  obtain ⟨k, hk⟩ := Int.eq_ofNat_of_zero_le (show 0 ≤ x + 12 by omega)
  simp only [Function.comp]
  rw [hk, Int.toNat_natCast]
  have : (UInt8.ofNat k).toNat = k := by rw [UInt8.toNat_ofNat']; omega
  rw [this]
theorem keyB_inj {t u : List Int} (h : ∀ x ∈ t, -12 ≤ x ∧ x ≤ 200) (h' : ∀ x ∈ u, -12 ≤ x ∧ x ≤ 200) (he : keyB t = keyB u) : t = u := by
  have h1 : keyL t = keyL u := by
    unfold keyB at he
    simpa using he
  have h2 := keyL_cells h
  rw [h1, keyL_cells h'] at h2
  have := congrArg (List.map (fun v => (match v with | .int _ n => n - 12 | _ => 0 : Int))) h2
  rw [List.map_map, List.map_map] at this
  have e : ∀ l : List Int, List.map ((fun v => (match v with | Value.int _ n => n - 12 | _ => 0 : Int)) ∘ fun n => Value.int .u8 (n + 12)) l = l := by
    intro l
    conv => rhs; rw [← List.map_id l]
    apply List.map_congr_left
    intro x _
    simp
  rw [e, e] at this
  exact this.symm
theorem keyB_size (t : List Int) : (keyB t).size = t.length := by simp [keyB, keyL, ByteArray.size]
end Go.Proofs.YtpflkjldapmgdaaGreat
namespace Go.Proofs.YtpflkjldapmgdaaGreat

abbrev KK := List UInt8 × List UInt8
def insK (σ : List KK) (k : KK) : List KK := if k ∈ σ then σ else σ ++ [k]
def numK (σ : List KK) (k : KK) : Int := -(σ.idxOf k : Int) - 1
def mapK (σ : List KK) : KK → Option Int := fun k => if k ∈ σ then some (numK σ k) else none

theorem pLen_pos (s : Sg) (x : Int) (a : List Int) : 1 ≤ pLen s (x :: a) 1 := by simp only [pLen]; omega
theorem pLen_le (s : Sg) : ∀ (l : List Int) (k : Nat), pLen s l k ≤ l.length := by
  intro l
  induction l with
  | nil => intro k; simp [pLen]
  | cons x r ih =>
    intro k
    cases k with
    | zero => simp [pLen]
    | succ k => simp only [pLen, List.length_cons]; have := ih (k + (arOf s x).toNat); omega

/-- the join of two lists of terms; numbers below 0 are the names of pairs. -/
def com (s : Sg) : Nat → List Int → List Int → List KK → List Int × List KK
  | 0, _, _, σ => ([], σ)
  | f + 1, x :: a, y :: b, σ =>
    if x = y ∧ 0 ≤ x then (x :: (com s f a b σ).1, (com s f a b σ).2)
    else
      (numK σ (keyL ((x :: a).take (pLen s (x :: a) 1)), keyL ((y :: b).take (pLen s (y :: b) 1))) ::
        (com s f ((x :: a).drop (pLen s (x :: a) 1)) ((y :: b).drop (pLen s (y :: b) 1)) (insK σ (keyL ((x :: a).take (pLen s (x :: a) 1)), keyL ((y :: b).take (pLen s (y :: b) 1))))).1,
       (com s f ((x :: a).drop (pLen s (x :: a) 1)) ((y :: b).drop (pLen s (y :: b) 1)) (insK σ (keyL ((x :: a).take (pLen s (x :: a) 1)), keyL ((y :: b).take (pLen s (y :: b) 1))))).2)
  | _ + 1, _, _, σ => ([], σ)

theorem com_nil (s : Sg) (f : Nat) (b : List Int) (σ : List KK) : com s f [] b σ = ([], σ) := by cases f <;> rfl
theorem com_nil2 (s : Sg) (f : Nat) (a : List Int) (σ : List KK) : com s f a [] σ = ([], σ) := by cases f <;> cases a <;> rfl
theorem com_fuel (s : Sg) : ∀ (f g : Nat) (a b : List Int) (σ : List KK), a.length ≤ f → a.length ≤ g → com s f a b σ = com s g a b σ := by
  intro f
  induction f with
  | zero =>
    intro g a b σ h _
    have : a = [] := by cases a with
      | nil => rfl
      | cons => simp at h
    subst this
    rw [com_nil, com_nil]
  | succ f ih =>
    intro g a b σ h h'
    cases a with
    | nil => rw [com_nil, com_nil]
    | cons x a =>
      cases b with
      | nil => rw [com_nil2, com_nil2]
      | cons y b =>
        obtain ⟨g, rfl⟩ : ∃ q, g = q + 1 := ⟨g - 1, by simp at h'; omega⟩
        simp only [List.length_cons, Nat.add_le_add_iff_right] at h h'
        have hp := pLen_pos s x a
        have hd : ((x :: a).drop (pLen s (x :: a) 1)).length ≤ a.length := by rw [List.length_drop, List.length_cons]; omega
        simp only [com]
        rw [ih g a b σ h h', ih g ((x :: a).drop (pLen s (x :: a) 1)) _ _ (by omega) (by omega)]

/-- with fuel enough. -/
def comW (s : Sg) (a b : List Int) (σ : List KK) : List Int × List KK := com s a.length a b σ
theorem comW_nil (s : Sg) (b : List Int) (σ : List KK) : comW s [] b σ = ([], σ) := com_nil _ _ _ _
theorem comW_same {s : Sg} {x y : Int} {a b : List Int} {σ : List KK} (h : x = y ∧ 0 ≤ x) : comW s (x :: a) (y :: b) σ = (x :: (comW s a b σ).1, (comW s a b σ).2) := by
  unfold comW
  simp only [List.length_cons, com, if_pos h]
theorem comW_diff {s : Sg} {m m' : Int} {x y : Int} {p q a b : List Int} {σ : List KK} (hp : IsT s m p) (hq : IsT s m' q) (hx : p.head? = some x) (hy : q.head? = some y) (h : ¬ (x = y ∧ 0 ≤ x)) :
    comW s (p ++ a) (q ++ b) σ = (numK σ (keyL p, keyL q) :: (comW s a b (insK σ (keyL p, keyL q))).1, (comW s a b (insK σ (keyL p, keyL q))).2) := by
  cases p with
  | nil => simp at hx
  | cons x' p =>
    cases q with
    | nil => simp at hy
    | cons y' q =>
      simp at hx hy
      subst hx; subst hy
      have e1 := pLen_T1 hp a
      have e2 := pLen_T1 hq b
      unfold comW
      simp only [List.cons_append] at e1 e2
      simp only [List.cons_append, List.length_cons, com, if_neg h]
      rw [e1, e2]
      have t1 : List.take (x' :: p).length (x' :: (p ++ a)) = x' :: p := by rw [← List.cons_append, List.take_left]
      have t2 : List.take (y' :: q).length (y' :: (q ++ b)) = y' :: q := by rw [← List.cons_append, List.take_left]
      have d1 : List.drop (x' :: p).length (x' :: (p ++ a)) = a := by rw [← List.cons_append, List.drop_left]
      have d2 : List.drop (y' :: q).length (y' :: (q ++ b)) = b := by rw [← List.cons_append, List.drop_left]
      rw [t1, t2, d1, d2, com_fuel s _ a.length a b _ (by simp) (Nat.le_refl _)]

theorem comW_append {s : Sg} {m : Int} {p : List Int} (hp : IsT s m p) : ∀ {m' : Int} {q : List Int}, IsT s m' q → ∀ (a b : List Int) (σ : List KK),
    comW s (p ++ a) (q ++ b) σ = ((comW s p q σ).1 ++ (comW s a b (comW s p q σ).2).1, (comW s a b (comW s p q σ).2).2) := by
  induction hp with
  | var n h1 h2 =>
    intro m' q hq a b σ
    obtain ⟨y, hy⟩ : ∃ y, q.head? = some y := by cases hq <;> simp
    have hd : ¬ (n = y ∧ 0 ≤ n) := by omega
    have e1 := comW_diff (a := a) (b := b) (σ := σ) (.var (s := s) (m := m) n h1 h2) hq (by simp) hy hd
    have e2 := comW_diff (a := []) (b := []) (σ := σ) (.var (s := s) (m := m) n h1 h2) hq (by simp) hy hd
    rw [comW_nil] at e2
    simp only [List.append_nil] at e2
    rw [e1, e2]
    simp
  | app c zs h1 h2 h3 ih =>
    intro m' q hq a b σ
    have hP : IsT s m ((c : Int) :: zs.flatten) := .app c zs h1 h2 h3
    cases hq with
    | var n k1 k2 =>
      have hd : ¬ ((c : Int) = n ∧ 0 ≤ (c : Int)) := by omega
      have e1 := comW_diff (a := a) (b := b) (σ := σ) hP (.var (s := s) (m := m') n k1 k2) (by simp) (by simp) hd
      have e2 := comW_diff (a := []) (b := []) (σ := σ) hP (.var (s := s) (m := m') n k1 k2) (by simp) (by simp) hd
      rw [comW_nil] at e2
      simp only [List.append_nil] at e2
      rw [e1, e2]
      simp
    | app d ws k1 k2 k3 =>
      have hQ : IsT s m' ((d : Int) :: ws.flatten) := .app d ws k1 k2 k3
      by_cases hcd : c = d
      · subst hcd
        have hl : zs.length = ws.length := by have := h2.trans k2.symm; omega
        have key : ∀ (us vs : List (List Int)), (∀ u ∈ us, u ∈ zs) → (∀ v ∈ vs, IsT s m' v) → us.length = vs.length → ∀ (a b : List Int) (σ : List KK),
            comW s (us.flatten ++ a) (vs.flatten ++ b) σ = ((comW s us.flatten vs.flatten σ).1 ++ (comW s a b (comW s us.flatten vs.flatten σ).2).1, (comW s a b (comW s us.flatten vs.flatten σ).2).2) := by
          intro us
          induction us with
          | nil =>
            intro vs _ _ hl a b σ
            have : vs = [] := by cases vs with
              | nil => rfl
              | cons => simp at hl
            subst this
            simp [comW_nil]
          | cons u us ihu =>
            intro vs hu hv hl a b σ
            cases vs with
            | nil => simp at hl
            | cons v vs =>
              simp only [List.flatten_cons, List.append_assoc]
              have q1 := ih u (hu u (by simp)) (hv v (by simp)) (us.flatten ++ a) (vs.flatten ++ b) σ
              have q2 := ih u (hu u (by simp)) (hv v (by simp)) us.flatten vs.flatten σ
              have q3 := ihu vs (fun x hx => hu x (by simp [hx])) (fun x hx => hv x (by simp [hx])) (by simpa using hl) a b (comW s u v σ).2
              rw [q1, q2, q3]
              simp
        have e := key zs ws (fun _ h => h) k3 hl a b σ
        simp only [List.cons_append]
        rw [comW_same ⟨rfl, by omega⟩, comW_same ⟨rfl, by omega⟩, e]
        simp
      · have hd : ¬ ((c : Int) = (d : Int) ∧ 0 ≤ (c : Int)) := by omega
        have e1 := comW_diff (a := a) (b := b) (σ := σ) hP hQ (by simp) (by simp) hd
        have e2 := comW_diff (a := []) (b := []) (σ := σ) hP hQ (by simp) (by simp) hd
        rw [comW_nil] at e2
        simp only [List.append_nil] at e2
        rw [e1, e2]
        simp

theorem comW_flat {s : Sg} {m m' : Int} : ∀ (us vs : List (List Int)), (∀ u ∈ us, IsT s m u) → (∀ v ∈ vs, IsT s m' v) → us.length = vs.length → ∀ (a b : List Int) (σ : List KK),
    comW s (us.flatten ++ a) (vs.flatten ++ b) σ = ((comW s us.flatten vs.flatten σ).1 ++ (comW s a b (comW s us.flatten vs.flatten σ).2).1, (comW s a b (comW s us.flatten vs.flatten σ).2).2) := by
  intro us
  induction us with
  | nil =>
    intro vs _ _ hl a b σ
    have : vs = [] := by cases vs with
      | nil => rfl
      | cons => simp at hl
    subst this
    simp [comW_nil]
  | cons u us ihu =>
    intro vs hu hv hl a b σ
    cases vs with
    | nil => simp at hl
    | cons v vs =>
      simp only [List.flatten_cons, List.append_assoc]
      have q1 := comW_append (hu u (by simp)) (hv v (by simp)) (us.flatten ++ a) (vs.flatten ++ b) σ
      have q2 := comW_append (hu u (by simp)) (hv v (by simp)) us.flatten vs.flatten σ
      have q3 := ihu vs (fun x hx => hu x (by simp [hx])) (fun x hx => hv x (by simp [hx])) (by simpa using hl) a b (comW s u v σ).2
      rw [q1, q2, q3]
      simp

/-- bounds. -/
theorem insK_len (σ : List KK) (k : KK) : (insK σ k).length ≤ σ.length + 1 := by unfold insK; split <;> simp
theorem com_len (s : Sg) : ∀ (f : Nat) (a b : List Int) (σ : List KK), (com s f a b σ).1.length ≤ a.length ∧ (com s f a b σ).2.length ≤ σ.length + a.length ∧ σ.length ≤ (com s f a b σ).2.length := by
  intro f
  induction f with
  | zero => intro a b σ; simp [com]
  | succ f ih =>
    intro a b σ
    cases a with
    | nil => rw [com_nil]; simp
    | cons x a =>
      cases b with
      | nil => rw [com_nil2]; simp
      | cons y b =>
        simp only [com]
        have hp := pLen_pos s x a
        have hd : ((x :: a).drop (pLen s (x :: a) 1)).length ≤ a.length := by rw [List.length_drop, List.length_cons]; omega
        split
        · have := ih a b σ
          simp only [List.length_cons]
          omega
        · have h1 := ih ((x :: a).drop (pLen s (x :: a) 1)) ((y :: b).drop (pLen s (y :: b) 1)) (insK σ (keyL ((x :: a).take (pLen s (x :: a) 1)), keyL ((y :: b).take (pLen s (y :: b) 1))))
          have h2 := insK_len σ (keyL ((x :: a).take (pLen s (x :: a) 1)), keyL ((y :: b).take (pLen s (y :: b) 1)))
          have h3 : σ.length ≤ (insK σ (keyL ((x :: a).take (pLen s (x :: a) 1)), keyL ((y :: b).take (pLen s (y :: b) 1)))).length := by unfold insK; split <;> simp
          simp only [List.length_cons]
          omega
theorem comW_len (s : Sg) (a b : List Int) (σ : List KK) : (comW s a b σ).1.length ≤ a.length ∧ (comW s a b σ).2.length ≤ σ.length + a.length ∧ σ.length ≤ (comW s a b σ).2.length := com_len s _ a b σ

theorem mapK_ins {σ : List KK} {k : KK} (h : k ∉ σ) : (fun y => if y = k then some (numK σ k) else mapK σ y) = mapK (insK σ k) := by
  funext y
  unfold mapK insK
  rw [if_neg h]
  by_cases hy : y = k
  · subst hy
    simp only [if_true]
    rw [if_pos (by simp)]
    unfold numK
    rw [List.idxOf_append]
    simp [h, List.idxOf_eq_length h]
  · rw [if_neg hy]
    by_cases hm : y ∈ σ
    · rw [if_pos hm, if_pos (by simp [hm])]
      unfold numK
      rw [List.idxOf_append, if_pos hm]
    · rw [if_neg hm, if_neg (by simp [hm, hy])]

end Go.Proofs.YtpflkjldapmgdaaGreat
namespace Go.Proofs.YtpflkjldapmgdaaGreat
/-- c is told of a and b, part by part; N says which pair of parts has which name. -/
inductive JR (s : Sg) (N : List Int → List Int → Int → Prop) : List Int → List Int → List Int → Prop
  | nil : JR s N [] [] []
  | same (x : Int) (a b c : List Int) : 0 ≤ x → JR s N a b c → JR s N (x :: a) (x :: b) (x :: c)
  | diff (p q a b c : List Int) (n : Int) : IsT s 12 p → IsT s 12 q → ¬ (∃ x, 0 ≤ x ∧ p.head? = some x ∧ q.head? = some x) → N p q n → JR s N a b c → JR s N (p ++ a) (q ++ b) (n :: c)
theorem cut1 {s : Sg} {m : Int} {p p' a a' : List Int} (h : IsT s m p) (h' : IsT s m p') (e : p ++ a = p' ++ a') : p = p' ∧ a = a' := by
  have := cut_unique (s := s) (m := m) [p] [p'] a a' (by simpa using h) (by simpa using h') rfl (by simpa using e)
  exact ⟨by simpa using this.1, this.2⟩
theorem JR.nil_left {s : Sg} {N : List Int → List Int → Int → Prop} {b c : List Int} (h : JR s N [] b c) : b = [] ∧ c = [] := by
  generalize ha : ([] : List Int) = a at h
  cases h with
  | nil => exact ⟨rfl, rfl⟩
  | same => cases ha
  | diff p q a b c n h1 _ _ _ _ => exact absurd (List.append_eq_nil_iff.1 ha.symm).1 h1.nonempty
theorem JR.cons_inv {s : Sg} {N : List Int → List Int → Int → Prop} {x : Int} {a b c : List Int} (h : JR s N (x :: a) b c) :
    (∃ b' c', b = x :: b' ∧ c = x :: c' ∧ 0 ≤ x ∧ JR s N a b' c') ∨ (∃ p q a' b' c' n, x :: a = p ++ a' ∧ b = q ++ b' ∧ c = n :: c' ∧ IsT s 12 p ∧ IsT s 12 q ∧ ¬ (∃ x, 0 ≤ x ∧ p.head? = some x ∧ q.head? = some x) ∧ N p q n ∧ JR s N a' b' c') := by
  generalize ha : x :: a = y at h
  cases h with
  | nil => cases ha
  | same z a' b' c' h1 h2 => cases ha; exact Or.inl ⟨_, _, rfl, rfl, h1, h2⟩
  | diff p q a b c n h1 h2 h3 h4 h5 => exact Or.inr ⟨p, q, a, b, c, n, rfl, rfl, rfl, h1, h2, h3, h4, h5⟩
theorem head_of_append {p a : List Int} {x : Int} {l : List Int} (h : p ≠ []) (e : x :: l = p ++ a) : p.head? = some x := by
  cases p with
  | nil => exact absurd rfl h
  | cons y p => simp at e; simp [e.1]
theorem JR.det {s : Sg} {N : List Int → List Int → Int → Prop} (hN : ∀ p q n n', N p q n → N p q n' → n = n') {a b c : List Int} (h : JR s N a b c) : ∀ {c' : List Int}, JR s N a b c' → c = c' := by
  induction h with
  | nil => intro c' h; exact (h.nil_left).2.symm
  | same x a b c h1 h2 ih =>
    intro c' h
    rcases h.cons_inv with ⟨b', c'', e1, e2, _, h3⟩ | ⟨p, q, a', b', c'', n, e1, e2, e3, h3, h4, h5, _, _⟩
    · simp at e1; subst e1; rw [e2, ih h3]
    · exact absurd ⟨x, h1, head_of_append h3.nonempty e1, head_of_append h4.nonempty e2⟩ h5
  | diff p q a b c n h1 h2 h3 h4 h5 ih =>
    intro c' h
    cases hp : p ++ a with
    | nil => exact absurd (List.append_eq_nil_iff.1 hp).1 h1.nonempty
    | cons x l =>
      rw [hp] at h
      rcases h.cons_inv with ⟨b', c'', e1, e2, h6, _⟩ | ⟨p', q', a', b', c'', n', e1, e2, e3, h6, h7, _, h8, h9⟩
      · exact absurd ⟨x, h6, head_of_append h1.nonempty hp.symm, head_of_append h2.nonempty e1.symm⟩ h3
      · obtain ⟨rfl, rfl⟩ := cut1 h1 h6 (hp.trans e1)
        obtain ⟨rfl, rfl⟩ := cut1 h2 h7 e2
        rw [e3, hN _ _ _ _ h4 h8, ih h9]
theorem JR.append {s : Sg} {N : List Int → List Int → Int → Prop} {a b c a' b' c' : List Int} (h : JR s N a b c) (h' : JR s N a' b' c') : JR s N (a ++ a') (b ++ b') (c ++ c') := by
  induction h with
  | nil => exact h'
  | same x a b c h1 _ ih => exact .same x _ _ _ h1 ih
  | diff p q a b c n h1 h2 h3 h4 _ ih => rw [List.append_assoc, List.append_assoc]; exact .diff p q _ _ _ n h1 h2 h3 h4 ih
theorem JR.split {s : Sg} {N : List Int → List Int → Int → Prop} : ∀ (len : Nat) (p : List Int) (k : Nat) (q a b c : List Int), p.length = len → Fo s 12 k p → Fo s 12 k q → JR s N (p ++ a) (q ++ b) c → ∃ c1 c2, c = c1 ++ c2 ∧ JR s N p q c1 ∧ JR s N a b c2 := by
  intro len
  induction len using Nat.strongRecOn with
  | ind len ih =>
    intro p k q a b c hl hp hq h
    cases p with
    | nil =>
      have := hp.of_nil
      subst this
      have := hq.zero
      subst this
      exact ⟨[], c, rfl, .nil, h⟩
    | cons x p =>
      obtain ⟨k', rfl, hx⟩ := hp.cons_inv
      rcases h.cons_inv with ⟨b', c', e1, rfl, hx0, h3⟩ | ⟨p', q', a', b', c', n, e1, e2, rfl, h3, h4, h5, h6, h7⟩
      · rcases hx with ⟨h1, _, _⟩ | ⟨_, _, y, rfl, r, hr, hf⟩
        · omega
        · cases q with
          | nil => have := hq.of_nil; omega
          | cons z q =>
            simp at e1
            obtain ⟨rfl, rfl⟩ := e1
            obtain ⟨k2, hk2, ⟨g1, _, _⟩ | ⟨_, _, _, _, r2, hr2, hg⟩⟩ := hq.cons_inv
            · omega
            · have e3 : r2 = r := by rw [hr2] at hr; omega
              have e4 : k2 = k' := by omega
              subst e3 e4
              obtain ⟨c1, c2, rfl, g1, g2⟩ := ih p.length (by simp at hl; omega) p _ q a b c' rfl hf hg h3
              exact ⟨_, c2, rfl, .same _ _ _ _ hx0 g1, g2⟩
      · obtain ⟨p0, p1, e3, hp0, hp1⟩ := hp.split
        obtain ⟨q0, q1, e4, hq0, hq1⟩ := hq.split
        rw [e4, List.append_assoc] at e2
        have e1' : (x :: p) ++ a = p' ++ a' := e1
        rw [e3, List.append_assoc] at e1'
        obtain ⟨rfl, rfl⟩ := cut1 hp0 h3 e1'
        obtain ⟨rfl, rfl⟩ := cut1 hq0 h4 e2
        have hlen := congrArg List.length e3
        rw [List.length_append] at hlen
        have := hp0.ne
        obtain ⟨c1, c2, rfl, g1, g2⟩ := ih p1.length (by omega) p1 _ q1 a b c' rfl hp1 hq1 h7
        rw [e3, e4]
        exact ⟨_, c2, rfl, .diff _ _ _ _ _ n h3 h4 h5 h6 g1, g2⟩
theorem JR.sub1 {s : Sg} {N : List Int → List Int → Int → Prop} {τ : Int → List Int} (hN : ∀ p q n, IsT s 12 p → IsT s 12 q → N p q n → n < 0 ∧ τ n = p) {a b c : List Int} (h : JR s N a b c) : subL τ c = a := by
  induction h with
  | nil => rfl
  | same x a b c h1 _ ih => rw [subL_cons_app _ h1, ih]
  | diff p q a b c n h1 h2 _ h4 _ ih =>
    obtain ⟨g1, g2⟩ := hN p q n h1 h2 h4
    rw [subL_cons_var _ g1, g2, ih]
theorem JR.sub2 {s : Sg} {N : List Int → List Int → Int → Prop} {τ : Int → List Int} (hN : ∀ p q n, IsT s 12 p → IsT s 12 q → N p q n → n < 0 ∧ τ n = q) {a b c : List Int} (h : JR s N a b c) : subL τ c = b := by
  induction h with
  | nil => rfl
  | same x a b c h1 _ ih => rw [subL_cons_app _ h1, ih]
  | diff p q a b c n h1 h2 _ h4 _ ih =>
    obtain ⟨g1, g2⟩ := hN p q n h1 h2 h4
    rw [subL_cons_var _ g1, g2, ih]
/-- what the join has in place of its names. -/
theorem JR.named {s : Sg} {N : List Int → List Int → Int → Prop} {a b c : List Int} (h : JR s N a b c) : ∀ n ∈ c, n < 0 → ∃ p q, IsT s 12 p ∧ IsT s 12 q ∧ N p q n := by
  induction h with
  | nil => intro n hn; cases hn
  | same x a b c h1 _ ih =>
    intro n hn hn0
    rcases List.mem_cons.1 hn with rfl | hn
    · omega
    · exact ih n hn hn0
  | diff p q a b c n h1 h2 _ h4 _ ih =>
    intro y hn hn0
    rcases List.mem_cons.1 hn with rfl | hn
    · exact ⟨p, q, h1, h2, h4⟩
    · exact ih y hn hn0
theorem JR.fo {s : Sg} {N : List Int → List Int → Int → Prop} {m : Int} (hN : ∀ p q n, N p q n → -m ≤ n ∧ n < 0) {a b c : List Int} (h : JR s N a b c) : ∀ (k : Nat), Fo s 12 k a → Fo s m k c := by
  induction h with
  | nil => intro k h; have := h.of_nil; subst this; exact Fo.nil _ _
  | same x a b c h1 _ ih =>
    intro k h
    obtain ⟨k', rfl, ⟨g, _, _⟩ | ⟨g1, g2, y, rfl, r, hr, g3⟩⟩ := h.cons_inv
    · omega
    · exact Fo.cons_app (by omega) hr (ih _ g3)
  | diff p q a b c n h1 h2 _ h4 _ ih =>
    intro k h
    obtain ⟨g1, g2⟩ := hN p q n h4
    cases k with
    | zero => exact absurd (List.append_eq_nil_iff.1 h.zero).1 h1.nonempty
    | succ k =>
      obtain ⟨p', r, e, hp', hr⟩ := h.split
      obtain ⟨rfl, rfl⟩ := cut1 h1 hp' e
      exact Fo.cons_var g2 g1 (ih _ hr)
/-- each term that has both as instances has their join. -/
theorem JR.greatest {s : Sg} {N : List Int → List Int → Int → Prop} (hN : ∀ p q n n', N p q n → N p q n' → n = n') {m : Int} (hNm : ∀ p q n, N p q n → -m ≤ n ∧ n < 0) {d : List Int} {τ1 τ2 : Int → List Int}
    (h1 : ∀ n ∈ d, n < 0 → IsT s 12 (τ1 n)) (h2 : ∀ n ∈ d, n < 0 → IsT s 12 (τ2 n)) {c : List Int} (h : JR s N (subL τ1 d) (subL τ2 d) c) : ∃ τ, (∀ n ∈ d, n < 0 → IsT s m (τ n)) ∧ subL τ d = c := by
  have ex : ∀ (d : List Int), (∀ n ∈ d, n < 0 → IsT s 12 (τ1 n)) → (∀ n ∈ d, n < 0 → IsT s 12 (τ2 n)) → ∀ (c : List Int), JR s N (subL τ1 d) (subL τ2 d) c → ∀ n ∈ d, n < 0 → ∃ e, JR s N (τ1 n) (τ2 n) e := by
    intro d
    induction d with
    | nil => intro _ _ _ _ n hn; cases hn
    | cons x d ih =>
      intro h1 h2 c h n hn hn0
      by_cases hx : x < 0
      · rw [subL_cons_var _ hx, subL_cons_var _ hx] at h
        obtain ⟨c1, c2, _, g1, g2⟩ := JR.split _ _ 1 _ _ _ _ rfl (h1 x (by simp) hx).fo (h2 x (by simp) hx).fo h
        rcases List.mem_cons.1 hn with rfl | hn
        · exact ⟨c1, g1⟩
        · exact ih (fun y hy => h1 y (by simp [hy])) (fun y hy => h2 y (by simp [hy])) c2 g2 n hn hn0
      · rw [subL_cons_app _ (by omega), subL_cons_app _ (by omega)] at h
        rcases List.mem_cons.1 hn with rfl | hn
        · omega
        · rcases h.cons_inv with ⟨b', c', e1, _, _, h3⟩ | ⟨p, q, a', b', c', n', e1, e2, _, h3, h4, h5, _, _⟩
          · simp at e1; subst e1
            exact ih (fun y hy => h1 y (by simp [hy])) (fun y hy => h2 y (by simp [hy])) c' h3 n hn hn0
          · exact absurd ⟨x, by omega, head_of_append h3.nonempty e1, head_of_append h4.nonempty e2⟩ h5
  have ex' := ex d h1 h2 c h
  have hall : ∀ n : Int, ∃ e : List Int, n ∈ d → n < 0 → JR s N (τ1 n) (τ2 n) e := fun n => by
    by_cases hn : n ∈ d ∧ n < 0
    · obtain ⟨e, he⟩ := ex' n hn.1 hn.2; exact ⟨e, fun _ _ => he⟩
    · exact ⟨[], fun a b => absurd ⟨a, b⟩ hn⟩
  refine ⟨fun n => Classical.choose (hall n), fun n hn hn0 => ?_, ?_⟩
  · exact ((Classical.choose_spec (hall n) hn hn0).fo hNm 1 (h1 n hn hn0).fo).one
  · have key : ∀ (e : List Int), (∀ n ∈ e, n ∈ d) → JR s N (subL τ1 e) (subL τ2 e) (subL (fun n => Classical.choose (hall n)) e) := by
      intro e
      induction e with
      | nil => intro _; exact .nil
      | cons x e ih =>
        intro he
        have ih' := ih fun y hy => he y (by simp [hy])
        by_cases hx : x < 0
        · rw [subL_cons_var _ hx, subL_cons_var _ hx, subL_cons_var _ hx]
          exact (Classical.choose_spec (hall x) (he x (by simp)) hx).append ih'
        · rw [subL_cons_app _ (by omega), subL_cons_app _ (by omega), subL_cons_app _ (by omega)]
          exact .same x _ _ _ (by omega) ih'
    exact (key d fun _ h => h).det hN h
def NK (σ : List KK) (p q : List Int) (n : Int) : Prop := (keyL p, keyL q) ∈ σ ∧ n = numK σ (keyL p, keyL q)
theorem numK_stable {σ r : List KK} {k : KK} (h : k ∈ σ) : numK (σ ++ r) k = numK σ k := by
  unfold numK
  rw [List.idxOf_append, if_pos h]
theorem insK_mem (σ : List KK) (k : KK) : k ∈ insK σ k := by
  unfold insK
  split
  · assumption
  · simp
theorem numK_ins (σ : List KK) (k : KK) : numK (insK σ k) k = numK σ k := by
  unfold insK
  split
  · rfl
  · rename_i h
    unfold numK
    rw [List.idxOf_append, if_neg h, List.idxOf_eq_length h]
    simp
theorem insK_pre (σ : List KK) (k : KK) : ∃ r, insK σ k = σ ++ r := by
  unfold insK
  split
  · exact ⟨[], by simp⟩
  · exact ⟨_, rfl⟩
theorem com_pre (s : Sg) : ∀ (f : Nat) (a b : List Int) (σ : List KK), ∃ r, (com s f a b σ).2 = σ ++ r := by
  intro f
  induction f with
  | zero => intro a b σ; exact ⟨[], by simp [com]⟩
  | succ f ih =>
    intro a b σ
    cases a with
    | nil => rw [com_nil]; exact ⟨[], by simp⟩
    | cons x a =>
      cases b with
      | nil => rw [com_nil2]; exact ⟨[], by simp⟩
      | cons y b =>
        unfold com
        split
        · exact ih a b σ
        · obtain ⟨r1, h1⟩ := insK_pre σ (keyL ((x :: a).take (pLen s (x :: a) 1)), keyL ((y :: b).take (pLen s (y :: b) 1)))
          obtain ⟨r2, h2⟩ := ih ((x :: a).drop (pLen s (x :: a) 1)) ((y :: b).drop (pLen s (y :: b) 1)) (insK σ (keyL ((x :: a).take (pLen s (x :: a) 1)), keyL ((y :: b).take (pLen s (y :: b) 1))))
          exact ⟨r1 ++ r2, by simp only; rw [h2, h1, List.append_assoc]⟩
theorem comW_jr {s : Sg} : ∀ (len : Nat) (a : List Int) (k : Nat) (b : List Int) (σ r : List KK), a.length = len → Fo s 12 k a → Fo s 12 k b → JR s (NK ((comW s a b σ).2 ++ r)) a b (comW s a b σ).1 := by
  intro len
  induction len using Nat.strongRecOn with
  | ind len ih =>
    intro a k b σ r hl ha hb
    cases a with
    | nil =>
      have := ha.of_nil
      subst this
      have := hb.zero
      subst this
      rw [comW_nil]
      exact .nil
    | cons x a =>
      cases b with
      | nil => have := hb.of_nil; obtain ⟨k', hk', _⟩ := ha.cons_inv; omega
      | cons y b =>
        by_cases hxy : x = y ∧ 0 ≤ x
        · obtain ⟨rfl, hx⟩ := hxy
          rw [comW_same ⟨rfl, hx⟩]
          obtain ⟨k', rfl, ⟨g, _, _⟩ | ⟨_, _, c, rfl, r1, hr1, g⟩⟩ := ha.cons_inv
          · omega
          · obtain ⟨k2, hk2, ⟨g', _, _⟩ | ⟨_, _, _, _, r2, hr2, g'⟩⟩ := hb.cons_inv
            · omega
            · have e3 : r2 = r1 := by rw [hr2] at hr1; omega
              have e4 : k2 = k' := by omega
              subst e3 e4
              exact .same _ _ _ _ hx (ih a.length (by simp at hl; omega) a _ b σ r rfl g g')
        · obtain ⟨k', rfl, _⟩ := ha.cons_inv
          obtain ⟨p, a', e1, hp, ha'⟩ := ha.split
          obtain ⟨q, b', e2, hq, hb'⟩ := hb.split
          have hpx := head_of_append hp.nonempty e1
          have hqy := head_of_append hq.nonempty e2
          have e := comW_diff (a := a') (b := b') (σ := σ) hp hq hpx hqy hxy
          have hlen := congrArg List.length e1
          rw [List.length_append] at hlen
          have := hp.ne
          have hj := ih a'.length (by omega) a' _ b' (insK σ (keyL p, keyL q)) r rfl ha' hb'
          rw [e1, e2, e]
          obtain ⟨r0, hr0⟩ := com_pre s a'.length a' b' (insK σ (keyL p, keyL q))
          have hr0' : (comW s a' b' (insK σ (keyL p, keyL q))).2 = insK σ (keyL p, keyL q) ++ r0 := hr0
          refine .diff p q a' b' _ _ hp hq ?_ ?_ hj
          · rintro ⟨z, hz, g1, g2⟩
            rw [hpx] at g1; rw [hqy] at g2
            simp at g1 g2
            exact hxy ⟨by omega, by omega⟩
          · simp only
            rw [hr0', List.append_assoc]
            refine ⟨List.mem_append.2 (Or.inl (insK_mem _ _)), ?_⟩
            rw [numK_stable (insK_mem _ _), numK_ins]
def decL (k : List UInt8) : List Int := k.map fun b => (b.toNat : Int) - 12
theorem decL_key {t : List Int} (h : ∀ x ∈ t, -12 ≤ x ∧ x ≤ 200) : decL (keyL t) = t := by
  unfold decL keyL
  rw [List.map_map]
  conv => rhs; rw [← List.map_id t]
  apply List.map_congr_left
  intro x hx
  have := h x hx
  obtain ⟨k, hk⟩ := Int.eq_ofNat_of_zero_le (show 0 ≤ x + 12 by omega)
  simp only [Function.comp, id]
  rw [hk, Int.toNat_natCast]
  have : (UInt8.ofNat k).toNat = k := by rw [UInt8.toNat_ofNat']; omega
  rw [this]; omega
theorem T_small' {s : Sg} {t : List Int} (h : IsT s 12 t) (hs : s.length ≤ 100) : ∀ z ∈ t, -12 ≤ z ∧ z ≤ 200 := by
  intro z hz
  rcases h.range z hz with h | h <;> omega
/-- the join of two terms, and that it is the least one. -/
theorem join_facts {s : Sg} (hs : s.length ≤ 12) {a b : List Int} (ha : IsT s 12 a) (hb : IsT s 12 b) (hl : a.length ≤ 60) :
    IsT s 60 (comW s a b []).1 ∧ Inst s 60 (comW s a b []).1 a ∧ Inst s 60 (comW s a b []).1 b ∧ ∀ d, Inst s 12 d a → Inst s 12 d b → Inst s 60 d (comW s a b []).1 := by
  have hj := comW_jr (s := s) _ a 1 b [] [] rfl ha.fo hb.fo
  rw [List.append_nil] at hj
  have hlen := (comW_len s a b []).2.1
  obtain ⟨σ, hσ⟩ : ∃ σ, (comW s a b []).2 = σ := ⟨_, rfl⟩
  rw [hσ] at hj hlen
  simp at hlen
  have hN : ∀ p q n, NK σ p q n → -60 ≤ n ∧ n < 0 := by
    rintro p q n ⟨h1, rfl⟩
    unfold numK
    have := List.idxOf_lt_length_of_mem h1
    omega
  have hd : ∀ p q n n', NK σ p q n → NK σ p q n' → n = n' := by
    rintro p q n n' ⟨_, rfl⟩ ⟨_, rfl⟩; rfl
  have hget : ∀ p q n, NK σ p q n → σ.getD (-n - 1).toNat ([], []) = (keyL p, keyL q) := by
    rintro p q n ⟨h1, rfl⟩
    unfold numK
    have := List.idxOf_lt_length_of_mem h1
    rw [show (-(-((σ.idxOf (keyL p, keyL q) : Nat) : Int) - 1) - 1).toNat = σ.idxOf (keyL p, keyL q) by omega]
    simp [List.getD, this]
  have hT : IsT s 60 (comW s a b []).1 := (hj.fo hN 1 ha.fo).one
  have h1 : ∀ p q n, IsT s 12 p → IsT s 12 q → NK σ p q n → n < 0 ∧ decL (σ.getD (-n - 1).toNat ([], [])).1 = p := by
    intro p q n hp hq h
    refine ⟨(hN p q n h).2, ?_⟩
    rw [hget p q n h]
    exact decL_key (T_small' hp (by omega))
  have h2 : ∀ p q n, IsT s 12 p → IsT s 12 q → NK σ p q n → n < 0 ∧ decL (σ.getD (-n - 1).toNat ([], [])).2 = q := by
    intro p q n hp hq h
    refine ⟨(hN p q n h).2, ?_⟩
    rw [hget p q n h]
    exact decL_key (T_small' hq (by omega))
  refine ⟨hT, ⟨_, fun n hn hn0 => ?_, hj.sub1 h1⟩, ⟨_, fun n hn hn0 => ?_, hj.sub2 h2⟩, ?_⟩
  · obtain ⟨p, q, hp, hq, hnk⟩ := hj.named n hn hn0
    rw [(h1 p q n hp hq hnk).2]; exact hp.mono (by omega)
  · obtain ⟨p, q, hp, hq, hnk⟩ := hj.named n hn hn0
    rw [(h2 p q n hp hq hnk).2]; exact hq.mono (by omega)
  · rintro d ⟨τ1, g1, e1⟩ ⟨τ2, g2, e2⟩
    rw [← e1, ← e2] at hj
    obtain ⟨τ, g3, e3⟩ := JR.greatest hd hN g1 g2 hj
    rw [e1, e2] at e3
    exact ⟨τ, g3, e3⟩
theorem Inst.mono {s : Sg} {q q' : Int} (h : q ≤ q') {a b : List Int} (k : Inst s q a b) : Inst s q' a b := by
  obtain ⟨σ, h1, h2⟩ := k
  exact ⟨σ, fun n hn hn0 => (h1 n hn hn0).mono h, h2⟩
theorem Inst.down {s : Sg} {q : Int} (hq : 12 ≤ q) {a b : List Int} (ha : IsT s 12 a) (hb : IsT s 12 b) (k : Inst s q a b) : Inst s 12 a b :=
  (inst_iff ha hb).1 ((inst_iff (ha.mono hq) (hb.mono hq)).2 k)
theorem canonL_sub (t : List Int) : canonL t = subL (fun n => [numV (varsF [] t) n]) t := by
  have : ∀ (vs u : List Int), u.map (numV vs) = subL (fun n => [numV vs n]) u := by
    intro vs u
    induction u with
    | nil => rfl
    | cons n u ih =>
      by_cases h : n < 0
      · rw [subL_cons_var _ h, ← ih]; rfl
      · rw [subL_cons_app _ (by omega), ← ih, List.map_cons]
        unfold numV
        rw [if_neg h]
  exact this _ _
theorem canonL_T {s : Sg} {q : Int} {t : List Int} (h : IsT s q t) (hv : (varsF [] t).length ≤ 12) : IsT s 12 (canonL t) := by
  rw [canonL_sub]
  refine h.sub fun n hn hn0 => ?_
  have hm : n ∈ varsF [] t := (varsF_mem t [] n).2 (Or.inr ⟨hn, hn0⟩)
  have := List.idxOf_lt_length_of_mem hm
  refine .var _ ?_ (numV_neg.2 hn0)
  unfold numV
  rw [if_pos hn0]; omega
theorem inst_canon {s : Sg} {q : Int} {t : List Int} (h : IsT s q t) : Inst s q (canonL t) t := canon_inst h (canonL_canon t)
/-- a number of variables at most that of the length. -/
theorem canonL_T' {s : Sg} {q : Int} {t : List Int} (h : IsT s q t) (hl : t.length ≤ 60) : IsT s 60 (canonL t) := by
  rw [canonL_sub]
  refine h.sub fun n hn hn0 => ?_
  have hm : n ∈ varsF [] t := (varsF_mem t [] n).2 (Or.inr ⟨hn, hn0⟩)
  have := List.idxOf_lt_length_of_mem hm
  have h2 : (varsF [] t).length ≤ t.length := by
    have key : ∀ (a vs : List Int), (varsF vs a).length ≤ vs.length + a.length := by
      intro a
      induction a with
      | nil => intro vs; simp [varsF]
      | cons n a ih =>
        intro vs
        simp only [varsF]
        split
        · have := ih (vs ++ [n]); simp at this ⊢; omega
        · have := ih vs; simp; omega
    simpa using key t []
  refine .var _ ?_ (numV_neg.2 hn0)
  unfold numV
  rw [if_pos hn0]; omega
end Go.Proofs.YtpflkjldapmgdaaGreat
