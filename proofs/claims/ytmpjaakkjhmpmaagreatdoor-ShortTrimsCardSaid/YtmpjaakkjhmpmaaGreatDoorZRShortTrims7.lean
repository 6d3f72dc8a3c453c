/-
  WHAT IT HOLDS: the contract of key of package unify: a list of small numbers as a text. Conditions: the argument reads as data; its numbers lie in -12 .. 200; it is not empty and has at most 1000 numbers.
  WHAT IT HOLDS: a plain function that says what the join of two terms computes (com), with the pairs that it has named so far; how it is put together over lists of terms. No program in sight. No condition.
  WHAT IT HOLDS: plain theory of joins and of canonical forms with few variables: both terms are instances of their join, and each term that has both as instances has their join. No program in sight. Condition: the lists are terms.
-/
import Derived.Laws.IdiomStrings
import Derived.Test.YtmpjaakkjhmpmaaGreatDoorZRShortTrims2
import Derived.Test.YtmpjaakkjhmpmaaGreatDoorZRShortTrims1
import Derived.Test.YtmpjaakkjhmpmaaGreatDoorZRShortTrims6
namespace Go.Proofs.YtmpjaakkjhmpmaaGreatDoor
open Go Go.RowKit Go.Maps
end Go.Proofs.YtmpjaakkjhmpmaaGreatDoor
namespace Go.Proofs.YtmpjaakkjhmpmaaGreatDoor

end Go.Proofs.YtmpjaakkjhmpmaaGreatDoor
namespace Go.Proofs.YtmpjaakkjhmpmaaGreatDoor
/-- c is told of a and b, part by part; N says which pair of parts has which name. -/
inductive JR (s : Sg) (N : List Int → List Int → Int → Prop) : List Int → List Int → List Int → Prop
  | nil : JR s N [] [] []
  | same (x : Int) (a b c : List Int) : 0 ≤ x → JR s N a b c → JR s N (x :: a) (x :: b) (x :: c)
  | diff (p q a b c : List Int) (n : Int) : IsT s 12 p → IsT s 12 q → ¬ (∃ x, 0 ≤ x ∧ p.head? = some x ∧ q.head? = some x) → N p q n → JR s N a b c → JR s N (p ++ a) (q ++ b) (n :: c)
theorem cut1 {s : Sg} {m : Int} {p p' a a' : List Int} (h : IsT s m p) (h' : IsT s m p') (e : p ++ a = p' ++ a') : p = p' ∧ a = a' := by
  have := cut_unique (s := s) (m := m) [p] [p'] a a' (by simpa using h) (by simpa using h') rfl (by simpa using e)
  exact ⟨by simpa using this.1, this.2⟩
theorem JR.cons_inv {s : Sg} {N : List Int → List Int → Int → Prop} {x : Int} {a b c : List Int} (h : JR s N (x :: a) b c) :
    (∃ b' c', b = x :: b' ∧ c = x :: c' ∧ 0 ≤ x ∧ JR s N a b' c') ∨ (∃ p q a' b' c' n, x :: a = p ++ a' ∧ b = q ++ b' ∧ c = n :: c' ∧ IsT s 12 p ∧ IsT s 12 q ∧ ¬ (∃ x, 0 ≤ x ∧ p.head? = some x ∧ q.head? = some x) ∧ N p q n ∧ JR s N a' b' c') := by
  generalize ha : x :: a = y at h
  cases h with
  | nil => cases ha
  | same z a' b' c' h1 h2 => cases ha; exact Or.inl ⟨_, _, rfl, rfl, h1, h2⟩
  | diff p q a b c n h1 h2 h3 h4 h5 => exact Or.inr ⟨p, q, a, b, c, n, rfl, rfl, rfl, h1, h2, h3, h4, h5⟩
theorem JR.append {s : Sg} {N : List Int → List Int → Int → Prop} {a b c a' b' c' : List Int} (h : JR s N a b c) (h' : JR s N a' b' c') : JR s N (a ++ a') (b ++ b') (c ++ c') := by
  induction h with
  | nil => exact h'
  | same x a b c h1 _ ih => exact .same x _ _ _ h1 ih
  | diff p q a b c n h1 h2 h3 h4 _ ih => rw [List.append_assoc, List.append_assoc]; exact .diff p q _ _ _ n h1 h2 h3 h4 ih
theorem JR.split {s : Sg} {N : List Int → List Int → Int → Prop} : ∀ (len : Nat) (p : List Int) (k : Nat) (q a b c : List Int), p.length = len → Fo s 12 k p → Fo s 12 k q → JR s N (p ++ a) (q ++ b) c → ∃ c1 c2, c = c1 ++ c2 ∧ JR s N p q c1 ∧ JR s N a b c2 := by
  intro len
  induction len using Nat.strongRecOn with
  | ind len ih =>
    intro p k q a b c hl hp hq h
    cases p with
    | nil =>
      have := hp.of_nil
      subst this
      have := hq.zero
      subst this
      exact ⟨[], c, rfl, .nil, h⟩
    | cons x p =>
      obtain ⟨k', rfl, hx⟩ := hp.cons_inv
      rcases h.cons_inv with ⟨b', c', e1, rfl, hx0, h3⟩ | ⟨p', q', a', b', c', n, e1, e2, rfl, h3, h4, h5, h6, h7⟩
      · rcases hx with ⟨h1, _, _⟩ | ⟨_, _, y, rfl, r, hr, hf⟩
        · omega
        · cases q with
          | nil => have := hq.of_nil; omega
          | cons z q =>
            simp at e1
            obtain ⟨rfl, rfl⟩ := e1
            obtain ⟨k2, hk2, ⟨g1, _, _⟩ | ⟨_, _, _, _, r2, hr2, hg⟩⟩ := hq.cons_inv
            · omega
            · have e3 : r2 = r := by rw [hr2] at hr; omega
              have e4 : k2 = k' := by omega
              subst e3 e4
              obtain ⟨c1, c2, rfl, g1, g2⟩ := ih p.length (by simp at hl; omega) p _ q a b c' rfl hf hg h3
              exact ⟨_, c2, rfl, .same _ _ _ _ hx0 g1, g2⟩
      · obtain ⟨p0, p1, e3, hp0, hp1⟩ := hp.split
        obtain ⟨q0, q1, e4, hq0, hq1⟩ := hq.split
        rw [e4, List.append_assoc] at e2
        have e1' : (x :: p) ++ a = p' ++ a' := e1
        rw [e3, List.append_assoc] at e1'
        obtain ⟨rfl, rfl⟩ := cut1 hp0 h3 e1'
        obtain ⟨rfl, rfl⟩ := cut1 hq0 h4 e2
        have hlen := congrArg List.length e3
        rw [List.length_append] at hlen
        have := hp0.ne
        obtain ⟨c1, c2, rfl, g1, g2⟩ := ih p1.length (by omega) p1 _ q1 a b c' rfl hp1 hq1 h7
        rw [e3, e4]
        exact ⟨_, c2, rfl, .diff _ _ _ _ _ n h3 h4 h5 h6 g1, g2⟩
/-- what the join has in place of its names. -/
theorem JR.named {s : Sg} {N : List Int → List Int → Int → Prop} {a b c : List Int} (h : JR s N a b c) : ∀ n ∈ c, n < 0 → ∃ p q, IsT s 12 p ∧ IsT s 12 q ∧ N p q n := by
  induction h with
  | nil => intro n hn; cases hn
  | same x a b c h1 _ ih =>
    intro n hn hn0
    rcases List.mem_cons.1 hn with rfl | hn
    · omega
    · exact ih n hn hn0
  | diff p q a b c n h1 h2 _ h4 _ ih =>
    intro y hn hn0
    rcases List.mem_cons.1 hn with rfl | hn
    · exact ⟨p, q, h1, h2, h4⟩
    · exact ih y hn hn0
theorem JR.fo {s : Sg} {N : List Int → List Int → Int → Prop} {m : Int} (hN : ∀ p q n, N p q n → -m ≤ n ∧ n < 0) {a b c : List Int} (h : JR s N a b c) : ∀ (k : Nat), Fo s 12 k a → Fo s m k c := by
  induction h with
  | nil => intro k h; have := h.of_nil; subst this; exact Fo.nil _ _
  | same x a b c h1 _ ih =>
    intro k h
    obtain ⟨k', rfl, ⟨g, _, _⟩ | ⟨g1, g2, y, rfl, r, hr, g3⟩⟩ := h.cons_inv
    · omega
    · exact Fo.cons_app (by omega) hr (ih _ g3)
  | diff p q a b c n h1 h2 _ h4 _ ih =>
    intro k h
    obtain ⟨g1, g2⟩ := hN p q n h4
    cases k with
    | zero => exact absurd (List.append_eq_nil_iff.1 h.zero).1 h1.nonempty
    | succ k =>
      obtain ⟨p', r, e, hp', hr⟩ := h.split
      obtain ⟨rfl, rfl⟩ := cut1 h1 hp' e
      exact Fo.cons_var g2 g1 (ih _ hr)
theorem Inst.mono {s : Sg} {q q' : Int} (h : q ≤ q') {a b : List Int} (k : Inst s q a b) : Inst s q' a b := by
  obtain ⟨σ, h1, h2⟩ := k
  exact ⟨σ, fun n hn hn0 => (h1 n hn hn0).mono h, h2⟩
theorem Inst.down {s : Sg} {q : Int} (hq : 12 ≤ q) {a b : List Int} (ha : IsT s 12 a) (hb : IsT s 12 b) (k : Inst s q a b) : Inst s 12 a b :=
  (inst_iff ha hb).1 ((inst_iff (ha.mono hq) (hb.mono hq)).2 k)
theorem canonL_sub (t : List Int) : canonL t = subL (fun n => [numV (varsF [] t) n]) t := by
  have : ∀ (vs u : List Int), u.map (numV vs) = subL (fun n => [numV vs n]) u := by
    intro vs u
    induction u with
    | nil => rfl
    | cons n u ih =>
      by_cases h : n < 0
      · rw [subL_cons_var _ h, ← ih]; rfl
      · rw [subL_cons_app _ (by omega), ← ih, List.map_cons]
        unfold numV
        rw [if_neg h]
  exact this _ _
theorem canonL_T {s : Sg} {q : Int} {t : List Int} (h : IsT s q t) (hv : (varsF [] t).length ≤ 12) : IsT s 12 (canonL t) := by
  rw [canonL_sub]
  refine h.sub fun n hn hn0 => ?_
  have hm : n ∈ varsF [] t := (varsF_mem t [] n).2 (Or.inr ⟨hn, hn0⟩)
  have := List.idxOf_lt_length_of_mem hm
  refine .var _ ?_ (numV_neg.2 hn0)
  unfold numV
  rw [if_pos hn0]; omega
end Go.Proofs.YtmpjaakkjhmpmaaGreatDoor
