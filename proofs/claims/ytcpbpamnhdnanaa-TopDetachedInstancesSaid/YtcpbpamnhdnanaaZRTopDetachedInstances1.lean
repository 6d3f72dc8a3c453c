/-
  WHAT IT HOLDS: plain facts on terms in prefix order: what a term is (IsT), where its parts end, that a valid list is a term, that lists of terms are cut in one way alone. No program in sight. Condition: a valid sign where it is said.
-/
import Derived.Test.YtcpbpamnhdnanaaZRTopDetachedInstances0
namespace Go.Proofs.Ytcpbpamnhdnanaa

/-- a term over a sign; its variables are the numbers below 0, down to -m. -/
inductive IsT (s : Sg) (m : Int) : List Int → Prop
  | var (n : Int) : -m ≤ n → n < 0 → IsT s m [n]
  | app (c : Nat) (as : List (List Int)) : c < s.length → (as.length : Int) = arOf s c → (∀ a ∈ as, IsT s m a) → IsT s m ((c : Int) :: as.flatten)

theorem IsT.ne {s : Sg} {m : Int} {t : List Int} (h : IsT s m t) : 0 < t.length := by cases h <;> simp
theorem IsT.nonempty {s : Sg} {m : Int} {t : List Int} (h : IsT s m t) : t ≠ [] := by cases h <;> simp
theorem IsT.mono {s : Sg} {m m' : Int} (hm : m ≤ m') {t : List Int} (h : IsT s m t) : IsT s m' t := by
  induction h with
  | var n h1 h2 => exact .var n (by omega) h2
  | app c as h1 h2 _ ih => exact .app c as h1 h2 ih
theorem IsT.range {s : Sg} {m : Int} {t : List Int} (h : IsT s m t) : ∀ x ∈ t, -m ≤ x ∧ x < s.length ∨ (0 ≤ x ∧ x < s.length) := by
  induction h with
  | var n h1 h2 => intro x hx; simp at hx; subst hx; left; omega
  | app c as h1 h2 _ ih =>
    intro x hx
    rcases List.mem_cons.1 hx with rfl | hx
    · right; omega
    · obtain ⟨a, ha, hxa⟩ := List.mem_flatten.1 hx
      exact ih a ha x hxa

/-- of a list: how many numbers the first k terms of it have. -/
def pLen (s : Sg) : List Int → Nat → Nat
  | [], _ => 0
  | _ :: _, 0 => 0
  | x :: r, k + 1 => 1 + pLen s r (k + (arOf s x).toNat)
theorem pLen_zero (s : Sg) (l : List Int) : pLen s l 0 = 0 := by cases l <;> rfl
theorem pLen_T {s : Sg} {m : Int} {t : List Int} (h : IsT s m t) : ∀ (r : List Int) (k : Nat), pLen s (t ++ r) (k + 1) = t.length + pLen s r k := by
  induction h with
  | var n h1 h2 =>
    intro r k
    simp only [List.singleton_append, pLen]
    have : arOf s n = 0 := by simp [arOf, h2]
    rw [this]; rfl
  | app c as h1 h2 h3 ih =>
    intro r k
    simp only [List.cons_append, pLen]
    have key : ∀ (bs : List (List Int)), (∀ a ∈ bs, a ∈ as) → pLen s (bs.flatten ++ r) (k + bs.length) = bs.flatten.length + pLen s r k := by
      intro bs
      induction bs with
      | nil => intro _; simp
      | cons b bs ihb =>
        intro hb
        have e1 := ih b (hb b (by simp)) (bs.flatten ++ r) (k + bs.length)
        have e2 := ihb (fun a ha => hb a (by simp [ha]))
        rw [show k + (b :: bs).length = k + bs.length + 1 by simp; omega]
        simp only [List.flatten_cons, List.append_assoc, List.length_append]
        rw [e1, e2]; omega
    have e := key as (fun a h => h)
    rw [← h2]
    simp only [Int.toNat_natCast, List.length_cons]
    rw [e]; omega
theorem pLen_T1 {s : Sg} {m : Int} {t : List Int} (h : IsT s m t) (r : List Int) : pLen s (t ++ r) 1 = t.length := by
  have := pLen_T h r 0
  rw [pLen_zero] at this
  simpa using this

/-- lists of terms are cut in one way alone. -/
theorem cut_unique {s : Sg} {m : Int} : ∀ (as bs : List (List Int)) (r r' : List Int), (∀ a ∈ as, IsT s m a) → (∀ b ∈ bs, IsT s m b) → as.length = bs.length → as.flatten ++ r = bs.flatten ++ r' → as = bs ∧ r = r' := by
  intro as
  induction as with
  | nil => intro bs r r' _ _ hl he; cases bs with
    | nil => simpa using he
    | cons => simp at hl
  | cons a as ih =>
    intro bs r r' ha hb hl he
    cases bs with
    | nil => simp at hl
    | cons b bs =>
      simp only [List.flatten_cons, List.append_assoc] at he
      have h1 := pLen_T1 (ha a (by simp)) (as.flatten ++ r)
      have h2 := pLen_T1 (hb b (by simp)) (bs.flatten ++ r')
      rw [he, h2] at h1
      have hab : a = b := by
        have := congrArg (List.take a.length) he
        rw [List.take_left, ← h1, List.take_left] at this
        exact this
      subst hab
      have he' := List.append_cancel_left he
      obtain ⟨h3, h4⟩ := ih bs r r' (fun x hx => ha x (by simp [hx])) (fun x hx => hb x (by simp [hx])) (by simpa using hl) he'
      exact ⟨by rw [h3], h4⟩
theorem app_unique {s : Sg} {m : Int} {c : Nat} {as bs : List (List Int)} (ha : ∀ a ∈ as, IsT s m a) (hb : ∀ b ∈ bs, IsT s m b) (hl : as.length = bs.length) (he : (c : Int) :: as.flatten = (c : Int) :: bs.flatten) : as = bs := by
  have := (List.cons.inj he).2
  exact (cut_unique as bs [] [] ha hb hl (by simpa using this)).1

/-- a list of which k terms are wanted and that is just these, is k terms. -/
theorem need_terms {s : Sg} (hs : signB s = true) : ∀ (n : Nat) (t : List Int) (k : Nat), t.length = n → needB s t k = true → ∃ as : List (List Int), as.length = k ∧ t = as.flatten ∧ ∀ a ∈ as, IsT s 12 a := by
  intro n
  induction n using Nat.strongRecOn with
  | ind n ih =>
    intro t k hn h
    cases t with
    | nil =>
      simp [needB] at h
      have : k = 0 := by omega
      subst this
      exact ⟨[], rfl, rfl, by simp⟩
    | cons x r =>
      simp only [needB, Bool.and_eq_true, Bool.not_eq_true'] at h
      obtain ⟨⟨hk, hx⟩, hr⟩ := h
      have hk0 : k ≠ 0 := by intro e; subst e; simp at hk
      obtain ⟨k, rfl⟩ : ∃ q, k = q + 1 := ⟨k - 1, by omega⟩
      have hxb := inB_true.1 hx
      have har := signB_ar' hs x
      obtain ⟨q, hq⟩ := Int.eq_ofNat_of_zero_le har.1
      rw [hq, show ((↑(k + 1) : Int) - 1 + ↑q) = ((q + k : Nat) : Int) by omega] at hr
      obtain ⟨cs, hcl, hcf, hct⟩ := ih r.length (by simp at hn; omega) r (q + k) rfl hr
      by_cases hneg : x < 0
      · have hq0 : q = 0 := by have : arOf s x = 0 := by simp [arOf, hneg]
                               omega
        subst hq0
        refine ⟨[x] :: cs, by simp; omega, by simp [hcf], ?_⟩
        intro a ha
        rcases List.mem_cons.1 ha with rfl | ha
        · exact .var x (by omega) hneg
        · exact hct a ha
      · obtain ⟨c, rfl⟩ := Int.eq_ofNat_of_zero_le (show 0 ≤ x by omega)
        refine ⟨((c : Int) :: (cs.take q).flatten) :: cs.drop q, by simp; omega, ?_, ?_⟩
        · simp only [List.flatten_cons, List.cons_append]
          rw [← List.flatten_append, List.take_append_drop, hcf]
        · intro a ha
          rcases List.mem_cons.1 ha with rfl | ha
          · refine .app c _ (by omega) ?_ (fun b hb => hct b (List.mem_of_mem_take hb))
            rw [hq]; simp; omega
          · exact hct a (List.mem_of_mem_drop ha)
theorem termB_T {s : Sg} {t : List Int} (h : termB s t = true) : IsT s 12 t := by
  unfold termB at h
  simp only [Bool.and_eq_true] at h
  obtain ⟨as, hl, he, ht⟩ := need_terms h.1.1 t.length t 1 rfl h.2
  match as, hl with
  | [a], _ => simp at he; rw [he]; exact ht a (by simp)
/-- and back. -/
theorem T_need {s : Sg} {t : List Int} (h : IsT s 12 t) : ∀ (r : List Int) (k : Nat), needB s (t ++ r) ((k + 1 : Nat) : Int) = needB s r k := by
  induction h with
  | var n h1 h2 =>
    intro r k
    simp only [List.singleton_append, needB]
    have : arOf s n = 0 := by simp [arOf, h2]
    rw [this, inB_true.2 (by omega)]
    have h0 : ((↑(k + 1) : Int) == 0) = false := by simp; omega
    rw [h0]
    simp
  | app c as h1 h2 h3 ih =>
    intro r k
    simp only [List.cons_append, needB]
    have h0 : ((↑(k + 1) : Int) == 0) = false := by simp; omega
    rw [h0, inB_true.2 (by omega), ← h2]
    have key : ∀ (bs : List (List Int)), (∀ a ∈ bs, a ∈ as) → needB s (bs.flatten ++ r) ((bs.length + k : Nat) : Int) = needB s r k := by
      intro bs
      induction bs with
      | nil => intro _; simp
      | cons b bs ihb =>
        intro hb
        have e1 := ih b (hb b (by simp)) (bs.flatten ++ r) (bs.length + k)
        have e2 := ihb (fun a ha => hb a (by simp [ha]))
        rw [show (b :: bs).length + k = bs.length + k + 1 by simp; omega]
        simp only [List.flatten_cons, List.append_assoc]
        rw [e1, e2]
    have e := key as (fun a h => h)
    rw [show ((↑(k + 1) : Int) - 1 + ↑as.length) = ((as.length + k : Nat) : Int) by omega, e]
    rfl
theorem T_termB {s : Sg} {t : List Int} (hs : signB s = true) (h : IsT s 12 t) (hl : t.length ≤ 60) : termB s t = true := by
  unfold termB
  have h1 := h.ne
  have := T_need h [] 0
  rw [List.append_nil] at this
  rw [hs, inB_true.2 (by omega)]
  simp only [Bool.true_and]
  exact this

end Go.Proofs.Ytcpbpamnhdnanaa
