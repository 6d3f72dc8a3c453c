/-
  WHAT IT HOLDS: plain facts on matching one term with another one: what the match computes, that it is sound and complete for 'an instance of'. No program in sight. Condition: the lists are terms.
-/
import Derived.Test.YtldgkidojepdlaaZRTopCarriedUnify0
namespace Go.Proofs.Ytldgkidojepdlaa

/-- l is k terms, one behind the other. -/
def Fo (s : Sg) (q : Int) (k : Nat) (l : List Int) : Prop := ∃ as : List (List Int), as.length = k ∧ l = as.flatten ∧ ∀ a ∈ as, IsT s q a
theorem IsT.fo {s : Sg} {q : Int} {t : List Int} (h : IsT s q t) : Fo s q 1 t := ⟨[t], rfl, by simp, by simpa using h⟩
theorem Fo.one {s : Sg} {q : Int} {t : List Int} (h : Fo s q 1 t) : IsT s q t := by
  obtain ⟨as, h1, h2, h3⟩ := h
  match as, h1 with
  | [a], _ => simp at h2; rw [h2]; exact h3 a (by simp)
theorem Fo.zero {s : Sg} {q : Int} {t : List Int} (h : Fo s q 0 t) : t = [] := by
  obtain ⟨as, h1, h2, h3⟩ := h
  match as, h1 with
  | [], _ => simpa using h2
theorem Fo.nil (s : Sg) (q : Int) : Fo s q 0 [] := ⟨[], rfl, rfl, by simp⟩
theorem Fo.of_nil {s : Sg} {q : Int} {k : Nat} (h : Fo s q k []) : k = 0 := by
  obtain ⟨as, h1, h2, h3⟩ := h
  cases as with
  | nil => exact h1.symm
  | cons a as =>
    have := (h3 a (by simp)).nonempty
    simp at h2
    exact absurd h2.1 this
theorem Fo.append {s : Sg} {q : Int} {j k : Nat} {l m : List Int} (h : Fo s q j l) (h' : Fo s q k m) : Fo s q (j + k) (l ++ m) := by
  obtain ⟨as, h1, h2, h3⟩ := h
  obtain ⟨bs, g1, g2, g3⟩ := h'
  refine ⟨as ++ bs, by simp [h1, g1], by simp [h2, g2], fun a ha => ?_⟩
  rcases List.mem_append.1 ha with ha | ha
  · exact h3 a ha
  · exact g3 a ha
theorem Fo.split {s : Sg} {q : Int} {k : Nat} {l : List Int} (h : Fo s q (k + 1) l) : ∃ p r, l = p ++ r ∧ IsT s q p ∧ Fo s q k r := by
  obtain ⟨as, h1, h2, h3⟩ := h
  cases as with
  | nil => simp at h1
  | cons a as => exact ⟨a, as.flatten, by simpa using h2, h3 a (by simp), as, by simpa using h1, rfl, fun b hb => h3 b (by simp [hb])⟩
theorem Fo.splits {s : Sg} {q : Int} {j k : Nat} {l : List Int} (h : Fo s q (j + k) l) : ∃ p r, l = p ++ r ∧ Fo s q j p ∧ Fo s q k r := by
  obtain ⟨as, h1, h2, h3⟩ := h
  refine ⟨(as.take j).flatten, (as.drop j).flatten, ?_, ⟨as.take j, by simp; omega, rfl, fun a ha => h3 a (List.mem_of_mem_take ha)⟩, ⟨as.drop j, by simp; omega, rfl, fun a ha => h3 a (List.mem_of_mem_drop ha)⟩⟩
  rw [← List.flatten_append, List.take_append_drop, h2]
theorem Fo.cons_inv {s : Sg} {q : Int} {k : Nat} {n : Int} {l : List Int} (h : Fo s q k (n :: l)) : ∃ k', k = k' + 1 ∧
    ((n < 0 ∧ -q ≤ n ∧ Fo s q k' l) ∨ (0 ≤ n ∧ n < s.length ∧ ∃ c : Nat, n = (c : Int) ∧ (∃ r : Nat, arOf s n = r ∧ Fo s q (r + k') l))) := by
  obtain ⟨k', rfl⟩ : ∃ k', k = k' + 1 := by
    cases k with
    | zero => exact absurd h.zero (by simp)
    | succ k => exact ⟨k, rfl⟩
  refine ⟨k', rfl, ?_⟩
  obtain ⟨p, r, h1, h2, h3⟩ := h.split
  cases h2 with
  | var m h4 h5 =>
    simp at h1
    obtain ⟨rfl, rfl⟩ := h1
    exact Or.inl ⟨h5, h4, h3⟩
  | app c as h4 h5 h6 =>
    simp at h1
    obtain ⟨rfl, rfl⟩ := h1
    exact Or.inr ⟨by omega, by omega, c, rfl, as.length, h5.symm, Fo.append ⟨as, rfl, rfl, h6⟩ h3⟩
theorem Fo.cons_var {s : Sg} {q : Int} {k : Nat} {n : Int} {l : List Int} (h1 : n < 0) (h2 : -q ≤ n) (h : Fo s q k l) : Fo s q (k + 1) (n :: l) := by
  have := (IsT.var (s := s) (m := q) n h2 h1).fo.append h
  rw [Nat.add_comm] at this
  simpa using this
theorem Fo.cons_app {s : Sg} {q : Int} {k r c : Nat} {l : List Int} (h1 : c < s.length) (h2 : arOf s c = r) (h : Fo s q (r + k) l) : Fo s q (k + 1) ((c : Int) :: l) := by
  obtain ⟨p, u, rfl, ⟨as, g1, g2, g3⟩, h4⟩ := h.splits
  have ht : IsT s q ((c : Int) :: p) := by rw [g2]; exact .app c as h1 (by rw [h2, g1]) g3
  have := ht.fo.append h4
  rw [Nat.add_comm] at this
  simpa using this

/-- what variables became. -/
abbrev MM := Int → Option (List Int)
def updM (m : MM) (n : Int) (l : List Int) : MM := fun x => if x = n then some l else m x
def matL (s : Sg) : List Int → List Int → MM → Option MM
  | [], _, m => some m
  | _ :: _, [], _ => none
  | n :: a, c :: b, m =>
    if 0 ≤ n then (if c = n then matL s a b m else none)
    else match m n with
      | none => matL s a ((c :: b).drop (pLen s (c :: b) 1)) (updM m n ((c :: b).take (pLen s (c :: b) 1)))
      | some q => if q = (c :: b).take (pLen s (c :: b) 1) then matL s a ((c :: b).drop (pLen s (c :: b) 1)) m else none
theorem matL_nil (s : Sg) (b : List Int) (m : MM) : matL s [] b m = some m := by cases b <;> rfl
theorem matL_app {s : Sg} {n : Int} (hn : 0 ≤ n) (a : List Int) (c : Int) (b : List Int) (m : MM) : matL s (n :: a) (c :: b) m = if c = n then matL s a b m else none := by
  simp [matL, hn]
theorem matL_var {s : Sg} {q : Int} {n : Int} (hn : n < 0) (a : List Int) {p : List Int} (hp : IsT s q p) (r : List Int) (m : MM) :
    matL s (n :: a) (p ++ r) m = match m n with
      | none => matL s a r (updM m n p)
      | some l => if l = p then matL s a r m else none := by
  have h1 := pLen_T1 hp r
  have h2 := hp.nonempty
  cases p with
  | nil => exact absurd rfl h2
  | cons c p =>
    rw [List.cons_append] at h1 ⊢
    rw [matL, if_neg (by omega), h1]
    rw [show (c :: (p ++ r)) = (c :: p) ++ r by rfl, List.drop_left, List.take_left]
theorem matL_append {s : Sg} {q : Int} : ∀ (a : List Int) (k : Nat) (b : List Int) (m : MM) (a2 b2 : List Int), Fo s q k a → Fo s q k b →
    matL s (a ++ a2) (b ++ b2) m = (matL s a b m).bind fun m' => matL s a2 b2 m' := by
  intro a
  induction a with
  | nil =>
    intro k b m a2 b2 ha hb
    have hk := ha.of_nil
    subst hk
    have hb0 := hb.zero
    subst hb0
    rw [matL_nil]; rfl
  | cons n a ih =>
    intro k b m a2 b2 ha hb
    obtain ⟨k', rfl, h | ⟨h1, h2, c0, hc0, r, hr, h4⟩⟩ := ha.cons_inv
    · obtain ⟨h1, _, h3⟩ := h
      obtain ⟨p, u, rfl, hp, hu⟩ := hb.split
      rw [List.cons_append, List.append_assoc, matL_var h1 _ hp, matL_var h1 _ hp]
      cases m n with
      | none => exact ih k' u _ a2 b2 h3 hu
      | some l =>
        simp only
        split
        · exact ih k' u _ a2 b2 h3 hu
        · rfl
    · cases b with
      | nil => have := hb.of_nil; omega
      | cons c b =>
        rw [List.cons_append, List.cons_append, matL_app h1, matL_app h1]
        split
        · rename_i hcn
          subst hcn
          obtain ⟨k2, hk2, h5 | ⟨_, _, _, _, r2, hr2, h6⟩⟩ := hb.cons_inv
          · omega
          · have : r2 = r := by rw [hr2] at hr; omega
            subst this
            have : k2 = k' := by omega
            subst this
            exact ih _ b m a2 b2 h4 h6
        · rfl

/-- a term with lists in place of its variables. -/
def subL (σ : Int → List Int) (a : List Int) : List Int := a.flatMap fun n => if n < 0 then σ n else [n]
theorem subL_cons_var (σ : Int → List Int) {n : Int} (h : n < 0) (a : List Int) : subL σ (n :: a) = σ n ++ subL σ a := by simp [subL, h]
theorem subL_cons_app (σ : Int → List Int) {n : Int} (h : 0 ≤ n) (a : List Int) : subL σ (n :: a) = n :: subL σ a := by
  have : ¬ n < 0 := by omega
  simp [subL, this]
theorem subL_append (σ : Int → List Int) (a b : List Int) : subL σ (a ++ b) = subL σ a ++ subL σ b := by simp [subL]
theorem subL_congr {σ τ : Int → List Int} {a : List Int} (h : ∀ n ∈ a, n < 0 → σ n = τ n) : subL σ a = subL τ a := by
  induction a with
  | nil => rfl
  | cons n a ih =>
    have ih' := ih fun x hx => h x (by simp [hx])
    by_cases hn : n < 0
    · rw [subL_cons_var _ hn, subL_cons_var _ hn, ih', h n (by simp) hn]
    · rw [subL_cons_app _ (by omega), subL_cons_app _ (by omega), ih']
theorem Fo.sub {s : Sg} {q q' : Int} {σ : Int → List Int} : ∀ (a : List Int) (k : Nat), Fo s q k a → (∀ n ∈ a, n < 0 → IsT s q' (σ n)) → Fo s q' k (subL σ a) := by
  intro a
  induction a with
  | nil => intro k h _; have := h.of_nil; subst this; exact Fo.nil _ _
  | cons n a ih =>
    intro k h hσ
    obtain ⟨k', rfl, ⟨h1, _, h3⟩ | ⟨h1, h2, c, rfl, r, hr, h4⟩⟩ := h.cons_inv
    · rw [subL_cons_var _ h1, Nat.add_comm]
      exact (hσ n (by simp) h1).fo.append (ih _ h3 fun x hx => hσ x (by simp [hx]))
    · rw [subL_cons_app _ h1]
      exact Fo.cons_app (by omega) hr (ih _ h4 fun x hx => hσ x (by simp [hx]))
theorem IsT.sub {s : Sg} {q q' : Int} {σ : Int → List Int} {a : List Int} (h : IsT s q a) (hσ : ∀ n ∈ a, n < 0 → IsT s q' (σ n)) : IsT s q' (subL σ a) := (Fo.sub a 1 h.fo hσ).one

theorem matL_sound {s : Sg} {q : Int} : ∀ (a : List Int) (k : Nat) (b : List Int) (m m' : MM), Fo s q k a → Fo s q k b → matL s a b m = some m' →
    (∀ n l, m n = some l → m' n = some l) ∧ (∀ n ∈ a, n < 0 → ∃ l, m' n = some l) ∧ subL (fun n => (m' n).getD []) a = b ∧
    (∀ n l, m' n = some l → m n = some l ∨ (n ∈ a ∧ n < 0 ∧ IsT s q l)) := by
  intro a
  induction a with
  | nil =>
    intro k b m m' ha hb h
    have hk := ha.of_nil
    subst hk
    have hb0 := hb.zero
    subst hb0
    rw [matL_nil] at h
    cases h
    exact ⟨fun _ _ h => h, by simp, rfl, fun _ _ h => Or.inl h⟩
  | cons n a ih =>
    intro k b m m' ha hb h
    obtain ⟨k', rfl, ⟨h1, _, h3⟩ | ⟨h1, h2, c0, hc0, r, hr, h4⟩⟩ := ha.cons_inv
    · obtain ⟨p, u, rfl, hp, hu⟩ := hb.split
      rw [matL_var h1 _ hp] at h
      cases hm : m n with
      | none =>
        rw [hm] at h
        obtain ⟨e1, e2, e3, e4⟩ := ih k' u _ m' h3 hu h
        have hn : m' n = some p := e1 n p (by simp [updM])
        refine ⟨fun x l hx => e1 x l ?_, fun x hx hx0 => ?_, ?_, fun x l hx => ?_⟩
        · unfold updM
          split
          · rename_i e; subst e; rw [hm] at hx; cases hx
          · exact hx
        · rcases List.mem_cons.1 hx with rfl | hx
          · exact ⟨p, hn⟩
          · exact e2 x hx hx0
        · rw [subL_cons_var _ h1, e3, hn]; rfl
        · rcases e4 x l hx with h5 | ⟨h5, h6, h7⟩
          · unfold updM at h5
            split at h5
            · rename_i e; subst e; cases h5; exact Or.inr ⟨by simp, h1, hp⟩
            · exact Or.inl h5
          · exact Or.inr ⟨by simp [h5], h6, h7⟩
      | some l0 =>
        rw [hm] at h
        simp only at h
        split at h
        · rename_i e
          subst e
          obtain ⟨e1, e2, e3, e4⟩ := ih k' u _ m' h3 hu h
          have hn := e1 n l0 hm
          refine ⟨e1, fun x hx hx0 => ?_, ?_, fun x l hx => ?_⟩
          · rcases List.mem_cons.1 hx with rfl | hx
            · exact ⟨l0, hn⟩
            · exact e2 x hx hx0
          · rw [subL_cons_var _ h1, e3, hn]; rfl
          · rcases e4 x l hx with h5 | ⟨h5, h6, h7⟩
            · exact Or.inl h5
            · exact Or.inr ⟨by simp [h5], h6, h7⟩
        · cases h
    · cases b with
      | nil => have := hb.of_nil; omega
      | cons c b =>
        rw [matL_app h1] at h
        split at h
        · rename_i hcn
          subst hcn
          obtain ⟨k2, hk2, h5 | ⟨_, _, _, _, r2, hr2, h6⟩⟩ := hb.cons_inv
          · omega
          · have : r2 = r := by rw [hr2] at hr; omega
            subst this
            have : k2 = k' := by omega
            subst this
            obtain ⟨e1, e2, e3, e4⟩ := ih _ b m m' h4 h6 h
            refine ⟨e1, fun x hx hx0 => ?_, ?_, fun x l hx => ?_⟩
            · rcases List.mem_cons.1 hx with rfl | hx
              · omega
              · exact e2 x hx hx0
            · rw [subL_cons_app _ h1, e3]
            · rcases e4 x l hx with h5 | ⟨h5, h6, h7⟩
              · exact Or.inl h5
              · exact Or.inr ⟨by simp [h5], h6, h7⟩
        · cases h
theorem matL_complete {s : Sg} {q q' : Int} {σ : Int → List Int} : ∀ (a : List Int) (k : Nat) (m : MM), Fo s q k a → (∀ n ∈ a, n < 0 → IsT s q' (σ n)) → (∀ n l, m n = some l → l = σ n) →
    ∃ m', matL s a (subL σ a) m = some m' ∧ ∀ n l, m' n = some l → l = σ n := by
  intro a
  induction a with
  | nil => intro k m _ _ hm; exact ⟨m, matL_nil _ _ _, hm⟩
  | cons n a ih =>
    intro k m ha hσ hm
    obtain ⟨k', rfl, ⟨h1, _, h3⟩ | ⟨h1, h2, c0, hc0, r, hr, h4⟩⟩ := ha.cons_inv
    · rw [subL_cons_var _ h1, matL_var h1 _ (hσ n (by simp) h1)]
      cases hmn : m n with
      | none =>
        refine ih k' _ h3 (fun x hx => hσ x (by simp [hx])) fun x l hx => ?_
        unfold updM at hx
        split at hx
        · rename_i e; subst e; cases hx; rfl
        · exact hm x l hx
      | some l =>
        simp only
        rw [if_pos (hm n l hmn)]
        exact ih k' m h3 (fun x hx => hσ x (by simp [hx])) hm
    · rw [subL_cons_app _ h1, matL_app h1, if_pos rfl]
      exact ih _ m h4 (fun x hx => hσ x (by simp [hx])) hm

/-- b is an instance of a. -/
def Inst (s : Sg) (q : Int) (a b : List Int) : Prop := ∃ σ : Int → List Int, (∀ n ∈ a, n < 0 → IsT s q (σ n)) ∧ subL σ a = b
def noM : MM := fun _ => none
theorem inst_iff {s : Sg} {q : Int} {a b : List Int} (ha : IsT s q a) (hb : IsT s q b) : (matL s a b noM).isSome = true ↔ Inst s q a b := by
  constructor
  · intro h
    obtain ⟨m', hm⟩ := Option.isSome_iff_exists.1 h
    obtain ⟨_, h2, h3, h4⟩ := matL_sound a 1 b _ m' ha.fo hb.fo hm
    refine ⟨fun n => (m' n).getD [], fun n hn hn0 => ?_, h3⟩
    obtain ⟨l, hl⟩ := h2 n hn hn0
    rcases h4 n l hl with h5 | ⟨_, _, h6⟩
    · cases h5
    · simpa [hl] using h6
  · rintro ⟨σ, h1, rfl⟩
    obtain ⟨m', h2, _⟩ := matL_complete (q' := q) a 1 noM ha.fo h1 (fun n l h => by cases h)
    rw [h2]; rfl
theorem subL_id (a : List Int) : subL (fun n => [n]) a = a := by
  induction a with
  | nil => rfl
  | cons n a ih =>
    by_cases hn : n < 0
    · rw [subL_cons_var _ hn, ih]; rfl
    · rw [subL_cons_app _ (by omega), ih]
theorem Fo.vars {s : Sg} {q : Int} {k : Nat} {l : List Int} (h : Fo s q k l) : ∀ n ∈ l, n < 0 → -q ≤ n := by
  obtain ⟨as, _, rfl, h3⟩ := h
  intro n hn hn0
  obtain ⟨a, ha, hna⟩ := List.mem_flatten.1 hn
  rcases (h3 a ha).range n hna with h4 | h4 <;> omega
theorem IsT.vars {s : Sg} {q : Int} {l : List Int} (h : IsT s q l) : ∀ n ∈ l, n < 0 → -q ≤ n := h.fo.vars
theorem Inst.refl {s : Sg} {q : Int} {a : List Int} (ha : IsT s q a) : Inst s q a a := ⟨fun n => [n], fun n hn hn0 => .var n (ha.vars n hn hn0) hn0, subL_id a⟩
theorem subL_comp (σ τ : Int → List Int) (a : List Int) : subL τ (subL σ a) = subL (fun n => subL τ (σ n)) a := by
  induction a with
  | nil => rfl
  | cons n a ih =>
    by_cases hn : n < 0
    · rw [subL_cons_var _ hn, subL_append, ih, subL_cons_var _ hn]
    · rw [subL_cons_app _ (by omega), subL_cons_app _ (by omega), ih, subL_cons_app _ (by omega)]
theorem mem_subL {σ : Int → List Int} {a : List Int} {x n : Int} (hn : n ∈ a) (hn0 : n < 0) (hx : x ∈ σ n) : x ∈ subL σ a := by
  unfold subL
  exact List.mem_flatMap.2 ⟨n, hn, by simpa [hn0] using hx⟩
theorem Inst.trans {s : Sg} {q : Int} {a b c : List Int} (h : Inst s q a b) (h' : Inst s q b c) : Inst s q a c := by
  obtain ⟨σ, h1, rfl⟩ := h
  obtain ⟨τ, h2, rfl⟩ := h'
  refine ⟨fun n => subL τ (σ n), fun n hn hn0 => (h1 n hn hn0).sub fun x hx hx0 => h2 x (mem_subL hn hn0 hx) hx0, (subL_comp σ τ a).symm⟩
end Go.Proofs.Ytldgkidojepdlaa
