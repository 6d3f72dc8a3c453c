/-
  WHAT IT HOLDS: plain facts on matching one term with another one: what the match computes, that it is sound and complete for 'an instance of'. No program in sight. Condition: the lists are terms.
  WHAT IT HOLDS: plain facts on canonical forms: how variables are renamed, and that two terms have one canonical form exactly if each is an instance of the other one. No program in sight. Condition: the lists are terms where it is said.
  WHAT IT HOLDS: plain theory of unification: what binds that lean on each other make of a term, that they are most general while two terms are solved step by step, and that each step keeps this. No program in sight. Condition: the lists are terms.
  WHAT IT HOLDS: plain facts on grouping a list by equal elements. No program in sight. No condition.
-/
import Derived.Test.YtmpjaakkjhmpmaaGreatDoorZRShortCites1
namespace Go.Proofs.YtmpjaakkjhmpmaaGreatDoor

/-- l is k terms, one behind the other. -/
def Fo (s : Sg) (q : Int) (k : Nat) (l : List Int) : Prop := ∃ ars : List (List Int), ars.length = k ∧ l = ars.flatten ∧ ∀ a ∈ ars, IsT s q a
theorem IsT.fo {s : Sg} {q : Int} {t : List Int} (h : IsT s q t) : Fo s q 1 t := ⟨[t], rfl, by simp, by simpa using h⟩
theorem Fo.one {s : Sg} {q : Int} {t : List Int} (h : Fo s q 1 t) : IsT s q t := by
  obtain ⟨ars, h1, h2, h3⟩ := h
  match ars, h1 with
  | [a], _ => simp at h2; rw [h2]; exact h3 a (by simp)
theorem Fo.zero {s : Sg} {q : Int} {t : List Int} (h : Fo s q 0 t) : t = [] := by
  obtain ⟨ars, h1, h2, h3⟩ := h
  match ars, h1 with
  | [], _ => simpa using h2
theorem Fo.nil (s : Sg) (q : Int) : Fo s q 0 [] := ⟨[], rfl, rfl, by simp⟩
theorem Fo.of_nil {s : Sg} {q : Int} {k : Nat} (h : Fo s q k []) : k = 0 := by
  obtain ⟨ars, h1, h2, h3⟩ := h
  cases ars with
  | nil => exact h1.symm
  | cons a ars =>
    have := (h3 a (by simp)).nonempty
    simp at h2
    exact absurd h2.1 this
theorem Fo.append {s : Sg} {q : Int} {j k : Nat} {l m : List Int} (h : Fo s q j l) (h' : Fo s q k m) : Fo s q (j + k) (l ++ m) := by
  obtain ⟨ars, h1, h2, h3⟩ := h
  obtain ⟨bs, g1, g2, g3⟩ := h'
  refine ⟨ars ++ bs, by simp [h1, g1], by simp [h2, g2], fun a ha => ?_⟩
  rcases List.mem_append.1 ha with ha | ha
  · exact h3 a ha
  · exact g3 a ha
theorem Fo.split {s : Sg} {q : Int} {k : Nat} {l : List Int} (h : Fo s q (k + 1) l) : ∃ p r, l = p ++ r ∧ IsT s q p ∧ Fo s q k r := by
  obtain ⟨ars, h1, h2, h3⟩ := h
  cases ars with
  | nil => simp at h1
  | cons a ars => exact ⟨a, ars.flatten, by simpa using h2, h3 a (by simp), ars, by simpa using h1, rfl, fun b hb => h3 b (by simp [hb])⟩
theorem Fo.splits {s : Sg} {q : Int} {j k : Nat} {l : List Int} (h : Fo s q (j + k) l) : ∃ p r, l = p ++ r ∧ Fo s q j p ∧ Fo s q k r := by
  obtain ⟨ars, h1, h2, h3⟩ := h
  refine ⟨(ars.take j).flatten, (ars.drop j).flatten, ?_, ⟨ars.take j, by simp; omega, rfl, fun a ha => h3 a (List.mem_of_mem_take ha)⟩, ⟨ars.drop j, by simp; omega, rfl, fun a ha => h3 a (List.mem_of_mem_drop ha)⟩⟩
  rw [← List.flatten_append, List.take_append_drop, h2]
theorem Fo.cons_inv {s : Sg} {q : Int} {k : Nat} {n : Int} {l : List Int} (h : Fo s q k (n :: l)) : ∃ k', k = k' + 1 ∧
    ((n < 0 ∧ -q ≤ n ∧ Fo s q k' l) ∨ (0 ≤ n ∧ n < s.length ∧ ∃ c : Nat, n = (c : Int) ∧ (∃ r : Nat, arOf s n = r ∧ Fo s q (r + k') l))) := by
  obtain ⟨k', rfl⟩ : ∃ k', k = k' + 1 := by
    cases k with
    | zero => exact absurd h.zero (by simp)
    | succ k => exact ⟨k, rfl⟩
  refine ⟨k', rfl, ?_⟩
  obtain ⟨p, r, h1, h2, h3⟩ := h.split
  cases h2 with
  | var m h4 h5 =>
    simp at h1
    obtain ⟨rfl, rfl⟩ := h1
    exact Or.inl ⟨h5, h4, h3⟩
  | app c ars h4 h5 h6 =>
    simp at h1
    obtain ⟨rfl, rfl⟩ := h1
    exact Or.inr ⟨by omega, by omega, c, rfl, ars.length, h5.symm, Fo.append ⟨ars, rfl, rfl, h6⟩ h3⟩
theorem Fo.cons_var {s : Sg} {q : Int} {k : Nat} {n : Int} {l : List Int} (h1 : n < 0) (h2 : -q ≤ n) (h : Fo s q k l) : Fo s q (k + 1) (n :: l) := by
  have := (IsT.var (s := s) (m := q) n h2 h1).fo.append h
  rw [Nat.add_comm] at this
  simpa using this
theorem Fo.cons_app {s : Sg} {q : Int} {k r c : Nat} {l : List Int} (h1 : c < s.length) (h2 : arOf s c = r) (h : Fo s q (r + k) l) : Fo s q (k + 1) ((c : Int) :: l) := by
  obtain ⟨p, u, rfl, ⟨ars, g1, g2, g3⟩, h4⟩ := h.splits
  have ht : IsT s q ((c : Int) :: p) := by rw [g2]; exact .app c ars h1 (by rw [h2, g1]) g3
  have := ht.fo.append h4
  rw [Nat.add_comm] at this
  simpa using this

/-- what variables became. -/
abbrev MM := Int → Option (List Int)
def updM (m : MM) (n : Int) (l : List Int) : MM := fun x => if x = n then some l else m x
def matL (s : Sg) : List Int → List Int → MM → Option MM
  | [], _, m => some m
  | _ :: _, [], _ => none
  | n :: a, c :: b, m =>
    if 0 ≤ n then (if c = n then matL s a b m else none)
    else match m n with
      | none => matL s a ((c :: b).drop (pLen s (c :: b) 1)) (updM m n ((c :: b).take (pLen s (c :: b) 1)))
      | some q => if q = (c :: b).take (pLen s (c :: b) 1) then matL s a ((c :: b).drop (pLen s (c :: b) 1)) m else none
theorem matL_nil (s : Sg) (b : List Int) (m : MM) : matL s [] b m = some m := by cases b <;> rfl
theorem matL_app {s : Sg} {n : Int} (hn : 0 ≤ n) (a : List Int) (c : Int) (b : List Int) (m : MM) : matL s (n :: a) (c :: b) m = if c = n then matL s a b m else none := by
  simp [matL, hn]
theorem matL_var {s : Sg} {q : Int} {n : Int} (hn : n < 0) (a : List Int) {p : List Int} (hp : IsT s q p) (r : List Int) (m : MM) :
    matL s (n :: a) (p ++ r) m = match m n with
      | none => matL s a r (updM m n p)
      | some l => if l = p then matL s a r m else none := by
  have h1 := pLen_T1 hp r
  have h2 := hp.nonempty
  cases p with
  | nil => exact absurd rfl h2
  | cons c p =>
    rw [List.cons_append] at h1 ⊢
    rw [matL, if_neg (by omega), h1]
    rw [show (c :: (p ++ r)) = (c :: p) ++ r by rfl, List.drop_left, List.take_left]
theorem matL_append {s : Sg} {q : Int} : ∀ (a : List Int) (k : Nat) (b : List Int) (m : MM) (a2 b2 : List Int), Fo s q k a → Fo s q k b →
    matL s (a ++ a2) (b ++ b2) m = (matL s a b m).bind fun m' => matL s a2 b2 m' := by
  intro a
  induction a with
  | nil =>
    intro k b m a2 b2 ha hb
    have hk := ha.of_nil
    subst hk
    have hb0 := hb.zero
    subst hb0
    rw [matL_nil]; rfl
  | cons n a ih =>
    intro k b m a2 b2 ha hb
    obtain ⟨k', rfl, h | ⟨h1, h2, c0, hc0, r, hr, h4⟩⟩ := ha.cons_inv
    · obtain ⟨h1, _, h3⟩ := h
      obtain ⟨p, u, rfl, hp, hu⟩ := hb.split
      rw [List.cons_append, List.append_assoc, matL_var h1 _ hp, matL_var h1 _ hp]
      cases m n with
      | none => exact ih k' u _ a2 b2 h3 hu
      | some l =>
        simp only
        split
        · exact ih k' u _ a2 b2 h3 hu
        · rfl
    · cases b with
      | nil => have := hb.of_nil; omega
      | cons c b =>
        rw [List.cons_append, List.cons_append, matL_app h1, matL_app h1]
        split
        · rename_i hcn
          subst hcn
          obtain ⟨k2, hk2, h5 | ⟨_, _, _, _, r2, hr2, h6⟩⟩ := hb.cons_inv
          · omega
          · have : r2 = r := by rw [hr2] at hr; omega
            subst this
            have : k2 = k' := by omega
            subst this
            exact ih _ b m a2 b2 h4 h6
        · rfl

/-- a term with lists in place of its variables. -/
def subL (σ : Int → List Int) (a : List Int) : List Int := a.flatMap fun n => if n < 0 then σ n else [n]
theorem subL_cons_var (σ : Int → List Int) {n : Int} (h : n < 0) (a : List Int) : subL σ (n :: a) = σ n ++ subL σ a := by simp [subL, h]
theorem subL_cons_app (σ : Int → List Int) {n : Int} (h : 0 ≤ n) (a : List Int) : subL σ (n :: a) = n :: subL σ a := by
  have : ¬ n < 0 := by omega
  simp [subL, this]
theorem subL_append (σ : Int → List Int) (a b : List Int) : subL σ (a ++ b) = subL σ a ++ subL σ b := by simp [subL]
theorem subL_congr {σ τ : Int → List Int} {a : List Int} (h : ∀ n ∈ a, n < 0 → σ n = τ n) : subL σ a = subL τ a := by
  induction a with
  | nil => rfl
  | cons n a ih =>
    have ih' := ih fun x hx => h x (by simp [hx])
    by_cases hn : n < 0
    · rw [subL_cons_var _ hn, subL_cons_var _ hn, ih', h n (by simp) hn]
    · rw [subL_cons_app _ (by omega), subL_cons_app _ (by omega), ih']
theorem Fo.sub {s : Sg} {q q' : Int} {σ : Int → List Int} : ∀ (a : List Int) (k : Nat), Fo s q k a → (∀ n ∈ a, n < 0 → IsT s q' (σ n)) → Fo s q' k (subL σ a) := by
  intro a
  induction a with
  | nil => intro k h _; have := h.of_nil; subst this; exact Fo.nil _ _
  | cons n a ih =>
    intro k h hσ
    obtain ⟨k', rfl, ⟨h1, _, h3⟩ | ⟨h1, h2, c, rfl, r, hr, h4⟩⟩ := h.cons_inv
    · rw [subL_cons_var _ h1, Nat.add_comm]
      exact (hσ n (by simp) h1).fo.append (ih _ h3 fun x hx => hσ x (by simp [hx]))
    · rw [subL_cons_app _ h1]
      exact Fo.cons_app (by omega) hr (ih _ h4 fun x hx => hσ x (by simp [hx]))
theorem IsT.sub {s : Sg} {q q' : Int} {σ : Int → List Int} {a : List Int} (h : IsT s q a) (hσ : ∀ n ∈ a, n < 0 → IsT s q' (σ n)) : IsT s q' (subL σ a) := (Fo.sub a 1 h.fo hσ).one

theorem matL_sound {s : Sg} {q : Int} : ∀ (a : List Int) (k : Nat) (b : List Int) (m m' : MM), Fo s q k a → Fo s q k b → matL s a b m = some m' →
    (∀ n l, m n = some l → m' n = some l) ∧ (∀ n ∈ a, n < 0 → ∃ l, m' n = some l) ∧ subL (fun n => (m' n).getD []) a = b ∧
    (∀ n l, m' n = some l → m n = some l ∨ (n ∈ a ∧ n < 0 ∧ IsT s q l)) := by
  intro a
  induction a with
  | nil =>
    intro k b m m' ha hb h
    have hk := ha.of_nil
    subst hk
    have hb0 := hb.zero
    subst hb0
    rw [matL_nil] at h
    cases h
    exact ⟨fun _ _ h => h, by simp, rfl, fun _ _ h => Or.inl h⟩
  | cons n a ih =>
    intro k b m m' ha hb h
    obtain ⟨k', rfl, ⟨h1, _, h3⟩ | ⟨h1, h2, c0, hc0, r, hr, h4⟩⟩ := ha.cons_inv
    · obtain ⟨p, u, rfl, hp, hu⟩ := hb.split
      rw [matL_var h1 _ hp] at h
      cases hm : m n with
      | none =>
        rw [hm] at h
        obtain ⟨e1, e2, e3, e4⟩ := ih k' u _ m' h3 hu h
        have hn : m' n = some p := e1 n p (by simp [updM])
        refine ⟨fun x l hx => e1 x l ?_, fun x hx hx0 => ?_, ?_, fun x l hx => ?_⟩
        · unfold updM
          split
          · rename_i e; subst e; rw [hm] at hx; cases hx
          · exact hx
        · rcases List.mem_cons.1 hx with rfl | hx
          · exact ⟨p, hn⟩
          · exact e2 x hx hx0
        · rw [subL_cons_var _ h1, e3, hn]; rfl
        · rcases e4 x l hx with h5 | ⟨h5, h6, h7⟩
          · unfold updM at h5
            split at h5
            · rename_i e; subst e; cases h5; exact Or.inr ⟨by simp, h1, hp⟩
            · exact Or.inl h5
          · exact Or.inr ⟨by simp [h5], h6, h7⟩
      | some l0 =>
        rw [hm] at h
        simp only at h
        split at h
        · rename_i e
          subst e
          obtain ⟨e1, e2, e3, e4⟩ := ih k' u _ m' h3 hu h
          have hn := e1 n l0 hm
          refine ⟨e1, fun x hx hx0 => ?_, ?_, fun x l hx => ?_⟩
          · rcases List.mem_cons.1 hx with rfl | hx
            · exact ⟨l0, hn⟩
            · exact e2 x hx hx0
          · rw [subL_cons_var _ h1, e3, hn]; rfl
          · rcases e4 x l hx with h5 | ⟨h5, h6, h7⟩
            · exact Or.inl h5
            · exact Or.inr ⟨by simp [h5], h6, h7⟩
        · cases h
    · cases b with
      | nil => have := hb.of_nil; omega
      | cons c b =>
        rw [matL_app h1] at h
        split at h
        · rename_i hcn
          subst hcn
          obtain ⟨k2, hk2, h5 | ⟨_, _, _, _, r2, hr2, h6⟩⟩ := hb.cons_inv
          · omega
          · have : r2 = r := by rw [hr2] at hr; omega
            subst this
            have : k2 = k' := by omega
            subst this
            obtain ⟨e1, e2, e3, e4⟩ := ih _ b m m' h4 h6 h
            refine ⟨e1, fun x hx hx0 => ?_, ?_, fun x l hx => ?_⟩
            · rcases List.mem_cons.1 hx with rfl | hx
              · omega
              · exact e2 x hx hx0
            · rw [subL_cons_app _ h1, e3]
            · rcases e4 x l hx with h5 | ⟨h5, h6, h7⟩
              · exact Or.inl h5
              · exact Or.inr ⟨by simp [h5], h6, h7⟩
        · cases h
theorem matL_complete {s : Sg} {q q' : Int} {σ : Int → List Int} : ∀ (a : List Int) (k : Nat) (m : MM), Fo s q k a → (∀ n ∈ a, n < 0 → IsT s q' (σ n)) → (∀ n l, m n = some l → l = σ n) →
    ∃ m', matL s a (subL σ a) m = some m' ∧ ∀ n l, m' n = some l → l = σ n := by
  intro a
  induction a with
  | nil => intro k m _ _ hm; exact ⟨m, matL_nil _ _ _, hm⟩
  | cons n a ih =>
    intro k m ha hσ hm
    obtain ⟨k', rfl, ⟨h1, _, h3⟩ | ⟨h1, h2, c0, hc0, r, hr, h4⟩⟩ := ha.cons_inv
    · rw [subL_cons_var _ h1, matL_var h1 _ (hσ n (by simp) h1)]
      cases hmn : m n with
      | none =>
        refine ih k' _ h3 (fun x hx => hσ x (by simp [hx])) fun x l hx => ?_
        unfold updM at hx
        split at hx
        · rename_i e; subst e; cases hx; rfl
        · exact hm x l hx
      | some l =>
        simp only
        rw [if_pos (hm n l hmn)]
        exact ih k' m h3 (fun x hx => hσ x (by simp [hx])) hm
    · rw [subL_cons_app _ h1, matL_app h1, if_pos rfl]
      exact ih _ m h4 (fun x hx => hσ x (by simp [hx])) hm

/-- b is an instance of a. -/
def Inst (s : Sg) (q : Int) (a b : List Int) : Prop := ∃ σ : Int → List Int, (∀ n ∈ a, n < 0 → IsT s q (σ n)) ∧ subL σ a = b
def noM : MM := fun _ => none
theorem inst_iff {s : Sg} {q : Int} {a b : List Int} (ha : IsT s q a) (hb : IsT s q b) : (matL s a b noM).isSome = true ↔ Inst s q a b := by
  constructor
  · intro h
    obtain ⟨m', hm⟩ := Option.isSome_iff_exists.1 h
    obtain ⟨_, h2, h3, h4⟩ := matL_sound a 1 b _ m' ha.fo hb.fo hm
    refine ⟨fun n => (m' n).getD [], fun n hn hn0 => ?_, h3⟩
    obtain ⟨l, hl⟩ := h2 n hn hn0
    rcases h4 n l hl with h5 | ⟨_, _, h6⟩
    · cases h5
    · simpa [hl] using h6
  · rintro ⟨σ, h1, rfl⟩
    obtain ⟨m', h2, _⟩ := matL_complete (q' := q) a 1 noM ha.fo h1 (fun n l h => by cases h)
    rw [h2]; rfl
theorem subL_id (a : List Int) : subL (fun n => [n]) a = a := by
  induction a with
  | nil => rfl
  | cons n a ih =>
    by_cases hn : n < 0
    · rw [subL_cons_var _ hn, ih]; rfl
    · rw [subL_cons_app _ (by omega), ih]
theorem Fo.vars {s : Sg} {q : Int} {k : Nat} {l : List Int} (h : Fo s q k l) : ∀ n ∈ l, n < 0 → -q ≤ n := by
  obtain ⟨ars, _, rfl, h3⟩ := h
  intro n hn hn0
  obtain ⟨a, ha, hna⟩ := List.mem_flatten.1 hn
  rcases (h3 a ha).range n hna with h4 | h4 <;> omega
theorem IsT.vars {s : Sg} {q : Int} {l : List Int} (h : IsT s q l) : ∀ n ∈ l, n < 0 → -q ≤ n := h.fo.vars
theorem Inst.refl {s : Sg} {q : Int} {a : List Int} (ha : IsT s q a) : Inst s q a a := ⟨fun n => [n], fun n hn hn0 => .var n (ha.vars n hn hn0) hn0, subL_id a⟩
theorem subL_comp (σ τ : Int → List Int) (a : List Int) : subL τ (subL σ a) = subL (fun n => subL τ (σ n)) a := by
  induction a with
  | nil => rfl
  | cons n a ih =>
    by_cases hn : n < 0
    · rw [subL_cons_var _ hn, subL_append, ih, subL_cons_var _ hn]
    · rw [subL_cons_app _ (by omega), subL_cons_app _ (by omega), ih, subL_cons_app _ (by omega)]
theorem mem_subL {σ : Int → List Int} {a : List Int} {x n : Int} (hn : n ∈ a) (hn0 : n < 0) (hx : x ∈ σ n) : x ∈ subL σ a := by
  unfold subL
  exact List.mem_flatMap.2 ⟨n, hn, by simpa [hn0] using hx⟩
theorem Inst.trans {s : Sg} {q : Int} {a b c : List Int} (h : Inst s q a b) (h' : Inst s q b c) : Inst s q a c := by
  obtain ⟨σ, h1, rfl⟩ := h
  obtain ⟨τ, h2, rfl⟩ := h'
  refine ⟨fun n => subL τ (σ n), fun n hn hn0 => (h1 n hn hn0).sub fun x hx hx0 => h2 x (mem_subL hn hn0 hx) hx0, (subL_comp σ τ a).symm⟩
end Go.Proofs.YtmpjaakkjhmpmaaGreatDoor
namespace Go.Proofs.YtmpjaakkjhmpmaaGreatDoor

/-- the variables that come, in the order in which they come, behind those met. -/
def varsF : List Int → List Int → List Int
  | vs, [] => vs
  | vs, n :: r => if n < 0 ∧ n ∉ vs then varsF (vs ++ [n]) r else varsF vs r
def numV (vs : List Int) (n : Int) : Int := if n < 0 then -(vs.idxOf n : Int) - 1 else n
def canonL (t : List Int) : List Int := t.map (numV (varsF [] t))
theorem varsF_append (vs a b : List Int) : varsF vs (a ++ b) = varsF (varsF vs a) b := by
  induction a generalizing vs with
  | nil => rfl
  | cons n a ih => simp only [List.cons_append, varsF]; split <;> exact ih _
theorem varsF_prefix : ∀ (a vs : List Int), ∃ r, varsF vs a = vs ++ r
  | [], vs => ⟨[], by simp [varsF]⟩
  | n :: a, vs => by
    unfold varsF
    split
    · obtain ⟨r, h⟩ := varsF_prefix a (vs ++ [n])
      exact ⟨n :: r, by rw [h]; simp⟩
    · exact varsF_prefix a vs
theorem varsF_mem : ∀ (a vs : List Int) (x : Int), x ∈ varsF vs a ↔ x ∈ vs ∨ (x ∈ a ∧ x < 0)
  | [], vs, x => by simp [varsF]
  | n :: a, vs, x => by
    unfold varsF
    split
    · rename_i h
      rw [varsF_mem a]
      simp only [List.mem_append, List.mem_cons, List.not_mem_nil, or_false]
      constructor
      · rintro ((h1 | rfl) | h1)
        · exact Or.inl h1
        · exact Or.inr ⟨Or.inl rfl, h.1⟩
        · exact Or.inr ⟨Or.inr h1.1, h1.2⟩
      · rintro (h1 | ⟨rfl | h1, h2⟩)
        · exact Or.inl (Or.inl h1)
        · exact Or.inl (Or.inr rfl)
        · exact Or.inr ⟨h1, h2⟩
    · rename_i h
      rw [varsF_mem a]
      simp only [List.mem_cons]
      constructor
      · rintro (h1 | h1)
        · exact Or.inl h1
        · exact Or.inr ⟨Or.inr h1.1, h1.2⟩
      · rintro (h1 | ⟨rfl | h1, h2⟩)
        · exact Or.inl h1
        · left
          by_cases hx : x ∈ vs
          · exact hx
          · exact absurd ⟨h2, hx⟩ h
        · exact Or.inr ⟨h1, h2⟩
theorem varsF_nodup : ∀ (a vs : List Int), vs.Nodup → (varsF vs a).Nodup
  | [], vs, h => h
  | n :: a, vs, h => by
    unfold varsF
    split
    · rename_i h1
      refine varsF_nodup a _ ?_
      rw [List.nodup_append]
      refine ⟨h, by simp, ?_⟩
      intro x hx y hy
      simp at hy
      subst hy
      intro e
      subst e
      exact h1.2 hx
    · exact varsF_nodup a vs h
theorem numV_stable {vs : List Int} {n : Int} (r : List Int) (h : n < 0 → n ∈ vs) : numV (vs ++ r) n = numV vs n := by
  unfold numV
  split
  · rename_i hn
    rw [List.idxOf_append, if_pos (h hn)]
  · rfl
/-- a number's name does not change while more comes. -/
theorem numV_stable' (vs a : List Int) {n : Int} (h : n < 0 → n ∈ vs) : numV (varsF vs a) n = numV vs n := by
  obtain ⟨r, hr⟩ := varsF_prefix a vs
  rw [hr, numV_stable r h]
theorem varsF_map {ρ : Int → Int} : ∀ (a vs : List Int), (∀ n ∈ a, n < 0 → ρ n < 0) → (∀ n ∈ a, 0 ≤ n → ρ n = n) → (∀ n ∈ vs ++ a, ∀ m ∈ vs ++ a, n < 0 → m < 0 → ρ n = ρ m → n = m) → (∀ n ∈ vs, n < 0) →
    varsF (vs.map ρ) (a.map ρ) = (varsF vs a).map ρ
  | [], vs, _, _, _, _ => rfl
  | n :: a, vs, h1, h2, h3, h4 => by
    simp only [List.map_cons, varsF]
    by_cases hn : n < 0
    · have hρ := h1 n (by simp) hn
      by_cases hv : n ∈ vs
      · have : ρ n ∈ vs.map ρ := List.mem_map.2 ⟨n, hv, rfl⟩
        rw [if_neg (by simp [this]), if_neg (by simp [hv])]
        exact varsF_map a vs (fun x hx => h1 x (by simp [hx])) (fun x hx => h2 x (by simp [hx])) (fun x hx y hy => h3 x (by simp at hx ⊢; rcases hx with h | h <;> simp [h]) y (by simp at hy ⊢; rcases hy with h | h <;> simp [h])) h4
      · have : ρ n ∉ vs.map ρ := by
          intro hm
          obtain ⟨m, hm1, hm2⟩ := List.mem_map.1 hm
          have := h3 m (by simp [hm1]) n (by simp) (h4 m hm1) hn hm2
          subst this
          exact hv hm1
        rw [if_pos ⟨hρ, this⟩, if_pos ⟨hn, hv⟩]
        have e : vs.map ρ ++ [ρ n] = (vs ++ [n]).map ρ := by simp
        rw [e]
        exact varsF_map a (vs ++ [n]) (fun x hx => h1 x (by simp [hx])) (fun x hx => h2 x (by simp [hx])) (fun x hx y hy => h3 x (by simpa using hx) y (by simpa using hy)) (fun x hx => by
          rcases List.mem_append.1 hx with hx | hx
          · exact h4 x hx
          · simp at hx; subst hx; exact hn)
    · have e := h2 n (by simp) (by omega)
      rw [if_neg (by simp [e]; omega), if_neg (by simp [hn])]
      exact varsF_map a vs (fun x hx => h1 x (by simp [hx])) (fun x hx => h2 x (by simp [hx])) (fun x hx y hy => h3 x (by simp at hx ⊢; rcases hx with h | h <;> simp [h]) y (by simp at hy ⊢; rcases hy with h | h <;> simp [h])) h4
theorem idxOf_map_inj {ρ : Int → Int} {n : Int} : ∀ (vs : List Int), (∀ m ∈ vs, ρ m = ρ n → m = n) → (vs.map ρ).idxOf (ρ n) = vs.idxOf n
  | [], _ => rfl
  | m :: vs, h => by
    simp only [List.map_cons, List.idxOf_cons]
    by_cases e : m = n
    · subst e; simp
    · have e' : ρ m ≠ ρ n := fun q => e (h m (by simp) q)
      rw [show (ρ m == ρ n) = false by simpa using e', show (m == n) = false by simpa using e]
      simp only [cond_false]
      rw [idxOf_map_inj vs fun x hx => h x (by simp [hx])]
/-- a term and what an injective renaming makes of it have one canonical form. -/
theorem canonL_map {ρ : Int → Int} {a : List Int} (h1 : ∀ n ∈ a, n < 0 → ρ n < 0) (h2 : ∀ n ∈ a, 0 ≤ n → ρ n = n) (h3 : ∀ n ∈ a, ∀ m ∈ a, n < 0 → m < 0 → ρ n = ρ m → n = m) : canonL (a.map ρ) = canonL a := by
  have hv := varsF_map (ρ := ρ) a [] h1 h2 (by simpa using h3) (by simp)
  rw [List.map_nil] at hv
  unfold canonL
  rw [hv, List.map_map]
  apply List.map_congr_left
  intro n hn
  unfold numV
  by_cases hn0 : n < 0
  · have hr := h1 n hn hn0
    simp only [Function.comp, if_pos hr, if_pos hn0]
    rw [idxOf_map_inj _ fun m hm e => ?_]
    have hm' := (varsF_mem a [] m).1 hm
    simp at hm'
    exact h3 m hm'.1 n hn hm'.2 hn0 e
  · have e := h2 n hn (by omega)
    simp [Function.comp, hn0, e]
theorem numV_neg {vs : List Int} {n : Int} : numV vs n < 0 ↔ n < 0 := by
  unfold numV
  split <;> omega
theorem numV_inj {vs : List Int} {n m : Int} (hn : n < 0) (hm : m < 0) (h1 : n ∈ vs) (h : numV vs n = numV vs m) : n = m := by
  unfold numV at h
  rw [if_pos hn, if_pos hm] at h
  have e : vs.idxOf n = vs.idxOf m := by omega
  have h2 := List.idxOf_lt_length_of_mem h1
  have h3 : vs.idxOf m < vs.length := by omega
  have e1 : vs[vs.idxOf n] = n := by simp
  have e2 : vs[vs.idxOf m] = m := by simp
  rw [← e1, ← e2]
  simp [e]
theorem canonL_len (t : List Int) : (canonL t).length = t.length := by simp [canonL]
theorem canonL_canon (a : List Int) : canonL (canonL a) = canonL a := by
  have : canonL a = a.map (numV (varsF [] a)) := rfl
  conv => lhs; rw [this]
  refine canonL_map (fun n _ h => numV_neg.2 h) (fun n _ h => by unfold numV; rw [if_neg (by omega)]) fun n hn m _ h1 h2 e => ?_
  exact numV_inj h1 h2 ((varsF_mem a [] n).2 (Or.inr ⟨hn, h1⟩)) e

/-- terms that are instances of each other are alike. -/
theorem subL_len {s : Sg} {q : Int} {σ : Int → List Int} : ∀ (a : List Int), (∀ n ∈ a, n < 0 → IsT s q (σ n)) → a.length ≤ (subL σ a).length ∧ ((subL σ a).length ≤ a.length → ∀ n ∈ a, n < 0 → (σ n).length = 1)
  | [], _ => by simp [subL]
  | n :: a, h => by
    have ⟨i1, i2⟩ := subL_len a fun x hx => h x (by simp [hx])
    by_cases hn : n < 0
    · have hp := (h n (by simp) hn).ne
      rw [subL_cons_var _ hn, List.length_append, List.length_cons]
      refine ⟨by omega, fun hle x hx hx0 => ?_⟩
      rcases List.mem_cons.1 hx with rfl | hx
      · omega
      · exact i2 (by omega) x hx hx0
    · rw [subL_cons_app _ (by omega), List.length_cons, List.length_cons]
      refine ⟨by omega, fun hle x hx hx0 => ?_⟩
      rcases List.mem_cons.1 hx with rfl | hx
      · omega
      · exact i2 (by omega) x hx hx0
theorem subL_fix {s : Sg} {q : Int} {σ : Int → List Int} : ∀ (a : List Int) , (∀ n ∈ a, n < 0 → (σ n).length = 1) → subL σ a = a → ∀ n ∈ a, n < 0 → σ n = [n]
  | [], _, _ => by simp
  | n :: a, h, e => by
    by_cases hn : n < 0
    · have h1 := h n (by simp) hn
      obtain ⟨x, hx⟩ := List.length_eq_one_iff.1 h1
      rw [subL_cons_var _ hn, hx] at e
      simp at e
      intro y hy hy0
      rcases List.mem_cons.1 hy with rfl | hy
      · rw [hx, e.1]
      · exact subL_fix (s := s) (q := q) a (fun x hx => h x (by simp [hx])) e.2 y hy hy0
    · rw [subL_cons_app _ (by omega)] at e
      simp at e
      intro y hy hy0
      rcases List.mem_cons.1 hy with rfl | hy
      · omega
      · exact subL_fix (s := s) (q := q) a (fun x hx => h x (by simp [hx])) e y hy hy0
theorem subL_one {σ : Int → List Int} (x : Int) : subL σ [x] = if x < 0 then σ x else [x] := by simp [subL]
theorem inst_alike {s : Sg} {q : Int} {a b : List Int} (h : Inst s q a b) (h' : Inst s q b a) : canonL a = canonL b := by
  obtain ⟨σ, h1, rfl⟩ := h
  obtain ⟨τ, h2, h3⟩ := h'
  have l1 := subL_len a h1
  have l2 := subL_len _ h2
  rw [h3] at l2
  have s1 := l1.2 l2.1
  have s2 := l2.2 l1.1
  have hc := subL_comp σ τ a
  rw [h3] at hc
  have ht : ∀ n ∈ a, n < 0 → (subL τ (σ n)).length = 1 := by
    intro n hn hn0
    obtain ⟨x, hx⟩ := List.length_eq_one_iff.1 (s1 n hn hn0)
    rw [hx, subL_one]
    split
    · rename_i hx0
      exact s2 x (mem_subL hn hn0 (by simp [hx])) hx0
    · rfl
  have hf := subL_fix (s := s) (q := q) a ht hc.symm
  -- the renaming
  let ρ : Int → Int := fun n => if n < 0 then (σ n).headD 0 else n
  have hρ : ∀ n ∈ a, n < 0 → σ n = [ρ n] := by
    intro n hn hn0
    obtain ⟨x, hx⟩ := List.length_eq_one_iff.1 (s1 n hn hn0)
    simp [ρ, hn0, hx]
  have hmap : subL σ a = a.map ρ := by
    have : ∀ (c : List Int), (∀ n ∈ c, n ∈ a) → subL σ c = c.map ρ := by
      intro c
      induction c with
      | nil => intro _; rfl
      | cons n c ih =>
        intro hc
        have ih' := ih fun x hx => hc x (by simp [hx])
        by_cases hn : n < 0
        · rw [subL_cons_var _ hn, ih', hρ n (hc n (by simp)) hn]; rfl
        · rw [subL_cons_app _ (by omega), ih', List.map_cons]
          have : ρ n = n := by simp [ρ, hn]
          rw [this]
    exact this a fun _ h => h
  rw [hmap]
  symm
  have hneg : ∀ n ∈ a, n < 0 → ρ n < 0 := by
    intro n hn hn0
    have e := hf n hn hn0
    rw [hρ n hn hn0, subL_one] at e
    split at e
    · assumption
    · simp at e; omega
  refine canonL_map hneg (fun n _ h => by simp [ρ]; omega) fun n hn m hm hn0 hm0 e => ?_
  have e1 := hf n hn hn0
  have e2 := hf m hm hm0
  rw [hρ n hn hn0] at e1
  rw [hρ m hm hm0, ← e, e1] at e2
  simpa using e2

/-- and back: terms of one canonical form are instances of each other. -/
theorem canon_inst {s : Sg} {q : Int} {a b : List Int} (hb : IsT s q b) (h : canonL a = canonL b) : Inst s q a b := by
  have hl : a.length = b.length := by have := congrArg List.length h; simpa [canonL_len] using this
  have hg : ∀ i (h1 : i < a.length) (h2 : i < b.length), numV (varsF [] a) a[i] = numV (varsF [] b) b[i] := by
    intro i h1 h2
    have e : (canonL a)[i]? = (canonL b)[i]? := by rw [h]
    simpa [canonL, h1, h2] using e
  refine ⟨fun n => [b.getD (a.idxOf n) 0], fun n hn hn0 => ?_, ?_⟩
  · have hi := List.idxOf_lt_length_of_mem hn
    have hib : a.idxOf n < b.length := by omega
    have e := hg _ hi hib
    have e1 : a[a.idxOf n] = n := by simp
    have hneg : b[a.idxOf n] < 0 := by
      rw [e1] at e
      exact numV_neg.1 (e ▸ numV_neg.2 hn0)
    have : b.getD (a.idxOf n) 0 = b[a.idxOf n] := by simp [List.getD, hib]
    show IsT s q [b.getD (a.idxOf n) 0]
    rw [this]
    exact .var _ (hb.vars _ (List.getElem_mem hib) hneg) hneg
  · have key : ∀ (k : Nat), k ≤ a.length → subL (fun n => [b.getD (a.idxOf n) 0]) (a.take k) = b.take k := by
      intro k
      induction k with
      | zero => intro _; simp [subL]
      | succ k ih =>
        intro hk
        have hka : k < a.length := by omega
        have hkb : k < b.length := by omega
        rw [List.take_succ_eq_append_getElem hka, List.take_succ_eq_append_getElem hkb, subL_append, ih (by omega), subL_one]
        congr 1
        have e := hg k hka hkb
        by_cases hn0 : a[k] < 0
        · rw [if_pos hn0]
          have hi := List.idxOf_lt_length_of_mem (List.getElem_mem hka)
          have hib : a.idxOf a[k] < b.length := by omega
          have e2 := hg _ hi hib
          rw [List.getElem_idxOf, e] at e2
          have hk0 : b[k] < 0 := numV_neg.1 (e ▸ numV_neg.2 hn0)
          have hj0 : b[a.idxOf a[k]] < 0 := numV_neg.1 (e2 ▸ numV_neg.2 hk0)
          have := numV_inj hk0 hj0 ((varsF_mem b [] _).2 (Or.inr ⟨List.getElem_mem hkb, hk0⟩)) e2
          simp [List.getD, hib, this]
        · rw [if_neg hn0]
          have : ¬ b[k] < 0 := fun hh => hn0 (numV_neg.1 (e.symm ▸ numV_neg.2 hh))
          unfold numV at e
          rw [if_neg hn0, if_neg this] at e
          rw [e]
    have := key a.length (Nat.le_refl _)
    rw [List.take_of_length_le (Nat.le_refl _), List.take_of_length_le (by omega)] at this
    exact this
theorem alike_iff {s : Sg} {q : Int} {a b : List Int} (ha : IsT s q a) (hb : IsT s q b) : canonL a = canonL b ↔ Inst s q a b ∧ Inst s q b a :=
  ⟨fun h => ⟨canon_inst hb h, canon_inst ha h.symm⟩, fun h => inst_alike h.1 h.2⟩
end Go.Proofs.YtmpjaakkjhmpmaaGreatDoor
namespace Go.Proofs.YtmpjaakkjhmpmaaGreatDoor

/-- a substitution does what m says. -/
def Sol (m : MM) (σ : Int → List Int) : Prop := ∀ v p, m v = some p → σ v = subL σ p
/-- a substitution of terms. -/
def TS (s : Sg) (σ : Int → List Int) : Prop := ∃ q, ∀ v, -24 ≤ v → v < 0 → IsT s q (σ v)
/-- a rank that shows that nothing leans on itself. -/
def Rk (m : MM) (r : Int → Nat) : Prop := ∀ v p, m v = some p → ∀ x ∈ p, x < 0 → r x < r v
structure MOK (s : Sg) (m : MM) : Prop where
  val : ∀ v p, m v = some p → -24 ≤ v ∧ v < 0 ∧ IsT s 24 p ∧ p.length ≤ 60
  rank : ∃ r : Int → Nat, Rk m r ∧ ∀ v, r v ≤ 24

def full (m : MM) : Nat → List Int → List Int
  | 0, t => t
  | k + 1, t => subL (fun n => match m n with | some p => full m k p | none => [n]) t
/-- a term with all that is bound put in. -/
def fw (m : MM) (t : List Int) : List Int := full m 25 t
def sg (m : MM) (n : Int) : List Int := fw m [n]

theorem filter_lt {α : Type} (P Q : α → Bool) : ∀ (l : List α), (∀ a ∈ l, P a = true → Q a = true) → (∃ a ∈ l, P a = false ∧ Q a = true) → (l.filter P).length < (l.filter Q).length
  | [], _, h => by obtain ⟨a, ha, _⟩ := h; cases ha
  | a :: l, h1, h2 => by
    have hle : ∀ (l : List α), (∀ a ∈ l, P a = true → Q a = true) → (l.filter P).length ≤ (l.filter Q).length := by
      intro l
      induction l with
      | nil => intro _; simp
      | cons b l ih =>
        intro h
        have := ih fun x hx => h x (by simp [hx])
        have hb := h b (by simp)
        simp only [List.filter_cons]
        cases hP : P b
        · cases hQ : Q b <;> simp <;> omega
        · rw [hb hP]; simp; omega
    have h1' : ∀ x ∈ l, P x = true → Q x = true := fun x hx => h1 x (by simp [hx])
    have hb := h1 a (by simp)
    obtain ⟨x, hx, hPx, hQx⟩ := h2
    simp only [List.filter_cons]
    rcases List.mem_cons.1 hx with rfl | hx
    · rw [hPx, hQx]
      have := hle l h1'
      simp; omega
    · have := filter_lt P Q l h1' ⟨x, hx, hPx, hQx⟩
      cases hP : P a
      · cases hQ : Q a <;> simp <;> omega
      · rw [hb hP]; simp; omega
/-- a rank among 24 variables is at most 24. -/
theorem rank_small {s : Sg} {m : MM} (h : ∀ v p, m v = some p → -24 ≤ v ∧ v < 0 ∧ IsT s 24 p ∧ p.length ≤ 60) {r : Int → Nat} (hr : Rk m r) : ∃ r : Int → Nat, Rk m r ∧ ∀ v, r v ≤ 24 := by
  refine ⟨fun v => ((List.range 24).filter fun i : Nat => decide (r (-(i : Int) - 1) < r v)).length, fun v p hv x hx hx0 => ?_, fun v => ?_⟩
  · have h1 := hr v p hv x hx hx0
    have h2 := ((h v p hv).2.2.1).vars x hx hx0
    refine filter_lt _ _ _ (fun a _ ha => ?_) ⟨(-x - 1).toNat, List.mem_range.2 (by omega), ?_, ?_⟩
    · simp only [decide_eq_true_eq] at ha ⊢; omega
    · simp only [decide_eq_false_iff_not]; rw [show -(((-x - 1).toNat : Nat) : Int) - 1 = x by omega]; omega
    · simp only [decide_eq_true_eq]; rw [show -(((-x - 1).toNat : Nat) : Int) - 1 = x by omega]; exact h1
  · have := List.length_filter_le (fun i : Nat => decide (r (-(i : Int) - 1) < r v)) (List.range 24)
    simpa using this

theorem full_append (m : MM) (k : Nat) (a b : List Int) : full m k (a ++ b) = full m k a ++ full m k b := by
  cases k with
  | zero => rfl
  | succ k => exact subL_append _ _ _
theorem full_nil (m : MM) (k : Nat) : full m k [] = [] := by cases k <;> rfl
theorem full_app (m : MM) (k : Nat) {c : Int} (h : 0 ≤ c) (a : List Int) : full m k (c :: a) = c :: full m k a := by
  cases k with
  | zero => rfl
  | succ k => exact subL_cons_app _ h _
theorem full_step {m : MM} {r : Int → Nat} (hr : Rk m r) : ∀ (k : Nat) (t : List Int), (∀ n ∈ t, n < 0 → r n < k) → full m (k + 1) t = full m k t
  | 0, t, h => by
    show subL _ t = t
    have : subL (fun n => match m n with | some p => full m 0 p | none => [n]) t = subL (fun n => [n]) t := subL_congr fun n hn hn0 => absurd (h n hn hn0) (by omega)
    rw [this, subL_id]
  | k + 1, t, h => by
    show subL _ t = subL _ t
    refine subL_congr fun n hn hn0 => ?_
    cases hm : m n with
    | none => rfl
    | some p =>
      simp only
      exact full_step hr k p fun x hx hx0 => by have := hr n p hm x hx hx0; have := h n hn hn0; omega
theorem fw_eq {s : Sg} {m : MM} (h : MOK s m) (t : List Int) : fw m t = subL (fun n => match m n with | some p => fw m p | none => [n]) t := by
  obtain ⟨r, hr, hb⟩ := h.rank
  unfold fw
  rw [← full_step hr 25 t fun n _ _ => by have := hb n; omega]
  rfl
theorem sg_eq {s : Sg} {m : MM} (h : MOK s m) {n : Int} (hn : n < 0) : sg m n = match m n with | some p => fw m p | none => [n] := by
  unfold sg
  rw [fw_eq h, subL_one, if_pos hn]
theorem sg_none {s : Sg} {m : MM} (h : MOK s m) {n : Int} (hn : n < 0) (hm : m n = none) : sg m n = [n] := by rw [sg_eq h hn, hm]
theorem sg_some {s : Sg} {m : MM} (h : MOK s m) {n : Int} {p : List Int} (hm : m n = some p) : sg m n = fw m p := by rw [sg_eq h (h.val n p hm).2.1, hm]
theorem fw_sub {s : Sg} {m : MM} (h : MOK s m) (t : List Int) : fw m t = subL (sg m) t := by
  rw [fw_eq h]
  exact subL_congr fun n _ hn => (sg_eq h hn).symm
theorem sg_sol {s : Sg} {m : MM} (h : MOK s m) : Sol m (sg m) := fun v p hv => by rw [sg_some h hv, fw_sub h]
theorem fw_append (m : MM) (a b : List Int) : fw m (a ++ b) = fw m a ++ fw m b := full_append m 25 a b
theorem fw_app (m : MM) {c : Int} (h : 0 ≤ c) (a : List Int) : fw m (c :: a) = c :: fw m a := full_app m 25 h a
theorem sol_full {m : MM} {σ : Int → List Int} (h : Sol m σ) : ∀ (k : Nat) (t : List Int), subL σ (full m k t) = subL σ t
  | 0, t => rfl
  | k + 1, t => by
    show subL σ (subL _ t) = _
    rw [subL_comp]
    refine subL_congr fun n hn hn0 => ?_
    cases hm : m n with
    | none => simp only; rw [subL_one, if_pos hn0]
    | some p => simp only; rw [sol_full h k p, h n p hm]
theorem sol_fw {m : MM} {σ : Int → List Int} (h : Sol m σ) (t : List Int) : subL σ (fw m t) = subL σ t := sol_full h 25 t
theorem full_T {s : Sg} {m : MM} (h : MOK s m) : ∀ (k : Nat) {t : List Int}, IsT s 24 t → IsT s 24 (full m k t)
  | 0, t, ht => ht
  | k + 1, t, ht => by
    refine IsT.sub ht fun n hn hn0 => ?_
    cases hm : m n with
    | none => exact .var n (ht.vars n hn hn0) hn0
    | some p => exact full_T h k (h.val n p hm).2.2.1
theorem fw_T {s : Sg} {m : MM} (h : MOK s m) {t : List Int} (ht : IsT s 24 t) : IsT s 24 (fw m t) := full_T h 25 ht
theorem sg_T {s : Sg} {m : MM} (h : MOK s m) {n : Int} (h1 : -24 ≤ n) (h2 : n < 0) : IsT s 24 (sg m n) := fw_T h (.var n h1 h2)
theorem sg_TS {s : Sg} {m : MM} (h : MOK s m) : TS s (sg m) := ⟨24, fun v h1 h2 => sg_T h h1 h2⟩
theorem subL_T {s : Sg} {σ : Int → List Int} {q : Int} (h : ∀ v, -24 ≤ v → v < 0 → IsT s q (σ v)) {t : List Int} (ht : IsT s 24 t) : IsT s q (subL σ t) :=
  IsT.sub ht fun n hn hn0 => h n (ht.vars n hn hn0) hn0

/-! ### sizes -/
theorem subL_len_le {σ : Int → List Int} {B : Nat} (hB : 1 ≤ B) : ∀ (t : List Int), (∀ n ∈ t, n < 0 → (σ n).length ≤ B) → (subL σ t).length ≤ B * t.length
  | [], _ => by simp [subL]
  | n :: t, h => by
    have ih := subL_len_le hB t fun x hx => h x (by simp [hx])
    rw [List.length_cons, Nat.mul_succ]
    by_cases hn : n < 0
    · rw [subL_cons_var _ hn, List.length_append]
      have := h n (by simp) hn
      omega
    · rw [subL_cons_app _ (by omega), List.length_cons]
      omega
theorem full_len {s : Sg} {m : MM} (h : MOK s m) : ∀ (k : Nat) (t : List Int), (full m k t).length ≤ 60 ^ k * t.length
  | 0, t => by simp [full]
  | k + 1, t => by
    have hp : 1 ≤ 60 ^ (k + 1) := Nat.pos_of_ne_zero (by simp)
    refine subL_len_le hp t fun n hn hn0 => ?_
    cases hm : m n with
    | none => simpa using hp
    | some p =>
      have h1 := full_len h k p
      have h2 := (h.val n p hm).2.2.2
      simp only
      calc (full m k p).length ≤ 60 ^ k * p.length := h1
        _ ≤ 60 ^ k * 60 := Nat.mul_le_mul_left _ h2
        _ = 60 ^ (k + 1) := (Nat.pow_succ ..).symm
theorem fw_len {s : Sg} {m : MM} (h : MOK s m) {t : List Int} (ht : t.length ≤ 60) : (fw m t).length ≤ 60 ^ 26 :=
  calc (fw m t).length ≤ 60 ^ 25 * t.length := full_len h 25 t
    _ ≤ 60 ^ 25 * 60 := Nat.mul_le_mul_left _ ht
    _ = 60 ^ 26 := (Nat.pow_succ ..).symm

/-! ### depths -/
inductive Ht (s : Sg) : Nat → List Int → Prop
  | var (h : Nat) (n : Int) : n < 0 → Ht s h [n]
  | app (h : Nat) (c : Nat) (ars : List (List Int)) : (ars.length : Int) = arOf s c → (∀ a ∈ ars, IsT s 24 a) → (∀ a ∈ ars, Ht s h a) → Ht s (h + 1) ((c : Int) :: ars.flatten)
theorem Ht.mono {s : Sg} {h : Nat} {t : List Int} (H : Ht s h t) : ∀ {h' : Nat}, h ≤ h' → Ht s h' t := by
  induction H with
  | var h n hn => intro h' _; exact .var h' n hn
  | app h c ars h1 h2 h3 ih =>
    intro h' hh
    obtain ⟨q, rfl⟩ : ∃ q, h' = q + 1 := ⟨h' - 1, by omega⟩
    exact .app q c ars h1 h2 fun a ha => ih a ha (by omega)
theorem IsT.ht {s : Sg} {t : List Int} (h : IsT s 24 t) : Ht s t.length t := by
  induction h with
  | var n h1 h2 => exact .var _ n h2
  | app c ars h1 h2 h3 ih =>
    rw [List.length_cons]
    refine .app _ c ars h2 h3 fun a ha => (ih a ha).mono ?_
    have : ∀ (bs : List (List Int)), a ∈ bs → a.length ≤ bs.flatten.length := by
      intro bs
      induction bs with
      | nil => intro h; cases h
      | cons b bs ihb =>
        intro h
        rw [List.flatten_cons, List.length_append]
        rcases List.mem_cons.1 h with rfl | h
        · omega
        · have := ihb h; omega
    exact this ars ha
theorem subL_flatten (σ : Int → List Int) : ∀ (ars : List (List Int)), subL σ ars.flatten = (ars.map (subL σ)).flatten
  | [] => rfl
  | a :: ars => by rw [List.flatten_cons, subL_append, subL_flatten σ ars, List.map_cons, List.flatten_cons]
theorem subL_node (σ : Int → List Int) (c : Nat) (ars : List (List Int)) : subL σ ((c : Int) :: ars.flatten) = (c : Int) :: (ars.map (subL σ)).flatten := by
  rw [subL_cons_app _ (by omega), subL_flatten]
theorem Ht.sub {s : Sg} {σ : Int → List Int} {h' : Nat} {h : Nat} {t : List Int} (H : Ht s h t) : (∀ n ∈ t, n < 0 → Ht s h' (σ n) ∧ IsT s 24 (σ n)) → Ht s (h + h') (subL σ t) := by
  induction H with
  | var h n hn =>
    intro hs
    rw [subL_one, if_pos hn]
    exact (hs n (by simp) hn).1.mono (by omega)
  | app h c ars h1 h2 h3 ih =>
    intro hs
    have hs' : ∀ a ∈ ars, ∀ n ∈ a, n < 0 → Ht s h' (σ n) ∧ IsT s 24 (σ n) := fun a ha n hn => hs n (by simp only [List.mem_cons, List.mem_flatten]; exact Or.inr ⟨a, ha, hn⟩)
    rw [subL_node, show h + 1 + h' = h + h' + 1 by omega]
    refine .app _ c _ (by simpa using h1) (fun b hb => ?_) fun b hb => ?_
    · obtain ⟨a, ha, rfl⟩ := List.mem_map.1 hb
      exact IsT.sub (h2 a ha) fun n hn hn0 => (hs' a ha n hn hn0).2
    · obtain ⟨a, ha, rfl⟩ := List.mem_map.1 hb
      exact ih a ha (hs' a ha)
theorem full_ht {s : Sg} {m : MM} (h : MOK s m) : ∀ (k : Nat) {t : List Int}, IsT s 24 t → t.length ≤ 60 → Ht s (60 + 60 * k) (full m k t)
  | 0, t, ht, hl => ht.ht.mono (by omega)
  | k + 1, t, ht, hl => by
    have h1 := Ht.sub (s := s) (σ := fun n => match m n with | some p => full m k p | none => [n]) (h' := 60 + 60 * k) ht.ht fun n hn hn0 => by
      cases hm : m n with
      | none => exact ⟨.var _ n hn0, .var n (ht.vars n hn hn0) hn0⟩
      | some p => exact ⟨full_ht h k (h.val n p hm).2.2.1 (h.val n p hm).2.2.2, full_T h k (h.val n p hm).2.2.1⟩
    exact h1.mono (by omega)
theorem fw_ht {s : Sg} {m : MM} (h : MOK s m) {t : List Int} (ht : IsT s 24 t) (hl : t.length ≤ 60) : Ht s 1560 (fw m t) := (full_ht h 25 ht hl).mono (by omega)
/-- a term lies in another one, so many symbols down. -/
inductive Dp (s : Sg) : Nat → List Int → List Int → Prop
  | here (t : List Int) : Dp s 0 t t
  | down (d : Nat) (c : Nat) (ars : List (List Int)) (u a : List Int) : (ars.length : Int) = arOf s c → (∀ a ∈ ars, IsT s 24 a) → a ∈ ars → Dp s d u a → Dp s (d + 1) u ((c : Int) :: ars.flatten)
theorem Dp.le {s : Sg} {d : Nat} {u t : List Int} (H : Dp s d u t) : ∀ {h : Nat}, Ht s h t → d ≤ h := by
  induction H with
  | here t => intro h _; omega
  | down d c ars u a h1 h2 h3 h4 ih =>
    intro h hh
    generalize ht : (c : Int) :: ars.flatten = t at hh
    cases hh with
    | var h n hn => simp at ht; omega
    | app h c' ars' g1 g2 g3 =>
      have hc : c = c' := by have := (List.cons.inj ht).1; omega
      subst hc
      have := app_unique h2 g2 (by omega) ht
      subst this
      have := ih (g3 a h3)
      omega
theorem Dp.sub {s : Sg} {σ : Int → List Int} (hσ : ∀ v, -24 ≤ v → v < 0 → IsT s 24 (σ v)) {d : Nat} {u t : List Int} (H : Dp s d u t) : Dp s d (subL σ u) (subL σ t) := by
  induction H with
  | here t => exact .here _
  | down d c ars u a h1 h2 h3 h4 ih =>
    rw [subL_node]
    refine .down d c _ _ (subL σ a) (by simpa using h1) (fun b hb => ?_) (List.mem_map.2 ⟨a, h3, rfl⟩) ih
    obtain ⟨x, hx, rfl⟩ := List.mem_map.1 hb
    exact subL_T hσ (h2 x hx)
/-- what lies under what lies in a term. -/
theorem Dp.arg {s : Sg} {d : Nat} {u t : List Int} (H : Dp s d u t) : ∀ {c : Nat} {ars : List (List Int)} {a : List Int}, u = (c : Int) :: ars.flatten → (ars.length : Int) = arOf s c → (∀ a ∈ ars, IsT s 24 a) → a ∈ ars → Dp s (d + 1) a t := by
  induction H with
  | here t => intro c ars a e h1 h2 h3; rw [e]; exact .down 0 c ars a a h1 h2 h3 (.here a)
  | down d c ars u a h1 h2 h3 h4 ih => intro c' ars' a' e g1 g2 g3; exact .down _ c ars _ a h1 h2 h3 (ih e g1 g2 g3)

/-! ### what a variable leads to -/
inductive Reach (m : MM) : List Int → Int → Prop
  | here (t : List Int) (v : Int) : v ∈ t → v < 0 → Reach m t v
  | step (t : List Int) (v n : Int) (p : List Int) : n ∈ t → n < 0 → m n = some p → Reach m p v → Reach m t v
theorem Reach.fw {s : Sg} {m : MM} (h : MOK s m) {v : Int} (hm : m v = none) {t : List Int} (H : Reach m t v) : v ∈ fw m t := by
  induction H with
  | here t v h1 h2 =>
    rw [fw_sub h]
    exact mem_subL h1 h2 (by rw [sg_none h h2 hm]; simp)
  | step t v n p h1 h2 h3 h4 ih =>
    rw [fw_sub h]
    exact mem_subL h1 h2 (by rw [sg_some h h3]; exact ih hm)
theorem Reach.neg {m : MM} {v : Int} {t : List Int} (H : Reach m t v) : v < 0 := by
  induction H with
  | here _ _ _ h => exact h
  | step _ _ _ _ _ _ _ _ ih => exact ih
theorem reach_one {m : MM} {v x : Int} {t : List Int} (hx : x ∈ t) (H : Reach m [x] v) : Reach m t v := by
  generalize hy : [x] = y at H
  cases H with
  | here t' v h1 h2 => subst hy; simp at h1; subst h1; exact .here _ _ hx h2
  | step t' v n p h1 h2 h3 h4 => subst hy; simp at h1; subst h1; exact .step _ _ n p hx h2 h3 h4
theorem subL_mem_len {s : Sg} {q : Int} {σ : Int → List Int} : ∀ (t : List Int) {v : Int}, v ∈ t → v < 0 → (∀ n ∈ t, n < 0 → IsT s q (σ n)) → (σ v).length ≤ (subL σ t).length
  | [], v, h, _, _ => by cases h
  | n :: t, v, h, hv, hT => by
    rcases List.mem_cons.1 h with rfl | h
    · rw [subL_cons_var _ hv, List.length_append]; omega
    · have := subL_mem_len t h hv fun x hx => hT x (by simp [hx])
      by_cases hn : n < 0
      · rw [subL_cons_var _ hn, List.length_append]; omega
      · rw [subL_cons_app _ (by omega), List.length_cons]; omega
/-- a variable that comes in a term is never equal to it. -/
theorem occurs_no {s : Sg} {m : MM} (h : MOK s m) {v c : Int} {q : List Int} (hm : m v = none) (hc : 0 ≤ c) (hq : IsT s 24 (c :: q)) (H : Reach m (c :: q) v) {σ : Int → List Int} (hT : TS s σ) (hσ : Sol m σ) : σ v ≠ subL σ (c :: q) := by
  intro e
  obtain ⟨w, hw⟩ := hT
  have h1 := H.fw h hm
  have h2 := fw_T h hq
  rw [← sol_fw hσ, fw_app _ hc] at e
  rw [fw_app _ hc] at h1 h2
  have hv : v < 0 := H.neg
  rw [subL_cons_app _ hc] at e
  have h3 : v ∈ fw m q := by
    rcases List.mem_cons.1 h1 with h | h
    · omega
    · exact h
  have := subL_mem_len (s := s) (q := w) (σ := σ) (fw m q) h3 hv fun n hn hn0 => hw n (h2.vars n (by simp [hn]) hn0) hn0
  have := congrArg List.length e
  simp at this
  omega
theorem updM_same (m : MM) (v : Int) (q : List Int) : updM m v q v = some q := by simp [updM]
theorem updM_ne (m : MM) {v x : Int} (q : List Int) (h : x ≠ v) : updM m v q x = m x := by simp [updM, h]
/-- a variable that does not come in a term may become it. -/
theorem MOK.bind {s : Sg} {m : MM} (h : MOK s m) {v : Int} {q : List Int} (h1 : -24 ≤ v) (h2 : v < 0) (hq : IsT s 24 q) (hl : q.length ≤ 60) (H : ¬ Reach m q v) : MOK s (updM m v q) := by
  have hval : ∀ x p, updM m v q x = some p → -24 ≤ x ∧ x < 0 ∧ IsT s 24 p ∧ p.length ≤ 60 := by
    intro x p hx
    by_cases e : x = v
    · subst e; rw [updM_same] at hx; cases hx; exact ⟨h1, h2, hq, hl⟩
    · rw [updM_ne m q e] at hx; exact h.val x p hx
  refine ⟨hval, ?_⟩
  obtain ⟨r, hr, hb⟩ := h.rank
  have hd : ∀ n : Int, ∃ b : Bool, b = true ↔ Reach m [n] v := fun n => by
    by_cases hh : Reach m [n] v
    · exact ⟨true, by simp [hh]⟩
    · exact ⟨false, by simp [hh]⟩
  obtain ⟨f, hf⟩ : ∃ f : Int → Bool, ∀ n, f n = true ↔ Reach m [n] v := ⟨fun n => Classical.choose (hd n), fun n => Classical.choose_spec (hd n)⟩
  refine rank_small hval (r := fun n => r n + if f n then 25 else 0) fun x p hx y hy hy0 => ?_
  by_cases e : x = v
  · subst e
    rw [updM_same] at hx
    cases hx
    have g1 : f x = true := (hf x).2 (.here _ _ (by simp) h2)
    have g2 : f y = false := by
      cases g : f y with
      | false => rfl
      | true => exact absurd (reach_one hy ((hf y).1 g)) H
    have := hb y
    simp only [g1, g2, if_true]
    simp
    omega
  · rw [updM_ne m q e] at hx
    have g := hr x p hx y hy hy0
    cases g2 : f y with
    | false => simp only [g2]; simp; omega
    | true =>
      have g1 : f x = true := (hf x).2 (.step _ _ x p (by simp) (h.val x p hx).2.1 hx (reach_one hy ((hf y).1 g2)))
      simp only [g1, g2, if_true]; omega
theorem fw_upd {s : Sg} {m m' : MM} (h : MOK s m) (h' : MOK s m') (hs : Sol m (sg m')) (t : List Int) : fw m' t = subL (sg m') (fw m t) := by
  rw [sol_fw hs, fw_sub h']
theorem sol_upd {m : MM} {v : Int} {q : List Int} (hm : m v = none) (σ : Int → List Int) : Sol (updM m v q) σ ↔ Sol m σ ∧ σ v = subL σ q := by
  constructor
  · intro h
    refine ⟨fun x p hx => h x p ?_, h v q (updM_same _ _ _)⟩
    rw [updM_ne]
    · exact hx
    · intro e; subst e; rw [hm] at hx; cases hx
  · rintro ⟨h1, h2⟩ x p hx
    by_cases e : x = v
    · subst e; rw [updM_same] at hx; cases hx; exact h2
    · rw [updM_ne m q e] at hx; exact h1 x p hx
end Go.Proofs.YtmpjaakkjhmpmaaGreatDoor
namespace Go.Proofs.YtmpjaakkjhmpmaaGreatDoor

end Go.Proofs.YtmpjaakkjhmpmaaGreatDoor
