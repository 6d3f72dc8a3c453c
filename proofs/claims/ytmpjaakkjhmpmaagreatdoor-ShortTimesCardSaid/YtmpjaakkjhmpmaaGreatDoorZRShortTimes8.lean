/-
  WHAT IT HOLDS: plain facts on matching one term with another one: what the match computes, that it is sound and complete for 'an instance of'. No program in sight. Condition: the lists are terms.
  WHAT IT HOLDS: plain facts on canonical forms: how variables are renamed, and that two terms have one canonical form exactly if each is an instance of the other one. No program in sight. Condition: the lists are terms where it is said.
  WHAT IT HOLDS: plain facts on grouping a list by equal elements. No program in sight. No condition.
-/
import Derived.Test.YtmpjaakkjhmpmaaGreatDoorZRShortTimes1
namespace Go.Proofs.YtmpjaakkjhmpmaaGreatDoor

/-- l is k terms, one behind the other. -/
def Fo (s : Sg) (q : Int) (k : Nat) (l : List Int) : Prop := ∃ ars : List (List Int), ars.length = k ∧ l = ars.flatten ∧ ∀ a ∈ ars, IsT s q a
theorem IsT.fo {s : Sg} {q : Int} {t : List Int} (h : IsT s q t) : Fo s q 1 t := ⟨[t], rfl, by simp, by simpa using h⟩
theorem Fo.one {s : Sg} {q : Int} {t : List Int} (h : Fo s q 1 t) : IsT s q t := by
  obtain ⟨ars, h1, h2, h3⟩ := h
  match ars, h1 with
  | [a], _ => simp at h2; rw [h2]; exact h3 a (by simp)
theorem Fo.zero {s : Sg} {q : Int} {t : List Int} (h : Fo s q 0 t) : t = [] := by
  obtain ⟨ars, h1, h2, h3⟩ := h
  match ars, h1 with
  | [], _ => simpa using h2
theorem Fo.nil (s : Sg) (q : Int) : Fo s q 0 [] := ⟨[], rfl, rfl, by simp⟩
theorem Fo.of_nil {s : Sg} {q : Int} {k : Nat} (h : Fo s q k []) : k = 0 := by
  obtain ⟨ars, h1, h2, h3⟩ := h
  cases ars with
  | nil => exact h1.symm
  | cons a ars =>
    have := (h3 a (by simp)).nonempty
    simp at h2
    exact absurd h2.1 this
theorem Fo.append {s : Sg} {q : Int} {j k : Nat} {l m : List Int} (h : Fo s q j l) (h' : Fo s q k m) : Fo s q (j + k) (l ++ m) := by
  obtain ⟨ars, h1, h2, h3⟩ := h
  obtain ⟨bs, g1, g2, g3⟩ := h'
  refine ⟨ars ++ bs, by simp [h1, g1], by simp [h2, g2], fun a ha => ?_⟩
  rcases List.mem_append.1 ha with ha | ha
  · exact h3 a ha
  · exact g3 a ha
theorem Fo.split {s : Sg} {q : Int} {k : Nat} {l : List Int} (h : Fo s q (k + 1) l) : ∃ p r, l = p ++ r ∧ IsT s q p ∧ Fo s q k r := by
  obtain ⟨ars, h1, h2, h3⟩ := h
  cases ars with
  | nil => simp at h1
  | cons a ars => exact ⟨a, ars.flatten, by simpa using h2, h3 a (by simp), ars, by simpa using h1, rfl, fun b hb => h3 b (by simp [hb])⟩
theorem Fo.splits {s : Sg} {q : Int} {j k : Nat} {l : List Int} (h : Fo s q (j + k) l) : ∃ p r, l = p ++ r ∧ Fo s q j p ∧ Fo s q k r := by
  obtain ⟨ars, h1, h2, h3⟩ := h
  refine ⟨(ars.take j).flatten, (ars.drop j).flatten, ?_, ⟨ars.take j, by simp; omega, rfl, fun a ha => h3 a (List.mem_of_mem_take ha)⟩, ⟨ars.drop j, by simp; omega, rfl, fun a ha => h3 a (List.mem_of_mem_drop ha)⟩⟩
  rw [← List.flatten_append, List.take_append_drop, h2]
theorem Fo.cons_inv {s : Sg} {q : Int} {k : Nat} {n : Int} {l : List Int} (h : Fo s q k (n :: l)) : ∃ k', k = k' + 1 ∧
    ((n < 0 ∧ -q ≤ n ∧ Fo s q k' l) ∨ (0 ≤ n ∧ n < s.length ∧ ∃ c : Nat, n = (c : Int) ∧ (∃ r : Nat, arOf s n = r ∧ Fo s q (r + k') l))) := by
  obtain ⟨k', rfl⟩ : ∃ k', k = k' + 1 := by
    cases k with
    | zero => exact absurd h.zero (by simp)
    | succ k => exact ⟨k, rfl⟩
  refine ⟨k', rfl, ?_⟩
  obtain ⟨p, r, h1, h2, h3⟩ := h.split
  cases h2 with
  | var m h4 h5 =>
    simp at h1
    obtain ⟨rfl, rfl⟩ := h1
    exact Or.inl ⟨h5, h4, h3⟩
  | app c ars h4 h5 h6 =>
    simp at h1
    obtain ⟨rfl, rfl⟩ := h1
    exact Or.inr ⟨by omega, by omega, c, rfl, ars.length, h5.symm, Fo.append ⟨ars, rfl, rfl, h6⟩ h3⟩
theorem Fo.cons_var {s : Sg} {q : Int} {k : Nat} {n : Int} {l : List Int} (h1 : n < 0) (h2 : -q ≤ n) (h : Fo s q k l) : Fo s q (k + 1) (n :: l) := by
  have := (IsT.var (s := s) (m := q) n h2 h1).fo.append h
  rw [Nat.add_comm] at this
  simpa using this
theorem Fo.cons_app {s : Sg} {q : Int} {k r c : Nat} {l : List Int} (h1 : c < s.length) (h2 : arOf s c = r) (h : Fo s q (r + k) l) : Fo s q (k + 1) ((c : Int) :: l) := by
  obtain ⟨p, u, rfl, ⟨ars, g1, g2, g3⟩, h4⟩ := h.splits
  have ht : IsT s q ((c : Int) :: p) := by rw [g2]; exact .app c ars h1 (by rw [h2, g1]) g3
  have := ht.fo.append h4
  rw [Nat.add_comm] at this
  simpa using this

/-- what variables became. -/
abbrev MM := Int → Option (List Int)
def updM (m : MM) (n : Int) (l : List Int) : MM := fun x => if x = n then some l else m x
def matL (s : Sg) : List Int → List Int → MM → Option MM
  | [], _, m => some m
  | _ :: _, [], _ => none
  | n :: a, c :: b, m =>
    if 0 ≤ n then (if c = n then matL s a b m else none)
    else match m n with
      | none => matL s a ((c :: b).drop (pLen s (c :: b) 1)) (updM m n ((c :: b).take (pLen s (c :: b) 1)))
      | some q => if q = (c :: b).take (pLen s (c :: b) 1) then matL s a ((c :: b).drop (pLen s (c :: b) 1)) m else none
theorem matL_nil (s : Sg) (b : List Int) (m : MM) : matL s [] b m = some m := by cases b <;> rfl
theorem matL_app {s : Sg} {n : Int} (hn : 0 ≤ n) (a : List Int) (c : Int) (b : List Int) (m : MM) : matL s (n :: a) (c :: b) m = if c = n then matL s a b m else none := by
  simp [matL, hn]
theorem matL_var {s : Sg} {q : Int} {n : Int} (hn : n < 0) (a : List Int) {p : List Int} (hp : IsT s q p) (r : List Int) (m : MM) :
    matL s (n :: a) (p ++ r) m = match m n with
      | none => matL s a r (updM m n p)
      | some l => if l = p then matL s a r m else none := by
  have h1 := pLen_T1 hp r
  have h2 := hp.nonempty
  cases p with
  | nil => exact absurd rfl h2
  | cons c p =>
    rw [List.cons_append] at h1 ⊢
    rw [matL, if_neg (by omega), h1]
    rw [show (c :: (p ++ r)) = (c :: p) ++ r by rfl, List.drop_left, List.take_left]
/-- a term with lists in place of its variables. -/
def subL (σ : Int → List Int) (a : List Int) : List Int := a.flatMap fun n => if n < 0 then σ n else [n]
theorem subL_cons_var (σ : Int → List Int) {n : Int} (h : n < 0) (a : List Int) : subL σ (n :: a) = σ n ++ subL σ a := by simp [subL, h]
theorem subL_cons_app (σ : Int → List Int) {n : Int} (h : 0 ≤ n) (a : List Int) : subL σ (n :: a) = n :: subL σ a := by
  have : ¬ n < 0 := by omega
  simp [subL, this]
theorem subL_append (σ : Int → List Int) (a b : List Int) : subL σ (a ++ b) = subL σ a ++ subL σ b := by simp [subL]
theorem subL_congr {σ τ : Int → List Int} {a : List Int} (h : ∀ n ∈ a, n < 0 → σ n = τ n) : subL σ a = subL τ a := by
  induction a with
  | nil => rfl
  | cons n a ih =>
    have ih' := ih fun x hx => h x (by simp [hx])
    by_cases hn : n < 0
    · rw [subL_cons_var _ hn, subL_cons_var _ hn, ih', h n (by simp) hn]
    · rw [subL_cons_app _ (by omega), subL_cons_app _ (by omega), ih']
theorem Fo.sub {s : Sg} {q q' : Int} {σ : Int → List Int} : ∀ (a : List Int) (k : Nat), Fo s q k a → (∀ n ∈ a, n < 0 → IsT s q' (σ n)) → Fo s q' k (subL σ a) := by
  intro a
  induction a with
  | nil => intro k h _; have := h.of_nil; subst this; exact Fo.nil _ _
  | cons n a ih =>
    intro k h hσ
    obtain ⟨k', rfl, ⟨h1, _, h3⟩ | ⟨h1, h2, c, rfl, r, hr, h4⟩⟩ := h.cons_inv
    · rw [subL_cons_var _ h1, Nat.add_comm]
      exact (hσ n (by simp) h1).fo.append (ih _ h3 fun x hx => hσ x (by simp [hx]))
    · rw [subL_cons_app _ h1]
      exact Fo.cons_app (by omega) hr (ih _ h4 fun x hx => hσ x (by simp [hx]))
theorem IsT.sub {s : Sg} {q q' : Int} {σ : Int → List Int} {a : List Int} (h : IsT s q a) (hσ : ∀ n ∈ a, n < 0 → IsT s q' (σ n)) : IsT s q' (subL σ a) := (Fo.sub a 1 h.fo hσ).one

theorem matL_sound {s : Sg} {q : Int} : ∀ (a : List Int) (k : Nat) (b : List Int) (m m' : MM), Fo s q k a → Fo s q k b → matL s a b m = some m' →
    (∀ n l, m n = some l → m' n = some l) ∧ (∀ n ∈ a, n < 0 → ∃ l, m' n = some l) ∧ subL (fun n => (m' n).getD []) a = b ∧
    (∀ n l, m' n = some l → m n = some l ∨ (n ∈ a ∧ n < 0 ∧ IsT s q l)) := by
  intro a
  induction a with
  | nil =>
    intro k b m m' ha hb h
    have hk := ha.of_nil
    subst hk
    have hb0 := hb.zero
    subst hb0
    rw [matL_nil] at h
    cases h
    exact ⟨fun _ _ h => h, by simp, rfl, fun _ _ h => Or.inl h⟩
  | cons n a ih =>
    intro k b m m' ha hb h
    obtain ⟨k', rfl, ⟨h1, _, h3⟩ | ⟨h1, h2, c0, hc0, r, hr, h4⟩⟩ := ha.cons_inv
    · obtain ⟨p, u, rfl, hp, hu⟩ := hb.split
      rw [matL_var h1 _ hp] at h
      cases hm : m n with
      | none =>
        rw [hm] at h
        obtain ⟨e1, e2, e3, e4⟩ := ih k' u _ m' h3 hu h
        have hn : m' n = some p := e1 n p (by simp [updM])
        refine ⟨fun x l hx => e1 x l ?_, fun x hx hx0 => ?_, ?_, fun x l hx => ?_⟩
        · unfold updM
          split
          · rename_i e; subst e; rw [hm] at hx; cases hx
          · exact hx
        · rcases List.mem_cons.1 hx with rfl | hx
          · exact ⟨p, hn⟩
          · exact e2 x hx hx0
        · rw [subL_cons_var _ h1, e3, hn]; rfl
        · rcases e4 x l hx with h5 | ⟨h5, h6, h7⟩
          · unfold updM at h5
            split at h5
            · rename_i e; subst e; cases h5; exact Or.inr ⟨by simp, h1, hp⟩
            · exact Or.inl h5
          · exact Or.inr ⟨by simp [h5], h6, h7⟩
      | some l0 =>
        rw [hm] at h
        simp only at h
        split at h
        · rename_i e
          subst e
          obtain ⟨e1, e2, e3, e4⟩ := ih k' u _ m' h3 hu h
          have hn := e1 n l0 hm
          refine ⟨e1, fun x hx hx0 => ?_, ?_, fun x l hx => ?_⟩
          · rcases List.mem_cons.1 hx with rfl | hx
            · exact ⟨l0, hn⟩
            · exact e2 x hx hx0
          · rw [subL_cons_var _ h1, e3, hn]; rfl
          · rcases e4 x l hx with h5 | ⟨h5, h6, h7⟩
            · exact Or.inl h5
            · exact Or.inr ⟨by simp [h5], h6, h7⟩
        · cases h
    · cases b with
      | nil => have := hb.of_nil; omega
      | cons c b =>
        rw [matL_app h1] at h
        split at h
        · rename_i hcn
          subst hcn
          obtain ⟨k2, hk2, h5 | ⟨_, _, _, _, r2, hr2, h6⟩⟩ := hb.cons_inv
          · omega
          · have : r2 = r := by rw [hr2] at hr; omega
            subst this
            have : k2 = k' := by omega
            subst this
            obtain ⟨e1, e2, e3, e4⟩ := ih _ b m m' h4 h6 h
            refine ⟨e1, fun x hx hx0 => ?_, ?_, fun x l hx => ?_⟩
            · rcases List.mem_cons.1 hx with rfl | hx
              · omega
              · exact e2 x hx hx0
            · rw [subL_cons_app _ h1, e3]
            · rcases e4 x l hx with h5 | ⟨h5, h6, h7⟩
              · exact Or.inl h5
              · exact Or.inr ⟨by simp [h5], h6, h7⟩
        · cases h
theorem matL_complete {s : Sg} {q q' : Int} {σ : Int → List Int} : ∀ (a : List Int) (k : Nat) (m : MM), Fo s q k a → (∀ n ∈ a, n < 0 → IsT s q' (σ n)) → (∀ n l, m n = some l → l = σ n) →
    ∃ m', matL s a (subL σ a) m = some m' ∧ ∀ n l, m' n = some l → l = σ n := by
  intro a
  induction a with
  | nil => intro k m _ _ hm; exact ⟨m, matL_nil _ _ _, hm⟩
  | cons n a ih =>
    intro k m ha hσ hm
    obtain ⟨k', rfl, ⟨h1, _, h3⟩ | ⟨h1, h2, c0, hc0, r, hr, h4⟩⟩ := ha.cons_inv
    · rw [subL_cons_var _ h1, matL_var h1 _ (hσ n (by simp) h1)]
      cases hmn : m n with
      | none =>
        refine ih k' _ h3 (fun x hx => hσ x (by simp [hx])) fun x l hx => ?_
        unfold updM at hx
        split at hx
        · rename_i e; subst e; cases hx; rfl
        · exact hm x l hx
      | some l =>
        simp only
        rw [if_pos (hm n l hmn)]
        exact ih k' m h3 (fun x hx => hσ x (by simp [hx])) hm
    · rw [subL_cons_app _ h1, matL_app h1, if_pos rfl]
      exact ih _ m h4 (fun x hx => hσ x (by simp [hx])) hm

/-- b is an instance of a. -/
def Inst (s : Sg) (q : Int) (a b : List Int) : Prop := ∃ σ : Int → List Int, (∀ n ∈ a, n < 0 → IsT s q (σ n)) ∧ subL σ a = b
def noM : MM := fun _ => none
theorem inst_iff {s : Sg} {q : Int} {a b : List Int} (ha : IsT s q a) (hb : IsT s q b) : (matL s a b noM).isSome = true ↔ Inst s q a b := by
  constructor
  · intro h
    obtain ⟨m', hm⟩ := Option.isSome_iff_exists.1 h
    obtain ⟨_, h2, h3, h4⟩ := matL_sound a 1 b _ m' ha.fo hb.fo hm
    refine ⟨fun n => (m' n).getD [], fun n hn hn0 => ?_, h3⟩
    obtain ⟨l, hl⟩ := h2 n hn hn0
    rcases h4 n l hl with h5 | ⟨_, _, h6⟩
    · cases h5
    · simpa [hl] using h6
  · rintro ⟨σ, h1, rfl⟩
    obtain ⟨m', h2, _⟩ := matL_complete (q' := q) a 1 noM ha.fo h1 (fun n l h => by cases h)
    rw [h2]; rfl
theorem subL_id (a : List Int) : subL (fun n => [n]) a = a := by
  induction a with
  | nil => rfl
  | cons n a ih =>
    by_cases hn : n < 0
    · rw [subL_cons_var _ hn, ih]; rfl
    · rw [subL_cons_app _ (by omega), ih]
theorem Fo.vars {s : Sg} {q : Int} {k : Nat} {l : List Int} (h : Fo s q k l) : ∀ n ∈ l, n < 0 → -q ≤ n := by
  obtain ⟨ars, _, rfl, h3⟩ := h
  intro n hn hn0
  obtain ⟨a, ha, hna⟩ := List.mem_flatten.1 hn
  rcases (h3 a ha).range n hna with h4 | h4 <;> omega
theorem IsT.vars {s : Sg} {q : Int} {l : List Int} (h : IsT s q l) : ∀ n ∈ l, n < 0 → -q ≤ n := h.fo.vars
theorem Inst.refl {s : Sg} {q : Int} {a : List Int} (ha : IsT s q a) : Inst s q a a := ⟨fun n => [n], fun n hn hn0 => .var n (ha.vars n hn hn0) hn0, subL_id a⟩
theorem subL_comp (σ τ : Int → List Int) (a : List Int) : subL τ (subL σ a) = subL (fun n => subL τ (σ n)) a := by
  induction a with
  | nil => rfl
  | cons n a ih =>
    by_cases hn : n < 0
    · rw [subL_cons_var _ hn, subL_append, ih, subL_cons_var _ hn]
    · rw [subL_cons_app _ (by omega), subL_cons_app _ (by omega), ih, subL_cons_app _ (by omega)]
theorem mem_subL {σ : Int → List Int} {a : List Int} {x n : Int} (hn : n ∈ a) (hn0 : n < 0) (hx : x ∈ σ n) : x ∈ subL σ a := by
  unfold subL
  exact List.mem_flatMap.2 ⟨n, hn, by simpa [hn0] using hx⟩
theorem Inst.trans {s : Sg} {q : Int} {a b c : List Int} (h : Inst s q a b) (h' : Inst s q b c) : Inst s q a c := by
  obtain ⟨σ, h1, rfl⟩ := h
  obtain ⟨τ, h2, rfl⟩ := h'
  refine ⟨fun n => subL τ (σ n), fun n hn hn0 => (h1 n hn hn0).sub fun x hx hx0 => h2 x (mem_subL hn hn0 hx) hx0, (subL_comp σ τ a).symm⟩
end Go.Proofs.YtmpjaakkjhmpmaaGreatDoor
namespace Go.Proofs.YtmpjaakkjhmpmaaGreatDoor

/-- the variables that come, in the order in which they come, behind those met. -/
def varsF : List Int → List Int → List Int
  | vs, [] => vs
  | vs, n :: r => if n < 0 ∧ n ∉ vs then varsF (vs ++ [n]) r else varsF vs r
def numV (vs : List Int) (n : Int) : Int := if n < 0 then -(vs.idxOf n : Int) - 1 else n
def canonL (t : List Int) : List Int := t.map (numV (varsF [] t))
theorem varsF_append (vs a b : List Int) : varsF vs (a ++ b) = varsF (varsF vs a) b := by
  induction a generalizing vs with
  | nil => rfl
  | cons n a ih => simp only [List.cons_append, varsF]; split <;> exact ih _
theorem varsF_prefix : ∀ (a vs : List Int), ∃ r, varsF vs a = vs ++ r
  | [], vs => ⟨[], by simp [varsF]⟩
  | n :: a, vs => by
    unfold varsF
    split
    · obtain ⟨r, h⟩ := varsF_prefix a (vs ++ [n])
      exact ⟨n :: r, by rw [h]; simp⟩
    · exact varsF_prefix a vs
theorem varsF_mem : ∀ (a vs : List Int) (x : Int), x ∈ varsF vs a ↔ x ∈ vs ∨ (x ∈ a ∧ x < 0)
  | [], vs, x => by simp [varsF]
  | n :: a, vs, x => by
    unfold varsF
    split
    · rename_i h
      rw [varsF_mem a]
      simp only [List.mem_append, List.mem_cons, List.not_mem_nil, or_false]
      constructor
      · rintro ((h1 | rfl) | h1)
        · exact Or.inl h1
        · exact Or.inr ⟨Or.inl rfl, h.1⟩
        · exact Or.inr ⟨Or.inr h1.1, h1.2⟩
      · rintro (h1 | ⟨rfl | h1, h2⟩)
        · exact Or.inl (Or.inl h1)
        · exact Or.inl (Or.inr rfl)
        · exact Or.inr ⟨h1, h2⟩
    · rename_i h
      rw [varsF_mem a]
      simp only [List.mem_cons]
      constructor
      · rintro (h1 | h1)
        · exact Or.inl h1
        · exact Or.inr ⟨Or.inr h1.1, h1.2⟩
      · rintro (h1 | ⟨rfl | h1, h2⟩)
        · exact Or.inl h1
        · left
          by_cases hx : x ∈ vs
          · exact hx
          · exact absurd ⟨h2, hx⟩ h
        · exact Or.inr ⟨h1, h2⟩
theorem varsF_nodup : ∀ (a vs : List Int), vs.Nodup → (varsF vs a).Nodup
  | [], vs, h => h
  | n :: a, vs, h => by
    unfold varsF
    split
    · rename_i h1
      refine varsF_nodup a _ ?_
      rw [List.nodup_append]
      refine ⟨h, by simp, ?_⟩
      intro x hx y hy
      simp at hy
      subst hy
      intro e
      subst e
      exact h1.2 hx
    · exact varsF_nodup a vs h
theorem numV_stable {vs : List Int} {n : Int} (r : List Int) (h : n < 0 → n ∈ vs) : numV (vs ++ r) n = numV vs n := by
  unfold numV
  split
  · rename_i hn
    rw [List.idxOf_append, if_pos (h hn)]
  · rfl
/-- a number's name does not change while more comes. -/
theorem numV_stable' (vs a : List Int) {n : Int} (h : n < 0 → n ∈ vs) : numV (varsF vs a) n = numV vs n := by
  obtain ⟨r, hr⟩ := varsF_prefix a vs
  rw [hr, numV_stable r h]
theorem varsF_map {ρ : Int → Int} : ∀ (a vs : List Int), (∀ n ∈ a, n < 0 → ρ n < 0) → (∀ n ∈ a, 0 ≤ n → ρ n = n) → (∀ n ∈ vs ++ a, ∀ m ∈ vs ++ a, n < 0 → m < 0 → ρ n = ρ m → n = m) → (∀ n ∈ vs, n < 0) →
    varsF (vs.map ρ) (a.map ρ) = (varsF vs a).map ρ
  | [], vs, _, _, _, _ => rfl
  | n :: a, vs, h1, h2, h3, h4 => by
    simp only [List.map_cons, varsF]
    by_cases hn : n < 0
    · have hρ := h1 n (by simp) hn
      by_cases hv : n ∈ vs
      · have : ρ n ∈ vs.map ρ := List.mem_map.2 ⟨n, hv, rfl⟩
        rw [if_neg (by simp [this]), if_neg (by simp [hv])]
        exact varsF_map a vs (fun x hx => h1 x (by simp [hx])) (fun x hx => h2 x (by simp [hx])) (fun x hx y hy => h3 x (by simp at hx ⊢; rcases hx with h | h <;> simp [h]) y (by simp at hy ⊢; rcases hy with h | h <;> simp [h])) h4
      · have : ρ n ∉ vs.map ρ := by
          intro hm
          obtain ⟨m, hm1, hm2⟩ := List.mem_map.1 hm
          have := h3 m (by simp [hm1]) n (by simp) (h4 m hm1) hn hm2
          subst this
          exact hv hm1
        rw [if_pos ⟨hρ, this⟩, if_pos ⟨hn, hv⟩]
        have e : vs.map ρ ++ [ρ n] = (vs ++ [n]).map ρ := by simp
        rw [e]
        exact varsF_map a (vs ++ [n]) (fun x hx => h1 x (by simp [hx])) (fun x hx => h2 x (by simp [hx])) (fun x hx y hy => h3 x (by simpa using hx) y (by simpa using hy)) (fun x hx => by
          rcases List.mem_append.1 hx with hx | hx
          · exact h4 x hx
          · simp at hx; subst hx; exact hn)
    · have e := h2 n (by simp) (by omega)
      rw [if_neg (by simp [e]; omega), if_neg (by simp [hn])]
      exact varsF_map a vs (fun x hx => h1 x (by simp [hx])) (fun x hx => h2 x (by simp [hx])) (fun x hx y hy => h3 x (by simp at hx ⊢; rcases hx with h | h <;> simp [h]) y (by simp at hy ⊢; rcases hy with h | h <;> simp [h])) h4
theorem idxOf_map_inj {ρ : Int → Int} {n : Int} : ∀ (vs : List Int), (∀ m ∈ vs, ρ m = ρ n → m = n) → (vs.map ρ).idxOf (ρ n) = vs.idxOf n
  | [], _ => rfl
  | m :: vs, h => by
    simp only [List.map_cons, List.idxOf_cons]
    by_cases e : m = n
    · subst e; simp
    · have e' : ρ m ≠ ρ n := fun q => e (h m (by simp) q)
      rw [show (ρ m == ρ n) = false by simpa using e', show (m == n) = false by simpa using e]
      simp only [cond_false]
      rw [idxOf_map_inj vs fun x hx => h x (by simp [hx])]
/-- a term and what an injective renaming makes of it have one canonical form. -/
theorem canonL_map {ρ : Int → Int} {a : List Int} (h1 : ∀ n ∈ a, n < 0 → ρ n < 0) (h2 : ∀ n ∈ a, 0 ≤ n → ρ n = n) (h3 : ∀ n ∈ a, ∀ m ∈ a, n < 0 → m < 0 → ρ n = ρ m → n = m) : canonL (a.map ρ) = canonL a := by
  have hv := varsF_map (ρ := ρ) a [] h1 h2 (by simpa using h3) (by simp)
  rw [List.map_nil] at hv
  unfold canonL
  rw [hv, List.map_map]
  apply List.map_congr_left
  intro n hn
  unfold numV
  by_cases hn0 : n < 0
  · have hr := h1 n hn hn0
    simp only [Function.comp, if_pos hr, if_pos hn0]
    rw [idxOf_map_inj _ fun m hm e => ?_]
    have hm' := (varsF_mem a [] m).1 hm
    simp at hm'
    exact h3 m hm'.1 n hn hm'.2 hn0 e
  · have e := h2 n hn (by omega)
    simp [Function.comp, hn0, e]
theorem numV_neg {vs : List Int} {n : Int} : numV vs n < 0 ↔ n < 0 := by
  unfold numV
  split <;> omega
theorem numV_inj {vs : List Int} {n m : Int} (hn : n < 0) (hm : m < 0) (h1 : n ∈ vs) (h : numV vs n = numV vs m) : n = m := by
  unfold numV at h
  rw [if_pos hn, if_pos hm] at h
  have e : vs.idxOf n = vs.idxOf m := by omega
  have h2 := List.idxOf_lt_length_of_mem h1
  have h3 : vs.idxOf m < vs.length := by omega
  have e1 : vs[vs.idxOf n] = n := by simp
  have e2 : vs[vs.idxOf m] = m := by simp
  rw [← e1, ← e2]
  simp [e]
theorem canonL_len (t : List Int) : (canonL t).length = t.length := by simp [canonL]
/-- terms that are instances of each other are alike. -/
theorem subL_len {s : Sg} {q : Int} {σ : Int → List Int} : ∀ (a : List Int), (∀ n ∈ a, n < 0 → IsT s q (σ n)) → a.length ≤ (subL σ a).length ∧ ((subL σ a).length ≤ a.length → ∀ n ∈ a, n < 0 → (σ n).length = 1)
  | [], _ => by simp [subL]
  | n :: a, h => by
    have ⟨i1, i2⟩ := subL_len a fun x hx => h x (by simp [hx])
    by_cases hn : n < 0
    · have hp := (h n (by simp) hn).ne
      rw [subL_cons_var _ hn, List.length_append, List.length_cons]
      refine ⟨by omega, fun hle x hx hx0 => ?_⟩
      rcases List.mem_cons.1 hx with rfl | hx
      · omega
      · exact i2 (by omega) x hx hx0
    · rw [subL_cons_app _ (by omega), List.length_cons, List.length_cons]
      refine ⟨by omega, fun hle x hx hx0 => ?_⟩
      rcases List.mem_cons.1 hx with rfl | hx
      · omega
      · exact i2 (by omega) x hx hx0
theorem subL_fix {s : Sg} {q : Int} {σ : Int → List Int} : ∀ (a : List Int) , (∀ n ∈ a, n < 0 → (σ n).length = 1) → subL σ a = a → ∀ n ∈ a, n < 0 → σ n = [n]
  | [], _, _ => by simp
  | n :: a, h, e => by
    by_cases hn : n < 0
    · have h1 := h n (by simp) hn
      obtain ⟨x, hx⟩ := List.length_eq_one_iff.1 h1
      rw [subL_cons_var _ hn, hx] at e
      simp at e
      intro y hy hy0
      rcases List.mem_cons.1 hy with rfl | hy
      · rw [hx, e.1]
      · exact subL_fix (s := s) (q := q) a (fun x hx => h x (by simp [hx])) e.2 y hy hy0
    · rw [subL_cons_app _ (by omega)] at e
      simp at e
      intro y hy hy0
      rcases List.mem_cons.1 hy with rfl | hy
      · omega
      · exact subL_fix (s := s) (q := q) a (fun x hx => h x (by simp [hx])) e y hy hy0
theorem subL_one {σ : Int → List Int} (x : Int) : subL σ [x] = if x < 0 then σ x else [x] := by simp [subL]
theorem inst_alike {s : Sg} {q : Int} {a b : List Int} (h : Inst s q a b) (h' : Inst s q b a) : canonL a = canonL b := by
  obtain ⟨σ, h1, rfl⟩ := h
  obtain ⟨τ, h2, h3⟩ := h'
  have l1 := subL_len a h1
  have l2 := subL_len _ h2
  rw [h3] at l2
  have s1 := l1.2 l2.1
  have s2 := l2.2 l1.1
  have hc := subL_comp σ τ a
  rw [h3] at hc
  have ht : ∀ n ∈ a, n < 0 → (subL τ (σ n)).length = 1 := by
    intro n hn hn0
    obtain ⟨x, hx⟩ := List.length_eq_one_iff.1 (s1 n hn hn0)
    rw [hx, subL_one]
    split
    · rename_i hx0
      exact s2 x (mem_subL hn hn0 (by simp [hx])) hx0
    · rfl
  have hf := subL_fix (s := s) (q := q) a ht hc.symm
  -- the renaming
  let ρ : Int → Int := fun n => if n < 0 then (σ n).headD 0 else n
  have hρ : ∀ n ∈ a, n < 0 → σ n = [ρ n] := by
    intro n hn hn0
    obtain ⟨x, hx⟩ := List.length_eq_one_iff.1 (s1 n hn hn0)
    simp [ρ, hn0, hx]
  have hmap : subL σ a = a.map ρ := by
    have : ∀ (c : List Int), (∀ n ∈ c, n ∈ a) → subL σ c = c.map ρ := by
      intro c
      induction c with
      | nil => intro _; rfl
      | cons n c ih =>
        intro hc
        have ih' := ih fun x hx => hc x (by simp [hx])
        by_cases hn : n < 0
        · rw [subL_cons_var _ hn, ih', hρ n (hc n (by simp)) hn]; rfl
        · rw [subL_cons_app _ (by omega), ih', List.map_cons]
          have : ρ n = n := by simp [ρ, hn]
          rw [this]
    exact this a fun _ h => h
  rw [hmap]
  symm
  have hneg : ∀ n ∈ a, n < 0 → ρ n < 0 := by
    intro n hn hn0
    have e := hf n hn hn0
    rw [hρ n hn hn0, subL_one] at e
    split at e
    · assumption
    · simp at e; omega
  refine canonL_map hneg (fun n _ h => by simp [ρ]; omega) fun n hn m hm hn0 hm0 e => ?_
  have e1 := hf n hn hn0
  have e2 := hf m hm hm0
  rw [hρ n hn hn0] at e1
  rw [hρ m hm hm0, ← e, e1] at e2
  simpa using e2

/-- and back: terms of one canonical form are instances of each other. -/
theorem canon_inst {s : Sg} {q : Int} {a b : List Int} (hb : IsT s q b) (h : canonL a = canonL b) : Inst s q a b := by
  have hl : a.length = b.length := by have := congrArg List.length h; simpa [canonL_len] using this
  have hg : ∀ i (h1 : i < a.length) (h2 : i < b.length), numV (varsF [] a) a[i] = numV (varsF [] b) b[i] := by
    intro i h1 h2
    have e : (canonL a)[i]? = (canonL b)[i]? := by rw [h]
    simpa [canonL, h1, h2] using e
  refine ⟨fun n => [b.getD (a.idxOf n) 0], fun n hn hn0 => ?_, ?_⟩
  · have hi := List.idxOf_lt_length_of_mem hn
    have hib : a.idxOf n < b.length := by omega
    have e := hg _ hi hib
    have e1 : a[a.idxOf n] = n := by simp
    have hneg : b[a.idxOf n] < 0 := by
      rw [e1] at e
      exact numV_neg.1 (e ▸ numV_neg.2 hn0)
    have : b.getD (a.idxOf n) 0 = b[a.idxOf n] := by simp [List.getD, hib]
    show IsT s q [b.getD (a.idxOf n) 0]
    rw [this]
    exact .var _ (hb.vars _ (List.getElem_mem hib) hneg) hneg
  · have key : ∀ (k : Nat), k ≤ a.length → subL (fun n => [b.getD (a.idxOf n) 0]) (a.take k) = b.take k := by
      intro k
      induction k with
      | zero => intro _; simp [subL]
      | succ k ih =>
        intro hk
        have hka : k < a.length := by omega
        have hkb : k < b.length := by omega
        rw [List.take_succ_eq_append_getElem hka, List.take_succ_eq_append_getElem hkb, subL_append, ih (by omega), subL_one]
        congr 1
        have e := hg k hka hkb
        by_cases hn0 : a[k] < 0
        · rw [if_pos hn0]
          have hi := List.idxOf_lt_length_of_mem (List.getElem_mem hka)
          have hib : a.idxOf a[k] < b.length := by omega
          have e2 := hg _ hi hib
          rw [List.getElem_idxOf, e] at e2
          have hk0 : b[k] < 0 := numV_neg.1 (e ▸ numV_neg.2 hn0)
          have hj0 : b[a.idxOf a[k]] < 0 := numV_neg.1 (e2 ▸ numV_neg.2 hk0)
          have := numV_inj hk0 hj0 ((varsF_mem b [] _).2 (Or.inr ⟨List.getElem_mem hkb, hk0⟩)) e2
          simp [List.getD, hib, this]
        · rw [if_neg hn0]
          have : ¬ b[k] < 0 := fun hh => hn0 (numV_neg.1 (e.symm ▸ numV_neg.2 hh))
          unfold numV at e
          rw [if_neg hn0, if_neg this] at e
          rw [e]
    have := key a.length (Nat.le_refl _)
    rw [List.take_of_length_le (Nat.le_refl _), List.take_of_length_le (by omega)] at this
    exact this
theorem alike_iff {s : Sg} {q : Int} {a b : List Int} (ha : IsT s q a) (hb : IsT s q b) : canonL a = canonL b ↔ Inst s q a b ∧ Inst s q b a :=
  ⟨fun h => ⟨canon_inst hb h, canon_inst ha h.symm⟩, fun h => inst_alike h.1 h.2⟩
end Go.Proofs.YtmpjaakkjhmpmaaGreatDoor
namespace Go.Proofs.YtmpjaakkjhmpmaaGreatDoor

end Go.Proofs.YtmpjaakkjhmpmaaGreatDoor
