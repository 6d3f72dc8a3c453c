/-
  WHAT IT HOLDS: plain functions on binds (layer 2): validity, what binds make of a variable and of a term, composing, solved, renaming; how they are put together. No program in sight. No condition.
-/
import Derived.Test.YtpflkjldapmgdaaGreatZRCarryChains16
namespace Go.Proofs.YtpflkjldapmgdaaGreat
open Go Go.RowKit Go.Maps
abbrev BL := List (Int × List Int)
/-- what binds make of the number of a variable in a term. -/
def ofN (l : BL) (n : Int) : List Int := match l.find? (fun b => -b.1 - 1 == n) with | some b => b.2 | none => [n]
def bndB (s : Sg) (l : BL) (i : Nat) : Bool :=
  match l[i]? with
  | some b => inB b.1 0 11 && !(decide (0 < i) && (match l[i - 1]? with | some c => decide (b.1 ≤ c.1) | none => false)) && termB s b.2 && !decide (b.2 = [-b.1 - 1])
  | none => true
def bndsB (s : Sg) (l : BL) : Bool := signB s && (List.range l.length).all (bndB s l)
theorem bndB_at {s : Sg} {l : BL} {i : Nat} (h : i < l.length) : bndB s l i = true ↔ (0 ≤ l[i].1 ∧ l[i].1 ≤ 11) ∧ (∀ h0 : 0 < i, l[i - 1].1 < l[i].1) ∧ termB s l[i].2 = true ∧ l[i].2 ≠ [-l[i].1 - 1] := by
  unfold bndB
  rw [List.getElem?_eq_getElem h]
  simp only [Bool.and_eq_true, inB_true, Bool.not_eq_true', Bool.and_eq_false_iff, decide_eq_false_iff_not]
  have hm : (match l[i - 1]? with | some c => decide (l[i].1 ≤ c.1) | none => false) = false ↔ l[i - 1].1 < l[i].1 := by
    rw [List.getElem?_eq_getElem (show i - 1 < l.length by omega)]
    simp
  rw [hm]
  constructor
  · rintro ⟨⟨⟨h1, h2⟩, h3⟩, h4⟩
    exact ⟨h1, fun h0 => h2.resolve_left (by omega), h3, h4⟩
  · rintro ⟨h1, h2, h3, h4⟩
    refine ⟨⟨⟨h1, ?_⟩, h3⟩, h4⟩
    by_cases h0 : 0 < i
    · exact Or.inr (h2 h0)
    · exact Or.inl h0
theorem bndsB_iff {s : Sg} {l : BL} : bndsB s l = true ↔ signB s = true ∧ (∀ b ∈ l, (0 ≤ b.1 ∧ b.1 ≤ 11) ∧ termB s b.2 = true ∧ b.2 ≠ [-b.1 - 1]) ∧ l.Pairwise (fun a b => a.1 < b.1) := by
  unfold bndsB
  simp only [Bool.and_eq_true, List.all_eq_true, List.mem_range]
  constructor
  · rintro ⟨h1, h2⟩
    have h3 := fun i (h : i < l.length) => (bndB_at h).1 (h2 i h)
    refine ⟨h1, fun b hb => ?_, ?_⟩
    · obtain ⟨i, hi, rfl⟩ := List.getElem_of_mem hb
      obtain ⟨a1, a2, a3, a4⟩ := h3 i hi
      exact ⟨a1, a3, a4⟩
    · rw [List.pairwise_iff_getElem]
      intro i j hi hj hij
      have key : ∀ d, ∀ (hd : i + d + 1 < l.length), l[i].1 < l[i + d + 1].1 := by
        intro d
        induction d with
        | zero => intro hd; exact (h3 (i + 1) hd).2.1 (by omega)
        | succ d ih =>
          intro hd
          have e1 := ih (by omega)
          have e2 := (h3 (i + (d + 1) + 1) hd).2.1 (by omega)
          have e3 : i + (d + 1) + 1 - 1 = i + d + 1 := by omega
          simp only [e3] at e2
          omega
      have := key (j - i - 1) (by omega)
      have e : i + (j - i - 1) + 1 = j := by omega
      simp only [e] at this
      exact this
  · rintro ⟨h1, h2, h3⟩
    refine ⟨h1, fun i hi => (bndB_at hi).2 ?_⟩
    obtain ⟨a1, a3, a4⟩ := h2 l[i] (List.getElem_mem hi)
    refine ⟨a1, fun h0 => ?_, a3, a4⟩
    exact List.pairwise_iff_getElem.1 h3 (i - 1) i (by omega) hi (by omega)
theorem bndsB_len {s : Sg} {l : BL} (h : bndsB s l = true) : l.length ≤ 12 := by
  obtain ⟨_, h2, h3⟩ := bndsB_iff.1 h
  rw [List.pairwise_iff_getElem] at h3
  have key : ∀ i (hi : i < l.length), (i : Int) ≤ l[i].1 := by
    intro i
    induction i with
    | zero => intro hi; have := (h2 l[0] (List.getElem_mem hi)).1; omega
    | succ i ih =>
      intro hi
      have e1 := ih (by omega)
      have e2 := h3 i (i + 1) (by omega) hi (by omega)
      omega
  by_cases h0 : l.length ≤ 12
  · exact h0
  · have e1 := key 12 (by omega)
    have := (h2 l[12] (List.getElem_mem (by omega))).1
    omega
/-- a table of binds. -/
def tabP (l : BL) : MM := l.foldl (fun m b => updM m (-b.1 - 1) b.2) noM
theorem tabP_snoc (l : BL) (b : Int × List Int) : tabP (l ++ [b]) = updM (tabP l) (-b.1 - 1) b.2 := by simp [tabP]
theorem tab_fold : ∀ (l : BL) (m : MM) (n : Int), l.Pairwise (fun a b => a.1 < b.1) → (l.foldl (fun m b => updM m (-b.1 - 1) b.2) m) n = match l.find? (fun b => -b.1 - 1 == n) with | some b => some b.2 | none => m n
  | [], m, n, _ => rfl
  | b :: l, m, n, h => by
    have hp := List.pairwise_cons.1 h
    rw [List.foldl_cons, tab_fold l _ n hp.2, List.find?_cons]
    by_cases e : -b.1 - 1 = n
    · have hn : l.find? (fun b => -b.1 - 1 == n) = none := by
        rw [List.find?_eq_none]
        intro c hc
        have := hp.1 c hc
        simp; omega
      have e' : (-b.1 - 1 == n) = true := by simpa using e
      rw [hn, e']
      simp only
      rw [← e, updM_same_b]
    · have e' : (-b.1 - 1 == n) = false := by simpa using e
      rw [e']
      simp only
      cases hf : l.find? (fun b => -b.1 - 1 == n) with
      | some c => rfl
      | none => simp only; unfold updM; rw [if_neg (fun h => e h.symm)]
where updM_same_b {m : MM} {v : Int} {q : List Int} : updM m v q v = some q := by simp [updM]
theorem tabP_find {s : Sg} {l : BL} (h : bndsB s l = true) (n : Int) : tabP l n = (l.find? (fun b => -b.1 - 1 == n)).map Prod.snd := by
  unfold tabP
  rw [tab_fold l noM n (bndsB_iff.1 h).2.2]
  cases l.find? (fun b => -b.1 - 1 == n) <;> rfl
theorem tabP_of {s : Sg} {l : BL} (h : bndsB s l = true) (n : Int) : (tabP l n).getD [n] = ofN l n := by
  rw [tabP_find h]
  unfold ofN
  cases l.find? (fun b => -b.1 - 1 == n) <;> rfl
theorem tabP_mem {s : Sg} {l : BL} (h : bndsB s l = true) {n : Int} {p : List Int} (hp : tabP l n = some p) : ∃ b ∈ l, -b.1 - 1 = n ∧ b.2 = p := by
  rw [tabP_find h] at hp
  cases hf : l.find? (fun b => -b.1 - 1 == n) with
  | none => rw [hf] at hp; simp at hp
  | some b =>
    rw [hf] at hp
    simp at hp
    exact ⟨b, List.mem_of_find?_eq_some hf, by simpa using List.find?_some hf, hp⟩
theorem tabP_range {s : Sg} {l : BL} (h : bndsB s l = true) {n : Int} {p : List Int} (hp : tabP l n = some p) : (-12 ≤ n ∧ n < 0) ∧ termB s p = true ∧ p ≠ [n] := by
  obtain ⟨b, hb, h1, h2⟩ := tabP_mem h hp
  obtain ⟨a1, a3, a4⟩ := (bndsB_iff.1 h).2.1 b hb
  subst h1 h2
  exact ⟨by omega, a3, a4⟩
theorem ofN_T {s : Sg} {l : BL} (h : bndsB s l = true) {n : Int} (h1 : -12 ≤ n) (h2 : n < 0) : IsT s 12 (ofN l n) ∧ (ofN l n).length ≤ 60 := by
  rw [← tabP_of h]
  cases hp : tabP l n with
  | none => exact ⟨.var n h1 h2, by simp⟩
  | some p =>
    have := (tabP_range h hp).2.1
    exact ⟨termB_T this, (termB_facts this).2.2.2⟩
/-- a term with others in place of variables. -/
def putL (m : MM) (t : List Int) : List Int := t.flatMap fun n => (m n).getD [n]
theorem putL_snoc (m : MM) (t : List Int) (n : Int) : putL m (t ++ [n]) = putL m t ++ (m n).getD [n] := by simp [putL]
theorem putL_sub {s : Sg} {l : BL} (h : bndsB s l = true) (t : List Int) : putL (tabP l) t = subL (ofN l) t := by
  unfold putL subL
  congr 1
  funext n
  by_cases hn : n < 0
  · rw [if_pos hn, tabP_of h]
  · rw [if_neg hn]
    cases hp : tabP l n with
    | none => rfl
    | some p => have := (tabP_range h hp).1; omega
theorem sub_T {s : Sg} {l : BL} (h : bndsB s l = true) {t : List Int} (ht : IsT s 12 t) : IsT s 12 (subL (ofN l) t) :=
  ht.sub fun n hn h0 => (ofN_T h (ht.vars n hn h0) h0).1
theorem subL_le {σ : Int → List Int} {B : Nat} (hB : 1 ≤ B) : ∀ (t : List Int), (∀ n ∈ t, n < 0 → (σ n).length ≤ B) → (subL σ t).length ≤ t.length * B
  | [], _ => by simp [subL]
  | x :: t, h => by
    have ih := subL_le hB t (fun n hn => h n (List.mem_cons_of_mem _ hn))
    by_cases hx : x < 0
    · rw [subL_cons_var σ hx, List.length_append, List.length_cons, Nat.add_mul]
      have := h x (by simp) hx
      omega
    · rw [subL_cons_app σ (by omega), List.length_cons, List.length_cons, Nat.add_mul]
      omega
theorem sub_le {s : Sg} {l : BL} (h : bndsB s l = true) {t : List Int} (ht : IsT s 12 t) : (subL (ofN l) t).length ≤ t.length * 60 :=
  subL_le (by omega) t fun n hn h0 => (ofN_T h (ht.vars n hn h0) h0).2
/-- Apply. -/
def appR (s : Sg) (l : BL) (t : List Int) : List Int × Int :=
  if termB s t && bndsB s l then (if (subL (ofN l) t).length ≤ 60 then (subL (ofN l) t, 0) else ([], 4)) else ([], 1)
/-- Occurs. -/
def occR (s : Sg) (v : Int) (t : List Int) : Bool × Int :=
  if termB s t then (if inB v 0 11 then (decide (-v - 1 ∈ t), 0) else (false, 7)) else (false, 1)
/-- the binds that a map tells. -/
def bndL (m : MM) (k : Nat) : BL := (List.range k).filterMap fun (v : Nat) => match m (-(v : Int) - 1) with | some l => if l = [-(v : Int) - 1] then none else some ((v : Int), l) | none => none
theorem bndL_succ (m : MM) (k : Nat) : bndL m (k + 1) = bndL m k ++ match m (-(k : Int) - 1) with | some l => if l = [-(k : Int) - 1] then [] else [((k : Int), l)] | none => [] := by
  unfold bndL
  rw [List.range_succ, List.filterMap_append]
  congr 1
  cases h : m (-(k : Int) - 1) with
  | none => simp [h]
  | some l =>
    simp only [List.filterMap_cons, List.filterMap_nil, h]
    by_cases e : l = [-(k : Int) - 1] <;> simp [e]
theorem bndL_len (m : MM) (k : Nat) : (bndL m k).length ≤ k := by
  unfold bndL
  exact Nat.le_trans (List.length_filterMap_le _ _) (by simp)
theorem bndL_mem {m : MM} {k : Nat} {b : Int × List Int} (h : b ∈ bndL m k) : ∃ v : Nat, v < k ∧ b.1 = v ∧ m (-(v : Int) - 1) = some b.2 ∧ b.2 ≠ [-(v : Int) - 1] := by
  unfold bndL at h
  obtain ⟨v, h1, h2⟩ := List.mem_filterMap.1 h
  refine ⟨v, List.mem_range.1 h1, ?_⟩
  cases hm : m (-(v : Int) - 1) with
  | none => rw [hm] at h2; simp at h2
  | some l =>
    rw [hm] at h2
    by_cases e : l = [-(v : Int) - 1]
    · simp [e] at h2
    · simp [e] at h2
      subst h2
      exact ⟨rfl, rfl, e⟩
theorem bndL_pair (m : MM) : ∀ k, (bndL m k).Pairwise (fun a b => a.1 < b.1)
  | 0 => .nil
  | k + 1 => by
    rw [bndL_succ]
    refine List.pairwise_append.2 ⟨bndL_pair m k, ?_, fun a ha b hb => ?_⟩
    · cases m (-(k : Int) - 1) with
      | none => exact .nil
      | some l => simp only; split <;> simp
    · obtain ⟨v, h1, h2, _⟩ := bndL_mem ha
      have hb1 : b.1 = k := by
        cases hm : m (-(k : Int) - 1) with
        | none => rw [hm] at hb; simp at hb
        | some l =>
          rw [hm] at hb
          simp only at hb
          split at hb
          · simp at hb
          · simp at hb; rw [hb]
      omega
theorem bndL_of {m : MM} : ∀ {k : Nat} {v : Nat}, v < k → ofN (bndL m k) (-(v : Int) - 1) = (m (-(v : Int) - 1)).getD [-(v : Int) - 1]
  | 0, v, h => by omega
  | k + 1, v, h => by
    unfold ofN
    rw [bndL_succ, List.find?_append]
    by_cases hv : v < k
    · have ih := bndL_of (m := m) hv
      unfold ofN at ih
      have hno : (match m (-(k : Int) - 1) with | some l => if l = [-(k : Int) - 1] then [] else [((k : Int), l)] | none => ([] : BL)).find? (fun b : Int × List Int => -b.1 - 1 == -(v : Int) - 1) = none := by
        rw [List.find?_eq_none]
        intro b hb
        have hb1 : b.1 = k := by
          cases hm : m (-(k : Int) - 1) with
          | none => rw [hm] at hb; simp at hb
          | some l =>
            rw [hm] at hb
            simp only at hb
            split at hb
            · simp at hb
            · simp at hb; rw [hb]
        simp; omega
      rw [hno, Option.or_none]
      exact ih
    · obtain rfl : v = k := by omega
      have hno : (bndL m v).find? (fun b => -b.1 - 1 == -(v : Int) - 1) = none := by
        rw [List.find?_eq_none]
        intro b hb
        obtain ⟨u, h1, h2, _⟩ := bndL_mem hb
        simp; omega
      rw [hno, Option.none_or]
      cases hm : m (-(v : Int) - 1) with
      | none => rfl
      | some l =>
        simp only
        by_cases e : l = [-(v : Int) - 1]
        · rw [if_pos e, e]; rfl
        · rw [if_neg e]; simp
theorem bndL_valid {s : Sg} {m : MM} {k : Nat} (hs : signB s = true) (hk : k ≤ 12) (h : ∀ (v : Nat) (p : List Int), v < k → m (-(v : Int) - 1) = some p → termB s p = true) : bndsB s (bndL m k) = true := by
  refine bndsB_iff.2 ⟨hs, fun b hb => ?_, bndL_pair m k⟩
  obtain ⟨v, h1, h2, h3, h4⟩ := bndL_mem hb
  exact ⟨by omega, h v _ h1 h3, by rw [h2]; exact h4⟩
/-- Compose. -/
def comM (l m : BL) : MM := fun n => some (subL (ofN m) (ofN l n))
def comLe (l m : BL) (v : Nat) : Bool := decide ((subL (ofN m) (ofN l (-(v : Int) - 1))).length ≤ 60)
def comR (s : Sg) (l m : BL) : BL × Int :=
  if bndsB s l && bndsB s m then (if (List.range 12).all (comLe l m) then (bndL (comM l m) 12, 0) else ([], 4)) else ([], 1)
theorem comR_ok {s : Sg} {l m : BL} (h : (comR s l m).2 = 0) : bndsB s l = true ∧ bndsB s m = true ∧ (∀ n, -12 ≤ n → n < 0 → (subL (ofN m) (ofN l n)).length ≤ 60) ∧ (comR s l m).1 = bndL (comM l m) 12 ∧ bndsB s (comR s l m).1 = true ∧ ∀ n, -12 ≤ n → n < 0 → ofN (comR s l m).1 n = subL (ofN m) (ofN l n) := by
  unfold comR at h ⊢
  by_cases h1 : (bndsB s l && bndsB s m) = true
  · rw [if_pos h1] at h ⊢
    by_cases h2 : (List.range 12).all (comLe l m) = true
    · rw [if_pos h2]
      simp only [Bool.and_eq_true] at h1
      have hle : ∀ n, -12 ≤ n → n < 0 → (subL (ofN m) (ofN l n)).length ≤ 60 := by
        intro n a b
        have := List.all_eq_true.1 h2 (-n - 1).toNat (by simp; omega)
        unfold comLe at this
        rw [decide_eq_true_eq] at this
        have e : (-((-n - 1).toNat : Int) - 1) = n := by omega
        rw [e] at this
        exact this
      have hs := (bndsB_iff.1 h1.1).1
      refine ⟨h1.1, h1.2, hle, rfl, ?_, fun n a b => ?_⟩
      · show bndsB s (bndL (comM l m) 12) = true
        refine bndL_valid hs (Nat.le_refl _) (fun v p hv hp => ?_)
        simp only [comM, Option.some.injEq] at hp
        subst hp
        exact T_termB hs (sub_T h1.2 (ofN_T h1.1 (by omega) (by omega)).1) (hle _ (by omega) (by omega))
      · obtain ⟨v, rfl⟩ : ∃ v : Nat, n = -(v : Int) - 1 := ⟨(-n - 1).toNat, by omega⟩
        simp only
        rw [bndL_of (by omega)]
        rfl
    · rw [if_neg h2] at h; simp at h
  · rw [if_neg h1] at h; simp at h
theorem com_app {s : Sg} {l m : BL} (h : (comR s l m).2 = 0) {t : List Int} (ht : IsT s 12 t) : subL (ofN (comR s l m).1) t = subL (ofN m) (subL (ofN l) t) := by
  rw [subL_comp]
  exact subL_congr fun n hn h0 => (comR_ok h).2.2.2.2.2 n (ht.vars n hn h0) h0
theorem bndL_congr {m m' : MM} {k : Nat} (h : ∀ v : Nat, v < k → m (-(v : Int) - 1) = m' (-(v : Int) - 1)) : bndL m k = bndL m' k := by
  induction k with
  | zero => rfl
  | succ k ih =>
    rw [bndL_succ, bndL_succ, ih (fun v hv => h v (by omega)), h k (by omega)]
theorem com_assoc {s : Sg} {l m k : BL} (h1 : (comR s l m).2 = 0) (h2 : (comR s m k).2 = 0) (h3 : (comR s (comR s l m).1 k).2 = 0) (h4 : (comR s l (comR s m k).1).2 = 0) : (comR s (comR s l m).1 k).1 = (comR s l (comR s m k).1).1 := by
  rw [(comR_ok h3).2.2.2.1, (comR_ok h4).2.2.2.1]
  refine bndL_congr fun v hv => ?_
  unfold comM
  rw [(comR_ok h1).2.2.2.2.2 _ (by omega) (by omega), com_app h2 (ofN_T (comR_ok h1).1 (by omega) (by omega)).1]
/-- Solved. -/
def solB (s : Sg) (l : BL) : Bool := bndsB s l && l.all fun b => l.all fun c => !decide (-b.1 - 1 ∈ c.2)
/-- Renaming. -/
def hdN (l : BL) (v : Nat) : Int := (ofN l (-(v : Int) - 1)).headD 0
def renQ (l : BL) (v : Nat) : Bool := decide (hdN l v < 0) && decide (hdN l v ∉ (List.range v).map (hdN l))
def renB (s : Sg) (l : BL) : Bool := bndsB s l && (List.range 12).all (renQ l)
theorem ren_one {s : Sg} {l : BL} (h : bndsB s l = true) {v : Nat} (hv : v < 12) : hdN l v < 0 ↔ ∃ x, x < 0 ∧ ofN l (-(v : Int) - 1) = [x] := by
  have hT := (ofN_T h (n := -(v : Int) - 1) (by omega) (by omega)).1
  unfold hdN
  generalize ofN l (-(v : Int) - 1) = t at *
  cases hT with
  | var n h1 h2 => exact ⟨fun _ => ⟨n, h2, rfl⟩, fun _ => by simpa using h2⟩
  | app c zs h1 h2 h3 =>
    constructor
    · intro h; simp at h; omega
    · rintro ⟨x, hx, e⟩
      simp at e
      omega
theorem renB_iff {s : Sg} {l : BL} : renB s l = true ↔ bndsB s l = true ∧ ∃ ρ : Int → Int, (∀ n, -12 ≤ n → n < 0 → -12 ≤ ρ n ∧ ρ n < 0 ∧ ofN l n = [ρ n]) ∧ ∀ n n', -12 ≤ n → n < 0 → -12 ≤ n' → n' < 0 → ρ n = ρ n' → n = n' := by
  unfold renB
  simp only [Bool.and_eq_true, List.all_eq_true, List.mem_range]
  constructor
  · rintro ⟨h, h2⟩
    refine ⟨h, fun n => hdN l (-n - 1).toNat, fun n a b => ?_, fun n n' a b c d e => ?_⟩
    · have hq := h2 (-n - 1).toNat (by omega)
      unfold renQ at hq
      simp only [Bool.and_eq_true, decide_eq_true_eq] at hq
      obtain ⟨x, hx, hx2⟩ := (ren_one h (v := (-n - 1).toNat) (by omega)).1 hq.1
      have e : (-((-n - 1).toNat : Int) - 1) = n := by omega
      have hT := (ofN_T h a b).1
      have hh : hdN l (-n - 1).toNat = x := by unfold hdN; rw [hx2]; rfl
      rw [e] at hx2
      simp only
      rw [hh]
      have := hT.vars x (by rw [hx2]; simp) hx
      exact ⟨by omega, hx, hx2⟩
    · by_cases hne : n = n'
      · exact hne
      · exfalso
        have key : ∀ u v : Nat, u < v → v < 12 → hdN l u ≠ hdN l v := by
          intro u v huv hv e
          have hq := h2 v hv
          unfold renQ at hq
          simp only [Bool.and_eq_true, decide_eq_true_eq] at hq
          exact hq.2 (List.mem_map.2 ⟨u, List.mem_range.2 huv, e⟩)
        rcases Nat.lt_or_gt_of_ne (show (-n - 1).toNat ≠ (-n' - 1).toNat by omega) with hlt | hlt
        · exact key _ _ hlt (by omega) e
        · exact key _ _ hlt (by omega) e.symm
  · rintro ⟨h, ρ, h1, h2⟩
    have hh : ∀ v : Nat, v < 12 → hdN l v = ρ (-(v : Int) - 1) := by
      intro v hv
      unfold hdN
      rw [(h1 _ (by omega) (by omega)).2.2]; rfl
    refine ⟨h, fun v hv => ?_⟩
    unfold renQ
    simp only [Bool.and_eq_true, decide_eq_true_eq]
    refine ⟨by rw [hh v hv]; exact (h1 _ (by omega) (by omega)).2.1, fun hm => ?_⟩
    obtain ⟨u, hu, e⟩ := List.mem_map.1 hm
    have hu' := List.mem_range.1 hu
    rw [hh v hv, hh u (by omega)] at e
    have := h2 _ _ (by omega) (by omega) (by omega) (by omega) e
    omega
theorem ren_com {s : Sg} {l m : BL} (h : (comR s l m).2 = 0) (h1 : renB s l = true) (h2 : renB s m = true) : renB s (comR s l m).1 = true := by
  obtain ⟨a1, ρ, a2, a3⟩ := renB_iff.1 h1
  obtain ⟨b1, τ, b2, b3⟩ := renB_iff.1 h2
  obtain ⟨_, _, _, _, c1, c2⟩ := comR_ok h
  refine renB_iff.2 ⟨c1, fun n => τ (ρ n), fun n x y => ?_, fun n n' x y x' y' e => ?_⟩
  · obtain ⟨d1, d2, d3⟩ := a2 n x y
    obtain ⟨e1, e2, e3⟩ := b2 (ρ n) d1 d2
    refine ⟨e1, e2, ?_⟩
    rw [c2 n x y, d3, subL_one, if_pos d2, e3]
  · obtain ⟨d1, d2, _⟩ := a2 n x y
    obtain ⟨d1', d2', _⟩ := a2 n' x' y'
    exact a3 n n' x y x' y' (b3 _ _ d1 d2 d1' d2' e)
end Go.Proofs.YtpflkjldapmgdaaGreat
