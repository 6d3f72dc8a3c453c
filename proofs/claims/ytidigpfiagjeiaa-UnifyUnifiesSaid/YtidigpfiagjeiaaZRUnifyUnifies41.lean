/-
  WHAT IT HOLDS: the plain law of meets and joins of lists (UnifyLists): what they answer as a relation, that it tells one answer, and that the join of a list does not depend on its order. No program in sight. No condition.
  WHAT IT HOLDS: the plain law of Unify: which error it tells, and that the binds it tells are a solved unifier of the two terms' variables alone. No program. Condition: a valid sign.
  WHAT IT HOLDS: contract of Unify of the reference of layer 2. Conditions: the arguments read as data.
-/
import Derived.Lib.SliceRun
import Derived.Test.YtidigpfiagjeiaaZRUnifyUnifies32
import Derived.Test.YtidigpfiagjeiaaZRUnifyUnifies33
import Derived.Test.YtidigpfiagjeiaaZRUnifyUnifies37
import Derived.Test.YtidigpfiagjeiaaZRUnifyUnifies40
namespace Go.Proofs.Ytidigpfiagjeiaa
open Go Go.RowKit Go.Maps
/-- the first error of a list of terms. -/
def listE (s : Sg) (l : List (List Int)) : Int := if signB s && l.all (termB s) then (if decide (1 ≤ l.length) && decide (l.length ≤ 60) then 0 else 7) else 1
abbrev AR := List Int × Int
inductive FoldG (R : List Int → List Int → AR → Prop) : AR → List (List Int) → AR → Prop
  | nil (x : AR) : FoldG R x [] x
  | ok {a y x : AR} {t : List Int} {ts : List (List Int)} : a.2 = 0 → R a.1 t y → FoldG R y ts x → FoldG R a (t :: ts) x
  | err {a x : AR} {t : List Int} {ts : List (List Int)} : a.2 ≠ 0 → FoldG R a ts x → FoldG R a (t :: ts) x
theorem FoldG.snoc_ok {R : List Int → List Int → AR → Prop} {a x y : AR} {ts : List (List Int)} {t : List Int} (h : FoldG R a ts x) (h0 : x.2 = 0) (hR : R x.1 t y) : FoldG R a (ts ++ [t]) y := by
  induction h with
  | nil x => exact .ok h0 hR (.nil _)
  | ok a0 r _ ih => exact .ok a0 r (ih h0 hR)
  | err a0 _ ih => exact .err a0 (ih h0 hR)
theorem FoldG.snoc_err {R : List Int → List Int → AR → Prop} {a x : AR} {ts : List (List Int)} {t : List Int} (h : FoldG R a ts x) (h0 : x.2 ≠ 0) : FoldG R a (ts ++ [t]) x := by
  induction h with
  | nil x => exact .err h0 (.nil _)
  | ok a0 r _ ih => exact .ok a0 r (ih h0)
  | err a0 _ ih => exact .err a0 (ih h0)
theorem FoldG.rest {R : List Int → List Int → AR → Prop} {a x : AR} {ts : List (List Int)} (h : FoldG R a ts x) (h0 : x.2 ≠ 0) : ∀ us, FoldG R a (ts ++ us) x := by
  intro us
  induction us generalizing ts with
  | nil => simpa using h
  | cons u us ih => rw [show ts ++ u :: us = (ts ++ [u]) ++ us by simp]; exact ih (h.snoc_err h0)
theorem FoldG.stuck {R : List Int → List Int → AR → Prop} {a x : AR} {ts : List (List Int)} (h : FoldG R a ts x) (h0 : a.2 ≠ 0) : x = a := by
  induction h with
  | nil x => rfl
  | ok a0 _ _ _ => exact absurd a0 h0
  | err _ _ ih => exact ih h0
theorem FoldG.errnil {R : List Int → List Int → AR → Prop} (hR : ∀ a t y, R a t y → y.2 ≠ 0 → y.1 = []) {a x : AR} {ts : List (List Int)} (h : FoldG R a ts x) (ha : a.2 ≠ 0 → a.1 = []) (h0 : x.2 ≠ 0) : x.1 = [] := by
  induction h with
  | nil x => exact ha h0
  | ok _ r _ ih => exact ih (hR _ _ _ r) h0
  | err _ _ ih => exact ih ha h0
theorem FoldG.unique {R : List Int → List Int → AR → Prop} (hR : ∀ a t x y, R a t x → R a t y → x = y) {a x y : AR} {ts : List (List Int)} (h : FoldG R a ts x) (k : FoldG R a ts y) : x = y := by
  induction h with
  | nil x => cases k; rfl
  | ok a0 r _ ih =>
    cases k with
    | ok _ r' k' =>
      have := hR _ _ _ _ r r'
      subst this
      exact ih k'
    | err b0 _ => exact absurd a0 b0
  | err a0 _ ih =>
    cases k with
    | ok b0 _ _ => exact absurd b0 a0
    | err _ k' => exact ih k'
/-- what a list is folded to. -/
def FoldR (s : Sg) (R : List Int → List Int → AR → Prop) (l : List (List Int)) (x : AR) : Prop :=
  (listE s l ≠ 0 ∧ x = ([], listE s l)) ∨ (listE s l = 0 ∧ ∃ t ts, l = t :: ts ∧ FoldG R (canonL t, 0) ts x)
theorem FoldR.unique {s : Sg} {R : List Int → List Int → AR → Prop} (hR : ∀ a t x y, R a t x → R a t y → x = y) {l : List (List Int)} {x y : AR} (h : FoldR s R l x) (k : FoldR s R l y) : x = y := by
  rcases h with ⟨h1, rfl⟩ | ⟨h1, t, ts, rfl, h2⟩
  · rcases k with ⟨_, rfl⟩ | ⟨k1, _⟩
    · rfl
    · exact absurd k1 h1
  · rcases k with ⟨k1, _⟩ | ⟨_, t', ts', e, k2⟩
    · exact absurd h1 k1
    · cases e
      exact h2.unique hR k2
theorem JoinR.unique {s : Sg} {a b : List Int} {x y : AR} (h : JoinR s a b x) (k : JoinR s a b y) : x = y := by
  unfold JoinR at h k; rw [h, k]
theorem listE_zero {s : Sg} {l : List (List Int)} : listE s l = 0 ↔ signB s = true ∧ (∀ t ∈ l, termB s t = true) ∧ 1 ≤ l.length ∧ l.length ≤ 60 := by
  unfold listE
  by_cases h1 : (signB s && l.all (termB s)) = true
  · rw [if_pos h1]
    simp only [Bool.and_eq_true, List.all_eq_true] at h1
    by_cases h2 : (decide (1 ≤ l.length) && decide (l.length ≤ 60)) = true
    · rw [if_pos h2]
      simp only [Bool.and_eq_true, decide_eq_true_eq] at h2
      exact ⟨fun _ => ⟨h1.1, h1.2, h2.1, h2.2⟩, fun _ => rfl⟩
    · rw [if_neg h2]
      simp only [Bool.and_eq_true, decide_eq_true_eq] at h2
      exact ⟨fun h => by omega, fun ⟨_, _, h3, h4⟩ => absurd ⟨h3, h4⟩ h2⟩
  · rw [if_neg h1]
    simp only [Bool.and_eq_true, List.all_eq_true] at h1
    exact ⟨fun h => by omega, fun ⟨h3, h4, _⟩ => absurd ⟨h3, h4⟩ h1⟩
theorem listE_sign {s : Sg} {l : List (List Int)} (h : signB s = false) : listE s l = 1 := by unfold listE; rw [h]; rfl
theorem listE_all {s : Sg} {l : List (List Int)} (h : allB s l = false) : listE s l = 1 := by unfold listE; unfold allB at h; rw [h]; simp
theorem listE_len {s : Sg} {l : List (List Int)} (h1 : signB s = true) (h2 : allB s l = true) (h3 : inB l.length 1 60 = false) : listE s l = 7 := by
  unfold listE
  unfold allB at h2
  rw [h1, h2]
  unfold inB at h3
  simp only [Bool.and_self, if_true]
  rw [if_neg]
  simp only [Bool.and_eq_true, Bool.and_eq_false_iff, decide_eq_true_eq, decide_eq_false_iff_not] at h3 ⊢
  omega
theorem listE_ok {s : Sg} {l : List (List Int)} (h1 : signB s = true) (h2 : allB s l = true) (h3 : inB l.length 1 60 = true) : listE s l = 0 := by
  unfold inB at h3
  simp only [Bool.and_eq_true, decide_eq_true_eq] at h3
  unfold allB at h2
  exact listE_zero.2 ⟨h1, by simpa using h2, by omega, by omega⟩
theorem join_err {s : Sg} {a b : List Int} {x : AR} (ha : termB s a = true) (hb : termB s b = true) (h : JoinR s a b x) : x.2 = 0 ∨ x.2 = 4 := by
  unfold JoinR at h
  rw [ha, hb] at h
  simp only [Bool.and_self, if_true] at h
  split at h <;> (subst h; simp)
theorem fold_err {s : Sg} {a x : AR} {ts : List (List Int)} (h : FoldG (JoinR s) a ts x) (ha : a.2 = 0 → termB s a.1 = true) (ht : ∀ t ∈ ts, termB s t = true) (h4 : a.2 = 0 ∨ a.2 = 4) : x.2 = 0 ∨ x.2 = 4 := by
  induction h with
  | nil x => exact h4
  | ok a0 r _ ih =>
    refine ih (fun y0 => ?_) (fun t h => ht t (by simp [h])) (join_err (ha a0) (ht _ (by simp)) r)
    exact (instB_iff.1 (join_both r y0).1).1
  | err a0 _ ih => exact ih ha (fun t h => ht t (by simp [h])) h4
theorem fold_low {s : Sg} {a x : AR} {ts : List (List Int)} (h : FoldG (JoinR s) a ts x) (h0 : x.2 = 0) (ha : a.2 = 0 → termB s a.1 = true) : instB s x.1 a.1 = true ∧ ∀ t ∈ ts, instB s x.1 t = true := by
  induction h with
  | nil x => exact ⟨by rw [instB_refl]; exact ha h0, by simp⟩
  | ok a0 r k ih =>
    rename_i a y x t ts
    have hy : y.2 = 0 := by
      rcases Classical.em (y.2 = 0) with h | h
      · exact h
      · have := k.stuck h; rw [this] at h0; exact h0
    have hb := join_both r hy
    obtain ⟨i1, i2⟩ := ih h0 (fun _ => (instB_iff.1 hb.1).1)
    refine ⟨instB_trans i1 hb.1, fun u hu => ?_⟩
    rcases List.mem_cons.1 hu with rfl | hu
    · exact instB_trans i1 hb.2.1
    · exact i2 u hu
  | err a0 k ih =>
    have := k.stuck a0
    subst this
    exact absurd h0 a0
theorem fold_great {s : Sg} {d : List Int} {a x : AR} {ts : List (List Int)} (h : FoldG (JoinR s) a ts x) (h0 : x.2 = 0) (ha : instB s d a.1 = true) (ht : ∀ t ∈ ts, instB s d t = true) : instB s d x.1 = true := by
  induction h with
  | nil x => exact ha
  | ok a0 r k ih =>
    rename_i a y x t ts
    have hy : y.2 = 0 := by
      rcases Classical.em (y.2 = 0) with h | h
      · exact h
      · have := k.stuck h; rw [this] at h0; exact h0
    rcases bounds_join ha (ht _ (by simp)) r with ⟨_, h⟩ | h
    · exact ih h0 h (fun t h => ht t (by simp [h]))
    · omega
  | err a0 k ih =>
    have := k.stuck a0
    subst this
    exact absurd h0 a0
theorem canon_term {s : Sg} {t : List Int} (h : termB s t = true) : termB s (canonL t) = true ∧ instB s (canonL t) t = true ∧ instB s t (canonL t) = true := by
  have hf := termB_facts h
  have hT := termB_T h
  have h1 : termB s (canonL t) = true := made_term hf.1 hT (madeB_iff.2 ⟨hf.2.2.2, vars_le_m hT⟩)
  have h2 : alikeB s (canonL t) t = true := by unfold alikeB; rw [h1, h, canonL_canon]; simp
  exact ⟨h1, (alikeB_iff.1 h2).1, (alikeB_iff.1 h2).2⟩
/-- P2.6: the join of a list does not depend on its order, where none is too great. -/
theorem joins_perm {s : Sg} {l l' : List (List Int)} {x y : AR} (h : FoldR s (JoinR s) l x) (k : FoldR s (JoinR s) l' y) (hm : ∀ t, t ∈ l ↔ t ∈ l') (hl : l.length = l'.length) (h0 : x.2 = 0) :
    y.2 = 4 ∨ (y.2 = 0 ∧ alikeB s x.1 y.1 = true) := by
  have hE : listE s l = 0 := by
    rcases h with ⟨h1, rfl⟩ | ⟨h1, _⟩
    · exact absurd h0 h1
    · exact h1
  obtain ⟨e1, e2, e3, e4⟩ := listE_zero.1 hE
  have hE' : listE s l' = 0 := listE_zero.2 ⟨e1, fun t ht => e2 t ((hm t).2 ht), by omega, by omega⟩
  have e2' : ∀ t ∈ l', termB s t = true := fun t ht => e2 t ((hm t).2 ht)
  rcases h with ⟨h1, _⟩ | ⟨_, t, ts, rfl, hF⟩
  · exact absurd hE h1
  rcases k with ⟨k1, _⟩ | ⟨_, t', ts', rfl, kF⟩
  · exact absurd hE' k1
  have ct := canon_term (e2 t (by simp))
  have ct' := canon_term (e2' t' (by simp))
  rcases fold_err kF (fun _ => ct'.1) (fun u hu => e2' u (by simp [hu])) (Or.inl rfl) with y0 | y4
  · refine Or.inr ⟨y0, ?_⟩
    have hx := fold_low hF h0 (fun _ => ct.1)
    have hy := fold_low kF y0 (fun _ => ct'.1)
    have hx' : ∀ u ∈ t :: ts, instB s x.1 u = true := fun u hu => by
      rcases List.mem_cons.1 hu with rfl | hu
      · exact instB_trans hx.1 ct.2.1
      · exact hx.2 u hu
    have hy' : ∀ u ∈ t' :: ts', instB s y.1 u = true := fun u hu => by
      rcases List.mem_cons.1 hu with rfl | hu
      · exact instB_trans hy.1 ct'.2.1
      · exact hy.2 u hu
    have hxy : instB s x.1 y.1 = true := fold_great kF y0 (instB_trans (hx' t' ((hm _).2 (by simp))) ct'.2.2) (fun u hu => hx' u ((hm _).2 (by simp [hu])))
    have hyx : instB s y.1 x.1 = true := fold_great hF h0 (instB_trans (hy' t ((hm _).1 (by simp))) ct.2.2) (fun u hu => hy' u ((hm _).1 (by simp [hu])))
    exact alikeB_iff.2 ⟨hxy, hyx⟩
  · exact Or.inl y4
end Go.Proofs.Ytidigpfiagjeiaa
namespace Go.Proofs.Ytidigpfiagjeiaa
open Go Go.RowKit Go.Maps
/-- some variable becomes too long. -/
def Long (m : MM) : Prop := ∃ v : Int, -24 ≤ v ∧ v < 0 ∧ 60 < (fw m [v]).length
/-- the error that Unify tells. -/
def UniE (s : Sg) (a b : List Int) (e : Int) : Prop := if termB s a && termB s b then (NoU s a b ∧ e = 8) ∨ ∃ m, Mgu s a b m ∧ ((Long m ∧ e = 4) ∨ (¬ Long m ∧ e = 0)) else e = 1
def fwM (m : MM) : MM := fun v => (m v).map fun _ => fw m [v]
/-- the binds that Unify tells. -/
def UniL (s : Sg) (a b : List Int) (l : BL) : Prop := termB s a = true ∧ termB s b = true ∧ ∃ m, Mgu s a b m ∧ ¬ Long m ∧ l = bndL (fwM m) 12
theorem long_mgu {s : Sg} {a b : List Int} {m m' : MM} (h : Mgu s a b m) (h' : Mgu s a b m') (hl : Long m) : Long m' := by
  obtain ⟨v, h1, h2, h3⟩ := hl
  refine ⟨v, h1, h2, ?_⟩
  have := congrArg List.length (h.canon h' (t := [v]) (.var v h1 h2))
  rw [canonL_len, canonL_len] at this
  omega
theorem UniE.unique {s : Sg} {a b : List Int} {e f : Int} (h : UniE s a b e) (k : UniE s a b f) : e = f := by
  unfold UniE at h k
  split at h
  · rename_i hc
    rw [if_pos hc] at k
    rcases h with ⟨h1, rfl⟩ | ⟨m, hm, h⟩ <;> rcases k with ⟨k1, rfl⟩ | ⟨m', hm', k⟩
    · rfl
    · exact (hm'.not_no h1).elim
    · exact (hm.not_no k1).elim
    · rcases h with ⟨h, rfl⟩ | ⟨h, rfl⟩ <;> rcases k with ⟨k, rfl⟩ | ⟨k, rfl⟩
      · rfl
      · exact (k (long_mgu hm hm' h)).elim
      · exact (h (long_mgu hm' hm k)).elim
      · rfl
  · rename_i hc
    rw [if_neg hc] at k
    rw [h, k]
theorem long_at {s : Sg} {m : MM} (h : MOK s m) {v : Int} (hv : (m v).isSome = true) (hl : 60 < (fw m [v]).length) : Long m := by
  obtain ⟨p, hp⟩ := Option.isSome_iff_exists.1 hv
  exact ⟨v, (h.val v p hp).1, (h.val v p hp).2.1, hl⟩
theorem not_long {s : Sg} {m : MM} (h : MOK s m) (hd : ∀ v, (m v).isSome = true → (fw m [v]).length ≤ 60) : ¬ Long m := by
  rintro ⟨v, h1, h2, h3⟩
  cases hm : m v with
  | none => have := sg_none h h2 hm; unfold sg at this; rw [this] at h3; simp at h3
  | some p => have := hd v (by rw [hm]; rfl); omega
theorem fwM_some {m : MM} {v : Int} {p : List Int} (h : fwM m v = some p) : (m v).isSome = true ∧ p = fw m [v] := by
  unfold fwM at h
  obtain ⟨q, hq, rfl⟩ := Option.map_eq_some_iff.1 h
  exact ⟨by rw [hq]; rfl, rfl⟩
section
variable {s : Sg} {a b : List Int} {m : MM}
theorem dom_own (hs : signB s = true) (h : Mgu s a b m) {v : Int} (hv : (m v).isSome = true) : (v ∈ a ∨ v ∈ b) ∧ ∀ x ∈ fw m [v], x < 0 → x ∈ a ∨ x ∈ b := by
  obtain ⟨p, hp⟩ := Option.isSome_iff_exists.1 hv
  have h1 := (mgu_vars hs h hp).1
  exact ⟨h1, fw_vars hs h (fun x hx _ => by simp at hx; subst hx; exact h1)⟩
theorem uni_bnds (ha : termB s a = true) (hb : termB s b = true) (h : Mgu s a b m) (hl : ¬ Long m) : bndsB s (bndL (fwM m) 12) = true := by
  have hs := (termB_facts ha).1
  refine bndL_valid hs (Nat.le_refl _) fun v p hv hp => ?_
  obtain ⟨h1, rfl⟩ := fwM_some hp
  have h2 := (dom_own hs h h1).1
  refine T_termB hs (fw_T12 hs h (termB_T ha) (termB_T hb) (.var _ (by omega) (by omega)) (fun x hx _ => by simp at hx; subst hx; exact h2)) ?_
  by_cases h60 : (fw m [-(v : Int) - 1]).length ≤ 60
  · exact h60
  · exact (hl ⟨-(v : Int) - 1, by omega, by omega, by omega⟩).elim
theorem uni_of (h : Mgu s a b m) {n : Int} (h1 : -12 ≤ n) (h2 : n < 0) : ofN (bndL (fwM m) 12) n = sg m n := by
  obtain ⟨v, rfl⟩ : ∃ v : Nat, n = -(v : Int) - 1 := ⟨(-n - 1).toNat, by omega⟩
  rw [bndL_of (by omega)]
  cases hm : m (-(v : Int) - 1) with
  | none => unfold fwM; rw [hm, sg_none h.1 h2 hm]; rfl
  | some p => unfold fwM; rw [hm]; rfl
theorem uni_sub (h : Mgu s a b m) {t : List Int} (ht : IsT s 12 t) : subL (ofN (bndL (fwM m) 12)) t = fw m t := by
  rw [fw_sub h.1]
  exact subL_congr fun n hn hn0 => uni_of h (ht.vars n hn hn0) hn0
end
theorem uni_own {s : Sg} {a b : List Int} {l : BL} (h : UniL s a b l) {i : Nat} (hi : i < l.length) : (0 ≤ l[i].1 ∧ l[i].1 ≤ 11) ∧ -l[i].1 - 1 ∈ a ++ b ∧ IsT s 12 l[i].2 ∧ l[i].2.length ≤ 60 ∧ ∀ x ∈ l[i].2, x < 0 → x ∈ a ++ b := by
  obtain ⟨ha, hb, m, hm, hl, rfl⟩ := h
  have hs := (termB_facts ha).1
  have hv := (bndsB_iff.1 (uni_bnds ha hb hm hl)).2.1 _ (List.getElem_mem hi)
  obtain ⟨v, h1, h2, h3, h4⟩ := bndL_mem (List.getElem_mem hi)
  obtain ⟨h5, h6⟩ := fwM_some h3
  obtain ⟨h7, h8⟩ := dom_own hs hm h5
  refine ⟨hv.1, ?_, termB_T hv.2.1, (termB_facts hv.2.1).2.2.2, fun x hx hx0 => ?_⟩
  · rw [h2]; exact List.mem_append.2 h7
  · rw [h6] at hx; exact List.mem_append.2 (h8 x hx hx0)
theorem uni_unifies {s : Sg} {a b : List Int} {l : BL} (h : UniL s a b l) : unifB s l a b = true := by
  obtain ⟨ha, hb, m, hm, hl, rfl⟩ := h
  unfold unifB
  rw [uni_bnds ha hb hm hl, ha, hb, uni_sub hm (termB_T ha), uni_sub hm (termB_T hb), fw_sub hm.1, fw_sub hm.1, hm.sol]
  simp
theorem uni_solved {s : Sg} {a b : List Int} {l : BL} (h : UniL s a b l) : solB s l = true := by
  obtain ⟨ha, hb, m, hm, hl, rfl⟩ := h
  unfold solB
  rw [uni_bnds ha hb hm hl, Bool.true_and, List.all_eq_true]
  intro x hx
  rw [List.all_eq_true]
  intro y hy
  obtain ⟨v, h1, h2, h3, h4⟩ := bndL_mem hx
  obtain ⟨v', k1, k2, k3, k4⟩ := bndL_mem hy
  obtain ⟨h5, h6⟩ := fwM_some h3
  obtain ⟨k5, k6⟩ := fwM_some k3
  have : -x.1 - 1 ∉ y.2 := fun hm' => by
    rw [k6] at hm'
    have := fw_free hm.1 _ hm' (by omega)
    rw [h2] at this
    rw [this] at h5; cases h5
  simp [this]
theorem uni_apply {s : Sg} {a b : List Int} {l : BL} (h : UniL s a b l) {x : List Int × Int} (hx : UnifR s a b x) (h0 : (appR s l a).2 = 0) : x.2 = 0 ∧ alikeB s (appR s l a).1 x.1 = true := by
  have hL := h
  obtain ⟨ha, hb, m, hm, hl, rfl⟩ := h
  have hs := (termB_facts ha).1
  have hTa := termB_T ha
  have happ : (fw m a).length ≤ 60 ∧ (appR s (bndL (fwM m) 12) a).1 = fw m a := by
    have e1 : appR s (bndL (fwM m) 12) a = if termB s a && bndsB s (bndL (fwM m) 12) then (if (subL (ofN (bndL (fwM m) 12)) a).length ≤ 60 then (subL (ofN (bndL (fwM m) 12)) a, 0) else ([], 4)) else ([], 1) := rfl
    rw [ha, uni_bnds ha hb hm hl, uni_sub hm hTa, if_pos (by rfl : (true && true) = true)] at e1
    by_cases h60 : (fw m a).length ≤ 60
    · rw [if_pos h60] at e1
      exact ⟨h60, by rw [e1]⟩
    · rw [if_neg h60] at e1
      rw [e1] at h0; simp at h0
  rw [happ.2]
  have hT12 := fw_T12 hs hm hTa (termB_T hb) (hTa.mono (by omega)) (fun x hx _ => Or.inl hx)
  unfold UnifR at hx
  rw [ha, hb, if_pos (by rfl : (true && true) = true)] at hx
  rcases hx with ⟨hno, _⟩ | ⟨m', hm', hx⟩
  · exact (hm.not_no hno).elim
  · have hc := hm.canon hm' (t := a) (hTa.mono (by omega))
    have hle : (fw m' a).length ≤ 60 := by
      have := congrArg List.length hc
      rw [canonL_len, canonL_len] at this
      omega
    have hv : (varsF [] (fw m' a)).length ≤ 12 := by rw [← varsF_canon_len, ← hc, varsF_canon_len]; exact vars_le_m hT12
    have hmade : madeB (fw m' a) = true := by unfold madeB; simp [hle, hv]
    rcases hx with ⟨_, rfl⟩ | ⟨hn, _⟩
    · refine ⟨rfl, ?_⟩
      have ht : termB s (fw m a) = true := T_termB hs hT12 happ.1
      have ht' := (canon_term ht).1
      unfold alikeB
      show (termB s (fw m a) && termB s (canonL (fw m' a)) && decide (canonL (fw m a) = canonL (canonL (fw m' a)))) = true
      rw [← hc, ht, ht', canonL_canon]
      simp
    · rw [hmade] at hn; cases hn
end Go.Proofs.Ytidigpfiagjeiaa
namespace Go.Proofs.Ytidigpfiagjeiaa
open Go Go.RowKit Go.Maps
set_option maxHeartbeats 4000000 in
set_option maxRecDepth 100000 in
theorem ref2_Unify (vs va vb : Value) (s : Sg) (a b : List Int) (w : World) (hs : SignAt w vs s) (ra : Ints w va a) (rb : Ints w vb b) :
    Calls Try.prog 53 #[vs, va, vb] w fun e w' => ∃ x u, UniE s a b x ∧ e = .returned (.tuple #[u, .int .i64 x]) ∧ Below w.heap.size w w' := by
  obtain ⟨sa, sc, hse, -⟩ := hs.open
  subst hse
  go_enter Try.func53, Try.ntmps53
  go_wp2_with fail
  refine (ref1_Valid _ _ s a _ hs ra).mono ?_
  rintro e w2 ⟨rfl, n2, rfl⟩
  have hb2 : Below w.heap.size w (w.drewN n2) := below_self_drewN w n2
  cases h1 : termB s a with
  | false =>
    have HR : Hid (UniE s a b 1) := hid (by unfold UniE; rw [h1]; simp)
    clear hs ra rb
    go_wp2
    go_ret2
    exact ⟨1, _, HR.out, rfl, hb2⟩
  | true =>
    have H1 := hid h1
    clear h1
    go_wp2_with fail
    refine (ref1_Valid _ _ s b _ (hs.below hb2) (rb.below hb2)).mono ?_
    rintro e w3 ⟨rfl, n3, rfl⟩
    have hb3 : Below w.heap.size w ((w.drewN n2).drewN n3) := below_drewN hb2 n3
    generalize (w.drewN n2).drewN n3 = W0 at *
    cases h2 : termB s b with
    | false =>
      have HR : Hid (UniE s a b 1) := hid (by unfold UniE; rw [h2]; simp)
      clear hs ra rb hb2
      go_wp2
      go_ret2
      exact ⟨1, _, HR.out, rfl, hb3⟩
    | true =>
      have HR : Hid (∀ e, ((NoU s a b ∧ e = 8) ∨ ∃ m, Mgu s a b m ∧ ((Long m ∧ e = 4) ∨ (¬ Long m ∧ e = 0))) → UniE s a b e) := hid (by intro e he; unfold UniE; rw [H1.out, h2]; simpa using he)
      obtain ⟨f1, f2, f3, f4⟩ := termB_facts H1.out
      obtain ⟨_, _, _, f5⟩ := termB_facts h2
      have ta := termB_T H1.out
      have tb := termB_T h2
      have hb0 := tb.ne
      have TA := hid (ta.mono (m' := 24) (by omega))
      have TB := hid (tb.mono (m' := 24) (by omega))
      have TA12 := hid ta
      have TB12 := hid tb
      have hsz3 := hb3.size
      obtain ⟨W, cs, hag, hS1, hb1, hst0, hst1, hst2, hsz, -⟩ := sol_new W0 s sa sc (hs.below hb3)
      have hag2 : True → _ := fun _ => hag
      have HS1 := hid hS1
      have HB1 := hid hb1
      have HB3 := hid hb3
      have HRA := hid ra
      have HRB := hid rb
      clear h2 ta tb hS1 ra rb hs hb2 hb3 hb1 hag
      go_wp2_with fail
      clear hst0 hst1 hst2 hsz hag2
      have HBW := hid (HB3.out.trans (HB1.out.mono hsz3))
      have HSV4 := hid (ref2_Solve W0.heap.size (.slice sa s.length sc) s f1 (meas1 (mR (fun _ => none)) a + 1) a b va vb (fun _ => none) W (by omega) HS1.out (by rw [mR_none']; exact MOK.empty s) TA.out TB.out f4 f5 (HRA.out.below HBW.out) (HRB.out.below HBW.out))
      have HB4 := HBW
      refine HSV4.out.mono ?_
      intro e w5 hpost
      obtain ⟨z, T', rfl, hS', hg, hok, hno⟩ := hpost.bool
      rw [mR_none'] at hok hno
      have HB5 : Hid (Below w.heap.size w w5) := hid (HB4.out.grown hg HB4.out.size (fun q hq => by cases hq; exact hsz3))
      cases z with
      | false =>
        have HX : Hid (UniE s a b 8) := hid (HR.out _ (Or.inl ⟨(hno rfl).nou, rfl⟩))
        clear hpost hS' hg hok hno
        go_wp2
        go_ret2
        exact ⟨8, _, HX.out, rfl, HB5.out⟩
      | true =>
        have hmgu := (hok rfl).mgu
        have HMG := hid hmgu
        have HS5 := hid hS'
        have hsz5 := HB5.out.size
        have hqn := fun (w : World) (a : Option Addr) (n c n' c' : Nat) => Lib.run_eql_slice_nil (P := Try.prog) w _ _ a n c n' c' Try.underlying25
        clear hpost hS' hg hok hno hmgu
        go_wp2
        have HSG := hid f1
        go_loopw [9, 10] (fun u kv wr => ∃ (k n : Nat) (xs : List Value), k ≤ 12 ∧ n ≤ k ∧ kv = .int .i64 k ∧ wr.ownsRow w5.heap.size 61 2 u n xs ∧ Below w5.heap.size w5 wr ∧ ∀ v, v < k → (T' v).isSome = true → (fw (mR T') [-(v : Int) - 1]).length ≤ 60) (fun _ kv _ => 12 - (intOf kv).toNat)
        case atStart => exact ⟨0, 0, [], by omega, by omega, rfl, World.ownsRow_nil _ _ _ _, Below.refl _ _, fun v h => by omega⟩
        case round =>
          obtain ⟨k, n, xs, hk, hnk, rfl, hown, hb, hrel⟩ := hrel
          have HR2 := hid hrel
          have HBk := hid hb
          have HOWN := hid hown
          have hSr := HS5.out.below hb
          have hb5k := hb.size
          clear hrel hb hown
          by_cases hlt : k < 12
          · have hcl := hSr.arr.cell (v := k) (by omega)
            cases hT : T' k with
            | none =>
              rw [hT] at hcl
              have hs0 : sV none = .slice none 0 0 := rfl
              rw [hs0] at hcl
              have HT := hid hT
              clear hT hSr hs0
              go_wp2
              go_roundw
              case rel => exact ⟨k + 1, n, xs, by omega, by omega, by go_num, HOWN.out, HBk.out, fun v hv hs => by
                rcases Nat.lt_succ_iff_lt_or_eq.1 hv with h1 | rfl
                · exact HR2.out v h1 hs
                · rw [HT.out] at hs; cases hs⟩
              case measure => simp [intOf]; omega
            | some ul =>
              obtain ⟨u0, p⟩ := ul
              obtain ⟨⟨x0, n0, c0, hue⟩, hi0⟩ := hSr.arr.ints (v := k) (by omega) hT
              subst hue
              rw [hT] at hcl
              have hs0 : sV (some (.slice (some x0) n0 c0, p)) = .slice (some x0) n0 c0 := rfl
              rw [hs0] at hcl
              have hmk : mR T' (-(k : Int) - 1) = some p := by rw [mR_at T' (n := -(k : Int) - 1) (by omega) (v := k) (by omega), hT]; rfl
              have hval := HMG.out.1.val _ p hmk
              have hsg : fw (mR T') [-(k : Int) - 1] = fw (mR T') p := sg_some HMG.out.1 hmk
              have HSGK := hid hsg
              have HWH := hid (ref2_Whole W0.heap.size (.slice sa s.length sc) _ s T' p wr HMG.out.1 hSr hval.2.2.1 hval.2.2.2 hi0)
              have HDM : Hid ((mR T' (-(k : Int) - 1)).isSome = true) := hid (by rw [hmk]; rfl)
              clear hT hSr hs0 hmk hval hsg hi0
              go_wp2_with fail
              refine HWH.out.mono ?_
              rintro e w6 ⟨u6, hb6, ⟨rfl, h60, ho6⟩ | ⟨rfl, hlong⟩⟩
              · have hi6 := Ints.of_owns ho6 (by omega)
                obtain ⟨a6, k6, rfl, -⟩ := hi6.open
                obtain ⟨t, ht⟩ : ∃ t, fw (mR T') p = t := ⟨_, rfl⟩
                have HT := hid ht
                rw [ht] at h60 ⊢
                have hbA : Below w6.heap.size w6 (w6.alloc (.cells #[.int .i64 k, .slice a6 t.length k6] 61)) := (Below.refl _ _).alloc (Nat.le_refl _) _
                have HBA := hid (hb6.trans (hbA.mono hb6.size))
                have hszA := HBA.out.size
                have HRA := hid (owns_below HOWN.out HBA.out)
                have hsrc : RowK (w6.alloc (.cells #[.int .i64 k, .slice a6 t.length k6] 61)) (.slice (some ⟨w6.heap.size, 0, none⟩) 1 1) 2 1 [.int .i64 k, .slice a6 t.length k6] := row_two_new _ _ _ _
                have HSRC := hid hsrc
                clear hsrc hbA hb6 ho6 hi6 ht
                go_wp2_with (at_builtin; refine wpList_append_row rfl _ _ 39 rfl w5.heap.size 61 el_bind Try.underlying39 rfl (by decide) _ _ _ rfl HRA.out _ 1 [.int .i64 k, .slice a6 t.length k6] rfl HSRC.out (by simp; exact ⟨rfl, rfl⟩) (by omega) (by omega) (by omega) ?_; intro v' w7 hown7 hgrow7 _)
                have hb7 : Below w5.heap.size w5 w7 := (HBk.out.trans (HBA.out.mono hb5k)).grown hgrow7 (by omega) (fun q hq => (HOWN.out.lt q hq).1)
                have HB7 := hid hb7
                have HO7 := hid hown7
                clear hb7 hown7 hgrow7
                go_roundw
                case rel => exact ⟨k + 1, n + 1, _, by omega, by omega, by go_num, HO7.out, HB7.out, fun v hv hs => by
                  rcases Nat.lt_succ_iff_lt_or_eq.1 hv with h1 | rfl
                  · exact HR2.out v h1 hs
                  · rw [HSGK.out, HT.out]; exact h60⟩
                case measure => simp [intOf]; omega
              · have HLG := hid (long_at HMG.out.1 HDM.out (by rw [HSGK.out]; exact hlong))
                have HB6 := hid (HB5.out.trans ((HBk.out.trans (hb6.mono hb5k)).mono hsz5))
                clear hlong hb6
                go_wp2
                go_ret2
                exact ⟨4, _, HR.out _ (Or.inr ⟨_, HMG.out, Or.inl ⟨HLG.out, rfl⟩⟩), rfl, HB6.out⟩
          · have HNL := hid (not_long HMG.out.1 (fun v hv => by
              obtain ⟨p, hp⟩ := Option.isSome_iff_exists.1 hv
              have h1 := HMG.out.1.val v p hp
              have h2 : -12 ≤ v := by
                rcases (mgu_vars HSG.out HMG.out hp).1 with h3 | h3
                · exact TA12.out.vars v h3 h1.2.1
                · exact TB12.out.vars v h3 h1.2.1
              obtain ⟨j, rfl⟩ : ∃ j : Nat, v = -(j : Int) - 1 := ⟨(-v - 1).toNat, by omega⟩
              refine HR2.out j (by omega) ?_
              rw [mR_at T' (n := -(j : Int) - 1) (by omega) (v := j) (by omega)] at hv
              simpa using hv))
            clear hSr
            go_wp2
            go_ret2
            exact ⟨0, _, HR.out _ (Or.inr ⟨_, HMG.out, Or.inr ⟨HNL.out, rfl⟩⟩), rfl, HB5.out.trans (HBk.out.mono hsz5)⟩
end Go.Proofs.Ytidigpfiagjeiaa
