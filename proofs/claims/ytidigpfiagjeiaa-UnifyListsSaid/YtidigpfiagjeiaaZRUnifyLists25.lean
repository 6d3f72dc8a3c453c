/-
  WHAT IT HOLDS: the plain law of joins: the join does not depend on the order, both are instances of it, it is no longer than either, and it is alike the first exactly if the second is an instance of the first; names come in order. No program.
  WHAT IT HOLDS: the plain law of meets and joins of lists (UnifyLists): what they answer as a relation, that it tells one answer, and that the join of a list does not depend on its order. No program in sight. No condition.
-/
import Derived.Test.YtidigpfiagjeiaaZRUnifyLists24
namespace Go.Proofs.Ytidigpfiagjeiaa
open Go Go.RowKit Go.Maps
def swK (k : KK) : KK := (k.2, k.1)
theorem swK_swK (k : KK) : swK (swK k) = k := rfl
theorem swK_mem {σ : List KK} {k : KK} : swK k ∈ σ.map swK ↔ k ∈ σ := by
  constructor
  · intro h
    obtain ⟨z, h1, h2⟩ := List.mem_map.1 h
    have : z = k := by rw [← swK_swK z, h2, swK_swK]
    exact this ▸ h1
  · exact fun h => List.mem_map.2 ⟨k, h, rfl⟩
theorem swK_ins (σ : List KK) (k : KK) : insK (σ.map swK) (swK k) = (insK σ k).map swK := by
  unfold insK
  by_cases h : k ∈ σ
  · rw [if_pos h, if_pos (swK_mem.2 h)]
  · rw [if_neg h, if_neg (fun hh => h (swK_mem.1 hh))]; simp
theorem swK_idx : ∀ (σ : List KK) (k : KK), (σ.map swK).idxOf (swK k) = σ.idxOf k
  | [], _ => rfl
  | z :: σ, k => by
    rw [List.map_cons, List.idxOf_cons, List.idxOf_cons, swK_idx σ k]
    have : (swK z == swK k) = (z == k) := by
      rw [Bool.eq_iff_iff, beq_iff_eq, beq_iff_eq]
      exact ⟨fun h => by rw [← swK_swK z, h, swK_swK], fun h => by rw [h]⟩
    rw [this]
theorem swK_num (σ : List KK) (k : KK) : numK (σ.map swK) (swK k) = numK σ k := by
  unfold numK
  rw [swK_idx]
theorem com_swap (s : Sg) : ∀ (f : Nat) (a b : List Int) (σ : List KK), com s f b a (σ.map swK) = ((com s f a b σ).1, (com s f a b σ).2.map swK) := by
  intro f
  induction f with
  | zero => intro a b σ; rfl
  | succ f ih =>
    intro a b σ
    cases a with
    | nil => rw [com_nil, com_nil2]
    | cons x a =>
      cases b with
      | nil => rw [com_nil2, com_nil]
      | cons y b =>
        simp only [com]
        by_cases h : x = y ∧ 0 ≤ x
        · obtain ⟨rfl, h0⟩ := h
          rw [if_pos ⟨rfl, h0⟩, if_pos ⟨rfl, h0⟩, ih]
        · rw [if_neg h, if_neg (show ¬ (y = x ∧ 0 ≤ y) from fun hh => h ⟨hh.1.symm, hh.1 ▸ hh.2⟩)]
          have e := swK_num σ (keyL ((x :: a).take (pLen s (x :: a) 1)), keyL ((y :: b).take (pLen s (y :: b) 1)))
          have e2 := swK_ins σ (keyL ((x :: a).take (pLen s (x :: a) 1)), keyL ((y :: b).take (pLen s (y :: b) 1)))
          unfold swK at e e2 ih
          simp only at e e2 ih
          unfold swK
          rw [e, e2, ih]
theorem comW_swap (s : Sg) (a b : List Int) : (comW s b a []).1 = (comW s a b []).1 := by
  have h1 := com_swap s (a.length + b.length) a b []
  have h2 := com_fuel s b.length (a.length + b.length) b a [] (Nat.le_refl _) (by omega)
  have h3 := com_fuel s a.length (a.length + b.length) a b [] (Nat.le_refl _) (by omega)
  unfold comW
  rw [h2, h3]
  rw [List.map_nil] at h1
  rw [h1]
theorem JoinR.swap {s : Sg} {a b : List Int} {x y : List Int × Int} (h : JoinR s a b x) (k : JoinR s b a y) : x = y := by
  unfold JoinR at h k
  rw [h, k, comW_swap, Bool.and_comm]
/-- the names from -1 down. -/
def nmsL (n : Nat) : List Int := (List.range n).map fun (i : Nat) => -(i : Int) - 1
theorem nmsL_mem {n : Nat} {k : Nat} : (-(k : Int) - 1) ∈ nmsL n ↔ k < n := by
  unfold nmsL
  rw [List.mem_map]
  constructor
  · rintro ⟨i, hi, h⟩
    have := List.mem_range.1 hi
    omega
  · exact fun h => ⟨k, List.mem_range.2 h, rfl⟩
theorem nmsL_succ (n : Nat) : nmsL (n + 1) = nmsL n ++ [-(n : Int) - 1] := by
  unfold nmsL
  rw [List.range_succ, List.map_append]; rfl
theorem nmsL_idx : ∀ {n k : Nat}, k < n → (nmsL n).idxOf (-(k : Int) - 1) = k
  | 0, k, h => by omega
  | n + 1, k, h => by
    rw [nmsL_succ, List.idxOf_append]
    by_cases hk : k < n
    · rw [if_pos (nmsL_mem.2 hk), nmsL_idx hk]
    · have : k = n := by omega
      subst this
      rw [if_neg (fun hh => hk (nmsL_mem.1 hh))]
      have hl : (nmsL k).length = k := by simp [nmsL]
      rw [hl]
      simp
theorem com_vars (s : Sg) : ∀ (f : Nat) (a b : List Int) (σ : List KK), varsF (nmsL σ.length) (com s f a b σ).1 = nmsL (com s f a b σ).2.length ∧ ∀ x ∈ (com s f a b σ).1, x < 0 → x ∈ nmsL (com s f a b σ).2.length := by
  intro f
  induction f with
  | zero => intro a b σ; exact ⟨rfl, by simp [com]⟩
  | succ f ih =>
    intro a b σ
    cases a with
    | nil => rw [com_nil]; exact ⟨rfl, by simp⟩
    | cons x a =>
      cases b with
      | nil => rw [com_nil2]; exact ⟨rfl, by simp⟩
      | cons y b =>
        simp only [com]
        by_cases h : x = y ∧ 0 ≤ x
        · rw [if_pos h]
          obtain ⟨h1, h2⟩ := ih a b σ
          refine ⟨?_, ?_⟩
          · simp only [varsF]
            rw [if_neg (by omega)]
            exact h1
          · intro z hz hz0
            simp only [List.mem_cons] at hz
            rcases hz with rfl | hz
            · omega
            · exact h2 z hz hz0
        · rw [if_neg h]
          obtain ⟨k, hk⟩ : ∃ k : KK, (keyL ((x :: a).take (pLen s (x :: a) 1)), keyL ((y :: b).take (pLen s (y :: b) 1))) = k := ⟨_, rfl⟩
          simp only [hk]
          obtain ⟨h1, h2⟩ := ih ((x :: a).drop (pLen s (x :: a) 1)) ((y :: b).drop (pLen s (y :: b) 1)) (insK σ k)
          have hv : varsF (nmsL σ.length) (numK σ k :: (com s f ((x :: a).drop (pLen s (x :: a) 1)) ((y :: b).drop (pLen s (y :: b) 1)) (insK σ k)).1) = nmsL (com s f ((x :: a).drop (pLen s (x :: a) 1)) ((y :: b).drop (pLen s (y :: b) 1)) (insK σ k)).2.length := by
            simp only [varsF]
            by_cases hm : k ∈ σ
            · have hi := List.idxOf_lt_length_of_mem hm
              have hin : insK σ k = σ := by unfold insK; rw [if_pos hm]
              rw [if_neg (fun hh => hh.2 (nmsL_mem.2 hi))]
              rw [hin] at h1 ⊢
              exact h1
            · have hi : σ.idxOf k = σ.length := List.idxOf_eq_length hm
              have hin : insK σ k = σ ++ [k] := by unfold insK; rw [if_neg hm]
              have hn : numK σ k = -(σ.length : Int) - 1 := by unfold numK; rw [hi]
              rw [hn, if_pos ⟨by omega, fun hh => by have := nmsL_mem.1 hh; omega⟩, ← nmsL_succ]
              rw [hin] at h1 ⊢
              rw [List.length_append, List.length_singleton] at h1
              exact h1
          refine ⟨hv, fun z hz hz0 => ?_⟩
          rw [← hv]
          exact (varsF_mem _ _ z).2 (Or.inr ⟨hz, hz0⟩)
theorem com_canon (s : Sg) (a b : List Int) : canonL (comW s a b []).1 = (comW s a b []).1 := by
  obtain ⟨h1, h2⟩ := com_vars s a.length a b []
  unfold comW canonL
  rw [show varsF [] (com s a.length a b []).1 = nmsL (com s a.length a b []).2.length from h1]
  refine (List.map_congr_left fun z hz => ?_).trans (List.map_id' _)
  unfold numV
  split
  · rename_i hz0
    have hm := h2 z hz hz0
    obtain ⟨i, hi, rfl⟩ := List.mem_map.1 hm
    rw [nmsL_idx (List.mem_range.1 hi)]
  · rfl
theorem join_both {s : Sg} {a b : List Int} {x : List Int × Int} (h : JoinR s a b x) (h0 : x.2 = 0) : instB s x.1 a = true ∧ instB s x.1 b = true ∧ x.1.length ≤ a.length ∧ x.1.length ≤ b.length ∧ alikeB s x.1 x.1 = true ∧ instB s a b = alikeB s x.1 a := by
  unfold JoinR at h
  split at h
  · rename_i hv
    simp only [Bool.and_eq_true] at hv
    have ha := termB_T hv.1
    have hb := termB_T hv.2
    have hf := termB_facts hv.1
    have hfb := termB_facts hv.2
    obtain ⟨j1, j2, j3, j4⟩ := join_facts hf.2.2.1 ha hb hf.2.2.2
    have hl1 := (comW_len s a b []).1
    have hl2 := (comW_len s b a []).1
    rw [comW_swap] at hl2
    split at h
    · rename_i hvl
      subst h
      simp only
      have hT := canonL_T j1 hvl
      have hx := T_termB hf.1 hT (by rw [canonL_len]; omega)
      have i1 : Inst s 60 (canonL (comW s a b []).1) (comW s a b []).1 := inst_canon j1
      have ia : instB s (canonL (comW s a b []).1) a = true := instB_iff.2 ⟨hx, hv.1, Inst.down (q := 60) (by omega) hT ha (i1.trans j2)⟩
      have ib : instB s (canonL (comW s a b []).1) b = true := instB_iff.2 ⟨hx, hv.2, Inst.down (q := 60) (by omega) hT hb (i1.trans j3)⟩
      refine ⟨ia, ib, by rw [canonL_len]; omega, by rw [canonL_len]; omega, alikeB_iff.2 ⟨by rw [instB_refl, hx], by rw [instB_refl, hx]⟩, ?_⟩
      rw [Bool.eq_iff_iff, alikeB_iff]
      constructor
      · intro hi
        obtain ⟨_, _, hi⟩ := instB_iff.1 hi
        have := j4 a (Inst.refl ha) hi
        exact ⟨ia, instB_iff.2 ⟨hv.1, hx, Inst.down (q := 60) (by omega) ha hT (this.trans (canon_inst (hT.mono (by omega)) (canonL_canon _).symm))⟩⟩
      · intro hal
        exact instB_trans hal.2 ib
    · subst h; simp at h0
  · subst h; simp at h0
end Go.Proofs.Ytidigpfiagjeiaa
namespace Go.Proofs.Ytidigpfiagjeiaa
open Go Go.RowKit Go.Maps
/-- the first error of a list of terms. -/
def listE (s : Sg) (l : List (List Int)) : Int := if signB s && l.all (termB s) then (if decide (1 ≤ l.length) && decide (l.length ≤ 60) then 0 else 7) else 1
abbrev AR := List Int × Int
inductive FoldG (R : List Int → List Int → AR → Prop) : AR → List (List Int) → AR → Prop
  | nil (x : AR) : FoldG R x [] x
  | ok {a y x : AR} {t : List Int} {ts : List (List Int)} : a.2 = 0 → R a.1 t y → FoldG R y ts x → FoldG R a (t :: ts) x
  | err {a x : AR} {t : List Int} {ts : List (List Int)} : a.2 ≠ 0 → FoldG R a ts x → FoldG R a (t :: ts) x
theorem FoldG.snoc_ok {R : List Int → List Int → AR → Prop} {a x y : AR} {ts : List (List Int)} {t : List Int} (h : FoldG R a ts x) (h0 : x.2 = 0) (hR : R x.1 t y) : FoldG R a (ts ++ [t]) y := by
  induction h with
  | nil x => exact .ok h0 hR (.nil _)
  | ok a0 r _ ih => exact .ok a0 r (ih h0 hR)
  | err a0 _ ih => exact .err a0 (ih h0 hR)
theorem FoldG.snoc_err {R : List Int → List Int → AR → Prop} {a x : AR} {ts : List (List Int)} {t : List Int} (h : FoldG R a ts x) (h0 : x.2 ≠ 0) : FoldG R a (ts ++ [t]) x := by
  induction h with
  | nil x => exact .err h0 (.nil _)
  | ok a0 r _ ih => exact .ok a0 r (ih h0)
  | err a0 _ ih => exact .err a0 (ih h0)
theorem FoldG.rest {R : List Int → List Int → AR → Prop} {a x : AR} {ts : List (List Int)} (h : FoldG R a ts x) (h0 : x.2 ≠ 0) : ∀ us, FoldG R a (ts ++ us) x := by
  intro us
  induction us generalizing ts with
  | nil => simpa using h
  | cons u us ih => rw [show ts ++ u :: us = (ts ++ [u]) ++ us by simp]; exact ih (h.snoc_err h0)
theorem FoldG.stuck {R : List Int → List Int → AR → Prop} {a x : AR} {ts : List (List Int)} (h : FoldG R a ts x) (h0 : a.2 ≠ 0) : x = a := by
  induction h with
  | nil x => rfl
  | ok a0 _ _ _ => exact absurd a0 h0
  | err _ _ ih => exact ih h0
theorem FoldG.errnil {R : List Int → List Int → AR → Prop} (hR : ∀ a t y, R a t y → y.2 ≠ 0 → y.1 = []) {a x : AR} {ts : List (List Int)} (h : FoldG R a ts x) (ha : a.2 ≠ 0 → a.1 = []) (h0 : x.2 ≠ 0) : x.1 = [] := by
  induction h with
  | nil x => exact ha h0
  | ok _ r _ ih => exact ih (hR _ _ _ r) h0
  | err _ _ ih => exact ih ha h0
theorem FoldG.unique {R : List Int → List Int → AR → Prop} (hR : ∀ a t x y, R a t x → R a t y → x = y) {a x y : AR} {ts : List (List Int)} (h : FoldG R a ts x) (k : FoldG R a ts y) : x = y := by
  induction h with
  | nil x => cases k; rfl
  | ok a0 r _ ih =>
    cases k with
    | ok _ r' k' =>
      have := hR _ _ _ _ r r'
      subst this
      exact ih k'
    | err b0 _ => exact absurd a0 b0
  | err a0 _ ih =>
    cases k with
    | ok b0 _ _ => exact absurd b0 a0
    | err _ k' => exact ih k'
/-- what a list is folded to. -/
def FoldR (s : Sg) (R : List Int → List Int → AR → Prop) (l : List (List Int)) (x : AR) : Prop :=
  (listE s l ≠ 0 ∧ x = ([], listE s l)) ∨ (listE s l = 0 ∧ ∃ t ts, l = t :: ts ∧ FoldG R (canonL t, 0) ts x)
theorem FoldR.unique {s : Sg} {R : List Int → List Int → AR → Prop} (hR : ∀ a t x y, R a t x → R a t y → x = y) {l : List (List Int)} {x y : AR} (h : FoldR s R l x) (k : FoldR s R l y) : x = y := by
  rcases h with ⟨h1, rfl⟩ | ⟨h1, t, ts, rfl, h2⟩
  · rcases k with ⟨_, rfl⟩ | ⟨k1, _⟩
    · rfl
    · exact absurd k1 h1
  · rcases k with ⟨k1, _⟩ | ⟨_, t', ts', e, k2⟩
    · exact absurd h1 k1
    · cases e
      exact h2.unique hR k2
theorem JoinR.unique {s : Sg} {a b : List Int} {x y : AR} (h : JoinR s a b x) (k : JoinR s a b y) : x = y := by
  unfold JoinR at h k; rw [h, k]
theorem listE_zero {s : Sg} {l : List (List Int)} : listE s l = 0 ↔ signB s = true ∧ (∀ t ∈ l, termB s t = true) ∧ 1 ≤ l.length ∧ l.length ≤ 60 := by
  unfold listE
  by_cases h1 : (signB s && l.all (termB s)) = true
  · rw [if_pos h1]
    simp only [Bool.and_eq_true, List.all_eq_true] at h1
    by_cases h2 : (decide (1 ≤ l.length) && decide (l.length ≤ 60)) = true
    · rw [if_pos h2]
      simp only [Bool.and_eq_true, decide_eq_true_eq] at h2
      exact ⟨fun _ => ⟨h1.1, h1.2, h2.1, h2.2⟩, fun _ => rfl⟩
    · rw [if_neg h2]
      simp only [Bool.and_eq_true, decide_eq_true_eq] at h2
      exact ⟨fun h => by omega, fun ⟨_, _, h3, h4⟩ => absurd ⟨h3, h4⟩ h2⟩
  · rw [if_neg h1]
    simp only [Bool.and_eq_true, List.all_eq_true] at h1
    exact ⟨fun h => by omega, fun ⟨h3, h4, _⟩ => absurd ⟨h3, h4⟩ h1⟩
theorem listE_sign {s : Sg} {l : List (List Int)} (h : signB s = false) : listE s l = 1 := by unfold listE; rw [h]; rfl
theorem listE_all {s : Sg} {l : List (List Int)} (h : allB s l = false) : listE s l = 1 := by unfold listE; unfold allB at h; rw [h]; simp
theorem listE_len {s : Sg} {l : List (List Int)} (h1 : signB s = true) (h2 : allB s l = true) (h3 : inB l.length 1 60 = false) : listE s l = 7 := by
  unfold listE
  unfold allB at h2
  rw [h1, h2]
  unfold inB at h3
  simp only [Bool.and_self, if_true]
  rw [if_neg]
  simp only [Bool.and_eq_true, Bool.and_eq_false_iff, decide_eq_true_eq, decide_eq_false_iff_not] at h3 ⊢
  omega
theorem listE_ok {s : Sg} {l : List (List Int)} (h1 : signB s = true) (h2 : allB s l = true) (h3 : inB l.length 1 60 = true) : listE s l = 0 := by
  unfold inB at h3
  simp only [Bool.and_eq_true, decide_eq_true_eq] at h3
  unfold allB at h2
  exact listE_zero.2 ⟨h1, by simpa using h2, by omega, by omega⟩
theorem join_err {s : Sg} {a b : List Int} {x : AR} (ha : termB s a = true) (hb : termB s b = true) (h : JoinR s a b x) : x.2 = 0 ∨ x.2 = 4 := by
  unfold JoinR at h
  rw [ha, hb] at h
  simp only [Bool.and_self, if_true] at h
  split at h <;> (subst h; simp)
theorem fold_err {s : Sg} {a x : AR} {ts : List (List Int)} (h : FoldG (JoinR s) a ts x) (ha : a.2 = 0 → termB s a.1 = true) (ht : ∀ t ∈ ts, termB s t = true) (h4 : a.2 = 0 ∨ a.2 = 4) : x.2 = 0 ∨ x.2 = 4 := by
  induction h with
  | nil x => exact h4
  | ok a0 r _ ih =>
    refine ih (fun y0 => ?_) (fun t h => ht t (by simp [h])) (join_err (ha a0) (ht _ (by simp)) r)
    exact (instB_iff.1 (join_both r y0).1).1
  | err a0 _ ih => exact ih ha (fun t h => ht t (by simp [h])) h4
theorem fold_low {s : Sg} {a x : AR} {ts : List (List Int)} (h : FoldG (JoinR s) a ts x) (h0 : x.2 = 0) (ha : a.2 = 0 → termB s a.1 = true) : instB s x.1 a.1 = true ∧ ∀ t ∈ ts, instB s x.1 t = true := by
  induction h with
  | nil x => exact ⟨by rw [instB_refl]; exact ha h0, by simp⟩
  | ok a0 r k ih =>
    rename_i a y x t ts
    have hy : y.2 = 0 := by
      rcases Classical.em (y.2 = 0) with h | h
      · exact h
      · have := k.stuck h; rw [this] at h0; exact h0
    have hb := join_both r hy
    obtain ⟨i1, i2⟩ := ih h0 (fun _ => (instB_iff.1 hb.1).1)
    refine ⟨instB_trans i1 hb.1, fun u hu => ?_⟩
    rcases List.mem_cons.1 hu with rfl | hu
    · exact instB_trans i1 hb.2.1
    · exact i2 u hu
  | err a0 k ih =>
    have := k.stuck a0
    subst this
    exact absurd h0 a0
theorem fold_great {s : Sg} {d : List Int} {a x : AR} {ts : List (List Int)} (h : FoldG (JoinR s) a ts x) (h0 : x.2 = 0) (ha : instB s d a.1 = true) (ht : ∀ t ∈ ts, instB s d t = true) : instB s d x.1 = true := by
  induction h with
  | nil x => exact ha
  | ok a0 r k ih =>
    rename_i a y x t ts
    have hy : y.2 = 0 := by
      rcases Classical.em (y.2 = 0) with h | h
      · exact h
      · have := k.stuck h; rw [this] at h0; exact h0
    rcases bounds_join ha (ht _ (by simp)) r with ⟨_, h⟩ | h
    · exact ih h0 h (fun t h => ht t (by simp [h]))
    · omega
  | err a0 k ih =>
    have := k.stuck a0
    subst this
    exact absurd h0 a0
theorem canon_term {s : Sg} {t : List Int} (h : termB s t = true) : termB s (canonL t) = true ∧ instB s (canonL t) t = true ∧ instB s t (canonL t) = true := by
  have hf := termB_facts h
  have hT := termB_T h
  have h1 : termB s (canonL t) = true := made_term hf.1 hT (madeB_iff.2 ⟨hf.2.2.2, vars_le_m hT⟩)
  have h2 : alikeB s (canonL t) t = true := by unfold alikeB; rw [h1, h, canonL_canon]; simp
  exact ⟨h1, (alikeB_iff.1 h2).1, (alikeB_iff.1 h2).2⟩
/-- P2.6: the join of a list does not depend on its order, where none is too great. -/
theorem joins_perm {s : Sg} {l l' : List (List Int)} {x y : AR} (h : FoldR s (JoinR s) l x) (k : FoldR s (JoinR s) l' y) (hm : ∀ t, t ∈ l ↔ t ∈ l') (hl : l.length = l'.length) (h0 : x.2 = 0) :
    y.2 = 4 ∨ (y.2 = 0 ∧ alikeB s x.1 y.1 = true) := by
  have hE : listE s l = 0 := by
    rcases h with ⟨h1, rfl⟩ | ⟨h1, _⟩
    · exact absurd h0 h1
    · exact h1
  obtain ⟨e1, e2, e3, e4⟩ := listE_zero.1 hE
  have hE' : listE s l' = 0 := listE_zero.2 ⟨e1, fun t ht => e2 t ((hm t).2 ht), by omega, by omega⟩
  have e2' : ∀ t ∈ l', termB s t = true := fun t ht => e2 t ((hm t).2 ht)
  rcases h with ⟨h1, _⟩ | ⟨_, t, ts, rfl, hF⟩
  · exact absurd hE h1
  rcases k with ⟨k1, _⟩ | ⟨_, t', ts', rfl, kF⟩
  · exact absurd hE' k1
  have ct := canon_term (e2 t (by simp))
  have ct' := canon_term (e2' t' (by simp))
  rcases fold_err kF (fun _ => ct'.1) (fun u hu => e2' u (by simp [hu])) (Or.inl rfl) with y0 | y4
  · refine Or.inr ⟨y0, ?_⟩
    have hx := fold_low hF h0 (fun _ => ct.1)
    have hy := fold_low kF y0 (fun _ => ct'.1)
    have hx' : ∀ u ∈ t :: ts, instB s x.1 u = true := fun u hu => by
      rcases List.mem_cons.1 hu with rfl | hu
      · exact instB_trans hx.1 ct.2.1
      · exact hx.2 u hu
    have hy' : ∀ u ∈ t' :: ts', instB s y.1 u = true := fun u hu => by
      rcases List.mem_cons.1 hu with rfl | hu
      · exact instB_trans hy.1 ct'.2.1
      · exact hy.2 u hu
    have hxy : instB s x.1 y.1 = true := fold_great kF y0 (instB_trans (hx' t' ((hm _).2 (by simp))) ct'.2.2) (fun u hu => hx' u ((hm _).2 (by simp [hu])))
    have hyx : instB s y.1 x.1 = true := fold_great hF h0 (instB_trans (hy' t ((hm _).1 (by simp))) ct.2.2) (fun u hu => hy' u ((hm _).1 (by simp [hu])))
    exact alikeB_iff.2 ⟨hxy, hyx⟩
  · exact Or.inl y4
end Go.Proofs.Ytidigpfiagjeiaa
