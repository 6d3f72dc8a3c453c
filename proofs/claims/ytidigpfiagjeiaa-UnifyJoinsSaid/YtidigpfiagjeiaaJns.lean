/-
  WHAT IT HOLDS: the plain law of joins: the join does not depend on the order, both are instances of it, it is no longer than either, and it is alike the first exactly if the second is an instance of the first; names come in order. No program.
-/
import Derived.Test.YtidigpfiagjeiaaBnd
namespace Go.Proofs.Ytidigpfiagjeiaa
open Go Go.RowKit Go.Maps
def swK (k : KK) : KK := (k.2, k.1)
theorem swK_swK (k : KK) : swK (swK k) = k := rfl
theorem swK_mem {σ : List KK} {k : KK} : swK k ∈ σ.map swK ↔ k ∈ σ := by
  constructor
  · intro h
    obtain ⟨z, h1, h2⟩ := List.mem_map.1 h
    have : z = k := by rw [← swK_swK z, h2, swK_swK]
    exact this ▸ h1
  · exact fun h => List.mem_map.2 ⟨k, h, rfl⟩
theorem swK_ins (σ : List KK) (k : KK) : insK (σ.map swK) (swK k) = (insK σ k).map swK := by
  unfold insK
  by_cases h : k ∈ σ
  · rw [if_pos h, if_pos (swK_mem.2 h)]
  · rw [if_neg h, if_neg (fun hh => h (swK_mem.1 hh))]; simp
theorem swK_idx : ∀ (σ : List KK) (k : KK), (σ.map swK).idxOf (swK k) = σ.idxOf k
  | [], _ => rfl
  | z :: σ, k => by
    rw [List.map_cons, List.idxOf_cons, List.idxOf_cons, swK_idx σ k]
    have : (swK z == swK k) = (z == k) := by
      rw [Bool.eq_iff_iff, beq_iff_eq, beq_iff_eq]
      exact ⟨fun h => by rw [← swK_swK z, h, swK_swK], fun h => by rw [h]⟩
    rw [this]
theorem swK_num (σ : List KK) (k : KK) : numK (σ.map swK) (swK k) = numK σ k := by
  unfold numK
  rw [swK_idx]
theorem com_swap (s : Sg) : ∀ (f : Nat) (a b : List Int) (σ : List KK), com s f b a (σ.map swK) = ((com s f a b σ).1, (com s f a b σ).2.map swK) := by
  intro f
  induction f with
  | zero => intro a b σ; rfl
  | succ f ih =>
    intro a b σ
    cases a with
    | nil => rw [com_nil, com_nil2]
    | cons x a =>
      cases b with
      | nil => rw [com_nil2, com_nil]
      | cons y b =>
        simp only [com]
        by_cases h : x = y ∧ 0 ≤ x
        · obtain ⟨rfl, h0⟩ := h
          rw [if_pos ⟨rfl, h0⟩, if_pos ⟨rfl, h0⟩, ih]
        · rw [if_neg h, if_neg (show ¬ (y = x ∧ 0 ≤ y) from fun hh => h ⟨hh.1.symm, hh.1 ▸ hh.2⟩)]
          have e := swK_num σ (keyL ((x :: a).take (pLen s (x :: a) 1)), keyL ((y :: b).take (pLen s (y :: b) 1)))
          have e2 := swK_ins σ (keyL ((x :: a).take (pLen s (x :: a) 1)), keyL ((y :: b).take (pLen s (y :: b) 1)))
          unfold swK at e e2 ih
          simp only at e e2 ih
          unfold swK
          rw [e, e2, ih]
theorem comW_swap (s : Sg) (a b : List Int) : (comW s b a []).1 = (comW s a b []).1 := by
  have h1 := com_swap s (a.length + b.length) a b []
  have h2 := com_fuel s b.length (a.length + b.length) b a [] (Nat.le_refl _) (by omega)
  have h3 := com_fuel s a.length (a.length + b.length) a b [] (Nat.le_refl _) (by omega)
  unfold comW
  rw [h2, h3]
  rw [List.map_nil] at h1
  rw [h1]
theorem JoinR.swap {s : Sg} {a b : List Int} {x y : List Int × Int} (h : JoinR s a b x) (k : JoinR s b a y) : x = y := by
  unfold JoinR at h k
  rw [h, k, comW_swap, Bool.and_comm]
/-- the names from -1 down. -/
def nmsL (n : Nat) : List Int := (List.range n).map fun (i : Nat) => -(i : Int) - 1
theorem nmsL_mem {n : Nat} {k : Nat} : (-(k : Int) - 1) ∈ nmsL n ↔ k < n := by
  unfold nmsL
  rw [List.mem_map]
  constructor
  · rintro ⟨i, hi, h⟩
    have := List.mem_range.1 hi
    omega
  · exact fun h => ⟨k, List.mem_range.2 h, rfl⟩
theorem nmsL_succ (n : Nat) : nmsL (n + 1) = nmsL n ++ [-(n : Int) - 1] := by
  unfold nmsL
  rw [List.range_succ, List.map_append]; rfl
theorem nmsL_idx : ∀ {n k : Nat}, k < n → (nmsL n).idxOf (-(k : Int) - 1) = k
  | 0, k, h => by omega
  | n + 1, k, h => by
    rw [nmsL_succ, List.idxOf_append]
    by_cases hk : k < n
    · rw [if_pos (nmsL_mem.2 hk), nmsL_idx hk]
    · have : k = n := by omega
      subst this
      rw [if_neg (fun hh => hk (nmsL_mem.1 hh))]
      have hl : (nmsL k).length = k := by simp [nmsL]
      rw [hl]
      simp
theorem com_vars (s : Sg) : ∀ (f : Nat) (a b : List Int) (σ : List KK), varsF (nmsL σ.length) (com s f a b σ).1 = nmsL (com s f a b σ).2.length ∧ ∀ x ∈ (com s f a b σ).1, x < 0 → x ∈ nmsL (com s f a b σ).2.length := by
  intro f
  induction f with
  | zero => intro a b σ; exact ⟨rfl, by simp [com]⟩
  | succ f ih =>
    intro a b σ
    cases a with
    | nil => rw [com_nil]; exact ⟨rfl, by simp⟩
    | cons x a =>
      cases b with
      | nil => rw [com_nil2]; exact ⟨rfl, by simp⟩
      | cons y b =>
        simp only [com]
        by_cases h : x = y ∧ 0 ≤ x
        · rw [if_pos h]
          obtain ⟨h1, h2⟩ := ih a b σ
          refine ⟨?_, ?_⟩
          · simp only [varsF]
            rw [if_neg (by omega)]
            exact h1
          · intro z hz hz0
            simp only [List.mem_cons] at hz
            rcases hz with rfl | hz
            · omega
            · exact h2 z hz hz0
        · rw [if_neg h]
          obtain ⟨k, hk⟩ : ∃ k : KK, (keyL ((x :: a).take (pLen s (x :: a) 1)), keyL ((y :: b).take (pLen s (y :: b) 1))) = k := ⟨_, rfl⟩
          simp only [hk]
          obtain ⟨h1, h2⟩ := ih ((x :: a).drop (pLen s (x :: a) 1)) ((y :: b).drop (pLen s (y :: b) 1)) (insK σ k)
          have hv : varsF (nmsL σ.length) (numK σ k :: (com s f ((x :: a).drop (pLen s (x :: a) 1)) ((y :: b).drop (pLen s (y :: b) 1)) (insK σ k)).1) = nmsL (com s f ((x :: a).drop (pLen s (x :: a) 1)) ((y :: b).drop (pLen s (y :: b) 1)) (insK σ k)).2.length := by
            simp only [varsF]
            by_cases hm : k ∈ σ
            · have hi := List.idxOf_lt_length_of_mem hm
              have hin : insK σ k = σ := by unfold insK; rw [if_pos hm]
              rw [if_neg (fun hh => hh.2 (nmsL_mem.2 hi))]
              rw [hin] at h1 ⊢
              exact h1
            · have hi : σ.idxOf k = σ.length := List.idxOf_eq_length hm
              have hin : insK σ k = σ ++ [k] := by unfold insK; rw [if_neg hm]
              have hn : numK σ k = -(σ.length : Int) - 1 := by unfold numK; rw [hi]
              rw [hn, if_pos ⟨by omega, fun hh => by have := nmsL_mem.1 hh; omega⟩, ← nmsL_succ]
              rw [hin] at h1 ⊢
              rw [List.length_append, List.length_singleton] at h1
              exact h1
          refine ⟨hv, fun z hz hz0 => ?_⟩
          rw [← hv]
          exact (varsF_mem _ _ z).2 (Or.inr ⟨hz, hz0⟩)
theorem com_canon (s : Sg) (a b : List Int) : canonL (comW s a b []).1 = (comW s a b []).1 := by
  obtain ⟨h1, h2⟩ := com_vars s a.length a b []
  unfold comW canonL
  rw [show varsF [] (com s a.length a b []).1 = nmsL (com s a.length a b []).2.length from h1]
  refine (List.map_congr_left fun z hz => ?_).trans (List.map_id' _)
  unfold numV
  split
  · rename_i hz0
    have hm := h2 z hz hz0
    obtain ⟨i, hi, rfl⟩ := List.mem_map.1 hm
    rw [nmsL_idx (List.mem_range.1 hi)]
  · rfl
theorem join_both {s : Sg} {a b : List Int} {x : List Int × Int} (h : JoinR s a b x) (h0 : x.2 = 0) : instB s x.1 a = true ∧ instB s x.1 b = true ∧ x.1.length ≤ a.length ∧ x.1.length ≤ b.length ∧ alikeB s x.1 x.1 = true ∧ instB s a b = alikeB s x.1 a := by
  unfold JoinR at h
  split at h
  · rename_i hv
    simp only [Bool.and_eq_true] at hv
    have ha := termB_T hv.1
    have hb := termB_T hv.2
    have hf := termB_facts hv.1
    have hfb := termB_facts hv.2
    obtain ⟨j1, j2, j3, j4⟩ := join_facts hf.2.2.1 ha hb hf.2.2.2
    have hl1 := (comW_len s a b []).1
    have hl2 := (comW_len s b a []).1
    rw [comW_swap] at hl2
    split at h
    · rename_i hvl
      subst h
      simp only
      have hT := canonL_T j1 hvl
      have hx := T_termB hf.1 hT (by rw [canonL_len]; omega)
      have i1 : Inst s 60 (canonL (comW s a b []).1) (comW s a b []).1 := inst_canon j1
      have ia : instB s (canonL (comW s a b []).1) a = true := instB_iff.2 ⟨hx, hv.1, Inst.down (q := 60) (by omega) hT ha (i1.trans j2)⟩
      have ib : instB s (canonL (comW s a b []).1) b = true := instB_iff.2 ⟨hx, hv.2, Inst.down (q := 60) (by omega) hT hb (i1.trans j3)⟩
      refine ⟨ia, ib, by rw [canonL_len]; omega, by rw [canonL_len]; omega, alikeB_iff.2 ⟨by rw [instB_refl, hx], by rw [instB_refl, hx]⟩, ?_⟩
      rw [Bool.eq_iff_iff, alikeB_iff]
      constructor
      · intro hi
        obtain ⟨_, _, hi⟩ := instB_iff.1 hi
        have := j4 a (Inst.refl ha) hi
        exact ⟨ia, instB_iff.2 ⟨hv.1, hx, Inst.down (q := 60) (by omega) ha hT (this.trans (canon_inst (hT.mono (by omega)) (canonL_canon _).symm))⟩⟩
      · intro hal
        exact instB_trans hal.2 ib
    · subst h; simp at h0
  · subst h; simp at h0
end Go.Proofs.Ytidigpfiagjeiaa
