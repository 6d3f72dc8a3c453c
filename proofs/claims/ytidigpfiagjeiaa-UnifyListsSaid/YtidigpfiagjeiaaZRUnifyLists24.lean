/-
  WHAT IT HOLDS: plain laws of meets and joins: a common instance is one of the meet; what has both as instances has the join; meets and joins are valid. No program in sight.
  WHAT IT HOLDS: the plain law of meets: the meet does not depend on the order, is an instance of both, and is alike the second exactly if that is an instance of the first. No program.
-/
import Derived.Test.YtidigpfiagjeiaaZRUnifyLists23
import Derived.Test.YtidigpfiagjeiaaZRUnifyLists15
namespace Go.Proofs.Ytidigpfiagjeiaa
theorem unif_of_inst {s : Sg} {a b c : List Int} (ha : IsT s 12 a) (hb : IsT s 12 b) (h0 : Inst s 12 a c) (h1 : Inst s 12 b c) : ∃ σ : Int → List Int, (∀ v, -24 ≤ v → v < 0 → IsT s 12 (σ v)) ∧ subL σ a = c ∧ subL σ (aparL b) = c := by
  obtain ⟨σ0, g0, e0⟩ := h0
  obtain ⟨σ1, g1, e1⟩ := h1
  refine ⟨fun n => if -12 ≤ n then (if n ∈ a then σ0 n else [n]) else (if n + 12 ∈ b then σ1 (n + 12) else [-1]), fun v h1 h2 => ?_, ?_, ?_⟩
  · (try simp only)
    split
    · split
      · rename_i h; exact g0 v h h2
      · exact .var v (by omega) h2
    · split
      · rename_i h; exact g1 _ h (by omega)
      · exact .var _ (by omega) (by omega)
  · rw [← e0]
    refine subL_congr fun n hn hn0 => ?_
    have := ha.vars n hn hn0
    (try simp only)
    rw [if_pos (by omega), if_pos hn]
  · rw [← e1, aparL_sub, subL_comp]
    refine subL_congr fun n hn hn0 => ?_
    (try simp only)
    rw [subL_one, if_pos (by omega), if_neg (by omega), show n - 12 + 12 = n by omega, if_pos hn]
theorem madeB_iff {F : List Int} : madeB F = true ↔ F.length ≤ 60 ∧ (varsF [] F).length ≤ 12 := by simp [madeB]
theorem made_term {s : Sg} {q : Int} {F : List Int} (hs : signB s = true) (hT : IsT s q F) (h : madeB F = true) : termB s (canonL F) = true := by
  obtain ⟨h1, h2⟩ := madeB_iff.1 h
  exact T_termB hs (canonL_T hT h2) (by rw [canonL_len]; exact h1)
theorem bounds_meet {s : Sg} {t0 t1 t2 : List Int} {x : List Int × Int} (h0 : instB s t0 t2 = true) (h1 : instB s t1 t2 = true) (hx : MeetR s t0 t1 x) : (¬ NoU s t0 (aparL t1)) ∧ ((x.2 = 0 ∧ instB s x.1 t2 = true) ∨ x.2 = 4) := by
  obtain ⟨v0, v2, i0⟩ := instB_iff.1 h0
  obtain ⟨v1, _, i1⟩ := instB_iff.1 h1
  have T0 := termB_T v0
  have T1 := termB_T v1
  have T2 := termB_T v2
  obtain ⟨σ, g, e0, e1⟩ := unif_of_inst T0 T1 i0 i1
  have hTS : TS s σ := ⟨12, g⟩
  have hno : ¬ NoU s t0 (aparL t1) := fun h => h σ hTS (e0.trans e1.symm)
  refine ⟨hno, ?_⟩
  unfold MeetR at hx
  rw [v0, v1] at hx
  simp only [Bool.and_self, if_true] at hx
  rcases hx with ⟨h, _⟩ | ⟨m, hm, ⟨hb, rfl⟩ | ⟨hb, rfl⟩⟩
  · exact absurd h hno
  · left
    refine ⟨rfl, ?_⟩
    have hF := fw_T hm.1 (T0.mono (m' := 24) (by omega))
    have hv := made_term (termB_facts v0).1 hF hb
    refine instB_iff.2 ⟨hv, v2, Inst.down (q := 24) (by omega) (termB_T hv) T2 ((inst_canon hF).trans ⟨σ, fun n hn hn0 => (g n (hF.vars n hn hn0) hn0).mono (by omega), ?_⟩)⟩
    rw [hm.gen hTS (e0.trans e1.symm), e0]
  · exact Or.inr rfl
theorem bounds_join {s : Sg} {t0 t1 t2 : List Int} {x : List Int × Int} (h0 : instB s t2 t0 = true) (h1 : instB s t2 t1 = true) (hx : JoinR s t0 t1 x) : (x.2 = 0 ∧ instB s t2 x.1 = true) ∨ x.2 = 4 := by
  obtain ⟨v2, v0, i0⟩ := instB_iff.1 h0
  obtain ⟨_, v1, i1⟩ := instB_iff.1 h1
  have T0 := termB_T v0
  have T1 := termB_T v1
  have T2 := termB_T v2
  have hf := termB_facts v0
  obtain ⟨j1, j2, j3, j4⟩ := join_facts hf.2.2.1 T0 T1 hf.2.2.2
  have hl := (comW_len s t0 t1 []).1
  unfold JoinR at hx
  rw [v0, v1] at hx
  simp only [Bool.and_self, if_true] at hx
  by_cases hv : (varsF [] (comW s t0 t1 []).1).length ≤ 12
  · rw [if_pos hv] at hx
    subst hx
    left
    refine ⟨rfl, ?_⟩
    have hT := canonL_T j1 hv
    have hx := T_termB hf.1 hT (by rw [canonL_len]; omega)
    refine instB_iff.2 ⟨v2, hx, Inst.down (q := 60) (by omega) T2 hT ((j4 t2 i0 i1).trans (canon_inst (hT.mono (by omega)) (canonL_canon _).symm))⟩
  · rw [if_neg hv] at hx
    subst hx
    exact Or.inr rfl
end Go.Proofs.Ytidigpfiagjeiaa
namespace Go.Proofs.Ytidigpfiagjeiaa
open Go Go.RowKit Go.Maps
/-- the variables of the two sides change places. -/
def swN (n : Int) : Int := if -12 ≤ n then n - 12 else n + 12
theorem sw_sub {s : Sg} {a b : List Int} (ha : IsT s 12 a) (hb : IsT s 12 b) {σ : Int → List Int} (h : TS s σ) (e : subL σ a = subL σ (aparL b)) :
    TS s (fun n => σ (swN n)) ∧ subL (fun n => σ (swN n)) b = subL σ a ∧ subL (fun n => σ (swN n)) (aparL a) = subL σ a := by
  obtain ⟨q, hq⟩ := h
  refine ⟨⟨q, fun v h1 h2 => ?_⟩, ?_, ?_⟩
  · unfold swN
    (try simp only)
    split <;> exact hq _ (by omega) (by omega)
  · rw [e, aparL_sub, subL_comp]
    refine subL_congr fun n hn hn0 => ?_
    have := hb.vars n hn hn0
    (try simp only)
    rw [subL_one, if_pos (by omega), swN, if_pos (by omega)]
  · rw [aparL_sub, subL_comp]
    refine subL_congr fun n hn hn0 => ?_
    have := ha.vars n hn hn0
    (try simp only)
    rw [subL_one, if_pos (by omega), swN, if_neg (by omega), show n - 12 + 12 = n by omega]
theorem nou_swap {s : Sg} {a b : List Int} (ha : IsT s 12 a) (hb : IsT s 12 b) (h : NoU s b (aparL a)) : NoU s a (aparL b) := fun σ hσ e => by
  obtain ⟨h1, h2, h3⟩ := sw_sub ha hb hσ e
  exact h _ h1 (h2.trans h3.symm)
theorem mgu_swap1 {s : Sg} {a b : List Int} {m m' : MM} (ha : IsT s 12 a) (hb : IsT s 12 b) (h : Mgu s a (aparL b) m) (h' : Mgu s b (aparL a) m') : Inst s 24 (fw m' b) (fw m a) := by
  obtain ⟨h1, h2, h3⟩ := sw_sub ha hb (sg_TS h.1) h.sol
  have hg := h'.gen h1 (h2.trans h3.symm) b
  refine ⟨fun n => sg m (swN n), fun n hn hn0 => ?_, ?_⟩
  · have hv := (fw_T h'.1 (hb.mono (m' := 24) (by omega))).vars n hn hn0
    (try simp only)
    refine sg_T h.1 ?_ ?_ <;> (unfold swN; split <;> omega)
  · rw [hg, h2, fw_sub h.1]
theorem mgu_swap {s : Sg} {a b : List Int} {m m' : MM} (ha : IsT s 12 a) (hb : IsT s 12 b) (h : Mgu s a (aparL b) m) (h' : Mgu s b (aparL a) m') : canonL (fw m a) = canonL (fw m' b) :=
  (alike_iff (fw_T h.1 (ha.mono (by omega))) (fw_T h'.1 (hb.mono (by omega)))).2 ⟨mgu_swap1 hb ha h' h, mgu_swap1 ha hb h h'⟩
theorem MeetR.unique {s : Sg} {a b : List Int} {x y : List Int × Int} (h : MeetR s a b x) (k : MeetR s a b y) : x = y := by
  unfold MeetR at h k
  split at h
  · rename_i hv
    rw [if_pos hv] at k
    simp only [Bool.and_eq_true] at hv
    exact UR.unique ((termB_T hv.1).mono (by omega)) h k
  · rename_i hv
    rw [if_neg hv] at k
    rw [h, k]
theorem MeetR.swap {s : Sg} {a b : List Int} {x y : List Int × Int} (h : MeetR s a b x) (k : MeetR s b a y) : x = y := by
  unfold MeetR at h k
  rw [Bool.and_comm] at k
  split at h
  · rename_i hv
    rw [if_pos hv] at k
    simp only [Bool.and_eq_true] at hv
    have ha := termB_T hv.1
    have hb := termB_T hv.2
    rcases h with ⟨h1, rfl⟩ | ⟨m, hm, h⟩
    · rcases k with ⟨_, rfl⟩ | ⟨m', hm', _⟩
      · rfl
      · exact (hm'.not_no (nou_swap hb ha h1)).elim
    · rcases k with ⟨k1, _⟩ | ⟨m', hm', k⟩
      · exact (hm.not_no (nou_swap ha hb k1)).elim
      · have hc := mgu_swap ha hb hm hm'
        have hb := madeB_canon hc
        rcases h with ⟨h1, rfl⟩ | ⟨h1, rfl⟩ <;> rcases k with ⟨k1, rfl⟩ | ⟨k1, rfl⟩
        · rw [hc]
        · rw [hb, k1] at h1; cases h1
        · rw [hb, k1] at h1; cases h1
        · rfl
  · rename_i hv
    rw [if_neg hv] at k
    rw [h, k]
/-- what is made is an instance of both. -/
theorem meet_both {s : Sg} {a b : List Int} {x : List Int × Int} (h : MeetR s a b x) (h0 : x.2 = 0) : instB s a x.1 = true ∧ instB s b x.1 = true := by
  unfold MeetR at h
  split at h
  · rename_i hv
    simp only [Bool.and_eq_true] at hv
    have ha := termB_T hv.1
    have hb := termB_T hv.2
    rcases h with ⟨_, rfl⟩ | ⟨m, hm, ⟨hmb, rfl⟩ | ⟨_, rfl⟩⟩
    · simp at h0
    · have hF := fw_T hm.1 (ha.mono (m' := 24) (by omega))
      have hT := made_term (termB_facts hv.1).1 hF hmb
      have hC : Inst s 24 (fw m a) (canonL (fw m a)) := canon_inst ((termB_T hT).mono (by omega)) (canonL_canon _).symm
      refine ⟨instB_iff.2 ⟨hv.1, hT, Inst.down (q := 24) (by omega) ha (termB_T hT) (Inst.trans ⟨sg m, fun n hn hn0 => ?_, ?_⟩ hC)⟩, instB_iff.2 ⟨hv.2, hT, Inst.down (q := 24) (by omega) hb (termB_T hT) (Inst.trans ⟨fun n => sg m (n - 12), fun n hn hn0 => ?_, ?_⟩ hC)⟩⟩
      · have := ha.vars n hn hn0
        exact sg_T hm.1 (by omega) hn0
      · exact (fw_sub hm.1 a).symm
      · have := hb.vars n hn hn0
        exact sg_T hm.1 (by omega) (by omega)
      · rw [fw_sub hm.1, hm.sol, aparL_sub, subL_comp]
        refine (subL_congr fun n hn hn0 => ?_).symm
        have := hb.vars n hn hn0
        (try simp only)
        rw [subL_one, if_pos (by omega)]
    · simp at h0
  · rw [h] at h0; simp at h0
theorem nodup_bound_m : ∀ (n : Nat) (l : List Int), l.Nodup → (∀ x ∈ l, -(n : Int) ≤ x ∧ x < 0) → l.length ≤ n := by
  intro n
  induction n with
  | zero => intro l _ h; cases l with
    | nil => simp
    | cons a l => have := h a (by simp); omega
  | succ n ih =>
    intro l hd h
    have h1 := ih (l.erase (-((n + 1 : Nat) : Int))) (hd.erase _) fun x hx => by
      have h2 := (List.Nodup.mem_erase_iff hd).1 hx
      have := h x h2.2
      have := h2.1
      omega
    have h3 := List.length_erase (a := (-((n + 1 : Nat) : Int))) (l := l)
    split at h3 <;> omega
theorem vars_le_m {s : Sg} {t : List Int} (h : IsT s 12 t) : (varsF [] t).length ≤ 12 :=
  nodup_bound_m 12 _ (varsF_nodup t [] (by simp)) fun x hx => by
    rcases (varsF_mem t [] x).1 hx with h1 | h1
    · simp at h1
    · have := h.vars x h1.1 h1.2
      omega
theorem meet_inst {s : Sg} {a b : List Int} {x : List Int × Int} (h : MeetR s a b x) (hi : instB s a b = true) : x = (canonL b, 0) := by
  obtain ⟨va, vb, hi⟩ := instB_iff.1 hi
  have ha := termB_T va
  have hb := termB_T vb
  unfold MeetR at h
  rw [va, vb] at h
  simp only [Bool.and_self, if_true] at h
  obtain ⟨σ, g, e0, e1⟩ := unif_of_inst ha hb hi (Inst.refl hb)
  have hTS : TS s σ := ⟨12, g⟩
  rcases h with ⟨h, _⟩ | ⟨m, hm, h⟩
  · exact absurd (e0.trans e1.symm) (h σ hTS)
  · have hF := fw_T hm.1 (ha.mono (m' := 24) (by omega))
    have i1 : Inst s 24 (fw m a) b := ⟨σ, fun n hn hn0 => (g n (hF.vars n hn hn0) hn0).mono (by omega), by rw [hm.gen hTS (e0.trans e1.symm), e0]⟩
    have i2 : Inst s 24 b (fw m a) := ⟨fun n => sg m (n - 12), fun n hn hn0 => by have := hb.vars n hn hn0; exact sg_T hm.1 (by omega) (by omega), by
      rw [fw_sub hm.1, hm.sol, aparL_sub, subL_comp]
      refine (subL_congr fun n hn hn0 => ?_)
      have := hb.vars n hn hn0
      (try simp only)
      rw [subL_one, if_pos (by omega)]⟩
    have hc : canonL (fw m a) = canonL b := (alike_iff hF (hb.mono (by omega))).2 ⟨i1, i2⟩
    have hmb : madeB (fw m a) = true := by
      rw [madeB_canon hc]
      exact madeB_iff.2 ⟨(termB_facts vb).2.2.2, vars_le_m hb⟩
    rcases h with ⟨_, rfl⟩ | ⟨h, _⟩
    · rw [hc]
    · rw [hmb] at h; cases h
theorem meet_iff {s : Sg} {a b : List Int} {x : List Int × Int} (h : MeetR s a b x) (h0 : x.2 = 0) : instB s a b = alikeB s x.1 b := by
  have hbo := meet_both h h0
  rw [Bool.eq_iff_iff]
  constructor
  · intro hi
    have e := meet_inst h hi
    have e1 : x.1 = canonL b := by rw [e]
    have v1 := (instB_iff.1 hbo.1).2.1
    have v2 := (instB_iff.1 hi).2.1
    unfold alikeB
    rw [v1, v2, e1, canonL_canon]
    simp
  · intro hal
    exact instB_trans hbo.1 (alikeB_iff.1 hal).1
theorem meet_self {s : Sg} {a b : List Int} {x : List Int × Int} (h : MeetR s a b x) (h0 : x.2 = 0) : alikeB s x.1 x.1 = true := by
  have v := (instB_iff.1 (meet_both h h0).1).2.1
  exact alikeB_iff.2 ⟨by rw [instB_refl, v], by rw [instB_refl, v]⟩
theorem meet_not {s : Sg} {a b : List Int} {x : List Int × Int} (h : MeetR s a b x) (h0 : x.2 ≠ 0) : instB s a b = false := by
  cases hi : instB s a b
  · rfl
  · exact absurd (by rw [meet_inst h hi]) h0
theorem MeetsA.unique {s : Sg} {a b : List Int} {z z' : Bool} (h : MeetsA s a b z) (k : MeetsA s a b z') : z = z' := Bool.eq_iff_iff.2 (h.trans k.symm)
end Go.Proofs.Ytidigpfiagjeiaa
