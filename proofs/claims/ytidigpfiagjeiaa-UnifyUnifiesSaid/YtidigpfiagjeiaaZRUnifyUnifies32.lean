/-
  WHAT IT HOLDS: plain laws of meets and joins: a common instance is one of the meet; what has both as instances has the join; meets and joins are valid. No program in sight.
  WHAT IT HOLDS: the plain law of meets: the meet does not depend on the order, is an instance of both, and is alike the second exactly if that is an instance of the first. No program.
  WHAT IT HOLDS: the plain law that most general binds speak only of the variables of the two terms; and what it gives for unifiers that are told. No program. Condition: a valid sign.
  WHAT IT HOLDS: the plain law of joins: the join does not depend on the order, both are instances of it, it is no longer than either, and it is alike the first exactly if the second is an instance of the first; names come in order. No program.
-/
import Derived.Test.YtidigpfiagjeiaaZRUnifyUnifies22
import Derived.Test.YtidigpfiagjeiaaZRUnifyUnifies14
import Derived.Test.YtidigpfiagjeiaaZRUnifyUnifies31
namespace Go.Proofs.Ytidigpfiagjeiaa
theorem unif_of_inst {s : Sg} {a b c : List Int} (ha : IsT s 12 a) (hb : IsT s 12 b) (h0 : Inst s 12 a c) (h1 : Inst s 12 b c) : ∃ σ : Int → List Int, (∀ v, -24 ≤ v → v < 0 → IsT s 12 (σ v)) ∧ subL σ a = c ∧ subL σ (aparL b) = c := by
  obtain ⟨σ0, g0, e0⟩ := h0
  obtain ⟨σ1, g1, e1⟩ := h1
  refine ⟨fun n => if -12 ≤ n then (if n ∈ a then σ0 n else [n]) else (if n + 12 ∈ b then σ1 (n + 12) else [-1]), fun v h1 h2 => ?_, ?_, ?_⟩
  · (try simp only)
    split
    · split
      · rename_i h; exact g0 v h h2
      · exact .var v (by omega) h2
    · split
      · rename_i h; exact g1 _ h (by omega)
      · exact .var _ (by omega) (by omega)
  · rw [← e0]
    refine subL_congr fun n hn hn0 => ?_
    have := ha.vars n hn hn0
    (try simp only)
    rw [if_pos (by omega), if_pos hn]
  · rw [← e1, aparL_sub, subL_comp]
    refine subL_congr fun n hn hn0 => ?_
    (try simp only)
    rw [subL_one, if_pos (by omega), if_neg (by omega), show n - 12 + 12 = n by omega, if_pos hn]
theorem madeB_iff {F : List Int} : madeB F = true ↔ F.length ≤ 60 ∧ (varsF [] F).length ≤ 12 := by simp [madeB]
theorem made_term {s : Sg} {q : Int} {F : List Int} (hs : signB s = true) (hT : IsT s q F) (h : madeB F = true) : termB s (canonL F) = true := by
  obtain ⟨h1, h2⟩ := madeB_iff.1 h
  exact T_termB hs (canonL_T hT h2) (by rw [canonL_len]; exact h1)
theorem bounds_meet {s : Sg} {t0 t1 t2 : List Int} {x : List Int × Int} (h0 : instB s t0 t2 = true) (h1 : instB s t1 t2 = true) (hx : MeetR s t0 t1 x) : (¬ NoU s t0 (aparL t1)) ∧ ((x.2 = 0 ∧ instB s x.1 t2 = true) ∨ x.2 = 4) := by
  obtain ⟨v0, v2, i0⟩ := instB_iff.1 h0
  obtain ⟨v1, _, i1⟩ := instB_iff.1 h1
  have T0 := termB_T v0
  have T1 := termB_T v1
  have T2 := termB_T v2
  obtain ⟨σ, g, e0, e1⟩ := unif_of_inst T0 T1 i0 i1
  have hTS : TS s σ := ⟨12, g⟩
  have hno : ¬ NoU s t0 (aparL t1) := fun h => h σ hTS (e0.trans e1.symm)
  refine ⟨hno, ?_⟩
  unfold MeetR at hx
  rw [v0, v1] at hx
  simp only [Bool.and_self, if_true] at hx
  rcases hx with ⟨h, _⟩ | ⟨m, hm, ⟨hb, rfl⟩ | ⟨hb, rfl⟩⟩
  · exact absurd h hno
  · left
    refine ⟨rfl, ?_⟩
    have hF := fw_T hm.1 (T0.mono (m' := 24) (by omega))
    have hv := made_term (termB_facts v0).1 hF hb
    refine instB_iff.2 ⟨hv, v2, Inst.down (q := 24) (by omega) (termB_T hv) T2 ((inst_canon hF).trans ⟨σ, fun n hn hn0 => (g n (hF.vars n hn hn0) hn0).mono (by omega), ?_⟩)⟩
    rw [hm.gen hTS (e0.trans e1.symm), e0]
  · exact Or.inr rfl
theorem bounds_join {s : Sg} {t0 t1 t2 : List Int} {x : List Int × Int} (h0 : instB s t2 t0 = true) (h1 : instB s t2 t1 = true) (hx : JoinR s t0 t1 x) : (x.2 = 0 ∧ instB s t2 x.1 = true) ∨ x.2 = 4 := by
  obtain ⟨v2, v0, i0⟩ := instB_iff.1 h0
  obtain ⟨_, v1, i1⟩ := instB_iff.1 h1
  have T0 := termB_T v0
  have T1 := termB_T v1
  have T2 := termB_T v2
  have hf := termB_facts v0
  obtain ⟨j1, j2, j3, j4⟩ := join_facts hf.2.2.1 T0 T1 hf.2.2.2
  have hl := (comW_len s t0 t1 []).1
  unfold JoinR at hx
  rw [v0, v1] at hx
  simp only [Bool.and_self, if_true] at hx
  by_cases hv : (varsF [] (comW s t0 t1 []).1).length ≤ 12
  · rw [if_pos hv] at hx
    subst hx
    left
    refine ⟨rfl, ?_⟩
    have hT := canonL_T j1 hv
    have hx := T_termB hf.1 hT (by rw [canonL_len]; omega)
    refine instB_iff.2 ⟨v2, hx, Inst.down (q := 60) (by omega) T2 hT ((j4 t2 i0 i1).trans (canon_inst (hT.mono (by omega)) (canonL_canon _).symm))⟩
  · rw [if_neg hv] at hx
    subst hx
    exact Or.inr rfl
end Go.Proofs.Ytidigpfiagjeiaa
namespace Go.Proofs.Ytidigpfiagjeiaa
open Go Go.RowKit Go.Maps
/-- the variables of the two sides change places. -/
def swN (n : Int) : Int := if -12 ≤ n then n - 12 else n + 12
theorem sw_sub {s : Sg} {a b : List Int} (ha : IsT s 12 a) (hb : IsT s 12 b) {σ : Int → List Int} (h : TS s σ) (e : subL σ a = subL σ (aparL b)) :
    TS s (fun n => σ (swN n)) ∧ subL (fun n => σ (swN n)) b = subL σ a ∧ subL (fun n => σ (swN n)) (aparL a) = subL σ a := by
  obtain ⟨q, hq⟩ := h
  refine ⟨⟨q, fun v h1 h2 => ?_⟩, ?_, ?_⟩
  · unfold swN
    (try simp only)
    split <;> exact hq _ (by omega) (by omega)
  · rw [e, aparL_sub, subL_comp]
    refine subL_congr fun n hn hn0 => ?_
    have := hb.vars n hn hn0
    (try simp only)
    rw [subL_one, if_pos (by omega), swN, if_pos (by omega)]
  · rw [aparL_sub, subL_comp]
    refine subL_congr fun n hn hn0 => ?_
    have := ha.vars n hn hn0
    (try simp only)
    rw [subL_one, if_pos (by omega), swN, if_neg (by omega), show n - 12 + 12 = n by omega]
theorem nou_swap {s : Sg} {a b : List Int} (ha : IsT s 12 a) (hb : IsT s 12 b) (h : NoU s b (aparL a)) : NoU s a (aparL b) := fun σ hσ e => by
  obtain ⟨h1, h2, h3⟩ := sw_sub ha hb hσ e
  exact h _ h1 (h2.trans h3.symm)
theorem mgu_swap1 {s : Sg} {a b : List Int} {m m' : MM} (ha : IsT s 12 a) (hb : IsT s 12 b) (h : Mgu s a (aparL b) m) (h' : Mgu s b (aparL a) m') : Inst s 24 (fw m' b) (fw m a) := by
  obtain ⟨h1, h2, h3⟩ := sw_sub ha hb (sg_TS h.1) h.sol
  have hg := h'.gen h1 (h2.trans h3.symm) b
  refine ⟨fun n => sg m (swN n), fun n hn hn0 => ?_, ?_⟩
  · have hv := (fw_T h'.1 (hb.mono (m' := 24) (by omega))).vars n hn hn0
    (try simp only)
    refine sg_T h.1 ?_ ?_ <;> (unfold swN; split <;> omega)
  · rw [hg, h2, fw_sub h.1]
theorem mgu_swap {s : Sg} {a b : List Int} {m m' : MM} (ha : IsT s 12 a) (hb : IsT s 12 b) (h : Mgu s a (aparL b) m) (h' : Mgu s b (aparL a) m') : canonL (fw m a) = canonL (fw m' b) :=
  (alike_iff (fw_T h.1 (ha.mono (by omega))) (fw_T h'.1 (hb.mono (by omega)))).2 ⟨mgu_swap1 hb ha h' h, mgu_swap1 ha hb h h'⟩
theorem MeetR.unique {s : Sg} {a b : List Int} {x y : List Int × Int} (h : MeetR s a b x) (k : MeetR s a b y) : x = y := by
  unfold MeetR at h k
  split at h
  · rename_i hv
    rw [if_pos hv] at k
    simp only [Bool.and_eq_true] at hv
    exact UR.unique ((termB_T hv.1).mono (by omega)) h k
  · rename_i hv
    rw [if_neg hv] at k
    rw [h, k]
theorem MeetR.swap {s : Sg} {a b : List Int} {x y : List Int × Int} (h : MeetR s a b x) (k : MeetR s b a y) : x = y := by
  unfold MeetR at h k
  rw [Bool.and_comm] at k
  split at h
  · rename_i hv
    rw [if_pos hv] at k
    simp only [Bool.and_eq_true] at hv
    have ha := termB_T hv.1
    have hb := termB_T hv.2
    rcases h with ⟨h1, rfl⟩ | ⟨m, hm, h⟩
    · rcases k with ⟨_, rfl⟩ | ⟨m', hm', _⟩
      · rfl
      · exact (hm'.not_no (nou_swap hb ha h1)).elim
    · rcases k with ⟨k1, _⟩ | ⟨m', hm', k⟩
      · exact (hm.not_no (nou_swap ha hb k1)).elim
      · have hc := mgu_swap ha hb hm hm'
        have hb := madeB_canon hc
        rcases h with ⟨h1, rfl⟩ | ⟨h1, rfl⟩ <;> rcases k with ⟨k1, rfl⟩ | ⟨k1, rfl⟩
        · rw [hc]
        · rw [hb, k1] at h1; cases h1
        · rw [hb, k1] at h1; cases h1
        · rfl
  · rename_i hv
    rw [if_neg hv] at k
    rw [h, k]
/-- what is made is an instance of both. -/
theorem meet_both {s : Sg} {a b : List Int} {x : List Int × Int} (h : MeetR s a b x) (h0 : x.2 = 0) : instB s a x.1 = true ∧ instB s b x.1 = true := by
  unfold MeetR at h
  split at h
  · rename_i hv
    simp only [Bool.and_eq_true] at hv
    have ha := termB_T hv.1
    have hb := termB_T hv.2
    rcases h with ⟨_, rfl⟩ | ⟨m, hm, ⟨hmb, rfl⟩ | ⟨_, rfl⟩⟩
    · simp at h0
    · have hF := fw_T hm.1 (ha.mono (m' := 24) (by omega))
      have hT := made_term (termB_facts hv.1).1 hF hmb
      have hC : Inst s 24 (fw m a) (canonL (fw m a)) := canon_inst ((termB_T hT).mono (by omega)) (canonL_canon _).symm
      refine ⟨instB_iff.2 ⟨hv.1, hT, Inst.down (q := 24) (by omega) ha (termB_T hT) (Inst.trans ⟨sg m, fun n hn hn0 => ?_, ?_⟩ hC)⟩, instB_iff.2 ⟨hv.2, hT, Inst.down (q := 24) (by omega) hb (termB_T hT) (Inst.trans ⟨fun n => sg m (n - 12), fun n hn hn0 => ?_, ?_⟩ hC)⟩⟩
      · have := ha.vars n hn hn0
        exact sg_T hm.1 (by omega) hn0
      · exact (fw_sub hm.1 a).symm
      · have := hb.vars n hn hn0
        exact sg_T hm.1 (by omega) (by omega)
      · rw [fw_sub hm.1, hm.sol, aparL_sub, subL_comp]
        refine (subL_congr fun n hn hn0 => ?_).symm
        have := hb.vars n hn hn0
        (try simp only)
        rw [subL_one, if_pos (by omega)]
    · simp at h0
  · rw [h] at h0; simp at h0
theorem nodup_bound_m : ∀ (n : Nat) (l : List Int), l.Nodup → (∀ x ∈ l, -(n : Int) ≤ x ∧ x < 0) → l.length ≤ n := by
  intro n
  induction n with
  | zero => intro l _ h; cases l with
    | nil => simp
    | cons a l => have := h a (by simp); omega
  | succ n ih =>
    intro l hd h
    have h1 := ih (l.erase (-((n + 1 : Nat) : Int))) (hd.erase _) fun x hx => by
      have h2 := (List.Nodup.mem_erase_iff hd).1 hx
      have := h x h2.2
      have := h2.1
      omega
    have h3 := List.length_erase (a := (-((n + 1 : Nat) : Int))) (l := l)
    split at h3 <;> omega
theorem vars_le_m {s : Sg} {t : List Int} (h : IsT s 12 t) : (varsF [] t).length ≤ 12 :=
  nodup_bound_m 12 _ (varsF_nodup t [] (by simp)) fun x hx => by
    rcases (varsF_mem t [] x).1 hx with h1 | h1
    · simp at h1
    · have := h.vars x h1.1 h1.2
      omega
theorem meet_inst {s : Sg} {a b : List Int} {x : List Int × Int} (h : MeetR s a b x) (hi : instB s a b = true) : x = (canonL b, 0) := by
  obtain ⟨va, vb, hi⟩ := instB_iff.1 hi
  have ha := termB_T va
  have hb := termB_T vb
  unfold MeetR at h
  rw [va, vb] at h
  simp only [Bool.and_self, if_true] at h
  obtain ⟨σ, g, e0, e1⟩ := unif_of_inst ha hb hi (Inst.refl hb)
  have hTS : TS s σ := ⟨12, g⟩
  rcases h with ⟨h, _⟩ | ⟨m, hm, h⟩
  · exact absurd (e0.trans e1.symm) (h σ hTS)
  · have hF := fw_T hm.1 (ha.mono (m' := 24) (by omega))
    have i1 : Inst s 24 (fw m a) b := ⟨σ, fun n hn hn0 => (g n (hF.vars n hn hn0) hn0).mono (by omega), by rw [hm.gen hTS (e0.trans e1.symm), e0]⟩
    have i2 : Inst s 24 b (fw m a) := ⟨fun n => sg m (n - 12), fun n hn hn0 => by have := hb.vars n hn hn0; exact sg_T hm.1 (by omega) (by omega), by
      rw [fw_sub hm.1, hm.sol, aparL_sub, subL_comp]
      refine (subL_congr fun n hn hn0 => ?_)
      have := hb.vars n hn hn0
      (try simp only)
      rw [subL_one, if_pos (by omega)]⟩
    have hc : canonL (fw m a) = canonL b := (alike_iff hF (hb.mono (by omega))).2 ⟨i1, i2⟩
    have hmb : madeB (fw m a) = true := by
      rw [madeB_canon hc]
      exact madeB_iff.2 ⟨(termB_facts vb).2.2.2, vars_le_m hb⟩
    rcases h with ⟨_, rfl⟩ | ⟨h, _⟩
    · rw [hc]
    · rw [hmb] at h; cases h
theorem meet_iff {s : Sg} {a b : List Int} {x : List Int × Int} (h : MeetR s a b x) (h0 : x.2 = 0) : instB s a b = alikeB s x.1 b := by
  have hbo := meet_both h h0
  rw [Bool.eq_iff_iff]
  constructor
  · intro hi
    have e := meet_inst h hi
    have e1 : x.1 = canonL b := by rw [e]
    have v1 := (instB_iff.1 hbo.1).2.1
    have v2 := (instB_iff.1 hi).2.1
    unfold alikeB
    rw [v1, v2, e1, canonL_canon]
    simp
  · intro hal
    exact instB_trans hbo.1 (alikeB_iff.1 hal).1
theorem meet_self {s : Sg} {a b : List Int} {x : List Int × Int} (h : MeetR s a b x) (h0 : x.2 = 0) : alikeB s x.1 x.1 = true := by
  have v := (instB_iff.1 (meet_both h h0).1).2.1
  exact alikeB_iff.2 ⟨by rw [instB_refl, v], by rw [instB_refl, v]⟩
theorem meet_not {s : Sg} {a b : List Int} {x : List Int × Int} (h : MeetR s a b x) (h0 : x.2 ≠ 0) : instB s a b = false := by
  cases hi : instB s a b
  · rfl
  · exact absurd (by rw [meet_inst h hi]) h0
theorem MeetsA.unique {s : Sg} {a b : List Int} {z z' : Bool} (h : MeetsA s a b z) (k : MeetsA s a b z') : z = z' := Bool.eq_iff_iff.2 (h.trans k.symm)
end Go.Proofs.Ytidigpfiagjeiaa
namespace Go.Proofs.Ytidigpfiagjeiaa
open Go Go.RowKit Go.Maps
/-- the same, but longer at one variable. -/
def lgr (σ : Int → List Int) (z : Int) : Int → List Int := fun n => if n = z then 0 :: (σ z ++ σ z) else σ n
theorem lgr_ne {σ : Int → List Int} {z n : Int} (h : n ≠ z) : lgr σ z n = σ n := by simp [lgr, h]
theorem signB_len' {s : Sg} (h : signB s = true) : 0 < s.length ∧ arOf s ((0 : Nat) : Int) = 2 := by
  unfold signB at h
  simp only [Bool.and_eq_true] at h
  have h1 := inB_true.1 h.1.1
  refine ⟨by omega, ?_⟩
  have h0 : 0 < s.length := by omega
  have h2 := h.1.2
  rw [List.getElem?_eq_getElem h0] at h2
  unfold arOf
  simp [h0]
  simpa using h2
theorem lgr_TS {s : Sg} {σ : Int → List Int} {z : Int} (hs : signB s = true) (h : TS s σ) (h1 : -24 ≤ z) (h2 : z < 0) : TS s (lgr σ z) := by
  obtain ⟨q, hq⟩ := h
  refine ⟨q, fun v a b => ?_⟩
  unfold lgr
  split
  · have hl := signB_len' hs
    have := IsT.app (s := s) (m := q) 0 [σ z, σ z] (by omega) (by rw [show arOf s ((0 : Nat) : Int) = 2 from hl.2]; rfl) (by
      intro a ha
      simp at ha
      subst ha
      exact hq z h1 h2)
    simpa using this
  · exact hq v a b
theorem lgr_sub {σ : Int → List Int} {z : Int} {t : List Int} (h : z ∉ t) : subL (lgr σ z) t = subL σ t := subL_congr fun n hn _ => lgr_ne fun e => h (e ▸ hn)
theorem lgr_len {σ : Int → List Int} {z : Int} (hz : z < 0) : ∀ (t : List Int), (subL σ t).length ≤ (subL (lgr σ z) t).length ∧ (z ∈ t → (subL σ t).length < (subL (lgr σ z) t).length)
  | [] => by simp [subL]
  | x :: t => by
    have ih := lgr_len (σ := σ) hz t
    by_cases hx : x < 0
    · rw [subL_cons_var _ hx, subL_cons_var _ hx, List.length_append, List.length_append]
      by_cases e : x = z
      · subst e
        have : (lgr σ x x).length = 1 + (σ x).length + (σ x).length := by simp [lgr]; omega
        exact ⟨by omega, fun _ => by omega⟩
      · rw [lgr_ne e]
        refine ⟨by omega, fun hm => ?_⟩
        rcases List.mem_cons.1 hm with h | h
        · exact absurd h.symm e
        · have := ih.2 h; omega
    · rw [subL_cons_app _ (by omega), subL_cons_app _ (by omega), List.length_cons, List.length_cons]
      refine ⟨by omega, fun hm => ?_⟩
      rcases List.mem_cons.1 hm with h | h
      · omega
      · have := ih.2 h; omega
theorem mgu_vars {s : Sg} {a b : List Int} {m : MM} (hs : signB s = true) (h : Mgu s a b m) {v : Int} {p : List Int} (hm : m v = some p) : (v ∈ a ∨ v ∈ b) ∧ ∀ x ∈ p, x < 0 → x ∈ a ∨ x ∈ b := by
  have hv := h.1.val v p hm
  have hT := sg_TS h.1
  have hS := sg_sol h.1
  have he := h.sol
  obtain ⟨r, hr, _⟩ := h.1.rank
  have key : ∀ z, -24 ≤ z → z < 0 → ¬ (z ∈ a ∨ z ∈ b) → Sol m (lgr (sg m) z) := by
    intro z h1 h2 h3
    refine (h.2 _ (lgr_TS hs hT h1 h2)).1 ?_
    rw [lgr_sub (fun hh => h3 (Or.inl hh)), lgr_sub (fun hh => h3 (Or.inr hh)), he]
  refine ⟨?_, fun x hx hx0 => ?_⟩
  · by_cases hz : v ∈ a ∨ v ∈ b
    · exact hz
    · exfalso
      have h4 := key v hv.1 hv.2.1 hz v p hm
      have hnp : v ∉ p := fun hh => by have := hr v p hm v hh hv.2.1; omega
      rw [lgr_sub hnp, ← hS v p hm] at h4
      have := congrArg List.length h4
      simp [lgr] at this
      omega
  · by_cases hz : x ∈ a ∨ x ∈ b
    · exact hz
    · exfalso
      have hxr := hv.2.2.1.vars x hx hx0
      have h4 := key x hxr hx0 hz v p hm
      have hne : v ≠ x := fun hh => by have := hr v p hm x hx hx0; rw [hh] at this; omega
      rw [lgr_ne hne, hS v p hm] at h4
      have h5 := (lgr_len (σ := sg m) hx0 p).2 hx
      rw [← h4] at h5
      omega
theorem full_vars {m : MM} {V : Int → Prop} (hV : ∀ v p, m v = some p → ∀ x ∈ p, x < 0 → V x) : ∀ (k : Nat) (t : List Int), (∀ x ∈ t, x < 0 → V x) → ∀ x ∈ full m k t, x < 0 → V x
  | 0, t, h => h
  | k + 1, t, h => by
    intro x hx hx0
    unfold full at hx
    obtain ⟨n, hn, hx⟩ := mem_subL_iff.1 hx
    by_cases hn0 : n < 0
    · rw [if_pos hn0] at hx
      cases hm : m n with
      | none => rw [hm] at hx; simp at hx; subst hx; exact h _ hn hx0
      | some p => rw [hm] at hx; exact full_vars hV k p (hV n p hm) x hx hx0
    · rw [if_neg hn0] at hx
      simp at hx
      omega
theorem fw_vars {s : Sg} {a b : List Int} {m : MM} (hs : signB s = true) (h : Mgu s a b m) {t : List Int} (ht : ∀ x ∈ t, x < 0 → x ∈ a ∨ x ∈ b) : ∀ x ∈ fw m t, x < 0 → x ∈ a ∨ x ∈ b :=
  full_vars (fun v p hm => (mgu_vars hs h hm).2) 25 t ht
theorem IsT.less {s : Sg} {m q : Int} {t : List Int} (h : IsT s m t) : (∀ x ∈ t, x < 0 → -q ≤ x) → IsT s q t := by
  induction h with
  | var n h1 h2 => exact fun hv => .var n (hv n (by simp) h2) h2
  | app c zs h1 h2 h3 ih => exact fun hv => .app c zs h1 h2 fun a ha => ih a ha fun x hx => hv x (List.mem_cons_of_mem _ (List.mem_flatten.2 ⟨a, ha, hx⟩))
/-- what is made of a term of the two has their variables. -/
theorem fw_T12 {s : Sg} {a b : List Int} {m : MM} (hs : signB s = true) (h : Mgu s a b m) (ha : IsT s 12 a) (hb : IsT s 12 b) {t : List Int} (hT : IsT s 24 t) (ht : ∀ x ∈ t, x < 0 → x ∈ a ∨ x ∈ b) : IsT s 12 (fw m t) := by
  refine (fw_T h.1 hT).less fun x hx hx0 => ?_
  rcases fw_vars hs h ht x hx hx0 with h1 | h1
  · exact ha.vars x h1 hx0
  · exact hb.vars x h1 hx0
theorem ofN_TS {s : Sg} {l : BL} (h : bndsB s l = true) : TS s (ofN l) := by
  refine ⟨24, fun v h1 h2 => ?_⟩
  by_cases hv : -12 ≤ v
  · exact (ofN_T h hv h2).1.mono (by omega)
  · have : ofN l v = [v] := by
      rw [← tabP_of h]
      cases hp : tabP l v with
      | none => rfl
      | some p => have := (tabP_range h hp).1; omega
    rw [this]
    exact .var v h1 h2
/-- the law UnifyGeneral, plain: binds that unify two terms are no more general than what Unified tells. -/
theorem general_plain {s : Sg} {a b : List Int} {l : BL} {x : List Int × Int} (hl : bndsB s l = true) (ha : termB s a = true) (hb : termB s b = true) (he : subL (ofN l) a = subL (ofN l) b) (hx : UnifR s a b x) :
    ¬ NoU s a b ∧ ((appR s l a).2 = 0 → x.2 = 0 ∧ instB s x.1 (appR s l a).1 = true) := by
  have hTS := ofN_TS hl
  have hno : ¬ NoU s a b := fun h => h _ hTS he
  refine ⟨hno, fun h0 => ?_⟩
  have hfa := termB_facts ha
  have hTa := termB_T ha
  have hTb := termB_T hb
  have happ : (subL (ofN l) a).length ≤ 60 ∧ (appR s l a).1 = subL (ofN l) a := by
    unfold appR at h0 ⊢
    rw [ha, hl] at h0 ⊢
    simp only [Bool.and_self, if_true] at h0 ⊢
    by_cases h6 : (subL (ofN l) a).length ≤ 60
    · exact ⟨h6, by rw [if_pos h6]⟩
    · rw [if_neg h6] at h0; simp at h0
  unfold UnifR at hx
  rw [ha, hb] at hx
  simp only [Bool.and_self, if_true] at hx
  rcases hx with ⟨h1, _⟩ | ⟨m, hm, hx⟩
  · exact absurd h1 hno
  · have hg := hm.gen hTS he a
    have hT12 := fw_T12 hfa.1 hm hTa hTb (hTa.mono (by omega)) (fun x hx _ => Or.inl hx)
    have hi : Inst s 12 (fw m a) (subL (ofN l) a) := ⟨ofN l, fun n hn h0 => (ofN_T hl (hT12.vars n hn h0) h0).1, hg⟩
    have hlen := (subL_len (s := s) (q := 12) (σ := ofN l) (fw m a) (fun n hn h0 => (ofN_T hl (hT12.vars n hn h0) h0).1)).1
    rw [hg] at hlen
    have hmade : madeB (fw m a) = true := madeB_iff.2 ⟨by omega, vars_le_m hT12⟩
    rcases hx with ⟨_, rfl⟩ | ⟨h2, _⟩
    · refine ⟨rfl, ?_⟩
      rw [happ.2]
      have ht := T_termB hfa.1 (sub_T hl hTa) happ.1
      refine instB_iff.2 ⟨made_term hfa.1 hT12 hmade, ht, ?_⟩
      have i1 : Inst s 12 (canonL (fw m a)) (fw m a) := inst_canon hT12
      exact i1.trans hi
    · rw [hmade] at h2; cases h2
end Go.Proofs.Ytidigpfiagjeiaa
namespace Go.Proofs.Ytidigpfiagjeiaa
open Go Go.RowKit Go.Maps
def swK (k : KK) : KK := (k.2, k.1)
theorem swK_swK (k : KK) : swK (swK k) = k := rfl
theorem swK_mem {σ : List KK} {k : KK} : swK k ∈ σ.map swK ↔ k ∈ σ := by
  constructor
  · intro h
    obtain ⟨z, h1, h2⟩ := List.mem_map.1 h
    have : z = k := by rw [← swK_swK z, h2, swK_swK]
    exact this ▸ h1
  · exact fun h => List.mem_map.2 ⟨k, h, rfl⟩
theorem swK_ins (σ : List KK) (k : KK) : insK (σ.map swK) (swK k) = (insK σ k).map swK := by
  unfold insK
  by_cases h : k ∈ σ
  · rw [if_pos h, if_pos (swK_mem.2 h)]
  · rw [if_neg h, if_neg (fun hh => h (swK_mem.1 hh))]; simp
theorem swK_idx : ∀ (σ : List KK) (k : KK), (σ.map swK).idxOf (swK k) = σ.idxOf k
  | [], _ => rfl
  | z :: σ, k => by
    rw [List.map_cons, List.idxOf_cons, List.idxOf_cons, swK_idx σ k]
    have : (swK z == swK k) = (z == k) := by
      rw [Bool.eq_iff_iff, beq_iff_eq, beq_iff_eq]
      exact ⟨fun h => by rw [← swK_swK z, h, swK_swK], fun h => by rw [h]⟩
    rw [this]
theorem swK_num (σ : List KK) (k : KK) : numK (σ.map swK) (swK k) = numK σ k := by
  unfold numK
  rw [swK_idx]
theorem com_swap (s : Sg) : ∀ (f : Nat) (a b : List Int) (σ : List KK), com s f b a (σ.map swK) = ((com s f a b σ).1, (com s f a b σ).2.map swK) := by
  intro f
  induction f with
  | zero => intro a b σ; rfl
  | succ f ih =>
    intro a b σ
    cases a with
    | nil => rw [com_nil, com_nil2]
    | cons x a =>
      cases b with
      | nil => rw [com_nil2, com_nil]
      | cons y b =>
        simp only [com]
        by_cases h : x = y ∧ 0 ≤ x
        · obtain ⟨rfl, h0⟩ := h
          rw [if_pos ⟨rfl, h0⟩, if_pos ⟨rfl, h0⟩, ih]
        · rw [if_neg h, if_neg (show ¬ (y = x ∧ 0 ≤ y) from fun hh => h ⟨hh.1.symm, hh.1 ▸ hh.2⟩)]
          have e := swK_num σ (keyL ((x :: a).take (pLen s (x :: a) 1)), keyL ((y :: b).take (pLen s (y :: b) 1)))
          have e2 := swK_ins σ (keyL ((x :: a).take (pLen s (x :: a) 1)), keyL ((y :: b).take (pLen s (y :: b) 1)))
          unfold swK at e e2 ih
          simp only at e e2 ih
          unfold swK
          rw [e, e2, ih]
theorem comW_swap (s : Sg) (a b : List Int) : (comW s b a []).1 = (comW s a b []).1 := by
  have h1 := com_swap s (a.length + b.length) a b []
  have h2 := com_fuel s b.length (a.length + b.length) b a [] (Nat.le_refl _) (by omega)
  have h3 := com_fuel s a.length (a.length + b.length) a b [] (Nat.le_refl _) (by omega)
  unfold comW
  rw [h2, h3]
  rw [List.map_nil] at h1
  rw [h1]
theorem JoinR.swap {s : Sg} {a b : List Int} {x y : List Int × Int} (h : JoinR s a b x) (k : JoinR s b a y) : x = y := by
  unfold JoinR at h k
  rw [h, k, comW_swap, Bool.and_comm]
/-- the names from -1 down. -/
def nmsL (n : Nat) : List Int := (List.range n).map fun (i : Nat) => -(i : Int) - 1
theorem nmsL_mem {n : Nat} {k : Nat} : (-(k : Int) - 1) ∈ nmsL n ↔ k < n := by
  unfold nmsL
  rw [List.mem_map]
  constructor
  · rintro ⟨i, hi, h⟩
    have := List.mem_range.1 hi
    omega
  · exact fun h => ⟨k, List.mem_range.2 h, rfl⟩
theorem nmsL_succ (n : Nat) : nmsL (n + 1) = nmsL n ++ [-(n : Int) - 1] := by
  unfold nmsL
  rw [List.range_succ, List.map_append]; rfl
theorem nmsL_idx : ∀ {n k : Nat}, k < n → (nmsL n).idxOf (-(k : Int) - 1) = k
  | 0, k, h => by omega
  | n + 1, k, h => by
    rw [nmsL_succ, List.idxOf_append]
    by_cases hk : k < n
    · rw [if_pos (nmsL_mem.2 hk), nmsL_idx hk]
    · have : k = n := by omega
      subst this
      rw [if_neg (fun hh => hk (nmsL_mem.1 hh))]
      have hl : (nmsL k).length = k := by simp [nmsL]
      rw [hl]
      simp
theorem com_vars (s : Sg) : ∀ (f : Nat) (a b : List Int) (σ : List KK), varsF (nmsL σ.length) (com s f a b σ).1 = nmsL (com s f a b σ).2.length ∧ ∀ x ∈ (com s f a b σ).1, x < 0 → x ∈ nmsL (com s f a b σ).2.length := by
  intro f
  induction f with
  | zero => intro a b σ; exact ⟨rfl, by simp [com]⟩
  | succ f ih =>
    intro a b σ
    cases a with
    | nil => rw [com_nil]; exact ⟨rfl, by simp⟩
    | cons x a =>
      cases b with
      | nil => rw [com_nil2]; exact ⟨rfl, by simp⟩
      | cons y b =>
        simp only [com]
        by_cases h : x = y ∧ 0 ≤ x
        · rw [if_pos h]
          obtain ⟨h1, h2⟩ := ih a b σ
          refine ⟨?_, ?_⟩
          · simp only [varsF]
            rw [if_neg (by omega)]
            exact h1
          · intro z hz hz0
            simp only [List.mem_cons] at hz
            rcases hz with rfl | hz
            · omega
            · exact h2 z hz hz0
        · rw [if_neg h]
          obtain ⟨k, hk⟩ : ∃ k : KK, (keyL ((x :: a).take (pLen s (x :: a) 1)), keyL ((y :: b).take (pLen s (y :: b) 1))) = k := ⟨_, rfl⟩
          simp only [hk]
          obtain ⟨h1, h2⟩ := ih ((x :: a).drop (pLen s (x :: a) 1)) ((y :: b).drop (pLen s (y :: b) 1)) (insK σ k)
          have hv : varsF (nmsL σ.length) (numK σ k :: (com s f ((x :: a).drop (pLen s (x :: a) 1)) ((y :: b).drop (pLen s (y :: b) 1)) (insK σ k)).1) = nmsL (com s f ((x :: a).drop (pLen s (x :: a) 1)) ((y :: b).drop (pLen s (y :: b) 1)) (insK σ k)).2.length := by
            simp only [varsF]
            by_cases hm : k ∈ σ
            · have hi := List.idxOf_lt_length_of_mem hm
              have hin : insK σ k = σ := by unfold insK; rw [if_pos hm]
              rw [if_neg (fun hh => hh.2 (nmsL_mem.2 hi))]
              rw [hin] at h1 ⊢
              exact h1
            · have hi : σ.idxOf k = σ.length := List.idxOf_eq_length hm
              have hin : insK σ k = σ ++ [k] := by unfold insK; rw [if_neg hm]
              have hn : numK σ k = -(σ.length : Int) - 1 := by unfold numK; rw [hi]
              rw [hn, if_pos ⟨by omega, fun hh => by have := nmsL_mem.1 hh; omega⟩, ← nmsL_succ]
              rw [hin] at h1 ⊢
              rw [List.length_append, List.length_singleton] at h1
              exact h1
          refine ⟨hv, fun z hz hz0 => ?_⟩
          rw [← hv]
          exact (varsF_mem _ _ z).2 (Or.inr ⟨hz, hz0⟩)
theorem com_canon (s : Sg) (a b : List Int) : canonL (comW s a b []).1 = (comW s a b []).1 := by
  obtain ⟨h1, h2⟩ := com_vars s a.length a b []
  unfold comW canonL
  rw [show varsF [] (com s a.length a b []).1 = nmsL (com s a.length a b []).2.length from h1]
  refine (List.map_congr_left fun z hz => ?_).trans (List.map_id' _)
  unfold numV
  split
  · rename_i hz0
    have hm := h2 z hz hz0
    obtain ⟨i, hi, rfl⟩ := List.mem_map.1 hm
    rw [nmsL_idx (List.mem_range.1 hi)]
  · rfl
theorem join_both {s : Sg} {a b : List Int} {x : List Int × Int} (h : JoinR s a b x) (h0 : x.2 = 0) : instB s x.1 a = true ∧ instB s x.1 b = true ∧ x.1.length ≤ a.length ∧ x.1.length ≤ b.length ∧ alikeB s x.1 x.1 = true ∧ instB s a b = alikeB s x.1 a := by
  unfold JoinR at h
  split at h
  · rename_i hv
    simp only [Bool.and_eq_true] at hv
    have ha := termB_T hv.1
    have hb := termB_T hv.2
    have hf := termB_facts hv.1
    have hfb := termB_facts hv.2
    obtain ⟨j1, j2, j3, j4⟩ := join_facts hf.2.2.1 ha hb hf.2.2.2
    have hl1 := (comW_len s a b []).1
    have hl2 := (comW_len s b a []).1
    rw [comW_swap] at hl2
    split at h
    · rename_i hvl
      subst h
      simp only
      have hT := canonL_T j1 hvl
      have hx := T_termB hf.1 hT (by rw [canonL_len]; omega)
      have i1 : Inst s 60 (canonL (comW s a b []).1) (comW s a b []).1 := inst_canon j1
      have ia : instB s (canonL (comW s a b []).1) a = true := instB_iff.2 ⟨hx, hv.1, Inst.down (q := 60) (by omega) hT ha (i1.trans j2)⟩
      have ib : instB s (canonL (comW s a b []).1) b = true := instB_iff.2 ⟨hx, hv.2, Inst.down (q := 60) (by omega) hT hb (i1.trans j3)⟩
      refine ⟨ia, ib, by rw [canonL_len]; omega, by rw [canonL_len]; omega, alikeB_iff.2 ⟨by rw [instB_refl, hx], by rw [instB_refl, hx]⟩, ?_⟩
      rw [Bool.eq_iff_iff, alikeB_iff]
      constructor
      · intro hi
        obtain ⟨_, _, hi⟩ := instB_iff.1 hi
        have := j4 a (Inst.refl ha) hi
        exact ⟨ia, instB_iff.2 ⟨hv.1, hx, Inst.down (q := 60) (by omega) ha hT (this.trans (canon_inst (hT.mono (by omega)) (canonL_canon _).symm))⟩⟩
      · intro hal
        exact instB_trans hal.2 ib
    · subst h; simp at h0
  · subst h; simp at h0
end Go.Proofs.Ytidigpfiagjeiaa
