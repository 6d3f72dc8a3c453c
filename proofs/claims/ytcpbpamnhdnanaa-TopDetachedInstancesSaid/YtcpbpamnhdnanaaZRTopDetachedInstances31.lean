/-
  WHAT IT HOLDS: plain laws of meets and joins: a common instance is one of the meet; what has both as instances has the join; meets and joins are valid. No program in sight.
-/
import Derived.Test.YtcpbpamnhdnanaaZRTopDetachedInstances28
import Derived.Test.YtcpbpamnhdnanaaZRTopDetachedInstances19
namespace Go.Proofs.Ytcpbpamnhdnanaa
theorem unif_of_inst {s : Sg} {a b c : List Int} (ha : IsT s 12 a) (hb : IsT s 12 b) (h0 : Inst s 12 a c) (h1 : Inst s 12 b c) : ∃ σ : Int → List Int, (∀ v, -24 ≤ v → v < 0 → IsT s 12 (σ v)) ∧ subL σ a = c ∧ subL σ (aparL b) = c := by
  obtain ⟨σ0, g0, e0⟩ := h0
  obtain ⟨σ1, g1, e1⟩ := h1
  refine ⟨fun n => if -12 ≤ n then (if n ∈ a then σ0 n else [n]) else (if n + 12 ∈ b then σ1 (n + 12) else [-1]), fun v h1 h2 => ?_, ?_, ?_⟩
  · (try simp only)
    split
    · split
      · rename_i h; exact g0 v h h2
      · exact .var v (by omega) h2
    · split
      · rename_i h; exact g1 _ h (by omega)
      · exact .var _ (by omega) (by omega)
  · rw [← e0]
    refine subL_congr fun n hn hn0 => ?_
    have := ha.vars n hn hn0
    (try simp only)
    rw [if_pos (by omega), if_pos hn]
  · rw [← e1, aparL_sub, subL_comp]
    refine subL_congr fun n hn hn0 => ?_
    (try simp only)
    rw [subL_one, if_pos (by omega), if_neg (by omega), show n - 12 + 12 = n by omega, if_pos hn]
theorem madeB_iff {F : List Int} : madeB F = true ↔ F.length ≤ 60 ∧ (varsF [] F).length ≤ 12 := by simp [madeB]
theorem made_term {s : Sg} {q : Int} {F : List Int} (hs : signB s = true) (hT : IsT s q F) (h : madeB F = true) : termB s (canonL F) = true := by
  obtain ⟨h1, h2⟩ := madeB_iff.1 h
  exact T_termB hs (canonL_T hT h2) (by rw [canonL_len]; exact h1)
theorem bounds_meet {s : Sg} {t0 t1 t2 : List Int} {x : List Int × Int} (h0 : instB s t0 t2 = true) (h1 : instB s t1 t2 = true) (hx : MeetR s t0 t1 x) : (¬ NoU s t0 (aparL t1)) ∧ ((x.2 = 0 ∧ instB s x.1 t2 = true) ∨ x.2 = 4) := by
  obtain ⟨v0, v2, i0⟩ := instB_iff.1 h0
  obtain ⟨v1, _, i1⟩ := instB_iff.1 h1
  have T0 := termB_T v0
  have T1 := termB_T v1
  have T2 := termB_T v2
  obtain ⟨σ, g, e0, e1⟩ := unif_of_inst T0 T1 i0 i1
  have hTS : TS s σ := ⟨12, g⟩
  have hno : ¬ NoU s t0 (aparL t1) := fun h => h σ hTS (e0.trans e1.symm)
  refine ⟨hno, ?_⟩
  unfold MeetR at hx
  rw [v0, v1] at hx
  simp only [Bool.and_self, if_true] at hx
  rcases hx with ⟨h, _⟩ | ⟨m, hm, ⟨hb, rfl⟩ | ⟨hb, rfl⟩⟩
  · exact absurd h hno
  · left
    refine ⟨rfl, ?_⟩
    have hF := fw_T hm.1 (T0.mono (m' := 24) (by omega))
    have hv := made_term (termB_facts v0).1 hF hb
    refine instB_iff.2 ⟨hv, v2, Inst.down (q := 24) (by omega) (termB_T hv) T2 ((inst_canon hF).trans ⟨σ, fun n hn hn0 => (g n (hF.vars n hn hn0) hn0).mono (by omega), ?_⟩)⟩
    rw [hm.gen hTS (e0.trans e1.symm), e0]
  · exact Or.inr rfl
theorem bounds_join {s : Sg} {t0 t1 t2 : List Int} {x : List Int × Int} (h0 : instB s t2 t0 = true) (h1 : instB s t2 t1 = true) (hx : JoinR s t0 t1 x) : (x.2 = 0 ∧ instB s t2 x.1 = true) ∨ x.2 = 4 := by
  obtain ⟨v2, v0, i0⟩ := instB_iff.1 h0
  obtain ⟨_, v1, i1⟩ := instB_iff.1 h1
  have T0 := termB_T v0
  have T1 := termB_T v1
  have T2 := termB_T v2
  have hf := termB_facts v0
  obtain ⟨j1, j2, j3, j4⟩ := join_facts hf.2.2.1 T0 T1 hf.2.2.2
  have hl := (comW_len s t0 t1 []).1
  unfold JoinR at hx
  rw [v0, v1] at hx
  simp only [Bool.and_self, if_true] at hx
  by_cases hv : (varsF [] (comW s t0 t1 []).1).length ≤ 12
  · rw [if_pos hv] at hx
    subst hx
    left
    refine ⟨rfl, ?_⟩
    have hT := canonL_T j1 hv
    have hx := T_termB hf.1 hT (by rw [canonL_len]; omega)
    refine instB_iff.2 ⟨v2, hx, Inst.down (q := 60) (by omega) T2 hT ((j4 t2 i0 i1).trans (canon_inst (hT.mono (by omega)) (canonL_canon _).symm))⟩
  · rw [if_neg hv] at hx
    subst hx
    exact Or.inr rfl
end Go.Proofs.Ytcpbpamnhdnanaa
