/-
  WHAT IT HOLDS: plain laws of meets and joins: a common instance is one of the meet; what has both as instances has the join; meets and joins are valid. No program in sight.
  WHAT IT HOLDS: contracts of Detached of package unify, halves and Detach of package kernel, and what detaching is (DetR). Conditions: the arguments read as data; small signs.
  WHAT IT HOLDS: contracts of asked of package kernel, and of the two functions that say what a step says. Conditions: the arguments read as data; a small sign.
  WHAT IT HOLDS: the plain law of meets: the meet does not depend on the order, is an instance of both, and is alike the second exactly if that is an instance of the first. No program.
  WHAT IT HOLDS: the plain law of converses: what a converse is, that it is a statement again, that the converse of a converse is alike the statement. No program in sight.
  WHAT IT HOLDS: the plain law of the pairs of names whose statements are an equivalence: one answer alone. No program in sight.
-/
import Derived.Test.YtpflkjldapmgdaaGreatZRCarryConverse28
import Derived.Test.YtpflkjldapmgdaaGreatZRCarryConverse15
import Derived.Test.YtpflkjldapmgdaaGreatZRCarryConverse23
import Derived.Test.YtpflkjldapmgdaaGreatZRCarryConverse18
import Derived.Test.YtpflkjldapmgdaaGreatZRCarryConverse16
import Derived.Test.YtpflkjldapmgdaaGreatZRCarryConverse11
import Derived.Test.YtpflkjldapmgdaaGreatZRCarryConverse17
namespace Go.Proofs.YtpflkjldapmgdaaGreat
theorem unif_of_inst {s : Sg} {a b c : List Int} (ha : IsT s 12 a) (hb : IsT s 12 b) (h0 : Inst s 12 a c) (h1 : Inst s 12 b c) : ∃ σ : Int → List Int, (∀ v, -24 ≤ v → v < 0 → IsT s 12 (σ v)) ∧ subL σ a = c ∧ subL σ (aparL b) = c := by
  obtain ⟨σ0, g0, e0⟩ := h0
  obtain ⟨σ1, g1, e1⟩ := h1
  refine ⟨fun n => if -12 ≤ n then (if n ∈ a then σ0 n else [n]) else (if n + 12 ∈ b then σ1 (n + 12) else [-1]), fun v h1 h2 => ?_, ?_, ?_⟩
  · (try simp only)
    split
    · split
      · rename_i h; exact g0 v h h2
      · exact .var v (by omega) h2
    · split
      · rename_i h; exact g1 _ h (by omega)
      · exact .var _ (by omega) (by omega)
  · rw [← e0]
    refine subL_congr fun n hn hn0 => ?_
    have := ha.vars n hn hn0
    (try simp only)
    rw [if_pos (by omega), if_pos hn]
  · rw [← e1, aparL_sub, subL_comp]
    refine subL_congr fun n hn hn0 => ?_
    (try simp only)
    rw [subL_one, if_pos (by omega), if_neg (by omega), show n - 12 + 12 = n by omega, if_pos hn]
theorem madeB_iff {F : List Int} : madeB F = true ↔ F.length ≤ 60 ∧ (varsF [] F).length ≤ 12 := by simp [madeB]
theorem made_term {s : Sg} {q : Int} {F : List Int} (hs : signB s = true) (hT : IsT s q F) (h : madeB F = true) : termB s (canonL F) = true := by
  obtain ⟨h1, h2⟩ := madeB_iff.1 h
  exact T_termB hs (canonL_T hT h2) (by rw [canonL_len]; exact h1)
theorem bounds_meet {s : Sg} {t0 t1 t2 : List Int} {x : List Int × Int} (h0 : instB s t0 t2 = true) (h1 : instB s t1 t2 = true) (hx : MeetR s t0 t1 x) : (¬ NoU s t0 (aparL t1)) ∧ ((x.2 = 0 ∧ instB s x.1 t2 = true) ∨ x.2 = 4) := by
  obtain ⟨v0, v2, i0⟩ := instB_iff.1 h0
  obtain ⟨v1, _, i1⟩ := instB_iff.1 h1
  have T0 := termB_T v0
  have T1 := termB_T v1
  have T2 := termB_T v2
  obtain ⟨σ, g, e0, e1⟩ := unif_of_inst T0 T1 i0 i1
  have hTS : TS s σ := ⟨12, g⟩
  have hno : ¬ NoU s t0 (aparL t1) := fun h => h σ hTS (e0.trans e1.symm)
  refine ⟨hno, ?_⟩
  unfold MeetR at hx
  rw [v0, v1] at hx
  simp only [Bool.and_self, if_true] at hx
  rcases hx with ⟨h, _⟩ | ⟨m, hm, ⟨hb, rfl⟩ | ⟨hb, rfl⟩⟩
  · exact absurd h hno
  · left
    refine ⟨rfl, ?_⟩
    have hF := fw_T hm.1 (T0.mono (m' := 24) (by omega))
    have hv := made_term (termB_facts v0).1 hF hb
    refine instB_iff.2 ⟨hv, v2, Inst.down (q := 24) (by omega) (termB_T hv) T2 ((inst_canon hF).trans ⟨σ, fun n hn hn0 => (g n (hF.vars n hn hn0) hn0).mono (by omega), ?_⟩)⟩
    rw [hm.gen hTS (e0.trans e1.symm), e0]
  · exact Or.inr rfl
theorem bounds_join {s : Sg} {t0 t1 t2 : List Int} {x : List Int × Int} (h0 : instB s t2 t0 = true) (h1 : instB s t2 t1 = true) (hx : JoinR s t0 t1 x) : (x.2 = 0 ∧ instB s t2 x.1 = true) ∨ x.2 = 4 := by
  obtain ⟨v2, v0, i0⟩ := instB_iff.1 h0
  obtain ⟨_, v1, i1⟩ := instB_iff.1 h1
  have T0 := termB_T v0
  have T1 := termB_T v1
  have T2 := termB_T v2
  have hf := termB_facts v0
  obtain ⟨j1, j2, j3, j4⟩ := join_facts hf.2.2.1 T0 T1 hf.2.2.2
  have hl := (comW_len s t0 t1 []).1
  unfold JoinR at hx
  rw [v0, v1] at hx
  simp only [Bool.and_self, if_true] at hx
  by_cases hv : (varsF [] (comW s t0 t1 []).1).length ≤ 12
  · rw [if_pos hv] at hx
    subst hx
    left
    refine ⟨rfl, ?_⟩
    have hT := canonL_T j1 hv
    have hx := T_termB hf.1 hT (by rw [canonL_len]; omega)
    refine instB_iff.2 ⟨v2, hx, Inst.down (q := 60) (by omega) T2 hT ((j4 t2 i0 i1).trans (canon_inst (hT.mono (by omega)) (canonL_canon _).symm))⟩
  · rw [if_neg hv] at hx
    subst hx
    exact Or.inr rfl
end Go.Proofs.YtpflkjldapmgdaaGreat
namespace Go.Proofs.YtpflkjldapmgdaaGreat
open Go Go.RowKit Go.Maps
/-- what is detached of m and n. -/
def DetR (s : Sg) (m n : List Int) (x : List Int × Int) : Prop :=
  ((termB s m && termB s n) = false ∧ x = ([], 1)) ∨ (termB s m = true ∧ termB s n = true ∧ ((m.head? ≠ some 0 ∧ x = ([], 10)) ∨
    ∃ A B, m = 0 :: (A ++ B) ∧ IsT s 12 A ∧ IsT s 12 B ∧ UR s A (aparL n) B x))
theorem halves_T {s : Sg} {m : List Int} (hv : termB s m = true) (h0 : m.head? = some 0) : ∃ A B, m = 0 :: (A ++ B) ∧ IsT s 12 A ∧ IsT s 12 B ∧ A.length ≤ 60 ∧ B.length ≤ 60 := by
  obtain ⟨f1, -, -, f4⟩ := termB_facts hv
  have hT := termB_T hv
  cases hT with
  | var n h1 h2 => simp at h0; omega
  | app c zs hc hl ha =>
    have hc0 : c = 0 := by simp at h0; omega
    subst hc0
    have har : arOf s ((0 : Nat) : Int) = 2 := by
      unfold signB at f1
      simp only [Bool.and_eq_true] at f1
      have h2 := f1.1.2
      have h0' : 0 < s.length := hc
      rw [List.getElem?_eq_getElem h0'] at h2
      unfold arOf
      simp [h0']
      simpa using h2
    rw [har] at hl
    obtain ⟨A, B, rfl⟩ : ∃ A B, zs = [A, B] := by
      match zs, hl with
      | [A, B], _ => exact ⟨A, B, rfl⟩
      | [], h => simp at h
      | [_], h => simp at h
      | _ :: _ :: _ :: _, h => simp at h; omega
    simp at f4
    exact ⟨A, B, by simp, ha A (by simp), ha B (by simp), by omega, by omega⟩
theorem halves_arP {s : Sg} (f1 : signB s = true) : arP s 0 = 2 := by
  unfold signB at f1
  simp only [Bool.and_eq_true] at f1
  have h1 := inB_true.1 f1.1.1
  have h0 : 0 < s.length := by omega
  have h2 := f1.1.2
  rw [List.getElem?_eq_getElem h0] at h2
  have h3 : s[0].2 = 2 := by simpa using h2
  unfold arP
  rw [show inB 0 (-12) (-1) = false from by decide, if_neg (by simp), if_pos (inB_true.2 ⟨by omega, by omega⟩)]
  unfold arOf
  simp [h0, h3]
set_option maxHeartbeats 1000000 in
theorem unify_Detached (vs va vt vb : Value) (s : Sg) (a t b : List Int) (w : World) (f1 : signB s = true) (ta : IsT s 12 a) (tt : IsT s 12 t) (hb : termB s b = true) (la : a.length ≤ 60) (lt : t.length ≤ 60) (hs : SignAt w vs s) (ra : Ints w va a) (rt : Ints w vt t) (rb : Ints w vb b) (hs1 : s.length ≤ 1000) :
    Calls Tryz.prog 113 #[vs, va, vt, vb] w fun e w' => ∃ x u, UR s a (aparL b) t x ∧ e = .returned (.tuple #[u, .int .i64 x.2]) ∧ w'.ownsRow w.heap.size 3 1 u x.1.length (x.1.map (Value.int .i64)) ∧ Below w.heap.size w w' := by
  have HR : Hid (∀ x, UR s a (aparL b) t x → UR s a (aparL b) t x) := hid (fun _ h => h)
  obtain ⟨_, _, f3, f5⟩ := termB_facts hb
  have tb := termB_T hb
  have hb0 := tb.ne
  have TA := hid (ta.mono (m' := 24) (by omega))
  have TT := hid (tt.mono (m' := 24) (by omega))
  have TB := hid (aparL_T tb)
  have TS := hid (T_small12 tb f3)
  have LB := hid (aparL_len b)
  clear ta tb tt hb
  go_enter Tryz.func113, Tryz.ntmps113
  go_wp2_with fail
  refine (unify_apart _ b _ rb hb0 (by omega) TS.out).mono ?_
  rintro e w3 ⟨ub, rfl, hown, hb3⟩
  have rb3 := Ints.of_owns hown (by rw [LB.out]; omega)
  clear hown
  go_wp2_with fail
  refine (unify_solved _ _ _ s a (aparL b) _ f1 TA.out TB.out la (by rw [LB.out]; exact f5) (hs.below hb3) (ra.below hb3) rb3).mono ?_
  rintro e w4 ⟨hb4', px, ⟨rfl, hno⟩ | ⟨rfl, bm, M, hS, hmgu⟩⟩
  · have HB := hid (hb3.trans (hb4'.mono hb3.size))
    have HX : Hid (UR s a (aparL b) t ([], 8)) := hid (HR.out _ (Or.inl ⟨hno, rfl⟩))
    clear hb4' hb3 hno rb3
    go_wp2
    go_ret2
    exact ⟨([], 8), _, HX.out, rfl, World.ownsRow_nil _ _ _ _, HB.out⟩
  · have hb4 := hb3.trans (hb4'.mono hb3.size)
    have HMD := hid (unify_made px bm _ _ s M t w4 hmgu.1 hS TT.out lt (rt.below hb4) hs1)
    have HMG := hid hmgu
    have HB := hid hb4
    have hsz := hb4.size
    clear hb4' hb3 hb4 hmgu hS rb3
    go_wp2_with fail
    refine HMD.out.mono ?_
    rintro e w5 ⟨hb5, ⟨hm, u, rfl, hown⟩ | ⟨hm, rfl⟩⟩
    · have HX : Hid (UR s a (aparL b) t (canonL (fw (mOf M) t), 0)) := hid (HR.out _ (Or.inr ⟨_, HMG.out, Or.inl ⟨hm, rfl⟩⟩))
      have HO := hid (owns_base hown hsz)
      have HB5 := hid (HB.out.trans (hb5.mono hsz))
      clear hown hb5 hm
      go_wp2
      go_ret2
      exact ⟨_, _, HX.out, rfl, HO.out, HB5.out⟩
    · have HX : Hid (UR s a (aparL b) t ([], 4)) := hid (HR.out _ (Or.inr ⟨_, HMG.out, Or.inr ⟨hm, rfl⟩⟩))
      have HB5 := hid (HB.out.trans (hb5.mono hsz))
      clear hb5 hm
      go_wp2
      go_ret2
      exact ⟨([], 4), _, HX.out, rfl, World.ownsRow_nil _ _ _ _, HB5.out⟩
theorem len_two : ∀ {l : List Value}, l.length = 2 → ∃ a b, l = [a, b]
  | [a, b], _ => ⟨a, b, rfl⟩
  | [], h => by simp at h
  | [_], h => by simp at h
  | _ :: _ :: _ :: _, h => by simp at h
set_option maxHeartbeats 1000000 in
theorem kernel_halves0 (vs vm : Value) (s : Sg) (m : List Int) (w : World) (hm : 0 < m.length) (h0 : m.head? ≠ some 0) (rm : Ints w vm m) :
    Calls Tryz.prog 112 #[vs, vm] w fun e w' => e = .returned (.tuple #[.slice none 0 0, .slice none 0 0, .bool false]) ∧ Below w.heap.size w w' := by
  obtain ⟨ta, tcap, rfl, hcap, h2, -, TC⟩ := rm.open
  obtain ⟨b, o, rfl, hc0⟩ := TC 0 hm
  simp only [Nat.add_zero] at hc0
  have hn : m[0] ≠ 0 := fun h => h0 (by rw [List.head?_eq_getElem?, List.getElem?_eq_getElem hm, h])
  have hnd : (m[0] != 0) = true := by simpa using hn
  obtain ⟨x, hx⟩ : ∃ x, m[0] = x := ⟨_, rfl⟩
  rw [hx] at hc0 hnd
  clear TC rm h0 hx hn
  go_enter Tryz.func112, Tryz.ntmps112
  go_wp2
  go_ret3
  exact ⟨rfl, Below.refl _ _⟩
set_option maxHeartbeats 1000000 in
theorem kernel_halves (vs vm : Value) (s : Sg) (m A B : List Int) (w : World) (hm : m = 0 :: (A ++ B)) (hv : termB s m = true) (hA : IsT s 12 A) (hB : IsT s 12 B) (hs : SignAt w vs s) (rm : Ints w vm m) (hs1 : s.length ≤ 1000) :
    Calls Tryz.prog 112 #[vs, vm] w fun e w' => ∃ ua ub, e = .returned (.tuple #[ua, ub, .bool true]) ∧ Ints w' ua A ∧ Ints w' ub B ∧ Below w.heap.size w w' := by
  have f1 := (termB_facts hv).1
  have HAR := hid (term_Args vs vm s m [A, B] w hv 0 (by simpa using hm) (by rw [halves_arP f1]; simp) (by intro a ha; simp at ha; rcases ha with rfl | rfl <;> assumption) hs rm hs1)
  obtain ⟨ta, tcap, hva, hcap, h2, -, TC⟩ := rm.open
  subst hva
  obtain ⟨b, o, rfl, hc0⟩ := TC 0 (by rw [hm]; simp)
  have hm0 : ∀ (h : 0 < m.length), m[0] = 0 := by intro h; subst hm; rfl
  have hmp : 0 < m.length := by rw [hm]; simp
  rw [hm0] at hc0
  simp only [Nat.add_zero] at hc0
  clear TC rm hv hA hB hm hm0
  go_enter Tryz.func112, Tryz.ntmps112
  go_wp2_with fail
  refine HAR.out.mono ?_
  rintro e w1 ⟨u, vvs, rfl, hl, hb1⟩
  have hv1 := hl.here
  clear hl
  have HB1 := hid hb1
  clear hb1 hc0
  obtain ⟨hrow, hvl, hrd⟩ := hv1
  obtain ⟨va, vb, rfl⟩ := len_two hvl
  have hIA := hrd 0 va A rfl rfl
  have hIB := hrd 1 vb B rfl rfl
  obtain ⟨a, cap, he, hc, hmx, hnone, hcell⟩ := hrow.open
  subst he
  obtain ⟨g, o, rfl, c0⟩ := hcell 0 (by simp)
  obtain ⟨g', o', he', c1⟩ := hcell 1 (by simp)
  obtain ⟨rfl, rfl⟩ : g = g' ∧ o = o' := by simpa using he'
  simp only [List.getElem_cons_zero, List.getElem_cons_succ, Nat.add_zero, List.length_cons, List.length_nil, Nat.zero_add, Nat.reduceAdd] at c0 c1 hc ⊢
  have HIA := hid hIA
  have HIB := hid hIB
  clear hIA hIB hrd hcell hrow he' hvl
  go_wp2
  go_quiet (fail)
  go_wp2
  go_ret3
  exact ⟨_, _, rfl, HIA.out.drewN _, HIB.out.drewN _, below_drewN HB1.out _⟩
set_option maxHeartbeats 1000000 in
theorem kernel_Detach (vs vm vn : Value) (s : Sg) (m n : List Int) (w : World) (hs : SignAt w vs s) (rm : Ints w vm m) (rn : Ints w vn n) (hs1 : s.length ≤ 1000) :
    Calls Tryz.prog 42 #[vs, vm, vn] w fun e w' => ∃ x u, DetR s m n x ∧ e = .returned (.tuple #[u, .int .i64 x.2]) ∧ w'.ownsRow w.heap.size 3 1 u x.1.length (x.1.map (Value.int .i64)) ∧ Below w.heap.size w w' := by
  cases h1 : termB s m
  · have HR : Hid (DetR s m n ([], 1)) := hid (Or.inl ⟨by rw [h1]; rfl, rfl⟩)
    have H1 := hid h1
    clear h1
    go_enter Tryz.func42, Tryz.ntmps42
    go_wp2_with fail
    refine (term_Valid' _ _ _ _ _ hs rm hs1).mono ?_
    rintro e w1 ⟨rfl, hb1⟩
    rw [H1.out]
    go_wp2_with fail
    go_ret2
    exact ⟨([], 1), _, HR.out, rfl, World.ownsRow_nil _ _ _ _, hb1⟩
  · cases h2 : termB s n
    · have HR : Hid (DetR s m n ([], 1)) := hid (Or.inl ⟨by rw [h2]; simp, rfl⟩)
      have H1 := hid h1
      have H2 := hid h2
      clear h1 h2
      go_enter Tryz.func42, Tryz.ntmps42
      go_wp2_with fail
      refine (term_Valid' _ _ _ _ _ hs rm hs1).mono ?_
      rintro e w1 ⟨rfl, hb1⟩
      rw [H1.out]
      go_wp2_with fail
      refine (term_Valid' _ _ _ _ _ (hs.below hb1) (rn.below hb1) hs1).mono ?_
      rintro e w2 ⟨rfl, hb2⟩
      rw [H2.out]
      have HB := hid (hb1.trans (hb2.mono hb1.size))
      clear hb1 hb2
      go_wp2
      go_ret2
      exact ⟨([], 1), _, HR.out, rfl, World.ownsRow_nil _ _ _ _, HB.out⟩
    · have hm0 := (termB_T h1).ne
      by_cases h0 : m.head? = some 0
      · obtain ⟨A, B, rfl, tA, tB, lA, lB⟩ := halves_T h1 h0
        have HR : Hid (∀ x, UR s A (aparL n) B x → DetR s (0 :: (A ++ B)) n x) := hid fun x hx => Or.inr ⟨h1, h2, Or.inr ⟨A, B, rfl, tA, tB, hx⟩⟩
        have f1 := (termB_facts h1).1
        have H1 := hid h1
        have H2 := hid h2
        have TA := hid tA
        have TB := hid tB
        clear h1 h2 h0 tA tB
        go_enter Tryz.func42, Tryz.ntmps42
        go_wp2_with fail
        refine (term_Valid' _ _ _ _ _ hs rm hs1).mono ?_
        rintro e w1 ⟨rfl, hb1⟩
        rw [H1.out]
        go_wp2_with fail
        refine (term_Valid' _ _ _ _ _ (hs.below hb1) (rn.below hb1) hs1).mono ?_
        rintro e w2 ⟨rfl, hb2'⟩
        rw [H2.out]
        have hb2 := hb1.trans (hb2'.mono hb1.size)
        go_wp2_with fail
        refine (kernel_halves _ _ s _ A B _ rfl H1.out TA.out TB.out (hs.below hb2) (rm.below hb2) hs1).mono ?_
        rintro e w3 ⟨ua, ub, rfl, ra, rb, hb3'⟩
        have hb3 := hb2.trans (hb3'.mono hb2.size)
        clear hb2' hb3' hb2 hb1
        go_wp2_with fail
        refine (unify_Detached _ _ _ _ s A B n _ f1 TA.out TB.out H2.out lA lB (hs.below hb3) ra rb (rn.below hb3) hs1).mono ?_
        rintro e w4 ⟨x, u, hx, rfl, hown, hb4'⟩
        have HO := hid (owns_base hown hb3.size)
        have HB := hid (hb3.trans (hb4'.mono hb3.size))
        have HX := hid (HR.out x hx)
        clear hx hown hb4' hb3 ra rb
        go_wp2
        go_ret2
        exact ⟨x, u, HX.out, rfl, HO.out, HB.out⟩
      · have HR : Hid (DetR s m n ([], 10)) := hid (Or.inr ⟨h1, h2, Or.inl ⟨h0, rfl⟩⟩)
        have H1 := hid h1
        have H2 := hid h2
        have H0 := hid h0
        clear h1 h2 h0
        go_enter Tryz.func42, Tryz.ntmps42
        go_wp2_with fail
        refine (term_Valid' _ _ _ _ _ hs rm hs1).mono ?_
        rintro e w1 ⟨rfl, hb1⟩
        rw [H1.out]
        go_wp2_with fail
        refine (term_Valid' _ _ _ _ _ (hs.below hb1) (rn.below hb1) hs1).mono ?_
        rintro e w2 ⟨rfl, hb2'⟩
        rw [H2.out]
        have hb2 := hb1.trans (hb2'.mono hb1.size)
        go_wp2_with fail
        refine (kernel_halves0 _ _ s m _ hm0 H0.out (rm.below hb2)).mono ?_
        rintro e w3 ⟨rfl, hb3'⟩
        have HB := hid (hb2.trans (hb3'.mono hb2.size))
        clear hb2' hb3' hb2 hb1
        go_wp2
        go_ret2
        exact ⟨([], 10), _, HR.out, rfl, World.ownsRow_nil _ _ _ _, HB.out⟩
end Go.Proofs.YtpflkjldapmgdaaGreat
namespace Go.Proofs.YtpflkjldapmgdaaGreat
open Go Go.RowKit Go.Maps
set_option maxHeartbeats 1000000 in
theorem kernel_asked (vs vg vp : Value) (s : Sg) (g : List (List Int)) (p : List St) (w : World) (hs : SignAt w vs s) (hg : Terms w vg g) (hp : StepsAt w vp p) (hs1 : s.length ≤ 1000) :
    Calls Tryz.prog 172 #[vs, vg, vp] w fun e w' => e = .returned (.bool (askedB s g p)) ∧ Below w.heap.size w w' := by
  obtain ⟨ga, gc, hge, hgc, hg2, -⟩ := hg.open
  have HG := hid (kernel_ValidGivens vs vg s g w hs hg hs1)
  subst hge
  unfold askedB
  have HV := hid (fun X (hX : Below w.heap.size w X) => kernel_valid (g.length : Int) vp p X (by omega) (hp.below hX))
  clear hs hg hp
  cases h1 : givensB s g
  · rw [h1] at HG
    clear h1
    go_enter Tryz.func172, Tryz.ntmps172
    go_wp2_with (go_at_call 219; refine HG.out.mono ?_; rintro e w1 ⟨rfl, hb1⟩)
    go_ret
    exact ⟨rfl, hb1⟩
  · rw [h1] at HG
    clear h1
    go_enter Tryz.func172, Tryz.ntmps172
    go_wp2_with (first | (go_at_call 219; refine HG.out.mono ?_; rintro e w1 ⟨rfl, hb1⟩) | (go_at_call 168; refine (HV.out _ hb1).mono ?_; rintro e w2 ⟨rfl, hb2⟩))
    go_ret
    exact ⟨ret_bool (by simp), hb1.trans (hb2.mono hb1.size)⟩
set_option maxHeartbeats 1000000 in
theorem kernel_cite (bs bg : Nat) (x0 x2 : Int) (i : Nat) (vs vg : Value) (s : Sg) (g : List (List Int)) (w : World) (hs : SignAt w vs s) (hg : Terms w vg g) (hi : i < g.length) (hv : termB s g[i] = true) (hs1 : s.length ≤ 1000) (c1 : w.cell? ⟨bs, 0, none⟩ = some vs) (c2 : w.cell? ⟨bg, 0, none⟩ = some vg) :
    Calls Tryz.prog 244 #[.agg #[.int .i64 x0, .int .i64 (i : Int), .int .i64 x2], .pointer (some ⟨bs, 0, none⟩), .pointer (some ⟨bg, 0, none⟩)] w fun e w' => ∃ u, e = .returned (.tuple #[u, .int .i64 0]) ∧
      w'.ownsRow w.heap.size 3 1 u (canonL g[i]).length ((canonL g[i]).map (Value.int .i64)) ∧ Below w.heap.size w w' := by
  obtain ⟨sa, scap, rfl, _⟩ := hs.open
  obtain ⟨ga, gcap, rfl, -, -, -, HC⟩ := hg.open
  obtain ⟨b, o, x, rfl, cx, hx⟩ := HC i hi
  obtain ⟨xa, xc, rfl, -⟩ := hx.open
  have z0 : (0 : Int) ≤ (i : Int) := by omega
  have z1 : (i : Int) < (g.length : Int) := by omega
  have hbA : Below w.heap.size w (w.alloc (.cells #[.int .i64 x0, .int .i64 i, .int .i64 x2] 76)) := (Below.refl _ _).alloc (Nat.le_refl _) _
  have d0 : (w.alloc (.cells #[.int .i64 x0, .int .i64 i, .int .i64 x2] 76)).cell? ⟨w.heap.size, 1, none⟩ = some (.int .i64 i) := by rw [World.cell?_alloc_new]; rfl
  have d1 := (hbA.cell (World.block_lt_of_cell? _ _ c1)).trans c1
  have d2 := (hbA.cell (World.block_lt_of_cell? _ _ c2)).trans c2
  have d3 := (hbA.cell (World.block_lt_of_cell? _ _ cx)).trans cx
  have hs3 := hs.below hbA
  have hx3 := hx.below hbA
  obtain ⟨t, ht⟩ : ∃ t, g[i] = t := ⟨_, rfl⟩
  rw [ht] at hx3 hv d3 ⊢
  obtain ⟨n, hn⟩ : ∃ n, t.length = n := ⟨_, rfl⟩
  have hsA := hbA.size
  have HCN := hid (fun (j : Nat) => term_Canonical (.slice sa s.length scap) (.slice xa t.length xc) s t ((w.alloc (.cells #[.int .i64 x0, .int .i64 i, .int .i64 x2] 76)).drewN j) (hs3.drewN j) (hx3.drewN j) hs1)
  rw [hn] at HCN d3
  rw [hv] at HCN
  clear HC hs hg hx c1 c2 cx ht hs3 hx3 hv
  go_enter Tryz.func244, Tryz.ntmps244
  go_wp2
  obtain ⟨bx, hbx⟩ : ∃ bx, w.heap.size = bx := ⟨_, rfl⟩
  rw [hbx] at d0 hbA hsA
  try rw [hbx]
  generalize w.alloc (.cells #[.int .i64 x0, .int .i64 i, .int .i64 x2] 76) = W1 at *
  go_region_held3 (fun w' => w'.cell? ⟨bs, 0, none⟩ = some (.slice sa s.length scap) ∧ w'.cell? ⟨bg, 0, none⟩ = some (.slice (some ⟨b, o, none⟩) g.length gcap) ∧ w'.cell? ⟨bx, 1, none⟩ = some (.int .i64 i) ∧ w'.cell? ⟨b, o + i, none⟩ = some (.slice xa n xc))
    (first | exact ⟨by assumption, by assumption, by assumption, by assumption⟩ | go_keep)
    (first
    | (go_at_call 143; refine (HCN.out 1).mono ?_; rintro e w1 ⟨hb1', ⟨h, -⟩ | ⟨-, u, rfl, hown⟩⟩
       · cases h
       have hb1 : Below W1.heap.size W1 w1 := (below_self_drewN W1 1).trans hb1'
       have d1 := (hb1.cell (World.block_lt_of_cell? _ _ d1)).trans d1
       have d2 := (hb1.cell (World.block_lt_of_cell? _ _ d2)).trans d2
       have d3 := (hb1.cell (World.block_lt_of_cell? _ _ d3)).trans d3
       have d0 := (hb1.cell (World.block_lt_of_cell? _ _ d0)).trans d0))
  go_wp2
  go_ret2
  rw [hbx]
  exact ⟨_, rfl, owns_base hown (by simp; omega), hbA.trans (hb1.mono (by omega))⟩
set_option maxHeartbeats 2000000 in
theorem kernel_dets (bs bl : Nat) (x0 : Int) (i j : Nat) (vs vl : Value) (s : Sg) (l : List (List Int)) (w : World) (hs : SignAt w vs s) (hl : Terms w vl l) (hi : i < l.length) (hj : j < l.length) (hs1 : s.length ≤ 1000) (c1 : w.cell? ⟨bs, 0, none⟩ = some vs) (c2 : w.cell? ⟨bl, 0, none⟩ = some vl) :
    Calls Tryz.prog 245 #[.agg #[.int .i64 x0, .int .i64 (i : Int), .int .i64 (j : Int)], .pointer (some ⟨bs, 0, none⟩), .pointer (some ⟨bl, 0, none⟩)] w fun e w' => ∃ x u, DetR s l[i] l[j] x ∧ e = .returned (.tuple #[u, .int .i64 x.2]) ∧
      w'.ownsRow w.heap.size 3 1 u x.1.length (x.1.map (Value.int .i64)) ∧ Below w.heap.size w w' := by
  obtain ⟨sa, scap, rfl, _⟩ := hs.open
  obtain ⟨la, lcap, rfl, -, -, -, HC⟩ := hl.open
  obtain ⟨b, o, x, rfl, cx, hx⟩ := HC i hi
  obtain ⟨b', o', y, he', cy, hy⟩ := HC j hj
  cases he'
  obtain ⟨xa, xc, rfl, -⟩ := hx.open
  obtain ⟨ya, yc, rfl, -⟩ := hy.open
  have z0 : (0 : Int) ≤ (i : Int) := by omega
  have z1 : (i : Int) < (l.length : Int) := by omega
  have z2 : (0 : Int) ≤ (j : Int) := by omega
  have z3 : (j : Int) < (l.length : Int) := by omega
  have hbA : Below w.heap.size w (w.alloc (.cells #[.int .i64 x0, .int .i64 i, .int .i64 j] 76)) := (Below.refl _ _).alloc (Nat.le_refl _) _
  have d0 : (w.alloc (.cells #[.int .i64 x0, .int .i64 i, .int .i64 j] 76)).cell? ⟨w.heap.size, 1, none⟩ = some (.int .i64 i) := by rw [World.cell?_alloc_new]; rfl
  have d4 : (w.alloc (.cells #[.int .i64 x0, .int .i64 i, .int .i64 j] 76)).cell? ⟨w.heap.size, 2, none⟩ = some (.int .i64 j) := by rw [World.cell?_alloc_new]; rfl
  have d1 := (hbA.cell (World.block_lt_of_cell? _ _ c1)).trans c1
  have d2 := (hbA.cell (World.block_lt_of_cell? _ _ c2)).trans c2
  have d3 := (hbA.cell (World.block_lt_of_cell? _ _ cx)).trans cx
  have d5 := (hbA.cell (World.block_lt_of_cell? _ _ cy)).trans cy
  have hs3 := hs.below hbA
  have hx3 := hx.below hbA
  have hy3 := hy.below hbA
  obtain ⟨t, ht⟩ : ∃ t, l[i] = t := ⟨_, rfl⟩
  obtain ⟨r, hr⟩ : ∃ r, l[j] = r := ⟨_, rfl⟩
  rw [ht] at hx3 d3 ⊢
  rw [hr] at hy3 d5 ⊢
  obtain ⟨n, hn⟩ : ∃ n, t.length = n := ⟨_, rfl⟩
  obtain ⟨m, hm⟩ : ∃ m, r.length = m := ⟨_, rfl⟩
  have hsA := hbA.size
  have HCN := hid (fun (k : Nat) => kernel_Detach (.slice sa s.length scap) (.slice xa t.length xc) (.slice ya r.length yc) s t r ((w.alloc (.cells #[.int .i64 x0, .int .i64 i, .int .i64 j] 76)).drewN k) (hs3.drewN k) (hx3.drewN k) (hy3.drewN k) hs1)
  rw [hn, hm] at HCN
  rw [hn] at d3
  rw [hm] at d5
  clear HC hs hl hx hy c1 c2 cx cy ht hr hs3 hx3 hy3
  go_enter Tryz.func245, Tryz.ntmps245
  go_wp2
  obtain ⟨bx, hbx⟩ : ∃ bx, w.heap.size = bx := ⟨_, rfl⟩
  rw [hbx] at d0 d4 hbA hsA
  try rw [hbx]
  generalize w.alloc (.cells #[.int .i64 x0, .int .i64 i, .int .i64 j] 76) = W1 at *
  go_region_held3 (fun w' => w'.cell? ⟨bs, 0, none⟩ = some (.slice sa s.length scap) ∧ w'.cell? ⟨bl, 0, none⟩ = some (.slice (some ⟨b, o, none⟩) l.length lcap) ∧ w'.cell? ⟨bx, 1, none⟩ = some (.int .i64 i) ∧ w'.cell? ⟨bx, 2, none⟩ = some (.int .i64 j) ∧ w'.cell? ⟨b, o + i, none⟩ = some (.slice xa n xc) ∧ w'.cell? ⟨b, o + j, none⟩ = some (.slice ya m yc))
    (first | exact ⟨by assumption, by assumption, by assumption, by assumption, by assumption, by assumption⟩ | go_keep)
    (first
    | (go_at_call 42; refine (HCN.out 1).mono ?_; rintro e w1 ⟨xr, u, hdx, rfl, hown, hb1'⟩
       have hb1 : Below W1.heap.size W1 w1 := (below_self_drewN W1 1).trans hb1'
       have d1 := (hb1.cell (World.block_lt_of_cell? _ _ d1)).trans d1
       have d2 := (hb1.cell (World.block_lt_of_cell? _ _ d2)).trans d2
       have d3 := (hb1.cell (World.block_lt_of_cell? _ _ d3)).trans d3
       have d5 := (hb1.cell (World.block_lt_of_cell? _ _ d5)).trans d5
       have d4 := (hb1.cell (World.block_lt_of_cell? _ _ d4)).trans d4
       have d0 := (hb1.cell (World.block_lt_of_cell? _ _ d0)).trans d0))
  go_wp2
  go_ret2
  rw [hbx]
  exact ⟨xr, _, hdx, rfl, owns_base hown (by simp; omega), hbA.trans (hb1.mono (by omega))⟩
end Go.Proofs.YtpflkjldapmgdaaGreat
namespace Go.Proofs.YtpflkjldapmgdaaGreat
open Go Go.RowKit Go.Maps
/-- the variables of the two sides change places. -/
def swN (n : Int) : Int := if -12 ≤ n then n - 12 else n + 12
theorem sw_sub {s : Sg} {a b : List Int} (ha : IsT s 12 a) (hb : IsT s 12 b) {σ : Int → List Int} (h : TS s σ) (e : subL σ a = subL σ (aparL b)) :
    TS s (fun n => σ (swN n)) ∧ subL (fun n => σ (swN n)) b = subL σ a ∧ subL (fun n => σ (swN n)) (aparL a) = subL σ a := by
  obtain ⟨q, hq⟩ := h
  refine ⟨⟨q, fun v h1 h2 => ?_⟩, ?_, ?_⟩
  · unfold swN
    (try simp only)
    split <;> exact hq _ (by omega) (by omega)
  · rw [e, aparL_sub, subL_comp]
    refine subL_congr fun n hn hn0 => ?_
    have := hb.vars n hn hn0
    (try simp only)
    rw [subL_one, if_pos (by omega), swN, if_pos (by omega)]
  · rw [aparL_sub, subL_comp]
    refine subL_congr fun n hn hn0 => ?_
    have := ha.vars n hn hn0
    (try simp only)
    rw [subL_one, if_pos (by omega), swN, if_neg (by omega), show n - 12 + 12 = n by omega]
theorem nou_swap {s : Sg} {a b : List Int} (ha : IsT s 12 a) (hb : IsT s 12 b) (h : NoU s b (aparL a)) : NoU s a (aparL b) := fun σ hσ e => by
  obtain ⟨h1, h2, h3⟩ := sw_sub ha hb hσ e
  exact h _ h1 (h2.trans h3.symm)
theorem mgu_swap1 {s : Sg} {a b : List Int} {m m' : MM} (ha : IsT s 12 a) (hb : IsT s 12 b) (h : Mgu s a (aparL b) m) (h' : Mgu s b (aparL a) m') : Inst s 24 (fw m' b) (fw m a) := by
  obtain ⟨h1, h2, h3⟩ := sw_sub ha hb (sg_TS h.1) h.sol
  have hg := h'.gen h1 (h2.trans h3.symm) b
  refine ⟨fun n => sg m (swN n), fun n hn hn0 => ?_, ?_⟩
  · have hv := (fw_T h'.1 (hb.mono (m' := 24) (by omega))).vars n hn hn0
    (try simp only)
    refine sg_T h.1 ?_ ?_ <;> (unfold swN; split <;> omega)
  · rw [hg, h2, fw_sub h.1]
theorem mgu_swap {s : Sg} {a b : List Int} {m m' : MM} (ha : IsT s 12 a) (hb : IsT s 12 b) (h : Mgu s a (aparL b) m) (h' : Mgu s b (aparL a) m') : canonL (fw m a) = canonL (fw m' b) :=
  (alike_iff (fw_T h.1 (ha.mono (by omega))) (fw_T h'.1 (hb.mono (by omega)))).2 ⟨mgu_swap1 hb ha h' h, mgu_swap1 ha hb h h'⟩
theorem MeetR.unique {s : Sg} {a b : List Int} {x y : List Int × Int} (h : MeetR s a b x) (k : MeetR s a b y) : x = y := by
  unfold MeetR at h k
  split at h
  · rename_i hv
    rw [if_pos hv] at k
    simp only [Bool.and_eq_true] at hv
    exact UR.unique ((termB_T hv.1).mono (by omega)) h k
  · rename_i hv
    rw [if_neg hv] at k
    rw [h, k]
theorem MeetR.swap {s : Sg} {a b : List Int} {x y : List Int × Int} (h : MeetR s a b x) (k : MeetR s b a y) : x = y := by
  unfold MeetR at h k
  rw [Bool.and_comm] at k
  split at h
  · rename_i hv
    rw [if_pos hv] at k
    simp only [Bool.and_eq_true] at hv
    have ha := termB_T hv.1
    have hb := termB_T hv.2
    rcases h with ⟨h1, rfl⟩ | ⟨m, hm, h⟩
    · rcases k with ⟨_, rfl⟩ | ⟨m', hm', _⟩
      · rfl
      · exact (hm'.not_no (nou_swap hb ha h1)).elim
    · rcases k with ⟨k1, _⟩ | ⟨m', hm', k⟩
      · exact (hm.not_no (nou_swap ha hb k1)).elim
      · have hc := mgu_swap ha hb hm hm'
        have hb := madeB_canon hc
        rcases h with ⟨h1, rfl⟩ | ⟨h1, rfl⟩ <;> rcases k with ⟨k1, rfl⟩ | ⟨k1, rfl⟩
        · rw [hc]
        · rw [hb, k1] at h1; cases h1
        · rw [hb, k1] at h1; cases h1
        · rfl
  · rename_i hv
    rw [if_neg hv] at k
    rw [h, k]
/-- what is made is an instance of both. -/
theorem meet_both {s : Sg} {a b : List Int} {x : List Int × Int} (h : MeetR s a b x) (h0 : x.2 = 0) : instB s a x.1 = true ∧ instB s b x.1 = true := by
  unfold MeetR at h
  split at h
  · rename_i hv
    simp only [Bool.and_eq_true] at hv
    have ha := termB_T hv.1
    have hb := termB_T hv.2
    rcases h with ⟨_, rfl⟩ | ⟨m, hm, ⟨hmb, rfl⟩ | ⟨_, rfl⟩⟩
    · simp at h0
    · have hF := fw_T hm.1 (ha.mono (m' := 24) (by omega))
      have hT := made_term (termB_facts hv.1).1 hF hmb
      have hC : Inst s 24 (fw m a) (canonL (fw m a)) := canon_inst ((termB_T hT).mono (by omega)) (canonL_canon _).symm
      refine ⟨instB_iff.2 ⟨hv.1, hT, Inst.down (q := 24) (by omega) ha (termB_T hT) (Inst.trans ⟨sg m, fun n hn hn0 => ?_, ?_⟩ hC)⟩, instB_iff.2 ⟨hv.2, hT, Inst.down (q := 24) (by omega) hb (termB_T hT) (Inst.trans ⟨fun n => sg m (n - 12), fun n hn hn0 => ?_, ?_⟩ hC)⟩⟩
      · have := ha.vars n hn hn0
        exact sg_T hm.1 (by omega) hn0
      · exact (fw_sub hm.1 a).symm
      · have := hb.vars n hn hn0
        exact sg_T hm.1 (by omega) (by omega)
      · rw [fw_sub hm.1, hm.sol, aparL_sub, subL_comp]
        refine (subL_congr fun n hn hn0 => ?_).symm
        have := hb.vars n hn hn0
        (try simp only)
        rw [subL_one, if_pos (by omega)]
    · simp at h0
  · rw [h] at h0; simp at h0
theorem nodup_bound_m : ∀ (n : Nat) (l : List Int), l.Nodup → (∀ x ∈ l, -(n : Int) ≤ x ∧ x < 0) → l.length ≤ n := by
  intro n
  induction n with
  | zero => intro l _ h; cases l with
    | nil => simp
    | cons a l => have := h a (by simp); omega
  | succ n ih =>
    intro l hd h
    have h1 := ih (l.erase (-((n + 1 : Nat) : Int))) (hd.erase _) fun x hx => by
      have h2 := (List.Nodup.mem_erase_iff hd).1 hx
      have := h x h2.2
      have := h2.1
      omega
    have h3 := List.length_erase (a := (-((n + 1 : Nat) : Int))) (l := l)
    split at h3 <;> omega
theorem vars_le_m {s : Sg} {t : List Int} (h : IsT s 12 t) : (varsF [] t).length ≤ 12 :=
  nodup_bound_m 12 _ (varsF_nodup t [] (by simp)) fun x hx => by
    rcases (varsF_mem t [] x).1 hx with h1 | h1
    · simp at h1
    · have := h.vars x h1.1 h1.2
      omega
theorem meet_inst {s : Sg} {a b : List Int} {x : List Int × Int} (h : MeetR s a b x) (hi : instB s a b = true) : x = (canonL b, 0) := by
  obtain ⟨va, vb, hi⟩ := instB_iff.1 hi
  have ha := termB_T va
  have hb := termB_T vb
  unfold MeetR at h
  rw [va, vb] at h
  simp only [Bool.and_self, if_true] at h
  obtain ⟨σ, g, e0, e1⟩ := unif_of_inst ha hb hi (Inst.refl hb)
  have hTS : TS s σ := ⟨12, g⟩
  rcases h with ⟨h, _⟩ | ⟨m, hm, h⟩
  · exact absurd (e0.trans e1.symm) (h σ hTS)
  · have hF := fw_T hm.1 (ha.mono (m' := 24) (by omega))
    have i1 : Inst s 24 (fw m a) b := ⟨σ, fun n hn hn0 => (g n (hF.vars n hn hn0) hn0).mono (by omega), by rw [hm.gen hTS (e0.trans e1.symm), e0]⟩
    have i2 : Inst s 24 b (fw m a) := ⟨fun n => sg m (n - 12), fun n hn hn0 => by have := hb.vars n hn hn0; exact sg_T hm.1 (by omega) (by omega), by
      rw [fw_sub hm.1, hm.sol, aparL_sub, subL_comp]
      refine (subL_congr fun n hn hn0 => ?_)
      have := hb.vars n hn hn0
      (try simp only)
      rw [subL_one, if_pos (by omega)]⟩
    have hc : canonL (fw m a) = canonL b := (alike_iff hF (hb.mono (by omega))).2 ⟨i1, i2⟩
    have hmb : madeB (fw m a) = true := by
      rw [madeB_canon hc]
      exact madeB_iff.2 ⟨(termB_facts vb).2.2.2, vars_le_m hb⟩
    rcases h with ⟨_, rfl⟩ | ⟨h, _⟩
    · rw [hc]
    · rw [hmb] at h; cases h
theorem meet_iff {s : Sg} {a b : List Int} {x : List Int × Int} (h : MeetR s a b x) (h0 : x.2 = 0) : instB s a b = alikeB s x.1 b := by
  have hbo := meet_both h h0
  rw [Bool.eq_iff_iff]
  constructor
  · intro hi
    have e := meet_inst h hi
    have e1 : x.1 = canonL b := by rw [e]
    have v1 := (instB_iff.1 hbo.1).2.1
    have v2 := (instB_iff.1 hi).2.1
    unfold alikeB
    rw [v1, v2, e1, canonL_canon]
    simp
  · intro hal
    exact instB_trans hbo.1 (alikeB_iff.1 hal).1
theorem meet_self {s : Sg} {a b : List Int} {x : List Int × Int} (h : MeetR s a b x) (h0 : x.2 = 0) : alikeB s x.1 x.1 = true := by
  have v := (instB_iff.1 (meet_both h h0).1).2.1
  exact alikeB_iff.2 ⟨by rw [instB_refl, v], by rw [instB_refl, v]⟩
theorem meet_not {s : Sg} {a b : List Int} {x : List Int × Int} (h : MeetR s a b x) (h0 : x.2 ≠ 0) : instB s a b = false := by
  cases hi : instB s a b
  · rfl
  · exact absurd (by rw [meet_inst h hi]) h0
theorem MeetsA.unique {s : Sg} {a b : List Int} {z z' : Bool} (h : MeetsA s a b z) (k : MeetsA s a b z') : z = z' := Bool.eq_iff_iff.2 (h.trans k.symm)
end Go.Proofs.YtpflkjldapmgdaaGreat
namespace Go.Proofs.YtpflkjldapmgdaaGreat
open Go
/-- the converse of a statement that says "if". -/
def convL (s : Sg) (t : List Int) : List Int := canonL (0 :: (t.tail.drop (pLen s t.tail 1) ++ t.tail.take (pLen s t.tail 1)))
theorem convL_eq {s : Sg} {A B : List Int} (hA : IsT s 12 A) : convL s (0 :: (A ++ B)) = canonL (0 :: (B ++ A)) := by
  unfold convL
  rw [List.tail_cons, pLen_T1 hA, List.drop_left, List.take_left]
/-- what Converse answers. -/
def convR (s : Sg) (t : List Int) : List Int × Int := if termB s t then (if t.head? = some 0 then (convL s t, 0) else ([], 10)) else ([], 1)
theorem swap_term {s : Sg} {A B : List Int} (hA : IsT s 12 A) (hB : IsT s 12 B) (h : termB s (0 :: (A ++ B)) = true) : termB s (0 :: (B ++ A)) = true := by
  obtain ⟨f1, f2, -, f4⟩ := termB_facts h
  refine T_termB f1 ?_ (by simp at f4 ⊢; omega)
  have har := halves_arP f1
  have := IsT.app (s := s) (m := 12) 0 [B, A] (by omega) (by
    unfold arP at har
    rw [show inB 0 (-12) (-1) = false from by decide, if_neg (by simp)] at har
    split at har
    · have h2 : arOf s ((0 : Nat) : Int) = arOf s 0 := rfl
      rw [h2]; simp; omega
    · omega) (by
      intro x hx
      simp at hx
      rcases hx with rfl | rfl <;> assumption)
  simpa using this
theorem canon_termC {s : Sg} {t : List Int} (h : termB s t = true) : termB s (canonL t) = true := by
  have f := termB_facts h
  exact T_termB f.1 (canonL_T (termB_T h) (vars_le_m (termB_T h))) (by rw [canonL_len]; exact f.2.2.2)
theorem conv_facts {s : Sg} {t : List Int} (h : termB s t = true) (h0 : t.head? = some 0) : termB s (convL s t) = true ∧ canonL (convL s t) = convL s t ∧ (convL s t).head? = some 0 ∧ canonL (convL s (convL s t)) = canonL t ∧ canonL (convL s (convL s t)) = convL s (convL s t) := by
  obtain ⟨A, B, rfl, hA, hB, -, -⟩ := halves_T h h0
  have hs := swap_term hA hB h
  rw [convL_eq hA]
  have e : canonL (0 :: (B ++ A)) = 0 :: (B.map (numV (varsF [] (0 :: (B ++ A)))) ++ A.map (numV (varsF [] (0 :: (B ++ A))))) := by
    unfold canonL
    rw [List.map_cons, List.map_append]
    congr 1
  have hren : ∀ {X : List Int}, IsT s 12 X → (∀ n ∈ X, n < 0 → n ∈ (0 :: (B ++ A) : List Int)) → IsT s 12 (X.map (numV (varsF [] (0 :: (B ++ A))))) := by
    intro X hX hm
    have e2 : X.map (numV (varsF [] (0 :: (B ++ A)))) = subL (fun n => [numV (varsF [] (0 :: (B ++ A))) n]) X := by
      clear hm hX
      induction X with
      | nil => rfl
      | cons n X ih =>
        by_cases hn : n < 0
        · rw [subL_cons_var _ hn, ← ih]; rfl
        · rw [subL_cons_app _ (by omega), ← ih, List.map_cons]
          unfold numV
          rw [if_neg hn]
    rw [e2]
    refine hX.sub fun n hn hn0 => .var _ ?_ (numV_neg.2 hn0)
    have hv := vars_le_m (termB_T hs)
    have := List.idxOf_lt_length_of_mem ((varsF_mem (0 :: (B ++ A)) [] n).2 (Or.inr ⟨hm n hn hn0, hn0⟩))
    unfold numV
    rw [if_pos hn0]
    omega
  have hB' := hren hB fun n hn _ => by simp [hn]
  have hA' := hren hA fun n hn _ => by simp [hn]
  have e3 : convL s (canonL (0 :: (B ++ A))) = canonL (0 :: (A ++ B)) := by
    rw [e, convL_eq hB']
    have e4 : (0 : Int) :: (A.map (numV (varsF [] (0 :: (B ++ A)))) ++ B.map (numV (varsF [] (0 :: (B ++ A))))) = (0 :: (A ++ B)).map (numV (varsF [] (0 :: (B ++ A)))) := by
      rw [List.map_cons, List.map_append]
      congr 1
    rw [e4]
    refine canonL_map (fun n _ hn => numV_neg.2 hn) (fun n _ hn => by unfold numV; rw [if_neg (by omega)]) fun n hn m _ h1 h2 hh => ?_
    refine numV_inj h1 h2 ((varsF_mem _ [] n).2 (Or.inr ⟨?_, h1⟩)) hh
    simp at hn ⊢
    rcases hn with rfl | hn | hn
    · omega
    · exact Or.inr (Or.inr hn)
    · exact Or.inr (Or.inl hn)
  refine ⟨canon_termC hs, canonL_canon _, by rw [e]; rfl, by rw [e3, canonL_canon], by rw [e3, canonL_canon]⟩
/-- what Equivalence answers. -/
def eqvR (s : Sg) (t u : List Int) : Bool × Int := if termB s t && termB s u then (decide (t.head? = some 0) && alikeB s (convL s t) u, 0) else (false, 1)
end Go.Proofs.YtpflkjldapmgdaaGreat
namespace Go.Proofs.YtpflkjldapmgdaaGreat
open Go Go.RowKit
/-- whether a list of pairs of names is that of the equivalences, ascending. -/
structure EqsQ (s : Sg) (l : List En) (L : List N2) : Prop where
  asc : L.Pairwise ltP
  mem : ∀ p, p ∈ L ↔ ∃ x ∈ l, ∃ y ∈ l, p = (x.name, y.name) ∧ (eqvR s x.says y.says).1 = true ∧ ¬ ltN y.name x.name
theorem EqsQ.unique {s : Sg} {l : List En} {L M : List N2} (h : EqsQ s l L) (k : EqsQ s l M) : L = M :=
  asc_unique ltP.irr (fun h k => ltP.trans h k) h.asc k.asc fun x => by rw [h.mem, k.mem]
/-- what Equivalences answers. -/
def EqsA (s : Sg) (l : List En) (L : List N2) (e : Int) : Prop := (libB s l = false ∧ L = [] ∧ e = 1) ∨ (libB s l = true ∧ EqsQ s l L ∧ e = 0)
theorem EqsA.unique {s : Sg} {l : List En} {L M : List N2} {e f : Int} (h : EqsA s l L e) (k : EqsA s l M f) : L = M ∧ e = f := by
  rcases h with ⟨h1, rfl, rfl⟩ | ⟨h1, h2, rfl⟩
  · rcases k with ⟨-, rfl, rfl⟩ | ⟨k1, -⟩
    · exact ⟨rfl, rfl⟩
    · rw [h1] at k1; cases k1
  · rcases k with ⟨k1, -⟩ | ⟨-, k2, rfl⟩
    · rw [h1] at k1; cases k1
    · exact ⟨h2.unique k2, rfl⟩
/-- the pairs of entries, in the order in which they come. -/
def prsL (l : List En) : List (En × En) := l.flatMap fun x => l.map fun y => (x, y)
def eqsB (s : Sg) (p : En × En) : Bool := (eqvR s p.1.says p.2.says).1 && !decide (ltN p.2.name p.1.name)
def nm2 (p : En × En) : N2 := (p.1.name, p.2.name)
theorem nd_inj {l : List En} (h : (l.map En.name).Nodup) {x y : En} (hx : x ∈ l) (hy : y ∈ l) (e : x.name = y.name) : x = y := by
  obtain ⟨i, hi, rfl⟩ := List.getElem_of_mem hx
  obtain ⟨j, hj, rfl⟩ := List.getElem_of_mem hy
  have h1 := idxN_nd h hi
  have h2 := idxN_nd h hj
  rw [e, h2] at h1
  cases h1
  rfl
theorem nd_of_map {l : List En} (h : (l.map En.name).Nodup) : l.Nodup := by
  rw [List.Nodup, List.pairwise_map] at h
  exact h.imp fun hn e => hn (by rw [e])
theorem prsL_mem {l : List En} {p : En × En} : p ∈ prsL l ↔ p.1 ∈ l ∧ p.2 ∈ l := by
  unfold prsL
  rw [List.mem_flatMap]
  constructor
  · rintro ⟨x, hx, hp⟩
    obtain ⟨y, hy, rfl⟩ := List.mem_map.1 hp
    exact ⟨hx, hy⟩
  · rintro ⟨h1, h2⟩
    exact ⟨p.1, h1, List.mem_map.2 ⟨p.2, h2, rfl⟩⟩
theorem prsL_nd {l : List En} (h : (l.map En.name).Nodup) : ((prsL l).map nm2).Nodup := by
  have hn := nd_of_map h
  have key : ∀ m : List En, m.Nodup → (∀ x ∈ m, x ∈ l) → ((m.flatMap fun x => l.map fun y => (x, y)).map nm2).Nodup := by
    intro m
    induction m with
    | nil => intro _ _; simp
    | cons x m ih =>
      intro hm hx
      obtain ⟨h1, h2⟩ := List.nodup_cons.1 hm
      rw [List.flatMap_cons, List.map_append, List.nodup_append]
      refine ⟨?_, ih h2 fun y hy => hx y (by simp [hy]), fun a ha b hb e => ?_⟩
      · rw [List.map_map, List.Nodup, List.pairwise_map]
        rw [List.Nodup, List.pairwise_map] at h
        exact h.imp fun hh e => hh (congrArg Prod.snd e)
      · obtain ⟨p, hp, rfl⟩ := List.mem_map.1 ha
        obtain ⟨y, -, rfl⟩ := List.mem_map.1 hp
        obtain ⟨q, hq, rfl⟩ := List.mem_map.1 hb
        obtain ⟨z, hz, hq⟩ := List.mem_flatMap.1 hq
        obtain ⟨y', -, rfl⟩ := List.mem_map.1 hq
        have e1 : x.name = z.name := congrArg Prod.fst e
        have := nd_inj h (hx x (by simp)) (hx z (by simp [hz])) e1
        subst this
        exact h1 hz
  exact key l hn fun x hx => hx
/-- what is put out, sorted, is the list of the equivalences. -/
theorem eqs_sorted {s : Sg} {l : List En} (h : (l.map En.name).Nodup) {L : List N2} (hp : L.Perm (((prsL l).filter (eqsB s)).map nm2)) (hs : L.Pairwise fun a b => ¬ ltP b a) : EqsQ s l L := by
  have hn : L.Nodup := hp.nodup_iff.2 (((prsL_nd h).sublist ((List.filter_sublist (l := prsL l) (p := eqsB s)).map nm2)))
  refine ⟨?_, fun p => ?_⟩
  · rw [List.Nodup] at hn
    exact (hs.and hn).imp fun {a b} ⟨h1, h2⟩ => by
      rcases ltP.tri a b with k | k | k
      · exact k
      · exact absurd k h2
      · exact absurd k h1
  · rw [hp.mem_iff, List.mem_map]
    constructor
    · rintro ⟨q, hq, rfl⟩
      obtain ⟨h1, h2⟩ := List.mem_filter.1 hq
      obtain ⟨h3, h4⟩ := prsL_mem.1 h1
      unfold eqsB at h2
      rw [Bool.and_eq_true] at h2
      exact ⟨q.1, h3, q.2, h4, rfl, h2.1, by simpa using h2.2⟩
    · rintro ⟨x, hx, y, hy, rfl, h1, h2⟩
      refine ⟨(x, y), List.mem_filter.2 ⟨prsL_mem.2 ⟨hx, hy⟩, ?_⟩, rfl⟩
      unfold eqsB
      rw [Bool.and_eq_true]
      exact ⟨h1, by simpa using h2⟩
/-- the list behind i whole rows and k places of the next one; ns are the names, ascending, q tells whether two statements are an equivalence. -/
structure EqI (ns : List Nm) (q : Nat → Nat → Bool) (i k : Nat) (L : List N2) : Prop where
  asc : L.Pairwise ltP
  mem : ∀ p, p ∈ L ↔ ∃ a b, ∃ (ha : a < ns.length) (hb : b < ns.length), (a < i ∨ (a = i ∧ b < k)) ∧ a ≤ b ∧ q a b = true ∧ p = (ns[a], ns[b])
theorem EqI.start (ns : List Nm) (q : Nat → Nat → Bool) : EqI ns q 0 0 [] := ⟨by simp, fun p => by
  constructor
  · intro h; cases h
  · rintro ⟨a, b, -, -, h | h, -⟩ <;> omega⟩
theorem EqI.skip {ns : List Nm} {q : Nat → Nat → Bool} {i k : Nat} {L : List N2} (h : EqI ns q i k L) (hq : q i k = false) : EqI ns q i (k + 1) L := ⟨h.asc, fun p => by
  rw [h.mem]
  constructor
  · rintro ⟨a, b, ha, hb, h1, h2⟩
    exact ⟨a, b, ha, hb, by omega, h2⟩
  · rintro ⟨a, b, ha, hb, h1, h2, h3, h4⟩
    refine ⟨a, b, ha, hb, ?_, h2, h3, h4⟩
    rcases h1 with h1 | ⟨rfl, h1⟩
    · exact Or.inl h1
    · by_cases e : b = k
      · subst e; rw [hq] at h3; cases h3
      · exact Or.inr ⟨rfl, by omega⟩⟩
theorem EqI.next {ns : List Nm} {q : Nat → Nat → Bool} {i k : Nat} {L : List N2} (h : EqI ns q i k L) (hk : ns.length ≤ k) : EqI ns q (i + 1) (i + 1) L := ⟨h.asc, fun p => by
  rw [h.mem]
  constructor
  · rintro ⟨a, b, ha, hb, h1, h2⟩
    exact ⟨a, b, ha, hb, by omega, h2⟩
  · rintro ⟨a, b, ha, hb, h1, h2, h3, h4⟩
    exact ⟨a, b, ha, hb, by omega, h2, h3, h4⟩⟩
theorem EqI.at0 {ns : List Nm} {q : Nat → Nat → Bool} {i : Nat} {L : List N2} (h : EqI ns q i 0 L) : EqI ns q i i L := ⟨h.asc, fun p => by
  rw [h.mem]
  constructor
  · rintro ⟨a, b, ha, hb, h1, h2⟩
    exact ⟨a, b, ha, hb, by omega, h2⟩
  · rintro ⟨a, b, ha, hb, h1, h2, h3, h4⟩
    exact ⟨a, b, ha, hb, by omega, h2, h3, h4⟩⟩
theorem EqI.push {ns : List Nm} {q : Nat → Nat → Bool} {i k : Nat} {L : List N2} (h : EqI ns q i k L) (hn : AscN ns) (hi : i < ns.length) (hk : k < ns.length) (hik : i ≤ k) (hq : q i k = true) : EqI ns q i (k + 1) (L ++ [(ns[i], ns[k])]) := by
  have lt : ∀ {a b : Nat} (ha : a < ns.length) (hb : b < ns.length), a < b → ltN ns[a] ns[b] := fun ha hb hab => List.pairwise_iff_getElem.1 hn _ _ ha hb hab
  refine ⟨List.pairwise_append.2 ⟨h.asc, by simp, fun p hp r hr => ?_⟩, fun p => ?_⟩
  · simp at hr
    subst hr
    obtain ⟨a, b, ha, hb, h1, h2, h3, rfl⟩ := (h.mem p).1 hp
    rcases h1 with h1 | ⟨rfl, h1⟩
    · exact Or.inl (lt ha hi h1)
    · exact Or.inr ⟨rfl, lt hb hk h1⟩
  · rw [List.mem_append, h.mem]
    constructor
    · rintro (⟨a, b, ha, hb, h1, h2⟩ | h1)
      · exact ⟨a, b, ha, hb, by omega, h2⟩
      · simp at h1
        exact ⟨i, k, hi, hk, by omega, hik, hq, h1⟩
    · rintro ⟨a, b, ha, hb, h1, h2, h3, h4⟩
      by_cases e : a = i ∧ b = k
      · obtain ⟨rfl, rfl⟩ := e
        exact Or.inr (by simp [h4])
      · exact Or.inl ⟨a, b, ha, hb, by omega, h2, h3, h4⟩
theorem asc_le {ns : List Nm} (hn : AscN ns) {a b : Nat} (ha : a < ns.length) (hb : b < ns.length) : a ≤ b ↔ ¬ ltN ns[b] ns[a] := by
  constructor
  · intro h k
    rcases Nat.lt_or_eq_of_le h with h1 | rfl
    · exact ltN.asym (List.pairwise_iff_getElem.1 hn a b ha hb h1) k
    · exact ltN.irr _ k
  · intro h
    rcases Nat.lt_or_ge b a with h1 | h1
    · exact absurd (List.pairwise_iff_getElem.1 hn b a hb ha h1) h
    · exact h1
/-- all rows are done. -/
theorem EqI.fin {s : Sg} {l : List En} (hnd : (l.map En.name).Nodup) {ns : List Nm} {q : Nat → Nat → Bool} {i k : Nat} {L : List N2} (h : EqI ns q i k L) (hi : ns.length ≤ i) (hn : AscN ns) (hm : ∀ x, x ∈ ns ↔ x ∈ l.map En.name)
    (hq : ∀ a b (ha : a < ns.length) (hb : b < ns.length) x y, x ∈ l → y ∈ l → x.name = ns[a] → y.name = ns[b] → q a b = (eqvR s x.says y.says).1) : EqsQ s l L := by
  refine ⟨h.asc, fun p => ?_⟩
  rw [h.mem]
  constructor
  · rintro ⟨a, b, ha, hb, h1, h2, h3, rfl⟩
    obtain ⟨x, hx, ex⟩ := List.mem_map.1 ((hm ns[a]).1 (List.getElem_mem ha))
    obtain ⟨y, hy, ey⟩ := List.mem_map.1 ((hm ns[b]).1 (List.getElem_mem hb))
    refine ⟨x, hx, y, hy, by rw [ex, ey], by rw [← hq a b ha hb x y hx hy ex ey]; exact h3, ?_⟩
    rw [ex, ey]
    exact (asc_le hn ha hb).1 h2
  · rintro ⟨x, hx, y, hy, rfl, h1, h2⟩
    obtain ⟨a, ha, ea⟩ := List.getElem_of_mem ((hm x.name).2 (List.mem_map.2 ⟨x, hx, rfl⟩))
    obtain ⟨b, hb, eb⟩ := List.getElem_of_mem ((hm y.name).2 (List.mem_map.2 ⟨y, hy, rfl⟩))
    rw [← ea, ← eb] at h2
    exact ⟨a, b, ha, hb, by omega, (asc_le hn ha hb).2 h2, by rw [hq a b ha hb x y hx hy ea.symm eb.symm]; exact h1, by rw [ea, eb]⟩
theorem insN_at : ∀ {l : List Nm} {n : Nm} {k : Nat}, (∀ j (h : j < l.length), j < k → ltN l[j] n) → k ≤ l.length → (∀ h : k < l.length, ¬ ltN l[k] n) → insN n l = l.take k ++ n :: l.drop k
  | [], n, k, _, hk, _ => by simp at hk; subst hk; rfl
  | x :: l, n, 0, _, _, h => by
    have := h (by simp)
    simp only [List.getElem_cons_zero] at this
    rw [insN, if_neg this]; rfl
  | x :: l, n, k + 1, h1, hk, h => by
    have h0 := h1 0 (by simp) (by omega)
    simp only [List.getElem_cons_zero] at h0
    rw [insN, if_pos h0, insN_at (l := l) (n := n) (k := k) (fun j hj hjk => by
      have := h1 (j + 1) (by simpa using hj) (by omega)
      rw [List.getElem_cons_succ] at this
      exact this) (by simpa using hk) (fun hl => by
      have := h (by simpa using hl)
      rw [List.getElem_cons_succ] at this
      exact this)]
    rfl
theorem insN_len (n : Nm) : ∀ l : List Nm, (insN n l).length = l.length + 1
  | [] => rfl
  | x :: l => by
    unfold insN
    split
    · simp [insN_len n l]
    · simp
theorem srtN_snoc (l : List Nm) (n : Nm) : srtN (l ++ [n]) = if hasN (srtN l) n then srtN l else insN n (srtN l) := by unfold srtN; rw [List.foldl_append]; rfl
theorem srtN_len (l : List Nm) : (srtN l).length ≤ l.length := by
  have key : ∀ (l o : List Nm), (l.foldl (fun o n => if hasN o n then o else insN n o) o).length ≤ o.length + l.length := by
    intro l
    induction l with
    | nil => intro o; simp
    | cons n l ih =>
      intro o
      rw [List.foldl_cons]
      have h1 := ih (if hasN o n = true then o else insN n o)
      have h2 : (if hasN o n = true then o else insN n o).length ≤ o.length + 1 := by
        split
        · omega
        · rw [insN_len]; exact Nat.le_refl _
      rw [List.length_cons]; omega
  have := key l []
  simpa [srtN] using this
end Go.Proofs.YtpflkjldapmgdaaGreat
