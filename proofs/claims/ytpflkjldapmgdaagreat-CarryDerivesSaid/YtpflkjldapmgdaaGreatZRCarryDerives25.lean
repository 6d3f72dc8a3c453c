/-
  WHAT IT HOLDS: contracts of Detached of package unify, halves and Detach of package kernel, and what detaching is (DetR). Conditions: the arguments read as data; small signs.
  WHAT IT HOLDS: contracts of asked of package kernel, and of the two functions that say what a step says. Conditions: the arguments read as data; a small sign.
  WHAT IT HOLDS: the plain law of converses: what a converse is, that it is a statement again, that the converse of a converse is alike the statement. No program in sight.
  WHAT IT HOLDS: the plain law of the pairs of names whose statements are an equivalence: one answer alone. No program in sight.
-/
import Derived.Test.YtpflkjldapmgdaaGreatZRCarryDerives21
import Derived.Test.YtpflkjldapmgdaaGreatZRCarryDerives24
import Derived.Test.YtpflkjldapmgdaaGreatZRCarryDerives14
import Derived.Test.YtpflkjldapmgdaaGreatZRCarryDerives17
import Derived.Test.YtpflkjldapmgdaaGreatZRCarryDerives15
import Derived.Test.YtpflkjldapmgdaaGreatZRCarryDerives12
import Derived.Test.YtpflkjldapmgdaaGreatZRCarryDerives18
namespace Go.Proofs.YtpflkjldapmgdaaGreat
open Go Go.RowKit Go.Maps
/-- what is detached of m and n. -/
def DetR (s : Sg) (m n : List Int) (x : List Int × Int) : Prop :=
  ((termB s m && termB s n) = false ∧ x = ([], 1)) ∨ (termB s m = true ∧ termB s n = true ∧ ((m.head? ≠ some 0 ∧ x = ([], 10)) ∨
    ∃ A B, m = 0 :: (A ++ B) ∧ IsT s 12 A ∧ IsT s 12 B ∧ UR s A (aparL n) B x))
theorem halves_T {s : Sg} {m : List Int} (hv : termB s m = true) (h0 : m.head? = some 0) : ∃ A B, m = 0 :: (A ++ B) ∧ IsT s 12 A ∧ IsT s 12 B ∧ A.length ≤ 60 ∧ B.length ≤ 60 := by
  obtain ⟨f1, -, -, f4⟩ := termB_facts hv
  have hT := termB_T hv
  cases hT with
  | var n h1 h2 => simp at h0; omega
  | app c zs hc hl ha =>
    have hc0 : c = 0 := by simp at h0; omega
    subst hc0
    have har : arOf s ((0 : Nat) : Int) = 2 := by
      unfold signB at f1
      simp only [Bool.and_eq_true] at f1
      have h2 := f1.1.2
      have h0' : 0 < s.length := hc
      rw [List.getElem?_eq_getElem h0'] at h2
      unfold arOf
      simp [h0']
      simpa using h2
    rw [har] at hl
    obtain ⟨A, B, rfl⟩ : ∃ A B, zs = [A, B] := by
      match zs, hl with
      | [A, B], _ => exact ⟨A, B, rfl⟩
      | [], h => simp at h
      | [_], h => simp at h
      | _ :: _ :: _ :: _, h => simp at h; omega
    simp at f4
    exact ⟨A, B, by simp, ha A (by simp), ha B (by simp), by omega, by omega⟩
theorem halves_arP {s : Sg} (f1 : signB s = true) : arP s 0 = 2 := by
  unfold signB at f1
  simp only [Bool.and_eq_true] at f1
  have h1 := inB_true.1 f1.1.1
  have h0 : 0 < s.length := by omega
  have h2 := f1.1.2
  rw [List.getElem?_eq_getElem h0] at h2
  have h3 : s[0].2 = 2 := by simpa using h2
  unfold arP
  rw [show inB 0 (-12) (-1) = false from by decide, if_neg (by simp), if_pos (inB_true.2 ⟨by omega, by omega⟩)]
  unfold arOf
  simp [h0, h3]
set_option maxHeartbeats 1000000 in
theorem unify_Detached (vs va vt vb : Value) (s : Sg) (a t b : List Int) (w : World) (f1 : signB s = true) (ta : IsT s 12 a) (tt : IsT s 12 t) (hb : termB s b = true) (la : a.length ≤ 60) (lt : t.length ≤ 60) (hs : SignAt w vs s) (ra : Ints w va a) (rt : Ints w vt t) (rb : Ints w vb b) (hs1 : s.length ≤ 1000) :
    Calls Tryz.prog 113 #[vs, va, vt, vb] w fun e w' => ∃ x u, UR s a (aparL b) t x ∧ e = .returned (.tuple #[u, .int .i64 x.2]) ∧ w'.ownsRow w.heap.size 3 1 u x.1.length (x.1.map (Value.int .i64)) ∧ Below w.heap.size w w' := by
  have HR : Hid (∀ x, UR s a (aparL b) t x → UR s a (aparL b) t x) := hid (fun _ h => h)
  obtain ⟨_, _, f3, f5⟩ := termB_facts hb
  have tb := termB_T hb
  have hb0 := tb.ne
  have TA := hid (ta.mono (m' := 24) (by omega))
  have TT := hid (tt.mono (m' := 24) (by omega))
  have TB := hid (aparL_T tb)
  have TS := hid (T_small12 tb f3)
  have LB := hid (aparL_len b)
  clear ta tb tt hb
  go_enter Tryz.func113, Tryz.ntmps113
  go_wp2_with fail
  refine (unify_apart _ b _ rb hb0 (by omega) TS.out).mono ?_
  rintro e w3 ⟨ub, rfl, hown, hb3⟩
  have rb3 := Ints.of_owns hown (by rw [LB.out]; omega)
  clear hown
  go_wp2_with fail
  refine (unify_solved _ _ _ s a (aparL b) _ f1 TA.out TB.out la (by rw [LB.out]; exact f5) (hs.below hb3) (ra.below hb3) rb3).mono ?_
  rintro e w4 ⟨hb4', px, ⟨rfl, hno⟩ | ⟨rfl, bm, M, hS, hmgu⟩⟩
  · have HB := hid (hb3.trans (hb4'.mono hb3.size))
    have HX : Hid (UR s a (aparL b) t ([], 8)) := hid (HR.out _ (Or.inl ⟨hno, rfl⟩))
    clear hb4' hb3 hno rb3
    go_wp2
    go_ret2
    exact ⟨([], 8), _, HX.out, rfl, World.ownsRow_nil _ _ _ _, HB.out⟩
  · have hb4 := hb3.trans (hb4'.mono hb3.size)
    have HMD := hid (unify_made px bm _ _ s M t w4 hmgu.1 hS TT.out lt (rt.below hb4) hs1)
    have HMG := hid hmgu
    have HB := hid hb4
    have hsz := hb4.size
    clear hb4' hb3 hb4 hmgu hS rb3
    go_wp2_with fail
    refine HMD.out.mono ?_
    rintro e w5 ⟨hb5, ⟨hm, u, rfl, hown⟩ | ⟨hm, rfl⟩⟩
    · have HX : Hid (UR s a (aparL b) t (canonL (fw (mOf M) t), 0)) := hid (HR.out _ (Or.inr ⟨_, HMG.out, Or.inl ⟨hm, rfl⟩⟩))
      have HO := hid (owns_base hown hsz)
      have HB5 := hid (HB.out.trans (hb5.mono hsz))
      clear hown hb5 hm
      go_wp2
      go_ret2
      exact ⟨_, _, HX.out, rfl, HO.out, HB5.out⟩
    · have HX : Hid (UR s a (aparL b) t ([], 4)) := hid (HR.out _ (Or.inr ⟨_, HMG.out, Or.inr ⟨hm, rfl⟩⟩))
      have HB5 := hid (HB.out.trans (hb5.mono hsz))
      clear hb5 hm
      go_wp2
      go_ret2
      exact ⟨([], 4), _, HX.out, rfl, World.ownsRow_nil _ _ _ _, HB5.out⟩
theorem len_two : ∀ {l : List Value}, l.length = 2 → ∃ a b, l = [a, b]
  | [a, b], _ => ⟨a, b, rfl⟩
  | [], h => by simp at h
  | [_], h => by simp at h
  | _ :: _ :: _ :: _, h => by simp at h
set_option maxHeartbeats 1000000 in
theorem kernel_halves0 (vs vm : Value) (s : Sg) (m : List Int) (w : World) (hm : 0 < m.length) (h0 : m.head? ≠ some 0) (rm : Ints w vm m) :
    Calls Tryz.prog 112 #[vs, vm] w fun e w' => e = .returned (.tuple #[.slice none 0 0, .slice none 0 0, .bool false]) ∧ Below w.heap.size w w' := by
  obtain ⟨ta, tcap, rfl, hcap, h2, -, TC⟩ := rm.open
  obtain ⟨b, o, rfl, hc0⟩ := TC 0 hm
  simp only [Nat.add_zero] at hc0
  have hn : m[0] ≠ 0 := fun h => h0 (by rw [List.head?_eq_getElem?, List.getElem?_eq_getElem hm, h])
  have hnd : (m[0] != 0) = true := by simpa using hn
  obtain ⟨x, hx⟩ : ∃ x, m[0] = x := ⟨_, rfl⟩
  rw [hx] at hc0 hnd
  clear TC rm h0 hx hn
  go_enter Tryz.func112, Tryz.ntmps112
  go_wp2
  go_ret3
  exact ⟨rfl, Below.refl _ _⟩
set_option maxHeartbeats 1000000 in
theorem kernel_halves (vs vm : Value) (s : Sg) (m A B : List Int) (w : World) (hm : m = 0 :: (A ++ B)) (hv : termB s m = true) (hA : IsT s 12 A) (hB : IsT s 12 B) (hs : SignAt w vs s) (rm : Ints w vm m) (hs1 : s.length ≤ 1000) :
    Calls Tryz.prog 112 #[vs, vm] w fun e w' => ∃ ua ub, e = .returned (.tuple #[ua, ub, .bool true]) ∧ Ints w' ua A ∧ Ints w' ub B ∧ Below w.heap.size w w' := by
  have f1 := (termB_facts hv).1
  have HAR := hid (term_Args vs vm s m [A, B] w hv 0 (by simpa using hm) (by rw [halves_arP f1]; simp) (by intro a ha; simp at ha; rcases ha with rfl | rfl <;> assumption) hs rm hs1)
  obtain ⟨ta, tcap, hva, hcap, h2, -, TC⟩ := rm.open
  subst hva
  obtain ⟨b, o, rfl, hc0⟩ := TC 0 (by rw [hm]; simp)
  have hm0 : ∀ (h : 0 < m.length), m[0] = 0 := by intro h; subst hm; rfl
  have hmp : 0 < m.length := by rw [hm]; simp
  rw [hm0] at hc0
  simp only [Nat.add_zero] at hc0
  clear TC rm hv hA hB hm hm0
  go_enter Tryz.func112, Tryz.ntmps112
  go_wp2_with fail
  refine HAR.out.mono ?_
  rintro e w1 ⟨u, vvs, rfl, hl, hb1⟩
  have hv1 := hl.here
  clear hl
  have HB1 := hid hb1
  clear hb1 hc0
  obtain ⟨hrow, hvl, hrd⟩ := hv1
  obtain ⟨va, vb, rfl⟩ := len_two hvl
  have hIA := hrd 0 va A rfl rfl
  have hIB := hrd 1 vb B rfl rfl
  obtain ⟨a, cap, he, hc, hmx, hnone, hcell⟩ := hrow.open
  subst he
  obtain ⟨g, o, rfl, c0⟩ := hcell 0 (by simp)
  obtain ⟨g', o', he', c1⟩ := hcell 1 (by simp)
  obtain ⟨rfl, rfl⟩ : g = g' ∧ o = o' := by simpa using he'
  simp only [List.getElem_cons_zero, List.getElem_cons_succ, Nat.add_zero, List.length_cons, List.length_nil, Nat.zero_add, Nat.reduceAdd] at c0 c1 hc ⊢
  have HIA := hid hIA
  have HIB := hid hIB
  clear hIA hIB hrd hcell hrow he' hvl
  go_wp2
  go_quiet (fail)
  go_wp2
  go_ret3
  exact ⟨_, _, rfl, HIA.out.drewN _, HIB.out.drewN _, below_drewN HB1.out _⟩
set_option maxHeartbeats 1000000 in
theorem kernel_Detach (vs vm vn : Value) (s : Sg) (m n : List Int) (w : World) (hs : SignAt w vs s) (rm : Ints w vm m) (rn : Ints w vn n) (hs1 : s.length ≤ 1000) :
    Calls Tryz.prog 42 #[vs, vm, vn] w fun e w' => ∃ x u, DetR s m n x ∧ e = .returned (.tuple #[u, .int .i64 x.2]) ∧ w'.ownsRow w.heap.size 3 1 u x.1.length (x.1.map (Value.int .i64)) ∧ Below w.heap.size w w' := by
  cases h1 : termB s m
  · have HR : Hid (DetR s m n ([], 1)) := hid (Or.inl ⟨by rw [h1]; rfl, rfl⟩)
    have H1 := hid h1
    clear h1
    go_enter Tryz.func42, Tryz.ntmps42
    go_wp2_with fail
    refine (term_Valid' _ _ _ _ _ hs rm hs1).mono ?_
    rintro e w1 ⟨rfl, hb1⟩
    rw [H1.out]
    go_wp2_with fail
    go_ret2
    exact ⟨([], 1), _, HR.out, rfl, World.ownsRow_nil _ _ _ _, hb1⟩
  · cases h2 : termB s n
    · have HR : Hid (DetR s m n ([], 1)) := hid (Or.inl ⟨by rw [h2]; simp, rfl⟩)
      have H1 := hid h1
      have H2 := hid h2
      clear h1 h2
      go_enter Tryz.func42, Tryz.ntmps42
      go_wp2_with fail
      refine (term_Valid' _ _ _ _ _ hs rm hs1).mono ?_
      rintro e w1 ⟨rfl, hb1⟩
      rw [H1.out]
      go_wp2_with fail
      refine (term_Valid' _ _ _ _ _ (hs.below hb1) (rn.below hb1) hs1).mono ?_
      rintro e w2 ⟨rfl, hb2⟩
      rw [H2.out]
      have HB := hid (hb1.trans (hb2.mono hb1.size))
      clear hb1 hb2
      go_wp2
      go_ret2
      exact ⟨([], 1), _, HR.out, rfl, World.ownsRow_nil _ _ _ _, HB.out⟩
    · have hm0 := (termB_T h1).ne
      by_cases h0 : m.head? = some 0
      · obtain ⟨A, B, rfl, tA, tB, lA, lB⟩ := halves_T h1 h0
        have HR : Hid (∀ x, UR s A (aparL n) B x → DetR s (0 :: (A ++ B)) n x) := hid fun x hx => Or.inr ⟨h1, h2, Or.inr ⟨A, B, rfl, tA, tB, hx⟩⟩
        have f1 := (termB_facts h1).1
        have H1 := hid h1
        have H2 := hid h2
        have TA := hid tA
        have TB := hid tB
        clear h1 h2 h0 tA tB
        go_enter Tryz.func42, Tryz.ntmps42
        go_wp2_with fail
        refine (term_Valid' _ _ _ _ _ hs rm hs1).mono ?_
        rintro e w1 ⟨rfl, hb1⟩
        rw [H1.out]
        go_wp2_with fail
        refine (term_Valid' _ _ _ _ _ (hs.below hb1) (rn.below hb1) hs1).mono ?_
        rintro e w2 ⟨rfl, hb2'⟩
        rw [H2.out]
        have hb2 := hb1.trans (hb2'.mono hb1.size)
        go_wp2_with fail
        refine (kernel_halves _ _ s _ A B _ rfl H1.out TA.out TB.out (hs.below hb2) (rm.below hb2) hs1).mono ?_
        rintro e w3 ⟨ua, ub, rfl, ra, rb, hb3'⟩
        have hb3 := hb2.trans (hb3'.mono hb2.size)
        clear hb2' hb3' hb2 hb1
        go_wp2_with fail
        refine (unify_Detached _ _ _ _ s A B n _ f1 TA.out TB.out H2.out lA lB (hs.below hb3) ra rb (rn.below hb3) hs1).mono ?_
        rintro e w4 ⟨x, u, hx, rfl, hown, hb4'⟩
        have HO := hid (owns_base hown hb3.size)
        have HB := hid (hb3.trans (hb4'.mono hb3.size))
        have HX := hid (HR.out x hx)
        clear hx hown hb4' hb3 ra rb
        go_wp2
        go_ret2
        exact ⟨x, u, HX.out, rfl, HO.out, HB.out⟩
      · have HR : Hid (DetR s m n ([], 10)) := hid (Or.inr ⟨h1, h2, Or.inl ⟨h0, rfl⟩⟩)
        have H1 := hid h1
        have H2 := hid h2
        have H0 := hid h0
        clear h1 h2 h0
        go_enter Tryz.func42, Tryz.ntmps42
        go_wp2_with fail
        refine (term_Valid' _ _ _ _ _ hs rm hs1).mono ?_
        rintro e w1 ⟨rfl, hb1⟩
        rw [H1.out]
        go_wp2_with fail
        refine (term_Valid' _ _ _ _ _ (hs.below hb1) (rn.below hb1) hs1).mono ?_
        rintro e w2 ⟨rfl, hb2'⟩
        rw [H2.out]
        have hb2 := hb1.trans (hb2'.mono hb1.size)
        go_wp2_with fail
        refine (kernel_halves0 _ _ s m _ hm0 H0.out (rm.below hb2)).mono ?_
        rintro e w3 ⟨rfl, hb3'⟩
        have HB := hid (hb2.trans (hb3'.mono hb2.size))
        clear hb2' hb3' hb2 hb1
        go_wp2
        go_ret2
        exact ⟨([], 10), _, HR.out, rfl, World.ownsRow_nil _ _ _ _, HB.out⟩
end Go.Proofs.YtpflkjldapmgdaaGreat
namespace Go.Proofs.YtpflkjldapmgdaaGreat
open Go Go.RowKit Go.Maps
end Go.Proofs.YtpflkjldapmgdaaGreat
namespace Go.Proofs.YtpflkjldapmgdaaGreat
open Go
/-- the converse of a statement that says "if". -/
def convL (s : Sg) (t : List Int) : List Int := canonL (0 :: (t.tail.drop (pLen s t.tail 1) ++ t.tail.take (pLen s t.tail 1)))
theorem convL_eq {s : Sg} {A B : List Int} (hA : IsT s 12 A) : convL s (0 :: (A ++ B)) = canonL (0 :: (B ++ A)) := by
  unfold convL
  rw [List.tail_cons, pLen_T1 hA, List.drop_left, List.take_left]
/-- what Converse answers. -/
def convR (s : Sg) (t : List Int) : List Int × Int := if termB s t then (if t.head? = some 0 then (convL s t, 0) else ([], 10)) else ([], 1)
theorem swap_term {s : Sg} {A B : List Int} (hA : IsT s 12 A) (hB : IsT s 12 B) (h : termB s (0 :: (A ++ B)) = true) : termB s (0 :: (B ++ A)) = true := by
  obtain ⟨f1, f2, -, f4⟩ := termB_facts h
  refine T_termB f1 ?_ (by simp at f4 ⊢; omega)
  have har := halves_arP f1
  have := IsT.app (s := s) (m := 12) 0 [B, A] (by omega) (by
    unfold arP at har
    rw [show inB 0 (-12) (-1) = false from by decide, if_neg (by simp)] at har
    split at har
    · have h2 : arOf s ((0 : Nat) : Int) = arOf s 0 := rfl
      rw [h2]; simp; omega
    · omega) (by
      intro x hx
      simp at hx
      rcases hx with rfl | rfl <;> assumption)
  simpa using this
/-- what Equivalence answers. -/
def eqvR (s : Sg) (t u : List Int) : Bool × Int := if termB s t && termB s u then (decide (t.head? = some 0) && alikeB s (convL s t) u, 0) else (false, 1)
end Go.Proofs.YtpflkjldapmgdaaGreat
namespace Go.Proofs.YtpflkjldapmgdaaGreat
open Go Go.RowKit
/-- whether a list of pairs of names is that of the equivalences, ascending. -/
structure EqsQ (s : Sg) (l : List En) (L : List N2) : Prop where
  asc : L.Pairwise ltP
  mem : ∀ p, p ∈ L ↔ ∃ x ∈ l, ∃ y ∈ l, p = (x.name, y.name) ∧ (eqvR s x.says y.says).1 = true ∧ ¬ ltN y.name x.name
theorem EqsQ.unique {s : Sg} {l : List En} {L M : List N2} (h : EqsQ s l L) (k : EqsQ s l M) : L = M :=
  asc_unique ltP.irr (fun h k => ltP.trans h k) h.asc k.asc fun x => by rw [h.mem, k.mem]
/-- what Equivalences answers. -/
def EqsA (s : Sg) (l : List En) (L : List N2) (e : Int) : Prop := (libB s l = false ∧ L = [] ∧ e = 1) ∨ (libB s l = true ∧ EqsQ s l L ∧ e = 0)
theorem EqsA.unique {s : Sg} {l : List En} {L M : List N2} {e f : Int} (h : EqsA s l L e) (k : EqsA s l M f) : L = M ∧ e = f := by
  rcases h with ⟨h1, rfl, rfl⟩ | ⟨h1, h2, rfl⟩
  · rcases k with ⟨-, rfl, rfl⟩ | ⟨k1, -⟩
    · exact ⟨rfl, rfl⟩
    · rw [h1] at k1; cases k1
  · rcases k with ⟨k1, -⟩ | ⟨-, k2, rfl⟩
    · rw [h1] at k1; cases k1
    · exact ⟨h2.unique k2, rfl⟩
/-- the pairs of entries, in the order in which they come. -/
def prsL (l : List En) : List (En × En) := l.flatMap fun x => l.map fun y => (x, y)
def eqsB (s : Sg) (p : En × En) : Bool := (eqvR s p.1.says p.2.says).1 && !decide (ltN p.2.name p.1.name)
def nm2 (p : En × En) : N2 := (p.1.name, p.2.name)
theorem prsL_mem {l : List En} {p : En × En} : p ∈ prsL l ↔ p.1 ∈ l ∧ p.2 ∈ l := by
  unfold prsL
  rw [List.mem_flatMap]
  constructor
  · rintro ⟨x, hx, hp⟩
    obtain ⟨y, hy, rfl⟩ := List.mem_map.1 hp
    exact ⟨hx, hy⟩
  · rintro ⟨h1, h2⟩
    exact ⟨p.1, h1, List.mem_map.2 ⟨p.2, h2, rfl⟩⟩
/-- the list behind i whole rows and k places of the next one; ns are the names, ascending, q tells whether two statements are an equivalence. -/
structure EqI (ns : List Nm) (q : Nat → Nat → Bool) (i k : Nat) (L : List N2) : Prop where
  asc : L.Pairwise ltP
  mem : ∀ p, p ∈ L ↔ ∃ a b, ∃ (ha : a < ns.length) (hb : b < ns.length), (a < i ∨ (a = i ∧ b < k)) ∧ a ≤ b ∧ q a b = true ∧ p = (ns[a], ns[b])
theorem EqI.start (ns : List Nm) (q : Nat → Nat → Bool) : EqI ns q 0 0 [] := ⟨by simp, fun p => by
  constructor
  · intro h; cases h
  · rintro ⟨a, b, -, -, h | h, -⟩ <;> omega⟩
theorem EqI.skip {ns : List Nm} {q : Nat → Nat → Bool} {i k : Nat} {L : List N2} (h : EqI ns q i k L) (hq : q i k = false) : EqI ns q i (k + 1) L := ⟨h.asc, fun p => by
  rw [h.mem]
  constructor
  · rintro ⟨a, b, ha, hb, h1, h2⟩
    exact ⟨a, b, ha, hb, by omega, h2⟩
  · rintro ⟨a, b, ha, hb, h1, h2, h3, h4⟩
    refine ⟨a, b, ha, hb, ?_, h2, h3, h4⟩
    rcases h1 with h1 | ⟨rfl, h1⟩
    · exact Or.inl h1
    · by_cases e : b = k
      · subst e; rw [hq] at h3; cases h3
      · exact Or.inr ⟨rfl, by omega⟩⟩
theorem EqI.next {ns : List Nm} {q : Nat → Nat → Bool} {i k : Nat} {L : List N2} (h : EqI ns q i k L) (hk : ns.length ≤ k) : EqI ns q (i + 1) (i + 1) L := ⟨h.asc, fun p => by
  rw [h.mem]
  constructor
  · rintro ⟨a, b, ha, hb, h1, h2⟩
    exact ⟨a, b, ha, hb, by omega, h2⟩
  · rintro ⟨a, b, ha, hb, h1, h2, h3, h4⟩
    exact ⟨a, b, ha, hb, by omega, h2, h3, h4⟩⟩
theorem EqI.push {ns : List Nm} {q : Nat → Nat → Bool} {i k : Nat} {L : List N2} (h : EqI ns q i k L) (hn : AscN ns) (hi : i < ns.length) (hk : k < ns.length) (hik : i ≤ k) (hq : q i k = true) : EqI ns q i (k + 1) (L ++ [(ns[i], ns[k])]) := by
  have lt : ∀ {a b : Nat} (ha : a < ns.length) (hb : b < ns.length), a < b → ltN ns[a] ns[b] := fun ha hb hab => List.pairwise_iff_getElem.1 hn _ _ ha hb hab
  refine ⟨List.pairwise_append.2 ⟨h.asc, by simp, fun p hp r hr => ?_⟩, fun p => ?_⟩
  · simp at hr
    subst hr
    obtain ⟨a, b, ha, hb, h1, h2, h3, rfl⟩ := (h.mem p).1 hp
    rcases h1 with h1 | ⟨rfl, h1⟩
    · exact Or.inl (lt ha hi h1)
    · exact Or.inr ⟨rfl, lt hb hk h1⟩
  · rw [List.mem_append, h.mem]
    constructor
    · rintro (⟨a, b, ha, hb, h1, h2⟩ | h1)
      · exact ⟨a, b, ha, hb, by omega, h2⟩
      · simp at h1
        exact ⟨i, k, hi, hk, by omega, hik, hq, h1⟩
    · rintro ⟨a, b, ha, hb, h1, h2, h3, h4⟩
      by_cases e : a = i ∧ b = k
      · obtain ⟨rfl, rfl⟩ := e
        exact Or.inr (by simp [h4])
      · exact Or.inl ⟨a, b, ha, hb, by omega, h2, h3, h4⟩
theorem asc_le {ns : List Nm} (hn : AscN ns) {a b : Nat} (ha : a < ns.length) (hb : b < ns.length) : a ≤ b ↔ ¬ ltN ns[b] ns[a] := by
  constructor
  · intro h k
    rcases Nat.lt_or_eq_of_le h with h1 | rfl
    · exact ltN.asym (List.pairwise_iff_getElem.1 hn a b ha hb h1) k
    · exact ltN.irr _ k
  · intro h
    rcases Nat.lt_or_ge b a with h1 | h1
    · exact absurd (List.pairwise_iff_getElem.1 hn b a hb ha h1) h
    · exact h1
/-- all rows are done. -/
theorem EqI.fin {s : Sg} {l : List En} (hnd : (l.map En.name).Nodup) {ns : List Nm} {q : Nat → Nat → Bool} {i k : Nat} {L : List N2} (h : EqI ns q i k L) (hi : ns.length ≤ i) (hn : AscN ns) (hm : ∀ x, x ∈ ns ↔ x ∈ l.map En.name)
    (hq : ∀ a b (ha : a < ns.length) (hb : b < ns.length) x y, x ∈ l → y ∈ l → x.name = ns[a] → y.name = ns[b] → q a b = (eqvR s x.says y.says).1) : EqsQ s l L := by
  refine ⟨h.asc, fun p => ?_⟩
  rw [h.mem]
  constructor
  · rintro ⟨a, b, ha, hb, h1, h2, h3, rfl⟩
    obtain ⟨x, hx, ex⟩ := List.mem_map.1 ((hm ns[a]).1 (List.getElem_mem ha))
    obtain ⟨y, hy, ey⟩ := List.mem_map.1 ((hm ns[b]).1 (List.getElem_mem hb))
    refine ⟨x, hx, y, hy, by rw [ex, ey], by rw [← hq a b ha hb x y hx hy ex ey]; exact h3, ?_⟩
    rw [ex, ey]
    exact (asc_le hn ha hb).1 h2
  · rintro ⟨x, hx, y, hy, rfl, h1, h2⟩
    obtain ⟨a, ha, ea⟩ := List.getElem_of_mem ((hm x.name).2 (List.mem_map.2 ⟨x, hx, rfl⟩))
    obtain ⟨b, hb, eb⟩ := List.getElem_of_mem ((hm y.name).2 (List.mem_map.2 ⟨y, hy, rfl⟩))
    rw [← ea, ← eb] at h2
    exact ⟨a, b, ha, hb, by omega, (asc_le hn ha hb).2 h2, by rw [hq a b ha hb x y hx hy ea.symm eb.symm]; exact h1, by rw [ea, eb]⟩
end Go.Proofs.YtpflkjldapmgdaaGreat
