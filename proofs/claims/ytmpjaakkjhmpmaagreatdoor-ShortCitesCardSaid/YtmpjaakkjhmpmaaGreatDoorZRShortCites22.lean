/-
  WHAT IT HOLDS: contracts of Detached of package unify, halves and Detach of package kernel, and what detaching is (DetR). Conditions: the arguments read as data; small signs.
  WHAT IT HOLDS: contracts of asked of package kernel, and of the two functions that say what a step says. Conditions: the arguments read as data; a small sign.
  WHAT IT HOLDS: the plain law of converses: what a converse is, that it is a statement again, that the converse of a converse is alike the statement. No program in sight.
  WHAT IT HOLDS: the plain law of the pairs of names whose statements are an equivalence: one answer alone. No program in sight.
-/
import Derived.Test.YtmpjaakkjhmpmaaGreatDoorZRShortCites16
import Derived.Test.YtmpjaakkjhmpmaaGreatDoorZRShortCites19
import Derived.Test.YtmpjaakkjhmpmaaGreatDoorZRShortCites12
import Derived.Test.YtmpjaakkjhmpmaaGreatDoorZRShortCites7
import Derived.Test.YtmpjaakkjhmpmaaGreatDoorZRShortCites21
namespace Go.Proofs.YtmpjaakkjhmpmaaGreatDoor
open Go Go.RowKit Go.Maps
/-- what is detached of m and n. -/
def DetR (s : Sg) (m n : List Int) (x : List Int × Int) : Prop :=
  ((termB s m && termB s n) = false ∧ x = ([], 1)) ∨ (termB s m = true ∧ termB s n = true ∧ ((m.head? ≠ some 0 ∧ x = ([], 10)) ∨
    ∃ A B, m = 0 :: (A ++ B) ∧ IsT s 12 A ∧ IsT s 12 B ∧ UR s A (aparL n) B x))
theorem halves_T {s : Sg} {m : List Int} (hv : termB s m = true) (h0 : m.head? = some 0) : ∃ A B, m = 0 :: (A ++ B) ∧ IsT s 12 A ∧ IsT s 12 B ∧ A.length ≤ 60 ∧ B.length ≤ 60 := by
  obtain ⟨f1, -, -, f4⟩ := termB_facts hv
  have hT := termB_T hv
  cases hT with
  | var n h1 h2 => simp at h0; omega
  | app c zs hc hl ha =>
    have hc0 : c = 0 := by simp at h0; omega
    subst hc0
    have har : arOf s ((0 : Nat) : Int) = 2 := by
      unfold signB at f1
      simp only [Bool.and_eq_true] at f1
      have h2 := f1.1.2
      have h0' : 0 < s.length := hc
      rw [List.getElem?_eq_getElem h0'] at h2
      unfold arOf
      simp [h0']
      simpa using h2
    rw [har] at hl
    obtain ⟨A, B, rfl⟩ : ∃ A B, zs = [A, B] := by
      match zs, hl with
      | [A, B], _ => exact ⟨A, B, rfl⟩
      | [], h => simp at h
      | [_], h => simp at h
      | _ :: _ :: _ :: _, h => simp at h; omega
    simp at f4
    exact ⟨A, B, by simp, ha A (by simp), ha B (by simp), by omega, by omega⟩
theorem halves_arP {s : Sg} (f1 : signB s = true) : arP s 0 = 2 := by
  unfold signB at f1
  simp only [Bool.and_eq_true] at f1
  have h1 := inB_true.1 f1.1.1
  have h0 : 0 < s.length := by omega
  have h2 := f1.1.2
  rw [List.getElem?_eq_getElem h0] at h2
  have h3 : s[0].2 = 2 := by simpa using h2
  unfold arP
  rw [show inB 0 (-12) (-1) = false from by decide, if_neg (by simp), if_pos (inB_true.2 ⟨by omega, by omega⟩)]
  unfold arOf
  simp [h0, h3]
set_option maxHeartbeats 1000000 in
theorem unify_Detached (vs va vt vb : Value) (s : Sg) (a t b : List Int) (w : World) (f1 : signB s = true) (ta : IsT s 12 a) (tt : IsT s 12 t) (hb : termB s b = true) (la : a.length ≤ 60) (lt : t.length ≤ 60) (hs : SignAt w vs s) (ra : Ints w va a) (rt : Ints w vt t) (rb : Ints w vb b) (hs1 : s.length ≤ 1000) :
    Calls Tryz.prog 121 #[vs, va, vt, vb] w fun e w' => ∃ x u, UR s a (aparL b) t x ∧ e = .returned (.tuple #[u, .int .i64 x.2]) ∧ w'.ownsRow w.heap.size 3 1 u x.1.length (x.1.map (Value.int .i64)) ∧ Below w.heap.size w w' := by
  have HR : Hid (∀ x, UR s a (aparL b) t x → UR s a (aparL b) t x) := hid (fun _ h => h)
  obtain ⟨_, _, f3, f5⟩ := termB_facts hb
  have tb := termB_T hb
  have hb0 := tb.ne
  have TA := hid (ta.mono (m' := 24) (by omega))
  have TT := hid (tt.mono (m' := 24) (by omega))
  have TB := hid (aparL_T tb)
  have TS := hid (T_small12 tb f3)
  have LB := hid (aparL_len b)
  clear ta tb tt hb
  go_enter Tryz.func121, Tryz.ntmps121
  go_wp2_with fail
  refine (unify_apart _ b _ rb hb0 (by omega) TS.out).mono ?_
  rintro e w3 ⟨ub, rfl, hown, hb3⟩
  have rb3 := Ints.of_owns hown (by rw [LB.out]; omega)
  clear hown
  go_wp2_with fail
  refine (unify_solved _ _ _ s a (aparL b) _ f1 TA.out TB.out la (by rw [LB.out]; exact f5) (hs.below hb3) (ra.below hb3) rb3).mono ?_
  rintro e w4 ⟨hb4', px, ⟨rfl, hno⟩ | ⟨rfl, bm, M, hS, hmgu⟩⟩
  · have HB := hid (hb3.trans (hb4'.mono hb3.size))
    have HX : Hid (UR s a (aparL b) t ([], 8)) := hid (HR.out _ (Or.inl ⟨hno, rfl⟩))
    clear hb4' hb3 hno rb3
    go_wp2
    go_ret2
    exact ⟨([], 8), _, HX.out, rfl, World.ownsRow_nil _ _ _ _, HB.out⟩
  · have hb4 := hb3.trans (hb4'.mono hb3.size)
    have HMD := hid (unify_made px bm _ _ s M t w4 hmgu.1 hS TT.out lt (rt.below hb4) hs1)
    have HMG := hid hmgu
    have HB := hid hb4
    have hsz := hb4.size
    clear hb4' hb3 hb4 hmgu hS rb3
    go_wp2_with fail
    refine HMD.out.mono ?_
    rintro e w5 ⟨hb5, ⟨hm, u, rfl, hown⟩ | ⟨hm, rfl⟩⟩
    · have HX : Hid (UR s a (aparL b) t (canonL (fw (mOf M) t), 0)) := hid (HR.out _ (Or.inr ⟨_, HMG.out, Or.inl ⟨hm, rfl⟩⟩))
      have HO := hid (owns_base hown hsz)
      have HB5 := hid (HB.out.trans (hb5.mono hsz))
      clear hown hb5 hm
      go_wp2
      go_ret2
      exact ⟨_, _, HX.out, rfl, HO.out, HB5.out⟩
    · have HX : Hid (UR s a (aparL b) t ([], 4)) := hid (HR.out _ (Or.inr ⟨_, HMG.out, Or.inr ⟨hm, rfl⟩⟩))
      have HB5 := hid (HB.out.trans (hb5.mono hsz))
      clear hb5 hm
      go_wp2
      go_ret2
      exact ⟨([], 4), _, HX.out, rfl, World.ownsRow_nil _ _ _ _, HB5.out⟩
theorem len_two : ∀ {l : List Value}, l.length = 2 → ∃ a b, l = [a, b]
  | [a, b], _ => ⟨a, b, rfl⟩
  | [], h => by simp at h
  | [_], h => by simp at h
  | _ :: _ :: _ :: _, h => by simp at h
set_option maxHeartbeats 1000000 in
theorem kernel_halves0 (vs vm : Value) (s : Sg) (m : List Int) (w : World) (hm : 0 < m.length) (h0 : m.head? ≠ some 0) (rm : Ints w vm m) :
    Calls Tryz.prog 120 #[vs, vm] w fun e w' => e = .returned (.tuple #[.slice none 0 0, .slice none 0 0, .bool false]) ∧ Below w.heap.size w w' := by
  obtain ⟨ta, tcap, rfl, hcap, h2, -, TC⟩ := rm.open
  obtain ⟨b, o, rfl, hc0⟩ := TC 0 hm
  simp only [Nat.add_zero] at hc0
  have hn : m[0] ≠ 0 := fun h => h0 (by rw [List.head?_eq_getElem?, List.getElem?_eq_getElem hm, h])
  have hnd : (m[0] != 0) = true := by simpa using hn
  obtain ⟨x, hx⟩ : ∃ x, m[0] = x := ⟨_, rfl⟩
  rw [hx] at hc0 hnd
  clear TC rm h0 hx hn
  go_enter Tryz.func120, Tryz.ntmps120
  go_wp2
  go_ret3
  exact ⟨rfl, Below.refl _ _⟩
set_option maxHeartbeats 1000000 in
theorem kernel_halves (vs vm : Value) (s : Sg) (m A B : List Int) (w : World) (hm : m = 0 :: (A ++ B)) (hv : termB s m = true) (hA : IsT s 12 A) (hB : IsT s 12 B) (hs : SignAt w vs s) (rm : Ints w vm m) (hs1 : s.length ≤ 1000) :
    Calls Tryz.prog 120 #[vs, vm] w fun e w' => ∃ ua ub, e = .returned (.tuple #[ua, ub, .bool true]) ∧ Ints w' ua A ∧ Ints w' ub B ∧ Below w.heap.size w w' := by
  have f1 := (termB_facts hv).1
  have HAR := hid (term_Args vs vm s m [A, B] w hv 0 (by simpa using hm) (by rw [halves_arP f1]; simp) (by intro a ha; simp at ha; rcases ha with rfl | rfl <;> assumption) hs rm hs1)
  obtain ⟨ta, tcap, hva, hcap, h2, -, TC⟩ := rm.open
  subst hva
  obtain ⟨b, o, rfl, hc0⟩ := TC 0 (by rw [hm]; simp)
  have hm0 : ∀ (h : 0 < m.length), m[0] = 0 := by intro h; subst hm; rfl
  have hmp : 0 < m.length := by rw [hm]; simp
  rw [hm0] at hc0
  simp only [Nat.add_zero] at hc0
  clear TC rm hv hA hB hm hm0
  go_enter Tryz.func120, Tryz.ntmps120
  go_wp2_with fail
  refine HAR.out.mono ?_
  rintro e w1 ⟨u, vvs, rfl, hl, hb1⟩
  have hv1 := hl.here
  clear hl
  have HB1 := hid hb1
  clear hb1 hc0
  obtain ⟨hrow, hvl, hrd⟩ := hv1
  obtain ⟨va, vb, rfl⟩ := len_two hvl
  have hIA := hrd 0 va A rfl rfl
  have hIB := hrd 1 vb B rfl rfl
  obtain ⟨a, cap, he, hc, hmx, hnone, hcell⟩ := hrow.open
  subst he
  obtain ⟨g, o, rfl, c0⟩ := hcell 0 (by simp)
  obtain ⟨g', o', he', c1⟩ := hcell 1 (by simp)
  obtain ⟨rfl, rfl⟩ : g = g' ∧ o = o' := by simpa using he'
  simp only [List.getElem_cons_zero, List.getElem_cons_succ, Nat.add_zero, List.length_cons, List.length_nil, Nat.zero_add, Nat.reduceAdd] at c0 c1 hc ⊢
  have HIA := hid hIA
  have HIB := hid hIB
  clear hIA hIB hrd hcell hrow he' hvl
  go_wp2
  go_quiet (fail)
  go_wp2
  go_ret3
  exact ⟨_, _, rfl, HIA.out.drewN _, HIB.out.drewN _, below_drewN HB1.out _⟩
set_option maxHeartbeats 1000000 in
theorem kernel_Detach (vs vm vn : Value) (s : Sg) (m n : List Int) (w : World) (hs : SignAt w vs s) (rm : Ints w vm m) (rn : Ints w vn n) (hs1 : s.length ≤ 1000) :
    Calls Tryz.prog 86 #[vs, vm, vn] w fun e w' => ∃ x u, DetR s m n x ∧ e = .returned (.tuple #[u, .int .i64 x.2]) ∧ w'.ownsRow w.heap.size 3 1 u x.1.length (x.1.map (Value.int .i64)) ∧ Below w.heap.size w w' := by
  cases h1 : termB s m
  · have HR : Hid (DetR s m n ([], 1)) := hid (Or.inl ⟨by rw [h1]; rfl, rfl⟩)
    have H1 := hid h1
    clear h1
    go_enter Tryz.func86, Tryz.ntmps86
    go_wp2_with fail
    refine (term_Valid' _ _ _ _ _ hs rm hs1).mono ?_
    rintro e w1 ⟨rfl, hb1⟩
    rw [H1.out]
    go_wp2_with fail
    go_ret2
    exact ⟨([], 1), _, HR.out, rfl, World.ownsRow_nil _ _ _ _, hb1⟩
  · cases h2 : termB s n
    · have HR : Hid (DetR s m n ([], 1)) := hid (Or.inl ⟨by rw [h2]; simp, rfl⟩)
      have H1 := hid h1
      have H2 := hid h2
      clear h1 h2
      go_enter Tryz.func86, Tryz.ntmps86
      go_wp2_with fail
      refine (term_Valid' _ _ _ _ _ hs rm hs1).mono ?_
      rintro e w1 ⟨rfl, hb1⟩
      rw [H1.out]
      go_wp2_with fail
      refine (term_Valid' _ _ _ _ _ (hs.below hb1) (rn.below hb1) hs1).mono ?_
      rintro e w2 ⟨rfl, hb2⟩
      rw [H2.out]
      have HB := hid (hb1.trans (hb2.mono hb1.size))
      clear hb1 hb2
      go_wp2
      go_ret2
      exact ⟨([], 1), _, HR.out, rfl, World.ownsRow_nil _ _ _ _, HB.out⟩
    · have hm0 := (termB_T h1).ne
      by_cases h0 : m.head? = some 0
      · obtain ⟨A, B, rfl, tA, tB, lA, lB⟩ := halves_T h1 h0
        have HR : Hid (∀ x, UR s A (aparL n) B x → DetR s (0 :: (A ++ B)) n x) := hid fun x hx => Or.inr ⟨h1, h2, Or.inr ⟨A, B, rfl, tA, tB, hx⟩⟩
        have f1 := (termB_facts h1).1
        have H1 := hid h1
        have H2 := hid h2
        have TA := hid tA
        have TB := hid tB
        clear h1 h2 h0 tA tB
        go_enter Tryz.func86, Tryz.ntmps86
        go_wp2_with fail
        refine (term_Valid' _ _ _ _ _ hs rm hs1).mono ?_
        rintro e w1 ⟨rfl, hb1⟩
        rw [H1.out]
        go_wp2_with fail
        refine (term_Valid' _ _ _ _ _ (hs.below hb1) (rn.below hb1) hs1).mono ?_
        rintro e w2 ⟨rfl, hb2'⟩
        rw [H2.out]
        have hb2 := hb1.trans (hb2'.mono hb1.size)
        go_wp2_with fail
        refine (kernel_halves _ _ s _ A B _ rfl H1.out TA.out TB.out (hs.below hb2) (rm.below hb2) hs1).mono ?_
        rintro e w3 ⟨ua, ub, rfl, ra, rb, hb3'⟩
        have hb3 := hb2.trans (hb3'.mono hb2.size)
        clear hb2' hb3' hb2 hb1
        go_wp2_with fail
        refine (unify_Detached _ _ _ _ s A B n _ f1 TA.out TB.out H2.out lA lB (hs.below hb3) ra rb (rn.below hb3) hs1).mono ?_
        rintro e w4 ⟨x, u, hx, rfl, hown, hb4'⟩
        have HO := hid (owns_base hown hb3.size)
        have HB := hid (hb3.trans (hb4'.mono hb3.size))
        have HX := hid (HR.out x hx)
        clear hx hown hb4' hb3 ra rb
        go_wp2
        go_ret2
        exact ⟨x, u, HX.out, rfl, HO.out, HB.out⟩
      · have HR : Hid (DetR s m n ([], 10)) := hid (Or.inr ⟨h1, h2, Or.inl ⟨h0, rfl⟩⟩)
        have H1 := hid h1
        have H2 := hid h2
        have H0 := hid h0
        clear h1 h2 h0
        go_enter Tryz.func86, Tryz.ntmps86
        go_wp2_with fail
        refine (term_Valid' _ _ _ _ _ hs rm hs1).mono ?_
        rintro e w1 ⟨rfl, hb1⟩
        rw [H1.out]
        go_wp2_with fail
        refine (term_Valid' _ _ _ _ _ (hs.below hb1) (rn.below hb1) hs1).mono ?_
        rintro e w2 ⟨rfl, hb2'⟩
        rw [H2.out]
        have hb2 := hb1.trans (hb2'.mono hb1.size)
        go_wp2_with fail
        refine (kernel_halves0 _ _ s m _ hm0 H0.out (rm.below hb2)).mono ?_
        rintro e w3 ⟨rfl, hb3'⟩
        have HB := hid (hb2.trans (hb3'.mono hb2.size))
        clear hb2' hb3' hb2 hb1
        go_wp2
        go_ret2
        exact ⟨([], 10), _, HR.out, rfl, World.ownsRow_nil _ _ _ _, HB.out⟩
end Go.Proofs.YtmpjaakkjhmpmaaGreatDoor
namespace Go.Proofs.YtmpjaakkjhmpmaaGreatDoor
open Go Go.RowKit Go.Maps
set_option maxHeartbeats 1000000 in
theorem kernel_asked (vs vg vp : Value) (s : Sg) (g : List (List Int)) (p : List St) (w : World) (hs : SignAt w vs s) (hg : Terms w vg g) (hp : StepsAt w vp p) (hs1 : s.length ≤ 1000) :
    Calls Tryz.prog 112 #[vs, vg, vp] w fun e w' => e = .returned (.bool (askedB s g p)) ∧ Below w.heap.size w w' := by
  obtain ⟨ga, gc, hge, hgc, hg2, -⟩ := hg.open
  have HG := hid (kernel_ValidGivens vs vg s g w hs hg hs1)
  subst hge
  unfold askedB
  have HV := hid (fun X (hX : Below w.heap.size w X) => kernel_valid (g.length : Int) vp p X (by omega) (hp.below hX))
  clear hs hg hp
  cases h1 : givensB s g
  · rw [h1] at HG
    clear h1
    go_enter Tryz.func112, Tryz.ntmps112
    go_wp2_with (go_at_call 109; refine HG.out.mono ?_; rintro e w1 ⟨rfl, hb1⟩)
    go_ret
    exact ⟨rfl, hb1⟩
  · rw [h1] at HG
    clear h1
    go_enter Tryz.func112, Tryz.ntmps112
    go_wp2_with (first | (go_at_call 109; refine HG.out.mono ?_; rintro e w1 ⟨rfl, hb1⟩) | (go_at_call 114; refine (HV.out _ hb1).mono ?_; rintro e w2 ⟨rfl, hb2⟩))
    go_ret
    exact ⟨ret_bool (by simp), hb1.trans (hb2.mono hb1.size)⟩
set_option maxHeartbeats 1000000 in
theorem kernel_cite (bs bg : Nat) (x0 x2 : Int) (i : Nat) (vs vg : Value) (s : Sg) (g : List (List Int)) (w : World) (hs : SignAt w vs s) (hg : Terms w vg g) (hi : i < g.length) (hv : termB s g[i] = true) (hs1 : s.length ≤ 1000) (c1 : w.cell? ⟨bs, 0, none⟩ = some vs) (c2 : w.cell? ⟨bg, 0, none⟩ = some vg) :
    Calls Tryz.prog 183 #[.agg #[.int .i64 x0, .int .i64 (i : Int), .int .i64 x2], .pointer (some ⟨bs, 0, none⟩), .pointer (some ⟨bg, 0, none⟩)] w fun e w' => ∃ u, e = .returned (.tuple #[u, .int .i64 0]) ∧
      w'.ownsRow w.heap.size 3 1 u (canonL g[i]).length ((canonL g[i]).map (Value.int .i64)) ∧ Below w.heap.size w w' := by
  obtain ⟨sa, scap, rfl, _⟩ := hs.open
  obtain ⟨ga, gcap, rfl, -, -, -, HC⟩ := hg.open
  obtain ⟨b, o, x, rfl, cx, hx⟩ := HC i hi
  obtain ⟨xa, xc, rfl, -⟩ := hx.open
  have z0 : (0 : Int) ≤ (i : Int) := by omega
  have z1 : (i : Int) < (g.length : Int) := by omega
  have hbA : Below w.heap.size w (w.alloc (.cells #[.int .i64 x0, .int .i64 i, .int .i64 x2] 57)) := (Below.refl _ _).alloc (Nat.le_refl _) _
  have d0 : (w.alloc (.cells #[.int .i64 x0, .int .i64 i, .int .i64 x2] 57)).cell? ⟨w.heap.size, 1, none⟩ = some (.int .i64 i) := by rw [World.cell?_alloc_new]; rfl
  have d1 := (hbA.cell (World.block_lt_of_cell? _ _ c1)).trans c1
  have d2 := (hbA.cell (World.block_lt_of_cell? _ _ c2)).trans c2
  have d3 := (hbA.cell (World.block_lt_of_cell? _ _ cx)).trans cx
  have hs3 := hs.below hbA
  have hx3 := hx.below hbA
  obtain ⟨t, ht⟩ : ∃ t, g[i] = t := ⟨_, rfl⟩
  rw [ht] at hx3 hv d3 ⊢
  obtain ⟨n, hn⟩ : ∃ n, t.length = n := ⟨_, rfl⟩
  have hsA := hbA.size
  have HCN := hid (fun (j : Nat) => term_Canonical (.slice sa s.length scap) (.slice xa t.length xc) s t ((w.alloc (.cells #[.int .i64 x0, .int .i64 i, .int .i64 x2] 57)).drewN j) (hs3.drewN j) (hx3.drewN j) hs1)
  rw [hn] at HCN d3
  rw [hv] at HCN
  clear HC hs hg hx c1 c2 cx ht hs3 hx3 hv
  go_enter Tryz.func183, Tryz.ntmps183
  go_wp2
  obtain ⟨bx, hbx⟩ : ∃ bx, w.heap.size = bx := ⟨_, rfl⟩
  rw [hbx] at d0 hbA hsA
  try rw [hbx]
  generalize w.alloc (.cells #[.int .i64 x0, .int .i64 i, .int .i64 x2] 57) = W1 at *
  go_region_held3 (fun w' => w'.cell? ⟨bs, 0, none⟩ = some (.slice sa s.length scap) ∧ w'.cell? ⟨bg, 0, none⟩ = some (.slice (some ⟨b, o, none⟩) g.length gcap) ∧ w'.cell? ⟨bx, 1, none⟩ = some (.int .i64 i) ∧ w'.cell? ⟨b, o + i, none⟩ = some (.slice xa n xc))
    (first | exact ⟨by assumption, by assumption, by assumption, by assumption⟩ | go_keep)
    (first
    | (go_at_call 88; refine (HCN.out 1).mono ?_; rintro e w1 ⟨hb1', ⟨h, -⟩ | ⟨-, u, rfl, hown⟩⟩
       · cases h
       have hb1 : Below W1.heap.size W1 w1 := (below_self_drewN W1 1).trans hb1'
       have d1 := (hb1.cell (World.block_lt_of_cell? _ _ d1)).trans d1
       have d2 := (hb1.cell (World.block_lt_of_cell? _ _ d2)).trans d2
       have d3 := (hb1.cell (World.block_lt_of_cell? _ _ d3)).trans d3
       have d0 := (hb1.cell (World.block_lt_of_cell? _ _ d0)).trans d0))
  go_wp2
  go_ret2
  rw [hbx]
  exact ⟨_, rfl, owns_base hown (by simp; omega), hbA.trans (hb1.mono (by omega))⟩
set_option maxHeartbeats 2000000 in
theorem kernel_dets (bs bl : Nat) (x0 : Int) (i j : Nat) (vs vl : Value) (s : Sg) (l : List (List Int)) (w : World) (hs : SignAt w vs s) (hl : Terms w vl l) (hi : i < l.length) (hj : j < l.length) (hs1 : s.length ≤ 1000) (c1 : w.cell? ⟨bs, 0, none⟩ = some vs) (c2 : w.cell? ⟨bl, 0, none⟩ = some vl) :
    Calls Tryz.prog 184 #[.agg #[.int .i64 x0, .int .i64 (i : Int), .int .i64 (j : Int)], .pointer (some ⟨bs, 0, none⟩), .pointer (some ⟨bl, 0, none⟩)] w fun e w' => ∃ x u, DetR s l[i] l[j] x ∧ e = .returned (.tuple #[u, .int .i64 x.2]) ∧
      w'.ownsRow w.heap.size 3 1 u x.1.length (x.1.map (Value.int .i64)) ∧ Below w.heap.size w w' := by
  obtain ⟨sa, scap, rfl, _⟩ := hs.open
  obtain ⟨la, lcap, rfl, -, -, -, HC⟩ := hl.open
  obtain ⟨b, o, x, rfl, cx, hx⟩ := HC i hi
  obtain ⟨b', o', y, he', cy, hy⟩ := HC j hj
  cases he'
  obtain ⟨xa, xc, rfl, -⟩ := hx.open
  obtain ⟨ya, yc, rfl, -⟩ := hy.open
  have z0 : (0 : Int) ≤ (i : Int) := by omega
  have z1 : (i : Int) < (l.length : Int) := by omega
  have z2 : (0 : Int) ≤ (j : Int) := by omega
  have z3 : (j : Int) < (l.length : Int) := by omega
  have hbA : Below w.heap.size w (w.alloc (.cells #[.int .i64 x0, .int .i64 i, .int .i64 j] 57)) := (Below.refl _ _).alloc (Nat.le_refl _) _
  have d0 : (w.alloc (.cells #[.int .i64 x0, .int .i64 i, .int .i64 j] 57)).cell? ⟨w.heap.size, 1, none⟩ = some (.int .i64 i) := by rw [World.cell?_alloc_new]; rfl
  have d4 : (w.alloc (.cells #[.int .i64 x0, .int .i64 i, .int .i64 j] 57)).cell? ⟨w.heap.size, 2, none⟩ = some (.int .i64 j) := by rw [World.cell?_alloc_new]; rfl
  have d1 := (hbA.cell (World.block_lt_of_cell? _ _ c1)).trans c1
  have d2 := (hbA.cell (World.block_lt_of_cell? _ _ c2)).trans c2
  have d3 := (hbA.cell (World.block_lt_of_cell? _ _ cx)).trans cx
  have d5 := (hbA.cell (World.block_lt_of_cell? _ _ cy)).trans cy
  have hs3 := hs.below hbA
  have hx3 := hx.below hbA
  have hy3 := hy.below hbA
  obtain ⟨t, ht⟩ : ∃ t, l[i] = t := ⟨_, rfl⟩
  obtain ⟨r, hr⟩ : ∃ r, l[j] = r := ⟨_, rfl⟩
  rw [ht] at hx3 d3 ⊢
  rw [hr] at hy3 d5 ⊢
  obtain ⟨n, hn⟩ : ∃ n, t.length = n := ⟨_, rfl⟩
  obtain ⟨m, hm⟩ : ∃ m, r.length = m := ⟨_, rfl⟩
  have hsA := hbA.size
  have HCN := hid (fun (k : Nat) => kernel_Detach (.slice sa s.length scap) (.slice xa t.length xc) (.slice ya r.length yc) s t r ((w.alloc (.cells #[.int .i64 x0, .int .i64 i, .int .i64 j] 57)).drewN k) (hs3.drewN k) (hx3.drewN k) (hy3.drewN k) hs1)
  rw [hn, hm] at HCN
  rw [hn] at d3
  rw [hm] at d5
  clear HC hs hl hx hy c1 c2 cx cy ht hr hs3 hx3 hy3
  go_enter Tryz.func184, Tryz.ntmps184
  go_wp2
  obtain ⟨bx, hbx⟩ : ∃ bx, w.heap.size = bx := ⟨_, rfl⟩
  rw [hbx] at d0 d4 hbA hsA
  try rw [hbx]
  generalize w.alloc (.cells #[.int .i64 x0, .int .i64 i, .int .i64 j] 57) = W1 at *
  go_region_held3 (fun w' => w'.cell? ⟨bs, 0, none⟩ = some (.slice sa s.length scap) ∧ w'.cell? ⟨bl, 0, none⟩ = some (.slice (some ⟨b, o, none⟩) l.length lcap) ∧ w'.cell? ⟨bx, 1, none⟩ = some (.int .i64 i) ∧ w'.cell? ⟨bx, 2, none⟩ = some (.int .i64 j) ∧ w'.cell? ⟨b, o + i, none⟩ = some (.slice xa n xc) ∧ w'.cell? ⟨b, o + j, none⟩ = some (.slice ya m yc))
    (first | exact ⟨by assumption, by assumption, by assumption, by assumption, by assumption, by assumption⟩ | go_keep)
    (first
    | (go_at_call 86; refine (HCN.out 1).mono ?_; rintro e w1 ⟨xr, u, hdx, rfl, hown, hb1'⟩
       have hb1 : Below W1.heap.size W1 w1 := (below_self_drewN W1 1).trans hb1'
       have d1 := (hb1.cell (World.block_lt_of_cell? _ _ d1)).trans d1
       have d2 := (hb1.cell (World.block_lt_of_cell? _ _ d2)).trans d2
       have d3 := (hb1.cell (World.block_lt_of_cell? _ _ d3)).trans d3
       have d5 := (hb1.cell (World.block_lt_of_cell? _ _ d5)).trans d5
       have d4 := (hb1.cell (World.block_lt_of_cell? _ _ d4)).trans d4
       have d0 := (hb1.cell (World.block_lt_of_cell? _ _ d0)).trans d0))
  go_wp2
  go_ret2
  rw [hbx]
  exact ⟨xr, _, hdx, rfl, owns_base hown (by simp; omega), hbA.trans (hb1.mono (by omega))⟩
end Go.Proofs.YtmpjaakkjhmpmaaGreatDoor
namespace Go.Proofs.YtmpjaakkjhmpmaaGreatDoor
open Go
/-- the converse of a statement that says "if". -/
def convL (s : Sg) (t : List Int) : List Int := canonL (0 :: (t.tail.drop (pLen s t.tail 1) ++ t.tail.take (pLen s t.tail 1)))
/-- what Equivalence answers. -/
def eqvR (s : Sg) (t u : List Int) : Bool × Int := if termB s t && termB s u then (decide (t.head? = some 0) && alikeB s (convL s t) u, 0) else (false, 1)
end Go.Proofs.YtmpjaakkjhmpmaaGreatDoor
namespace Go.Proofs.YtmpjaakkjhmpmaaGreatDoor
open Go Go.RowKit
/-- whether a list of pairs of names is that of the equivalences, ascending. -/
structure EqsQ (s : Sg) (l : List En) (L : List N2) : Prop where
  asc : L.Pairwise ltP
  mem : ∀ p, p ∈ L ↔ ∃ x ∈ l, ∃ y ∈ l, p = (x.name, y.name) ∧ (eqvR s x.says y.says).1 = true ∧ ¬ ltN y.name x.name
theorem EqsQ.unique {s : Sg} {l : List En} {L M : List N2} (h : EqsQ s l L) (k : EqsQ s l M) : L = M :=
  asc_unique ltP.irr (fun h k => ltP.trans h k) h.asc k.asc fun x => by rw [h.mem, k.mem]
/-- what Equivalences answers. -/
def EqsA (s : Sg) (l : List En) (L : List N2) (e : Int) : Prop := (libB s l = false ∧ L = [] ∧ e = 1) ∨ (libB s l = true ∧ EqsQ s l L ∧ e = 0)
theorem EqsA.unique {s : Sg} {l : List En} {L M : List N2} {e f : Int} (h : EqsA s l L e) (k : EqsA s l M f) : L = M ∧ e = f := by
  rcases h with ⟨h1, rfl, rfl⟩ | ⟨h1, h2, rfl⟩
  · rcases k with ⟨-, rfl, rfl⟩ | ⟨k1, -⟩
    · exact ⟨rfl, rfl⟩
    · rw [h1] at k1; cases k1
  · rcases k with ⟨k1, -⟩ | ⟨-, k2, rfl⟩
    · rw [h1] at k1; cases k1
    · exact ⟨h2.unique k2, rfl⟩
/-- the list behind i whole rows and k places of the next one; ns are the names, ascending, q tells whether two statements are an equivalence. -/
structure EqI (ns : List Nm) (q : Nat → Nat → Bool) (i k : Nat) (L : List N2) : Prop where
  asc : L.Pairwise ltP
  mem : ∀ p, p ∈ L ↔ ∃ a b, ∃ (ha : a < ns.length) (hb : b < ns.length), (a < i ∨ (a = i ∧ b < k)) ∧ a ≤ b ∧ q a b = true ∧ p = (ns[a], ns[b])
theorem EqI.start (ns : List Nm) (q : Nat → Nat → Bool) : EqI ns q 0 0 [] := ⟨by simp, fun p => by
  constructor
  · intro h; cases h
  · rintro ⟨a, b, -, -, h | h, -⟩ <;> omega⟩
theorem EqI.skip {ns : List Nm} {q : Nat → Nat → Bool} {i k : Nat} {L : List N2} (h : EqI ns q i k L) (hq : q i k = false) : EqI ns q i (k + 1) L := ⟨h.asc, fun p => by
  rw [h.mem]
  constructor
  · rintro ⟨a, b, ha, hb, h1, h2⟩
    exact ⟨a, b, ha, hb, by omega, h2⟩
  · rintro ⟨a, b, ha, hb, h1, h2, h3, h4⟩
    refine ⟨a, b, ha, hb, ?_, h2, h3, h4⟩
    rcases h1 with h1 | ⟨rfl, h1⟩
    · exact Or.inl h1
    · by_cases e : b = k
      · subst e; rw [hq] at h3; cases h3
      · exact Or.inr ⟨rfl, by omega⟩⟩
theorem EqI.next {ns : List Nm} {q : Nat → Nat → Bool} {i k : Nat} {L : List N2} (h : EqI ns q i k L) (hk : ns.length ≤ k) : EqI ns q (i + 1) (i + 1) L := ⟨h.asc, fun p => by
  rw [h.mem]
  constructor
  · rintro ⟨a, b, ha, hb, h1, h2⟩
    exact ⟨a, b, ha, hb, by omega, h2⟩
  · rintro ⟨a, b, ha, hb, h1, h2, h3, h4⟩
    exact ⟨a, b, ha, hb, by omega, h2, h3, h4⟩⟩
theorem EqI.push {ns : List Nm} {q : Nat → Nat → Bool} {i k : Nat} {L : List N2} (h : EqI ns q i k L) (hn : AscN ns) (hi : i < ns.length) (hk : k < ns.length) (hik : i ≤ k) (hq : q i k = true) : EqI ns q i (k + 1) (L ++ [(ns[i], ns[k])]) := by
  have lt : ∀ {a b : Nat} (ha : a < ns.length) (hb : b < ns.length), a < b → ltN ns[a] ns[b] := fun ha hb hab => List.pairwise_iff_getElem.1 hn _ _ ha hb hab
  refine ⟨List.pairwise_append.2 ⟨h.asc, by simp, fun p hp r hr => ?_⟩, fun p => ?_⟩
  · simp at hr
    subst hr
    obtain ⟨a, b, ha, hb, h1, h2, h3, rfl⟩ := (h.mem p).1 hp
    rcases h1 with h1 | ⟨rfl, h1⟩
    · exact Or.inl (lt ha hi h1)
    · exact Or.inr ⟨rfl, lt hb hk h1⟩
  · rw [List.mem_append, h.mem]
    constructor
    · rintro (⟨a, b, ha, hb, h1, h2⟩ | h1)
      · exact ⟨a, b, ha, hb, by omega, h2⟩
      · simp at h1
        exact ⟨i, k, hi, hk, by omega, hik, hq, h1⟩
    · rintro ⟨a, b, ha, hb, h1, h2, h3, h4⟩
      by_cases e : a = i ∧ b = k
      · obtain ⟨rfl, rfl⟩ := e
        exact Or.inr (by simp [h4])
      · exact Or.inl ⟨a, b, ha, hb, by omega, h2, h3, h4⟩
theorem asc_le {ns : List Nm} (hn : AscN ns) {a b : Nat} (ha : a < ns.length) (hb : b < ns.length) : a ≤ b ↔ ¬ ltN ns[b] ns[a] := by
  constructor
  · intro h k
    rcases Nat.lt_or_eq_of_le h with h1 | rfl
    · exact ltN.asym (List.pairwise_iff_getElem.1 hn a b ha hb h1) k
    · exact ltN.irr _ k
  · intro h
    rcases Nat.lt_or_ge b a with h1 | h1
    · exact absurd (List.pairwise_iff_getElem.1 hn b a hb ha h1) h
    · exact h1
/-- all rows are done. -/
theorem EqI.fin {s : Sg} {l : List En} (hnd : (l.map En.name).Nodup) {ns : List Nm} {q : Nat → Nat → Bool} {i k : Nat} {L : List N2} (h : EqI ns q i k L) (hi : ns.length ≤ i) (hn : AscN ns) (hm : ∀ x, x ∈ ns ↔ x ∈ l.map En.name)
    (hq : ∀ a b (ha : a < ns.length) (hb : b < ns.length) x y, x ∈ l → y ∈ l → x.name = ns[a] → y.name = ns[b] → q a b = (eqvR s x.says y.says).1) : EqsQ s l L := by
  refine ⟨h.asc, fun p => ?_⟩
  rw [h.mem]
  constructor
  · rintro ⟨a, b, ha, hb, h1, h2, h3, rfl⟩
    obtain ⟨x, hx, ex⟩ := List.mem_map.1 ((hm ns[a]).1 (List.getElem_mem ha))
    obtain ⟨y, hy, ey⟩ := List.mem_map.1 ((hm ns[b]).1 (List.getElem_mem hb))
    refine ⟨x, hx, y, hy, by rw [ex, ey], by rw [← hq a b ha hb x y hx hy ex ey]; exact h3, ?_⟩
    rw [ex, ey]
    exact (asc_le hn ha hb).1 h2
  · rintro ⟨x, hx, y, hy, rfl, h1, h2⟩
    obtain ⟨a, ha, ea⟩ := List.getElem_of_mem ((hm x.name).2 (List.mem_map.2 ⟨x, hx, rfl⟩))
    obtain ⟨b, hb, eb⟩ := List.getElem_of_mem ((hm y.name).2 (List.mem_map.2 ⟨y, hy, rfl⟩))
    rw [← ea, ← eb] at h2
    exact ⟨a, b, ha, hb, by omega, (asc_le hn ha hb).2 h2, by rw [hq a b ha hb x y hx hy ea.symm eb.symm]; exact h1, by rw [ea, eb]⟩
end Go.Proofs.YtmpjaakkjhmpmaaGreatDoor
