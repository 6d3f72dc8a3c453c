/-
  WHAT IT HOLDS: contracts of join and Common of package unify. Conditions: the arguments read as data; both are terms of at most 100 numbers; a sign of 1 to 12 symbols.
  WHAT IT HOLDS: contracts of Closeness of package find, and of the laws' own helpers Small, Few, awake. Conditions: the arguments read as data.
  WHAT IT HOLDS: how a proof's steps lie; contracts of within, right, valid, ValidGivens, asked of package kernel. Conditions: the arguments read as data; a small sign.
-/
import Derived.Test.YtldgkidojepdlaaZRFindRanks16
import Derived.Test.YtldgkidojepdlaaZRFindRanks13
namespace Go.Proofs.Ytldgkidojepdlaa
open Go Go.RowKit Go.Maps
set_option maxHeartbeats 1000000 in
theorem unify_join (s : Sg) (vs va vb : Value) (a b : List Int) (w : World) (hsl : 1 ≤ s.length) (hsl2 : s.length ≤ 12) (ha : IsT s 12 a) (hb : IsT s 12 b) (hs : SignAt w vs s) (ra : Ints w va a) (rb : Ints w vb b) (hla : a.length ≤ 100) (hlb : b.length ≤ 100) :
    Calls Try.prog 74 #[vs, va, vb] w fun e w' => ∃ u, e = .returned u ∧ w'.ownsRow w.heap.size 3 1 u (comW s a b []).1.length ((comW s a b []).1.map (Value.int .i64)) ∧ Below w.heap.size w w' := by
  obtain ⟨sa, scap, hse, _⟩ := hs.open
  subst hse
  obtain ⟨aa, acap, hae, _⟩ := ra.open
  subst hae
  obtain ⟨ba, bcap, hbe, _⟩ := rb.open
  subst hbe
  have hmm := @run_makeMap Try.prog
  go_enter Try.func74, Try.ntmps74
  go_wp2_with fail
  clear hmm
  have k0 : ∀ o1 o2 o3, ((((w.alloc (.cells #[.slice sa s.length scap] 23)).alloc o1).alloc o2).alloc o3).cell? ⟨w.heap.size, 0, none⟩ = some (.slice sa s.length scap) := fun o1 o2 o3 => cell_alloc_keep _ (cell_alloc_keep _ (cell_alloc_keep _ (cell_new1 _ _ _)))
  have hbx : ∀ o0 o1 o2 o3, Below w.heap.size w ((((w.alloc o0).alloc o1).alloc o2).alloc o3) := fun o0 o1 o2 o3 => ((((Below.refl _ _).alloc (Nat.le_refl _) _).alloc (by simp) _).alloc (by simp; omega) _).alloc (by simp; omega) _
  have k1 := cell_new1 ((w.alloc (.cells #[.slice sa s.length scap] 23)).alloc (.map #[] 0)) (.map (some (w.heap.size + 1))) 127
  have k2 := cell_new1 (((w.alloc (.cells #[.slice sa s.length scap] 23)).alloc (.map #[] 0)).alloc (.cells #[.map (some (w.heap.size + 1))] 127)) (fnW (w.heap.size + 1 + 1) w.heap.size (w.heap.size + 1 + 1 + 1)) 128
  have km := MapK.made Try.prog 131 ek2 (Value.int .i64) (w.alloc (.cells #[.slice sa s.length scap] 23))
  simp only [World.size_alloc] at k1 k2 km
  have hj := unify_join1 s (.slice sa s.length scap) (w.heap.size + 1 + 1) w.heap.size (w.heap.size + 1 + 1 + 1) (w.heap.size + 1) hsl hsl2 ha b hb _ _ [] _ (hs.below (hbx _ _ _ _)) (ra.below (hbx _ _ _ _)) (rb.below (hbx _ _ _ _)) (cell_alloc_keep _ k1) (k0 _ _ _) k2 (by
    have h := (km.alloc (.cells #[.map (some (w.heap.size + 1))] 127)).alloc (.cells #[fnW (w.heap.size + 1 + 1) w.heap.size (w.heap.size + 1 + 1 + 1)] 128)
    unfold JMap
    rw [show mapK [] = fun _ => none from funext fun x => by simp [mapK]]
    exact h) hla hlb (by simp; omega)
  refine Calls.mono hj ?_
  rintro e w1 ⟨u, rfl, hown, _, hg⟩
  have hB := hbx (.cells #[.slice sa s.length scap] 23) (.map #[] 0) (.cells #[.map (some (w.heap.size + 1))] 127) (.cells #[fnW (w.heap.size + 1 + 1) w.heap.size (w.heap.size + 1 + 1 + 1)] 128)
  have hB2 : Below w.heap.size w w1 := hB.grown hg hB.size (fun q hq => by cases hq; omega)
  have hown2 := owns_base hown hB.size
  clear hj k0 hbx k1 k2 km hown hg hB
  go_wp2
  go_ret
  exact ⟨_, rfl, hown2, hB2⟩
def symN (l : List Int) : Nat := (l.filter fun x => decide (0 ≤ x)).length
theorem symN_le (l : List Int) : symN l ≤ l.length := List.length_filter_le _ _
theorem symN_snoc (l : List Int) (x : Int) : symN (l ++ [x]) = symN l + if 0 ≤ x then 1 else 0 := by
  unfold symN
  rw [List.filter_append]
  by_cases h : 0 ≤ x <;> simp [h]
set_option maxHeartbeats 400000 in
theorem unify_Common (s : Sg) (vs va vb : Value) (a b : List Int) (w : World) (hsl : 1 ≤ s.length) (hsl2 : s.length ≤ 12) (ha : IsT s 12 a) (hb : IsT s 12 b) (hs : SignAt w vs s) (ra : Ints w va a) (rb : Ints w vb b) (hla : a.length ≤ 100) (hlb : b.length ≤ 100) :
    Calls Try.prog 46 #[vs, va, vb] w fun e w' => e = .returned (.int .i64 (symN (comW s a b []).1)) ∧ Below w.heap.size w w' := by
  have hcl := (comW_len s a b []).1
  have hj := unify_join s vs va vb a b w hsl hsl2 ha hb hs ra rb hla hlb
  obtain ⟨L, hL⟩ : ∃ L, (comW s a b []).1 = L := ⟨_, rfl⟩
  rw [hL] at hj hcl ⊢
  have HJ := hid hj
  clear hj hL
  go_enter Try.func46, Try.ntmps46
  go_wp2_with fail
  refine HJ.out.mono ?_
  rintro e w1 ⟨u, rfl, hown, hb1⟩
  obtain ⟨ua, ucap, hue, _, _, _, UC⟩ := (Ints.of_owns hown (by omega)).open
  subst hue
  have UC' := hid UC
  clear UC hown
  go_wp2
  go_loop [7, 15] (fun c i => ∃ k : Nat, k ≤ L.length ∧ i = .int .i64 k ∧ c = .int .i64 (symN (L.take k))) (fun _ i => L.length - (intOf i).toNat)
  case atStart => exact ⟨0, by omega, rfl, rfl⟩
  case round =>
    obtain ⟨k, hk, rfl, rfl⟩ := hrel
    have hsn := symN_le (L.take k)
    have htl : (L.take k).length ≤ k := List.length_take_le _ _
    by_cases hlt : k < L.length
    · obtain ⟨b', o', rfl, hcell⟩ := UC'.out k hlt
      have hst : symN (L.take (k + 1)) = symN (L.take k) + if 0 ≤ L[k] then 1 else 0 := by rw [List.take_succ_eq_append_getElem hlt, symN_snoc]
      by_cases hx : 0 ≤ L[k]
      · rw [if_pos hx] at hst
        have HST := hid hst
        clear hst
        go_wp2
        go_round
        case rel => exact ⟨k + 1, by omega, by go_num, by rw [HST.out]; go_num⟩
        case measure => simp [intOf]; omega
      · rw [if_neg hx] at hst
        have HST := hid hst
        clear hst
        go_wp2
        go_round
        case rel => exact ⟨k + 1, by omega, by go_num, by rw [HST.out]; go_num⟩
        case measure => simp [intOf]; omega
    · have hkl : L.take k = L := List.take_of_length_le (by omega)
      have HKL := hid hkl
      clear hkl
      go_wp2
      go_ret
      exact ⟨ret_int (by rw [HKL.out]), hb1⟩
end Go.Proofs.Ytldgkidojepdlaa
namespace Go.Proofs.Ytldgkidojepdlaa
open Go Go.RowKit Go.Maps
theorem termB_facts {s : Sg} {t : List Int} (h : termB s t = true) : signB s = true ∧ 1 ≤ s.length ∧ s.length ≤ 12 ∧ t.length ≤ 60 := by
  have h' := h
  unfold termB at h'
  simp only [Bool.and_eq_true] at h'
  have h1 := signB_len h'.1.1
  have h2 := inB_true.1 h'.1.2
  exact ⟨h'.1.1, h1.1, h1.2, by omega⟩
def sCN : Sg := [(⟨#[67]⟩, 2), (⟨#[78]⟩, 1)]
theorem below_alloc3 (w : World) (a b c : Obj) : Below w.heap.size w (((w.alloc a).alloc b).alloc c) :=
  (((Below.refl _ _).alloc (Nat.le_refl _) _).alloc (by simp) _).alloc (by simp; omega) _
def closeB (s : Sg) (t q : List Int) : Int × Int := if termB s t && termB s q then ((symN (comW s t q []).1 : Int), 0) else (0, 1)
set_option maxHeartbeats 400000 in
theorem find_Closeness (vs vt vq : Value) (s : Sg) (t q : List Int) (w : World) (hs : SignAt w vs s) (ht : Ints w vt t) (hq : Ints w vq q) (hs1 : s.length ≤ 1000) :
    Calls Try.prog 20 #[vs, vt, vq] w fun e w' => e = .returned (.tuple #[.int .i64 (closeB s t q).1, .int .i64 (closeB s t q).2]) ∧ Below w.heap.size w w' := by
  cases h1 : termB s t
  · have HF : Hid (closeB s t q = (0, 1)) := hid (by unfold closeB; rw [h1]; rfl)
    go_enter Try.func20, Try.ntmps20
    go_wp2_with (first | (go_at_call 41; refine (term_Valid' _ _ _ _ _ hs ht hs1).mono ?_; rintro e w1 ⟨rfl, hb1⟩))
    go_ret2
    exact ⟨by rw [HF.out]; rfl, hb1⟩
  · cases h2 : termB s q
    · have HF : Hid (closeB s t q = (0, 1)) := hid (by unfold closeB; rw [h1, h2]; rfl)
      go_enter Try.func20, Try.ntmps20
      go_wp2_with fail
      refine (term_Valid' _ _ _ _ _ hs ht hs1).mono ?_
      rintro e w1 ⟨rfl, hb1⟩
      go_wp2_with fail
      refine (term_Valid' _ _ _ _ _ (hs.below hb1) (hq.below hb1) hs1).mono ?_
      rintro e w2 ⟨rfl, hb2⟩
      go_wp2
      go_ret2
      exact ⟨by rw [HF.out]; rfl, hb1.trans (hb2.mono hb1.size)⟩
    · obtain ⟨f1, f2, f3, f4⟩ := termB_facts h1
      obtain ⟨_, _, _, f5⟩ := termB_facts h2
      have hT := termB_T h1
      have hQ := termB_T h2
      have HF : Hid (closeB s t q = ((symN (comW s t q []).1 : Int), 0)) := hid (by unfold closeB; rw [h1, h2]; rfl)
      obtain ⟨N, hN⟩ : ∃ N, symN (comW s t q []).1 = N := ⟨_, rfl⟩
      go_enter Try.func20, Try.ntmps20
      go_wp2_with fail
      refine (term_Valid' _ _ _ _ _ hs ht hs1).mono ?_
      rintro e w1 ⟨rfl, hb1⟩
      go_wp2_with fail
      refine (term_Valid' _ _ _ _ _ (hs.below hb1) (hq.below hb1) hs1).mono ?_
      rintro e w2 ⟨rfl, hb2⟩
      have hb3 := hb1.trans (hb2.mono hb1.size)
      have hc := unify_Common s vs vt vq t q w2 f2 f3 hT hQ (hs.below hb3) (ht.below hb3) (hq.below hb3) (by omega) (by omega)
      rw [hN] at hc HF
      have HC := hid hc
      clear hc hN
      go_wp2_with fail
      refine HC.out.mono ?_
      rintro e w3 ⟨rfl, hb4⟩
      go_wp2
      go_ret2
      exact ⟨by rw [HF.out]; rfl, hb3.trans (hb4.mono hb3.size)⟩
theorem law1_Small (vs vl : Value) (s : Sg) (l : List (List Int)) (w : World) (hs : SignAt w vs s) (hl : Terms w vl l) :
    Calls Try.prog 6 #[vs, vl] w fun e w' => e = .returned (.bool (smallB s l)) ∧ w = w' := by
  obtain ⟨sa, scap, rfl, _, hsl, _⟩ := hs.open
  obtain ⟨la, lcap, rfl, hl1, hl2, _, LC⟩ := hl.open
  have LC' := hid LC
  clear LC hs hl
  go_enter Try.func6, Try.ntmps6
  go_wp2
  go_loop [5] (fun i => ∃ k : Nat, k ≤ l.length ∧ i = .int .i64 k ∧ (l.take k).all (fun t => decide (t.length ≤ 200)) = true) (fun i => l.length - (intOf i).toNat)
  case atStart => exact ⟨0, by omega, rfl, by simp⟩
  case round =>
    obtain ⟨k, hk, rfl, hrel⟩ := hrel
    have HR := hid hrel
    clear hrel
    by_cases hlt : k < l.length
    · obtain ⟨b, o, u, rfl, hcell, hu⟩ := LC'.out k hlt
      obtain ⟨ua, ucap, rfl, _, hul, _⟩ := hu.open
      by_cases h2 : (200 : Int) < l[k].length
      · have HF : Hid (smallB s l = false) := hid (by
          unfold smallB
          have : l.all (fun t => decide (t.length ≤ 200)) = false := by
            rw [List.all_eq_false]; exact ⟨l[k], List.getElem_mem hlt, by simp; omega⟩
          rw [this]; rfl)
        go_wp2
        go_ret
        exact ⟨ret_bool HF.out.symm, rfl⟩
      · go_wp2
        go_round
        case rel =>
          refine ⟨k + 1, by omega, by go_num, ?_⟩
          rw [List.take_succ_eq_append_getElem hlt, List.all_append, HR.out]
          simp; omega
        case measure => simp [intOf]; omega
    · have HF : Hid (smallB s l = decide ((s.length : Int) ≤ 40)) := hid (by
        unfold smallB
        have := HR.out
        rw [List.take_of_length_le (by omega)] at this
        rw [this]
        simp; omega)
      go_wp2
      go_ret
      exact ⟨ret_bool HF.out.symm, rfl⟩
theorem law5_Few (vs vl : Value) (s : Sg) (l : List (List Int)) (n : Int) (w : World) (hs : SignAt w vs s) (hl : Terms w vl l) :
    Calls Try.prog 14 #[vs, vl, .int .i64 n] w fun e w' => e = .returned (.bool (decide ((l.length : Int) ≤ n) && smallB s l)) ∧ w = w' := by
  obtain ⟨sa, scap, hse, _, hsl, _⟩ := hs.open
  subst hse
  obtain ⟨la, lcap, hle, hl1, hl2, _, _⟩ := hl.open
  subst hle
  by_cases h : (l.length : Int) ≤ n
  · go_enter Try.func14, Try.ntmps14
    go_wp2_with (go_at_call 6; refine (law1_Small _ _ _ _ _ hs hl).mono ?_; rintro e w' ⟨rfl, rfl⟩)
    go_ret
    exact ⟨ret_bool (by simp [h]), rfl⟩
  · go_enter Try.func14, Try.ntmps14
    go_wp2_with (go_at_call 6; refine (law1_Small _ _ _ _ _ hs hl).mono ?_; rintro e w' ⟨rfl, rfl⟩)
    go_ret
    exact ⟨ret_bool (by simp; omega), rfl⟩
theorem awake_close : closeB sCN [0, 1, -1, -2] [0, 1, -1, 1, -1] = (2, 0) := by decide +kernel
theorem awake_call (w W1 W2 : World) (A B C : Obj) (hA : A = .cells #[.string ⟨#[67]⟩, .int .i64 2, .string ⟨#[78]⟩, .int .i64 1] 58)
    (hB : B = .cells #[.int .i64 0, .int .i64 1, .int .i64 (-1), .int .i64 (-2)] 3) (hC : C = .cells #[.int .i64 0, .int .i64 1, .int .i64 (-1), .int .i64 1, .int .i64 (-1)] 3)
    (h1 : W1 = w.alloc A) (h2 : W2 = W1.alloc B) :
    Calls Try.prog 20 #[.slice (some ⟨w.heap.size, 0, none⟩) 2 2, .slice (some ⟨w.heap.size + 1, 0, none⟩) 4 4, .slice (some ⟨w.heap.size + 1 + 1, 0, none⟩) 5 5] (W2.alloc C) fun e w' => e = .returned (.tuple #[.int .i64 2, .int .i64 0]) ∧ Below w.heap.size w w' := by
  have s1 : W1.heap.size = w.heap.size + 1 := by rw [h1]; simp
  have s2 : W2.heap.size = w.heap.size + 1 + 1 := by rw [h2]; simp [s1]
  have r1 := World.ownsRow_lit (base := 0) (e := 58) (size := 2) w #[.string ⟨#[67]⟩, .int .i64 2, .string ⟨#[78]⟩, .int .i64 1] 2 (by omega) (by simp [maxLen]) rfl
  have r2 := World.ownsRow_lit (base := 0) (e := 3) (size := 1) W1 #[.int .i64 0, .int .i64 1, .int .i64 (-1), .int .i64 (-2)] 4 (by omega) (by simp [maxLen]) rfl
  have r3 := World.ownsRow_lit (base := 0) (e := 3) (size := 1) W2 #[.int .i64 0, .int .i64 1, .int .i64 (-1), .int .i64 1, .int .i64 (-1)] 5 (by omega) (by simp [maxLen]) rfl
  rw [← hA, ← h1] at r1
  rw [← hB, ← h2, s1] at r2
  rw [← hC, s2] at r3
  have q1 : SignAt (W2.alloc C) (.slice (some ⟨w.heap.size, 0, none⟩) 2 2) sCN := by
    refine ⟨RowK.of_owns (w := W2.alloc C) (h2 ▸ ((r1.alloc B).alloc C)) (by simp [sCN]), ?_⟩
    intro x hx
    simp [sCN] at hx
    rcases hx with rfl | rfl <;> simp [ByteArray.size]
  have q2 : Ints (W2.alloc C) (.slice (some ⟨w.heap.size + 1, 0, none⟩) 4 4) [0, 1, -1, -2] := Ints.of_owns (r2.alloc C) (by simp)
  have q3 : Ints (W2.alloc C) (.slice (some ⟨w.heap.size + 1 + 1, 0, none⟩) 5 5) [0, 1, -1, 1, -1] := Ints.of_owns r3 (by simp)
  have hc := find_Closeness _ _ _ sCN _ _ _ q1 q2 q3 (by simp [sCN])
  rw [awake_close] at hc
  refine hc.mono ?_
  rintro e w1 ⟨rfl, hb1⟩
  subst h1 h2
  have hB := below_alloc3 w A B C
  exact ⟨rfl, hB.trans (hb1.mono hB.size)⟩
theorem law5_awake (w : World) :
    Calls Try.prog 15 #[] w fun e w' => e = .returned (.bool true) ∧ Below w.heap.size w w' := by
  go_enter Try.func15, Try.ntmps15
  go_wp2_with fail
  refine (awake_call w _ _ _ _ _ rfl rfl rfl rfl rfl).mono ?_
  rintro e w1 ⟨rfl, hB1⟩
  go_wp2
  go_ret
  exact ⟨rfl, hB1⟩
end Go.Proofs.Ytldgkidojepdlaa
namespace Go.Proofs.Ytldgkidojepdlaa
open Go Go.RowKit Go.Maps
/-- a step of a proof: its kind and two indexes. -/
abbrev St := Int × Int × Int
def stV (x : St) : List Value := [.int .i64 x.1, .int .i64 x.2.1, .int .i64 x.2.2]
def stC (l : List St) : List Value := l.flatMap stV
theorem stC_len (l : List St) : (stC l).length = l.length * 3 := by
  induction l with
  | nil => rfl
  | cons x l ih => simp [stC, stV] at ih ⊢; omega
theorem stC_get (l : List St) : ∀ (j : Nat) (h : j < l.length), (stC l)[j * 3]? = some (.int .i64 l[j].1) ∧ (stC l)[j * 3 + 1]? = some (.int .i64 l[j].2.1) ∧ (stC l)[j * 3 + 2]? = some (.int .i64 l[j].2.2) := by
  induction l with
  | nil => intro j h; simp at h
  | cons x l ih =>
    intro j h
    cases j with
    | zero => simp [stC, stV]
    | succ j =>
      have := ih j (by simpa using h)
      simpa [stC, stV, Nat.add_mul, Nat.add_assoc] using this
def StepsAt (w : World) (v : Value) (l : List St) : Prop := RowK w v 3 l.length (stC l)
theorem StepsAt.below {w w' : World} {v : Value} {l : List St} (h : StepsAt w v l) (hb : Below w.heap.size w w') : StepsAt w' v l := RowK.below h hb
theorem StepsAt.open {w : World} {v : Value} {l : List St} (h : StepsAt w v l) :
    ∃ a cap, v = .slice a l.length cap ∧ l.length ≤ cap ∧ l.length ≤ 140737488355328 ∧ (a = none → cap = 0) ∧
      ∀ j (h : j < l.length), ∃ b o, a = some ⟨b, o, none⟩ ∧ w.cell? ⟨b, o + j * 3, none⟩ = some (.int .i64 l[j].1) ∧ w.cell? ⟨b, o + j * 3 + 1, none⟩ = some (.int .i64 l[j].2.1) ∧ w.cell? ⟨b, o + j * 3 + 2, none⟩ = some (.int .i64 l[j].2.2) := by
  obtain ⟨_, a, cap, h2, h3, h4, h5, h6⟩ := h
  refine ⟨a, cap, h2, h3, h4, h5, fun j hj => ?_⟩
  obtain ⟨g1, g2, g3⟩ := stC_get l j hj
  obtain ⟨b, o, e1, q1⟩ := h6 _ _ g1
  obtain ⟨b', o', e2, q2⟩ := h6 _ _ g2
  obtain ⟨b'', o'', e3, q3⟩ := h6 _ _ g3
  rw [e1] at e2 e3
  cases e2; cases e3
  exact ⟨b, o, e1, q1, by rw [Nat.add_assoc]; exact q2, by rw [Nat.add_assoc]; exact q3⟩
/-- whether a step is right in a proof behind others. -/
def rightB (g : Int) (k : Int) (x : St) : Bool := if x.1 = 1 then inB x.2.1 0 (g - 1) && decide (x.2.2 = 0) else if x.1 = 2 then inB x.2.1 0 (k - 1) && inB x.2.2 0 (k - 1) else false
def proofB (g : Int) (p : List St) : Bool := (List.range p.length).all (fun k => rightB g k (p.getD k (0, 0, 0))) && inB p.length 1 60
theorem proofB_at {g : Int} {p : List St} (h : proofB g p = true) {k : Nat} (hk : k < p.length) : rightB g k p[k] = true := by
  unfold proofB at h
  simp only [Bool.and_eq_true, List.all_eq_true, List.mem_range] at h
  have := h.1 k hk
  rwa [List.getD_eq_getElem?_getD, List.getElem?_eq_getElem hk] at this
theorem proofB_no {g : Int} {p : List St} {k : Nat} (hk : k < p.length) (h : rightB g k p[k] = false) : proofB g p = false := by
  rw [Bool.eq_false_iff]
  intro hh
  rw [proofB_at hh hk] at h
  cases h
theorem proofB_all {g : Int} {p : List St} (h : ∀ k (hk : k < p.length), rightB g k p[k] = true) : proofB g p = inB p.length 1 60 := by
  unfold proofB
  have : (List.range p.length).all (fun k => rightB g k (p.getD k (0, 0, 0))) = true := by
    rw [List.all_eq_true]
    intro k hk
    have hk' : k < p.length := by simpa using hk
    rw [List.getD_eq_getElem?_getD, List.getElem?_eq_getElem hk']
    exact h k hk'
  rw [this, Bool.true_and]
def givensB (s : Sg) (g : List (List Int)) : Bool := signB s && decide (g.length ≤ 60) && allB s g
def askedB (s : Sg) (g : List (List Int)) (p : List St) : Bool := givensB s g && proofB g.length p
theorem kernel_within (n lo hi : Int) (w : World) :
    Calls Try.prog 91 #[.int .i64 n, .int .i64 lo, .int .i64 hi] w fun e w' => e = .returned (.bool (inB n lo hi)) ∧ w = w' := by
  unfold inB
  by_cases h1 : lo ≤ n
  · by_cases h2 : n ≤ hi
    · go_enter Try.func91, Try.ntmps91
      go_wp2
      go_ret
      exact ⟨by simp [h1, h2], rfl⟩
    · go_enter Try.func91, Try.ntmps91
      go_wp2
      go_ret
      exact ⟨by simp [h1, h2], rfl⟩
  · go_enter Try.func91, Try.ntmps91
    go_wp2
    go_ret
    exact ⟨ret_bool (by simp; omega), rfl⟩
set_option maxHeartbeats 1000000 in
theorem kernel_right (g k : Int) (x : St) (w : World) (hg : 0 ≤ g ∧ g ≤ 140737488355328) (hk : 0 ≤ k ∧ k ≤ 140737488355328) :
    Calls Try.prog 90 #[.int .i64 g, .int .i64 k, .agg #[.int .i64 x.1, .int .i64 x.2.1, .int .i64 x.2.2]] w fun e w' => e = .returned (.bool (rightB g k x)) ∧ Below w.heap.size w w' := by
  obtain ⟨x0, x1, x2⟩ := x
  have hw1 : IntKind.i64.wrap (g - 1) = g - 1 := by rw [IntWalk.i64_in _ (by omega)]
  have hw2 : IntKind.i64.wrap (k - 1) = k - 1 := by rw [IntWalk.i64_in _ (by omega)]
  have hb1 : Below w.heap.size w (w.alloc (.cells #[.int .i64 x0, .int .i64 x1, .int .i64 x2] 33)) := (Below.refl _ _).alloc (Nat.le_refl _) _
  by_cases h1 : x0 = 1
  · subst h1
    cases hi : inB x1 0 (g - 1)
    · have hi' := hi
      go_enter Try.func90, Try.ntmps90
      go_wp2_with (go_at_call 91; refine (kernel_within _ _ _ _).mono ?_; rintro e w' ⟨rfl, rfl⟩)
      go_ret
      exact ⟨ret_bool (by simp [rightB, hi']), hb1⟩
    · have hi' := hi
      by_cases h2 : x2 = 0
      · subst h2
        go_enter Try.func90, Try.ntmps90
        go_wp2_with (go_at_call 91; refine (kernel_within _ _ _ _).mono ?_; rintro e w' ⟨rfl, rfl⟩)
        go_ret
        exact ⟨ret_bool (by simp [rightB, hi']), hb1⟩
      · have n2 : (x2 == 0) = false := by simpa using h2
        go_enter Try.func90, Try.ntmps90
        go_wp2_with (go_at_call 91; refine (kernel_within _ _ _ _).mono ?_; rintro e w' ⟨rfl, rfl⟩)
        go_ret
        exact ⟨ret_bool (by simp [rightB, hi', h2]), hb1⟩
  · have n1 : (x0 == 1) = false := by simpa using h1
    by_cases h3 : x0 = 2
    · subst h3
      cases hi : inB x1 0 (k - 1)
      · have hi' := hi
        go_enter Try.func90, Try.ntmps90
        go_wp2_with (go_at_call 91; refine (kernel_within _ _ _ _).mono ?_; rintro e w' ⟨rfl, rfl⟩)
        go_ret
        exact ⟨ret_bool (by simp [rightB, hi']), hb1⟩
      · have hi' := hi
        cases hj : inB x2 0 (k - 1)
        · have hj' := hj
          go_enter Try.func90, Try.ntmps90
          go_wp2_with (go_at_call 91; refine (kernel_within _ _ _ _).mono ?_; rintro e w' ⟨rfl, rfl⟩)
          go_ret
          exact ⟨ret_bool (by simp [rightB, hi', hj']), hb1⟩
        · have hj' := hj
          go_enter Try.func90, Try.ntmps90
          go_wp2_with (go_at_call 91; refine (kernel_within _ _ _ _).mono ?_; rintro e w' ⟨rfl, rfl⟩)
          go_ret
          exact ⟨ret_bool (by simp [rightB, hi', hj']), hb1⟩
    · have n3 : (x0 == 2) = false := by simpa using h3
      go_enter Try.func90, Try.ntmps90
      go_wp2_with (go_at_call 91; refine (kernel_within _ _ _ _).mono ?_; rintro e w' ⟨rfl, rfl⟩)
      go_ret
      exact ⟨ret_bool (by simp [rightB, h1, h3]), hb1⟩
set_option maxHeartbeats 2000000 in
theorem kernel_valid (g : Int) (v : Value) (l : List St) (w : World) (hg : 0 ≤ g ∧ g ≤ 140737488355328) (hv : StepsAt w v l) :
    Calls Try.prog 61 #[.int .i64 g, v] w fun e w' => e = .returned (.bool (proofB g l)) ∧ Below w.heap.size w w' := by
  obtain ⟨a, cap, rfl, h1, h2, -, HC⟩ := hv.open
  have HC' := hid HC
  clear HC hv
  go_enter Try.func61, Try.ntmps61
  go_wp2
  go_loopw [9] (fun kv wr => ∃ k : Nat, k ≤ l.length ∧ kv = .int .i64 k ∧ Below w.heap.size w wr ∧ ∀ j (hj : j < l.length), j < k → rightB g j l[j] = true) (fun kv _ => l.length - (intOf kv).toNat)
  case atStart => exact ⟨0, by omega, rfl, Below.refl _ _, by simp⟩
  case round =>
    obtain ⟨k, hk, rfl, hb, hrel⟩ := hrel
    have HR := hid hrel
    have hsz := hb.size
    clear hrel
    by_cases hlt : k < l.length
    · obtain ⟨cb, co, rfl, c10, c20, c30⟩ := HC'.out k hlt
      have c1' := (hb.cell (World.block_lt_of_cell? _ _ c10)).trans c10
      have c2' := (hb.cell (World.block_lt_of_cell? _ _ c20)).trans c20
      have c3' := (hb.cell (World.block_lt_of_cell? _ _ c30)).trans c30
      have HNO := hid (fun hn => proofB_no (g := g) hlt hn)
      have HYES := hid (fun (h : rightB g k l[k] = true) => h)
      obtain ⟨x, hx⟩ : ∃ x, l[k] = x := ⟨_, rfl⟩
      rw [hx] at c1' c2' c3' HNO HYES
      have HX := hid hx
      obtain ⟨x0, x1, x2⟩ := x
      simp only at c1' c2' c3'
      clear c10 c20 c30 hx
      have hbA : Below wr.heap.size wr (wr.alloc (.cells #[.int .i64 x0, .int .i64 x1, .int .i64 x2] 33)) := (Below.refl _ _).alloc (Nat.le_refl _) _
      have HRT := hid (kernel_right g k (x0, x1, x2) (wr.alloc (.cells #[.int .i64 x0, .int .i64 x1, .int .i64 x2] 33)) hg (by omega))
      have HBA := hid (hb.trans (hbA.mono hsz))
      have HBS := hid HBA.out.size
      cases hr : rightB g k (x0, x1, x2)
      · rw [hr] at HRT
        have HF := hid (HNO.out hr)
        clear hr hbA
        go_wp2_with (go_at_call 90; refine HRT.out.mono ?_; rintro e w5 ⟨rfl, hb5⟩)
        go_ret
        exact ⟨ret_bool HF.out.symm, HBA.out.trans (hb5.mono HBS.out)⟩
      · rw [hr] at HRT
        have HRK := hid (HYES.out hr)
        clear hr hbA
        have hwk := IntWalk.i64_in ((k : Int) + 1) (by omega)
        go_wp2_with (go_at_call 90; refine HRT.out.mono ?_; rintro e w5 ⟨rfl, hb5⟩)
        go_roundw
        case rel =>
          refine ⟨k + 1, by omega, by go_num, HBA.out.trans (hb5.mono HBS.out), fun q hq hqk => ?_⟩
          by_cases hqq : q = k
          · subst hqq
            rw [HX.out]; exact HRK.out
          · exact HR.out q hq (by omega)
        case measure => simp [intOf]; omega
    · have hkl : k = l.length := by omega
      have HA : Hid (proofB g l = inB l.length 1 60) := hid (proofB_all fun q hq => HR.out q hq (by omega))
      go_wp2_with (go_at_call 91; refine (kernel_within _ _ _ _).mono ?_; rintro e w' ⟨rfl, rfl⟩)
      go_ret
      exact ⟨ret_bool HA.out.symm, hb⟩
theorem kernel_ValidGivens1 (vs vt : Value) (ps : Nat) (s : Sg) (t : List Int) (w : World) (hs : SignAt w vs s) (ht : Ints w vt t) (hs1 : s.length ≤ 1000) (hc : w.cell? ⟨ps, 0, none⟩ = some vs) :
    Calls Try.prog 89 #[vt, .pointer (some ⟨ps, 0, none⟩)] w fun e w' => e = .returned (.bool (!termB s t)) ∧ Below w.heap.size w w' := by
  obtain ⟨sa, scap, hse, _⟩ := hs.open
  subst hse
  go_enter Try.func89, Try.ntmps89
  go_wp2_with (go_at_call 41; refine (term_Valid' _ _ _ _ _ hs ht hs1).mono ?_; rintro e w1 ⟨rfl, hb1⟩)
  go_ret
  exact ⟨rfl, hb1⟩
theorem kernel_ValidGivens (v vl : Value) (s : Sg) (l : List (List Int)) (w : World) (hs : SignAt w v s) (hv : Terms w vl l) (hs1 : s.length ≤ 1000) :
    Calls Try.prog 60 #[v, vl] w fun e w' => e = .returned (.bool (givensB s l)) ∧ Below w.heap.size w w' := by
  obtain ⟨sa, scap, hse, _⟩ := hs.open
  subst hse
  obtain ⟨vs, hV, hlen, hel⟩ := hv
  obtain ⟨la, lcap, hle, _⟩ := hV.open
  rw [hlen] at hle
  subst hle
  have HEL := hid hel
  have HLEN := hid hlen
  clear hel hlen
  have hbx : Below w.heap.size w (w.alloc (.cells #[.slice sa s.length scap] 23)) := (Below.refl _ _).alloc (Nat.le_refl _) _
  unfold givensB
  cases h2 : signB s
  · go_enter Try.func60, Try.ntmps60
    go_wp2_with (first | (go_at_call 65; refine (term_ValidSign _ _ _ (hs.below hbx) hs1).mono ?_; rintro e w1 ⟨rfl, hb1⟩))
    go_ret
    exact ⟨ret_bool rfl, hbx.trans (hb1.mono (by simp))⟩
  · cases h3 : decide (l.length ≤ 60)
    · have h3' : ¬ ((l.length : Int) ≤ 60) := by have := of_decide_eq_false h3; omega
      go_enter Try.func60, Try.ntmps60
      go_wp2_with (first | (go_at_call 65; refine (term_ValidSign _ _ _ (hs.below hbx) hs1).mono ?_; rintro e w1 ⟨rfl, hb1⟩))
      go_ret
      exact ⟨ret_bool rfl, hbx.trans (hb1.mono (by simp))⟩
    · have h3' : (l.length : Int) ≤ 60 := by have := of_decide_eq_true h3; omega
      have hcell := cell_new1 w (.slice sa s.length scap) 23
      have key : ∀ w1, Below (w.alloc (.cells #[.slice sa s.length scap] 23)).heap.size (w.alloc (.cells #[.slice sa s.length scap] 23)) w1 →
          Calls Try.prog 67 #[.slice la l.length lcap, .func (.func 89) #[] #[.pointer (some ⟨w.heap.size, 0, none⟩)]] w1 fun e w' => e = .returned (.bool (!allB s l)) ∧ Below w1.heap.size w1 w' := by
        intro w1 hb1
        have := sl_ContainsFunc_terms 89 #[.pointer (some ⟨w.heap.size, 0, none⟩)] (enters_of Try.func89 (by kernel_rfl) rfl) (.slice la l.length lcap) vs.length vs w1 ((hV.below hbx).below hb1) (fun i => !termB s (l.getD i [])) (by
          intro i x W hx hbW
          have hil : i < l.length := by rw [← HLEN.out]; exact (List.getElem?_eq_some_iff.1 hx).1
          have hI : Ints W x (l.getD i []) := by
            rw [List.getD_eq_getElem?_getD, List.getElem?_eq_getElem hil]
            exact (((HEL.out i x _ hx (List.getElem?_eq_getElem hil)).below hbx).below hb1).below hbW
          have hS : SignAt W (.slice sa s.length scap) s := ((hs.below hbx).below hb1).below hbW
          have hC : W.cell? ⟨w.heap.size, 0, none⟩ = some (.slice sa s.length scap) := by
            rw [hbW.cell (p := ⟨w.heap.size, 0, none⟩) (by have := hb1.size; simp at this; show w.heap.size < _; omega), hb1.cell (p := ⟨w.heap.size, 0, none⟩) (by simp)]
            exact hcell
          exact kernel_ValidGivens1 _ _ _ _ _ _ hS hI hs1 hC)
        rw [HLEN.out, allB_any] at this
        exact this
      have KEY := hid key
      clear key hcell
      go_enter Try.func60, Try.ntmps60
      go_wp2_with (first | (go_at_call 65; refine (term_ValidSign _ _ _ (hs.below hbx) hs1).mono ?_; rintro e w1 ⟨rfl, hb1⟩) | (go_at_call 67; refine (KEY.out _ hb1).mono ?_; rintro e w2 ⟨rfl, hb2⟩))
      go_ret
      exact ⟨ret_bool (by simp), (hbx.trans (hb1.mono (by simp))).trans (hb2.mono (by have := hb1.size; simp at this; omega))⟩
end Go.Proofs.Ytldgkidojepdlaa
