/-
  WHAT IT HOLDS: contracts of join and Common of package unify. Conditions: the arguments read as data; both are terms of at most 100 numbers; a sign of 1 to 12 symbols.
  WHAT IT HOLDS: contracts of Closeness of package find, and of the laws' own helpers Small, Few, awake. Conditions: the arguments read as data.
-/
import Derived.Test.YtldgkidojepdlaaZRTopCarriedUnify16
import Derived.Test.YtldgkidojepdlaaZRTopCarriedUnify13
namespace Go.Proofs.Ytldgkidojepdlaa
open Go Go.RowKit Go.Maps
set_option maxHeartbeats 1000000 in
theorem unify_join (s : Sg) (vs va vb : Value) (a b : List Int) (w : World) (hsl : 1 ≤ s.length) (hsl2 : s.length ≤ 12) (ha : IsT s 12 a) (hb : IsT s 12 b) (hs : SignAt w vs s) (ra : Ints w va a) (rb : Ints w vb b) (hla : a.length ≤ 100) (hlb : b.length ≤ 100) :
    Calls Try.prog 74 #[vs, va, vb] w fun e w' => ∃ u, e = .returned u ∧ w'.ownsRow w.heap.size 3 1 u (comW s a b []).1.length ((comW s a b []).1.map (Value.int .i64)) ∧ Below w.heap.size w w' := by
  obtain ⟨sa, scap, hse, _⟩ := hs.open
  subst hse
  obtain ⟨aa, acap, hae, _⟩ := ra.open
  subst hae
  obtain ⟨ba, bcap, hbe, _⟩ := rb.open
  subst hbe
  have hmm := @run_makeMap Try.prog
  go_enter Try.func74, Try.ntmps74
  go_wp2_with fail
  clear hmm
  have k0 : ∀ o1 o2 o3, ((((w.alloc (.cells #[.slice sa s.length scap] 23)).alloc o1).alloc o2).alloc o3).cell? ⟨w.heap.size, 0, none⟩ = some (.slice sa s.length scap) := fun o1 o2 o3 => cell_alloc_keep _ (cell_alloc_keep _ (cell_alloc_keep _ (cell_new1 _ _ _)))
  have hbx : ∀ o0 o1 o2 o3, Below w.heap.size w ((((w.alloc o0).alloc o1).alloc o2).alloc o3) := fun o0 o1 o2 o3 => ((((Below.refl _ _).alloc (Nat.le_refl _) _).alloc (by simp) _).alloc (by simp; omega) _).alloc (by simp; omega) _
  have k1 := cell_new1 ((w.alloc (.cells #[.slice sa s.length scap] 23)).alloc (.map #[] 0)) (.map (some (w.heap.size + 1))) 127
  have k2 := cell_new1 (((w.alloc (.cells #[.slice sa s.length scap] 23)).alloc (.map #[] 0)).alloc (.cells #[.map (some (w.heap.size + 1))] 127)) (fnW (w.heap.size + 1 + 1) w.heap.size (w.heap.size + 1 + 1 + 1)) 128
  have km := MapK.made Try.prog 131 ek2 (Value.int .i64) (w.alloc (.cells #[.slice sa s.length scap] 23))
  simp only [World.size_alloc] at k1 k2 km
  have hj := unify_join1 s (.slice sa s.length scap) (w.heap.size + 1 + 1) w.heap.size (w.heap.size + 1 + 1 + 1) (w.heap.size + 1) hsl hsl2 ha b hb _ _ [] _ (hs.below (hbx _ _ _ _)) (ra.below (hbx _ _ _ _)) (rb.below (hbx _ _ _ _)) (cell_alloc_keep _ k1) (k0 _ _ _) k2 (by
    have h := (km.alloc (.cells #[.map (some (w.heap.size + 1))] 127)).alloc (.cells #[fnW (w.heap.size + 1 + 1) w.heap.size (w.heap.size + 1 + 1 + 1)] 128)
    unfold JMap
    rw [show mapK [] = fun _ => none from funext fun x => by simp [mapK]]
    exact h) hla hlb (by simp; omega)
  refine Calls.mono hj ?_
  rintro e w1 ⟨u, rfl, hown, _, hg⟩
  have hB := hbx (.cells #[.slice sa s.length scap] 23) (.map #[] 0) (.cells #[.map (some (w.heap.size + 1))] 127) (.cells #[fnW (w.heap.size + 1 + 1) w.heap.size (w.heap.size + 1 + 1 + 1)] 128)
  have hB2 : Below w.heap.size w w1 := hB.grown hg hB.size (fun q hq => by cases hq; omega)
  have hown2 := owns_base hown hB.size
  clear hj k0 hbx k1 k2 km hown hg hB
  go_wp2
  go_ret
  exact ⟨_, rfl, hown2, hB2⟩
def symN (l : List Int) : Nat := (l.filter fun x => decide (0 ≤ x)).length
theorem symN_le (l : List Int) : symN l ≤ l.length := List.length_filter_le _ _
theorem symN_snoc (l : List Int) (x : Int) : symN (l ++ [x]) = symN l + if 0 ≤ x then 1 else 0 := by
  unfold symN
  rw [List.filter_append]
  by_cases h : 0 ≤ x <;> simp [h]
set_option maxHeartbeats 400000 in
theorem unify_Common (s : Sg) (vs va vb : Value) (a b : List Int) (w : World) (hsl : 1 ≤ s.length) (hsl2 : s.length ≤ 12) (ha : IsT s 12 a) (hb : IsT s 12 b) (hs : SignAt w vs s) (ra : Ints w va a) (rb : Ints w vb b) (hla : a.length ≤ 100) (hlb : b.length ≤ 100) :
    Calls Try.prog 46 #[vs, va, vb] w fun e w' => e = .returned (.int .i64 (symN (comW s a b []).1)) ∧ Below w.heap.size w w' := by
  have hcl := (comW_len s a b []).1
  have hj := unify_join s vs va vb a b w hsl hsl2 ha hb hs ra rb hla hlb
  obtain ⟨L, hL⟩ : ∃ L, (comW s a b []).1 = L := ⟨_, rfl⟩
  rw [hL] at hj hcl ⊢
  have HJ := hid hj
  clear hj hL
  go_enter Try.func46, Try.ntmps46
  go_wp2_with fail
  refine HJ.out.mono ?_
  rintro e w1 ⟨u, rfl, hown, hb1⟩
  obtain ⟨ua, ucap, hue, _, _, _, UC⟩ := (Ints.of_owns hown (by omega)).open
  subst hue
  have UC' := hid UC
  clear UC hown
  go_wp2
  go_loop [7, 15] (fun c i => ∃ k : Nat, k ≤ L.length ∧ i = .int .i64 k ∧ c = .int .i64 (symN (L.take k))) (fun _ i => L.length - (intOf i).toNat)
  case atStart => exact ⟨0, by omega, rfl, rfl⟩
  case round =>
    obtain ⟨k, hk, rfl, rfl⟩ := hrel
    have hsn := symN_le (L.take k)
    have htl : (L.take k).length ≤ k := List.length_take_le _ _
    by_cases hlt : k < L.length
    · obtain ⟨b', o', rfl, hcell⟩ := UC'.out k hlt
      have hst : symN (L.take (k + 1)) = symN (L.take k) + if 0 ≤ L[k] then 1 else 0 := by rw [List.take_succ_eq_append_getElem hlt, symN_snoc]
      by_cases hx : 0 ≤ L[k]
      · rw [if_pos hx] at hst
        have HST := hid hst
        clear hst
        go_wp2
        go_round
        case rel => exact ⟨k + 1, by omega, by go_num, by rw [HST.out]; go_num⟩
        case measure => simp [intOf]; omega
      · rw [if_neg hx] at hst
        have HST := hid hst
        clear hst
        go_wp2
        go_round
        case rel => exact ⟨k + 1, by omega, by go_num, by rw [HST.out]; go_num⟩
        case measure => simp [intOf]; omega
    · have hkl : L.take k = L := List.take_of_length_le (by omega)
      have HKL := hid hkl
      clear hkl
      go_wp2
      go_ret
      exact ⟨ret_int (by rw [HKL.out]), hb1⟩
end Go.Proofs.Ytldgkidojepdlaa
namespace Go.Proofs.Ytldgkidojepdlaa
open Go Go.RowKit Go.Maps
theorem termB_facts {s : Sg} {t : List Int} (h : termB s t = true) : signB s = true ∧ 1 ≤ s.length ∧ s.length ≤ 12 ∧ t.length ≤ 60 := by
  have h' := h
  unfold termB at h'
  simp only [Bool.and_eq_true] at h'
  have h1 := signB_len h'.1.1
  have h2 := inB_true.1 h'.1.2
  exact ⟨h'.1.1, h1.1, h1.2, by omega⟩
def sCN : Sg := [(⟨#[67]⟩, 2), (⟨#[78]⟩, 1)]
theorem below_alloc3 (w : World) (a b c : Obj) : Below w.heap.size w (((w.alloc a).alloc b).alloc c) :=
  (((Below.refl _ _).alloc (Nat.le_refl _) _).alloc (by simp) _).alloc (by simp; omega) _
def closeB (s : Sg) (t q : List Int) : Int × Int := if termB s t && termB s q then ((symN (comW s t q []).1 : Int), 0) else (0, 1)
set_option maxHeartbeats 400000 in
theorem find_Closeness (vs vt vq : Value) (s : Sg) (t q : List Int) (w : World) (hs : SignAt w vs s) (ht : Ints w vt t) (hq : Ints w vq q) (hs1 : s.length ≤ 1000) :
    Calls Try.prog 20 #[vs, vt, vq] w fun e w' => e = .returned (.tuple #[.int .i64 (closeB s t q).1, .int .i64 (closeB s t q).2]) ∧ Below w.heap.size w w' := by
  cases h1 : termB s t
  · have HF : Hid (closeB s t q = (0, 1)) := hid (by unfold closeB; rw [h1]; rfl)
    go_enter Try.func20, Try.ntmps20
    go_wp2_with (first | (go_at_call 41; refine (term_Valid' _ _ _ _ _ hs ht hs1).mono ?_; rintro e w1 ⟨rfl, hb1⟩))
    go_ret2
    exact ⟨by rw [HF.out]; rfl, hb1⟩
  · cases h2 : termB s q
    · have HF : Hid (closeB s t q = (0, 1)) := hid (by unfold closeB; rw [h1, h2]; rfl)
      go_enter Try.func20, Try.ntmps20
      go_wp2_with fail
      refine (term_Valid' _ _ _ _ _ hs ht hs1).mono ?_
      rintro e w1 ⟨rfl, hb1⟩
      go_wp2_with fail
      refine (term_Valid' _ _ _ _ _ (hs.below hb1) (hq.below hb1) hs1).mono ?_
      rintro e w2 ⟨rfl, hb2⟩
      go_wp2
      go_ret2
      exact ⟨by rw [HF.out]; rfl, hb1.trans (hb2.mono hb1.size)⟩
    · obtain ⟨f1, f2, f3, f4⟩ := termB_facts h1
      obtain ⟨_, _, _, f5⟩ := termB_facts h2
      have hT := termB_T h1
      have hQ := termB_T h2
      have HF : Hid (closeB s t q = ((symN (comW s t q []).1 : Int), 0)) := hid (by unfold closeB; rw [h1, h2]; rfl)
      obtain ⟨N, hN⟩ : ∃ N, symN (comW s t q []).1 = N := ⟨_, rfl⟩
      go_enter Try.func20, Try.ntmps20
      go_wp2_with fail
      refine (term_Valid' _ _ _ _ _ hs ht hs1).mono ?_
      rintro e w1 ⟨rfl, hb1⟩
      go_wp2_with fail
      refine (term_Valid' _ _ _ _ _ (hs.below hb1) (hq.below hb1) hs1).mono ?_
      rintro e w2 ⟨rfl, hb2⟩
      have hb3 := hb1.trans (hb2.mono hb1.size)
      have hc := unify_Common s vs vt vq t q w2 f2 f3 hT hQ (hs.below hb3) (ht.below hb3) (hq.below hb3) (by omega) (by omega)
      rw [hN] at hc HF
      have HC := hid hc
      clear hc hN
      go_wp2_with fail
      refine HC.out.mono ?_
      rintro e w3 ⟨rfl, hb4⟩
      go_wp2
      go_ret2
      exact ⟨by rw [HF.out]; rfl, hb3.trans (hb4.mono hb3.size)⟩
theorem law1_Small (vs vl : Value) (s : Sg) (l : List (List Int)) (w : World) (hs : SignAt w vs s) (hl : Terms w vl l) :
    Calls Try.prog 6 #[vs, vl] w fun e w' => e = .returned (.bool (smallB s l)) ∧ w = w' := by
  obtain ⟨sa, scap, rfl, _, hsl, _⟩ := hs.open
  obtain ⟨la, lcap, rfl, hl1, hl2, _, LC⟩ := hl.open
  have LC' := hid LC
  clear LC hs hl
  go_enter Try.func6, Try.ntmps6
  go_wp2
  go_loop [5] (fun i => ∃ k : Nat, k ≤ l.length ∧ i = .int .i64 k ∧ (l.take k).all (fun t => decide (t.length ≤ 200)) = true) (fun i => l.length - (intOf i).toNat)
  case atStart => exact ⟨0, by omega, rfl, by simp⟩
  case round =>
    obtain ⟨k, hk, rfl, hrel⟩ := hrel
    have HR := hid hrel
    clear hrel
    by_cases hlt : k < l.length
    · obtain ⟨b, o, u, rfl, hcell, hu⟩ := LC'.out k hlt
      obtain ⟨ua, ucap, rfl, _, hul, _⟩ := hu.open
      by_cases h2 : (200 : Int) < l[k].length
      · have HF : Hid (smallB s l = false) := hid (by
          unfold smallB
          have : l.all (fun t => decide (t.length ≤ 200)) = false := by
            rw [List.all_eq_false]; exact ⟨l[k], List.getElem_mem hlt, by simp; omega⟩
          rw [this]; rfl)
        go_wp2
        go_ret
        exact ⟨ret_bool HF.out.symm, rfl⟩
      · go_wp2
        go_round
        case rel =>
          refine ⟨k + 1, by omega, by go_num, ?_⟩
          rw [List.take_succ_eq_append_getElem hlt, List.all_append, HR.out]
          simp; omega
        case measure => simp [intOf]; omega
    · have HF : Hid (smallB s l = decide ((s.length : Int) ≤ 40)) := hid (by
        unfold smallB
        have := HR.out
        rw [List.take_of_length_le (by omega)] at this
        rw [this]
        simp; omega)
      go_wp2
      go_ret
      exact ⟨ret_bool HF.out.symm, rfl⟩
theorem law5_Few (vs vl : Value) (s : Sg) (l : List (List Int)) (n : Int) (w : World) (hs : SignAt w vs s) (hl : Terms w vl l) :
    Calls Try.prog 14 #[vs, vl, .int .i64 n] w fun e w' => e = .returned (.bool (decide ((l.length : Int) ≤ n) && smallB s l)) ∧ w = w' := by
  obtain ⟨sa, scap, hse, _, hsl, _⟩ := hs.open
  subst hse
  obtain ⟨la, lcap, hle, hl1, hl2, _, _⟩ := hl.open
  subst hle
  by_cases h : (l.length : Int) ≤ n
  · go_enter Try.func14, Try.ntmps14
    go_wp2_with (go_at_call 6; refine (law1_Small _ _ _ _ _ hs hl).mono ?_; rintro e w' ⟨rfl, rfl⟩)
    go_ret
    exact ⟨ret_bool (by simp [h]), rfl⟩
  · go_enter Try.func14, Try.ntmps14
    go_wp2_with (go_at_call 6; refine (law1_Small _ _ _ _ _ hs hl).mono ?_; rintro e w' ⟨rfl, rfl⟩)
    go_ret
    exact ⟨ret_bool (by simp; omega), rfl⟩
theorem awake_close : closeB sCN [0, 1, -1, -2] [0, 1, -1, 1, -1] = (2, 0) := by decide +kernel
theorem awake_call (w W1 W2 : World) (A B C : Obj) (hA : A = .cells #[.string ⟨#[67]⟩, .int .i64 2, .string ⟨#[78]⟩, .int .i64 1] 58)
    (hB : B = .cells #[.int .i64 0, .int .i64 1, .int .i64 (-1), .int .i64 (-2)] 3) (hC : C = .cells #[.int .i64 0, .int .i64 1, .int .i64 (-1), .int .i64 1, .int .i64 (-1)] 3)
    (h1 : W1 = w.alloc A) (h2 : W2 = W1.alloc B) :
    Calls Try.prog 20 #[.slice (some ⟨w.heap.size, 0, none⟩) 2 2, .slice (some ⟨w.heap.size + 1, 0, none⟩) 4 4, .slice (some ⟨w.heap.size + 1 + 1, 0, none⟩) 5 5] (W2.alloc C) fun e w' => e = .returned (.tuple #[.int .i64 2, .int .i64 0]) ∧ Below w.heap.size w w' := by
  have s1 : W1.heap.size = w.heap.size + 1 := by rw [h1]; simp
  have s2 : W2.heap.size = w.heap.size + 1 + 1 := by rw [h2]; simp [s1]
  have r1 := World.ownsRow_lit (base := 0) (e := 58) (size := 2) w #[.string ⟨#[67]⟩, .int .i64 2, .string ⟨#[78]⟩, .int .i64 1] 2 (by omega) (by simp [maxLen]) rfl
  have r2 := World.ownsRow_lit (base := 0) (e := 3) (size := 1) W1 #[.int .i64 0, .int .i64 1, .int .i64 (-1), .int .i64 (-2)] 4 (by omega) (by simp [maxLen]) rfl
  have r3 := World.ownsRow_lit (base := 0) (e := 3) (size := 1) W2 #[.int .i64 0, .int .i64 1, .int .i64 (-1), .int .i64 1, .int .i64 (-1)] 5 (by omega) (by simp [maxLen]) rfl
  rw [← hA, ← h1] at r1
  rw [← hB, ← h2, s1] at r2
  rw [← hC, s2] at r3
  have q1 : SignAt (W2.alloc C) (.slice (some ⟨w.heap.size, 0, none⟩) 2 2) sCN := by
    refine ⟨RowK.of_owns (w := W2.alloc C) (h2 ▸ ((r1.alloc B).alloc C)) (by simp [sCN]), ?_⟩
    intro x hx
    simp [sCN] at hx
    rcases hx with rfl | rfl <;> simp [ByteArray.size]
  have q2 : Ints (W2.alloc C) (.slice (some ⟨w.heap.size + 1, 0, none⟩) 4 4) [0, 1, -1, -2] := Ints.of_owns (r2.alloc C) (by simp)
  have q3 : Ints (W2.alloc C) (.slice (some ⟨w.heap.size + 1 + 1, 0, none⟩) 5 5) [0, 1, -1, 1, -1] := Ints.of_owns r3 (by simp)
  have hc := find_Closeness _ _ _ sCN _ _ _ q1 q2 q3 (by simp [sCN])
  rw [awake_close] at hc
  refine hc.mono ?_
  rintro e w1 ⟨rfl, hb1⟩
  subst h1 h2
  have hB := below_alloc3 w A B C
  exact ⟨rfl, hB.trans (hb1.mono hB.size)⟩
theorem law5_awake (w : World) :
    Calls Try.prog 15 #[] w fun e w' => e = .returned (.bool true) ∧ Below w.heap.size w w' := by
  go_enter Try.func15, Try.ntmps15
  go_wp2_with fail
  refine (awake_call w _ _ _ _ _ rfl rfl rfl rfl rfl).mono ?_
  rintro e w1 ⟨rfl, hB1⟩
  go_wp2
  go_ret
  exact ⟨rfl, hB1⟩
end Go.Proofs.Ytldgkidojepdlaa
