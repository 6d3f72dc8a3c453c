/-
  WHAT IT HOLDS: contracts of the small loops of package lemmaryref01 (Has, SameInts, Same, AllValid): each returns what the plain function says and changes no memory. Conditions: the arguments read as data.
  WHAT IT HOLDS: contracts of cmp.Compare, cmp.Or, slices.Compare at int, and of Compare of package term. Conditions: the arguments read as data.
  WHAT IT HOLDS: contracts of functions of package lemmaryref05 that the law of With reaches. Conditions: the arguments read as data.
-/
import Derived.Test.YtldgkidojepdlaaZRFindRanks4
import Derived.Test.YtldgkidojepdlaaZRFindRanks0
import Derived.Test.YtldgkidojepdlaaZRFindRanks5
namespace Go.Proofs.Ytldgkidojepdlaa
open Go Go.RowKit Go.Maps
theorem ref1_Has (v : Value) (l : List Int) (n : Int) (w : World) (hv : Ints w v l) :
    Calls Try.prog 11 #[v, .int .i64 n] w fun e w' => e = .returned (.bool (decide (n ∈ l))) ∧ w = w' := by
  obtain ⟨a, cap, rfl, h1, hl, h3, HC⟩ := hv.open
  have HC' := hid HC
  clear HC hv h3
  go_enter Try.func11, Try.ntmps11
  go_wp2
  go_loop [5] (fun i => ∃ k : Nat, k ≤ l.length ∧ i = .int .i64 k ∧ n ∉ l.take k) (fun i => l.length - (intOf i).toNat)
  case atStart => exact ⟨0, by omega, rfl, by simp⟩
  case round =>
    obtain ⟨k, hk, rfl, hrel⟩ := hrel
    have HR := hid hrel
    clear hrel
    by_cases hlt : k < l.length
    · obtain ⟨b, o, rfl, hcell⟩ := HC'.out k hlt
      cases h2 : (l[k] == n)
      · go_wp2
        go_round
        case rel =>
          refine ⟨k + 1, by omega, by go_num, ?_⟩
          rw [List.take_succ_eq_append_getElem hlt]
          intro hm
          rcases List.mem_append.1 hm with hm | hm
          · exact HR.out hm
          · have := List.mem_singleton.1 hm
            simp [this] at h2
        case measure => simp [intOf]; omega
      · have HM : Hid (n ∈ l) := hid (by have := List.getElem_mem hlt; rw [eq_of_beq h2] at this; exact this)
        go_wp2
        go_ret
        exact ⟨ret_bool (decide_eq_true HM.out).symm, rfl⟩
    · have HM : Hid (n ∉ l) := hid (by have := HR.out; rw [List.take_of_length_le (by omega)] at this; exact this)
      go_wp2
      go_ret
      exact ⟨ret_bool (decide_eq_false HM.out).symm, rfl⟩

set_option maxHeartbeats 400000 in
theorem ref1_SameInts (v u : Value) (l m : List Int) (w : World) (hv : Ints w v l) (hu : Ints w u m) :
    Calls Try.prog 18 #[v, u] w fun e w' => e = .returned (.bool (decide (l = m))) ∧ ∃ n, w' = w.drewN n := by
  obtain ⟨a, cap, rfl, h1, hl, h3, HC⟩ := hv.open
  obtain ⟨a', cap', rfl, h1', hl', h3', HD⟩ := hu.open
  have HC' := hid HC
  have HD' := hid HD
  clear HC hv h3 HD hu h3'
  by_cases hlen : l.length = m.length
  · have hne : (((l.length : Nat) : Int) != (m.length : Int)) = false := by simp [hlen]
    have HL := hid hlen
    clear hlen
    go_enter Try.func18, Try.ntmps18
    go_wp2
    go_loopw [5] (fun i wr => ∃ k q : Nat, k ≤ l.length ∧ i = .int .i64 k ∧ wr = w.drewN q ∧ l.take k = m.take k) (fun i _ => l.length - (intOf i).toNat)
    case atStart => exact ⟨0, 0, by omega, rfl, rfl, by simp⟩
    case round =>
      obtain ⟨k, q, hk, rfl, rfl, hrel⟩ := hrel
      have HR := hid hrel
      clear hrel
      by_cases hlt : k < l.length
      · obtain ⟨b, o, rfl, hcell⟩ := HC'.out k hlt
        have hlt' : k < m.length := by have := HL.out; omega
        obtain ⟨b', o', rfl, hcell'⟩ := HD'.out k hlt'
        cases h2 : (l[k] != m[k])
        · go_wp2
          go_quiet (fail)
          go_wp2
          go_roundw
          case rel =>
            refine ⟨k + 1, _, by omega, by go_num, (by first | rfl | exact World.drewN_drewN _ _ _), ?_⟩
            rw [List.take_succ_eq_append_getElem hlt, List.take_succ_eq_append_getElem hlt', HR.out]
            have : l[k] = m[k] := by simpa [bne] using h2
            rw [this]
          case measure => simp [intOf]; omega
        · have HM : Hid (l ≠ m) := hid (by intro e; subst e; simp at h2)
          go_wp2
          go_quiet (fail)
          go_wp2
          go_ret
          exact ⟨ret_bool (decide_eq_false HM.out).symm, _, (by first | rfl | exact World.drewN_drewN _ _ _)⟩
      · have HM : Hid (l = m) := hid (by have := HR.out; have h9 := HL.out; rw [List.take_of_length_le (by omega), List.take_of_length_le (by omega)] at this; exact this)
        go_wp2
        go_ret
        exact ⟨ret_bool (decide_eq_true HM.out).symm, q, rfl⟩
  · have hne : (((l.length : Nat) : Int) != (m.length : Int)) = true := by simp [bne]; omega
    have HM : Hid (l ≠ m) := hid (by intro e; subst e; exact hlen rfl)
    clear hlen
    go_enter Try.func18, Try.ntmps18
    go_wp2
    go_ret
    exact ⟨ret_bool (decide_eq_false HM.out).symm, 0, rfl⟩

set_option maxHeartbeats 400000 in
theorem ref1_AllValid (v vl : Value) (s : Sg) (l : List (List Int)) (w : World) (hs : SignAt w v s) (hv : Terms w vl l) :
    Calls Try.prog 108 #[v, vl] w fun e w' => e = .returned (.bool (allB s l)) ∧ ∃ n, w' = w.drewN n := by
  obtain ⟨a, cap, rfl, h1, hl, h3, HC⟩ := hv.open
  have HC' := hid HC
  clear HC hv h3
  go_enter Try.func108, Try.ntmps108
  go_wp2
  go_loopw [5] (fun i wr => ∃ k q : Nat, k ≤ l.length ∧ i = .int .i64 k ∧ wr = w.drewN q ∧ (l.take k).all (termB s) = true) (fun i _ => l.length - (intOf i).toNat)
  case atStart => exact ⟨0, 0, by omega, rfl, rfl, by simp⟩
  case round =>
    obtain ⟨k, q, hk, rfl, rfl, hrel⟩ := hrel
    have HR := hid hrel
    clear hrel
    by_cases hlt : k < l.length
    · obtain ⟨b, o, u, rfl, hcell, hu⟩ := HC'.out k hlt
      obtain ⟨ua, ucap, hue, _⟩ := hu.open
      subst hue
      have hs' := hs.drewN q
      have hu' := hu.drewN q
      cases h2 : termB s l[k]
      · have HM : Hid (allB s l = false) := hid (by unfold allB; rw [List.all_eq_false]; exact ⟨l[k], List.getElem_mem hlt, by simp [h2]⟩)
        go_wp2_with (go_at_call 50; refine (ref1_Valid _ _ _ _ _ hs' hu').mono ?_; rintro e w' ⟨rfl, m0, rfl⟩)
        go_ret
        exact ⟨ret_bool HM.out.symm, _, (by first | rfl | exact World.drewN_drewN _ _ _)⟩
      · go_wp2_with (go_at_call 50; refine (ref1_Valid _ _ _ _ _ hs' hu').mono ?_; rintro e w' ⟨rfl, m0, rfl⟩)
        go_roundw
        case rel =>
          refine ⟨k + 1, _, by omega, by go_num, (by first | rfl | exact World.drewN_drewN _ _ _), ?_⟩
          rw [List.take_succ_eq_append_getElem hlt, List.all_append, HR.out]
          simp [h2]
        case measure => simp [intOf]; omega
    · have HM : Hid (allB s l = true) := hid (by have := HR.out; rw [List.take_of_length_le (by omega)] at this; exact this)
      go_wp2
      go_ret
      exact ⟨ret_bool HM.out.symm, q, rfl⟩

end Go.Proofs.Ytldgkidojepdlaa
namespace Go.Proofs.Ytldgkidojepdlaa
open Go Go.RowKit Go.Maps
def cpI (x y : Int) : Int := if x < y then -1 else if y < x then 1 else 0
theorem cmp_isNaN (x : Int) (w : World) : Calls Try.prog 73 #[.int .i64 x] w fun e w' => e = .returned (.bool false) ∧ w = w' := by
  go_enter Try.func73, Try.ntmps73
  go_wp2
  go_ret
  exact ⟨by simp, rfl⟩
theorem cmp_Compare (x y : Int) (w : World) : Calls Try.prog 45 #[.int .i64 x, .int .i64 y] w fun e w' => e = .returned (.int .i64 (cpI x y)) ∧ w = w' := by
  have HX := hid (cmp_isNaN x w)
  have HY := hid (cmp_isNaN y w)
  by_cases h1 : x < y
  · have HC : Hid (cpI x y = -1) := hid (by unfold cpI; rw [if_pos h1])
    go_enter Try.func45, Try.ntmps45
    go_wp2_with fail
    refine HX.out.mono ?_
    rintro e w1 ⟨rfl, rfl⟩
    go_wp2_with fail
    refine HY.out.mono ?_
    rintro e w1 ⟨rfl, rfl⟩
    go_wp2
    go_ret
    exact ⟨by rw [HC.out]; rfl, rfl⟩
  · by_cases h2 : y < x
    · have HC : Hid (cpI x y = 1) := hid (by unfold cpI; rw [if_neg h1, if_pos h2])
      go_enter Try.func45, Try.ntmps45
      go_wp2_with fail
      refine HX.out.mono ?_
      rintro e w1 ⟨rfl, rfl⟩
      go_wp2_with fail
      refine HY.out.mono ?_
      rintro e w1 ⟨rfl, rfl⟩
      go_wp2
      go_ret
      exact ⟨by rw [HC.out]; rfl, rfl⟩
    · have HC : Hid (cpI x y = 0) := hid (by unfold cpI; rw [if_neg h1, if_neg h2])
      go_enter Try.func45, Try.ntmps45
      go_wp2_with fail
      refine HX.out.mono ?_
      rintro e w1 ⟨rfl, rfl⟩
      go_wp2_with fail
      refine HY.out.mono ?_
      rintro e w1 ⟨rfl, rfl⟩
      go_wp2
      go_ret
      exact ⟨by rw [HC.out]; rfl, rfl⟩
def orI (a b : Int) : Int := if a ≠ 0 then a else b
theorem cmp_Or (a b : Int) (bk of c : Nat) (w : World) (h0 : w.cell? ⟨bk, of, none⟩ = some (.int .i64 a)) (h1 : w.cell? ⟨bk, of + 1, none⟩ = some (.int .i64 b)) :
    Calls Try.prog 44 #[.slice (some ⟨bk, of, none⟩) 2 c] w fun e w' => e = .returned (.int .i64 (orI a b)) ∧ w = w' := by
  have HC : Hid (∀ k : Nat, k < 2 → w.cell? ⟨bk, of + k, none⟩ = some (.int .i64 (if k = 0 then a else b))) := hid (fun k hk => by
    match k, hk with
    | 0, _ => simpa using h0
    | 1, _ => simpa using h1)
  clear h0 h1
  go_enter Try.func44, Try.ntmps44
  go_wp2
  go_loop [8] (fun i => ∃ k : Nat, k ≤ 2 ∧ i = .int .i64 k ∧ ∀ j, j < k → (if j = 0 then a else b) = 0) (fun i => 2 - (intOf i).toNat)
  case atStart => exact ⟨0, by omega, rfl, by simp⟩
  case round =>
    obtain ⟨k, hk, rfl, hrel⟩ := hrel
    have HR := hid hrel
    clear hrel
    by_cases hlt : k < 2
    · have hc := HC.out k hlt
      obtain ⟨z, hz⟩ : ∃ z, (if k = 0 then a else b) = z := ⟨_, rfl⟩
      rw [hz] at hc
      have HZ := hid hz
      have y1 : (k : Int) < 2 := by omega
      clear hz
      cases h2 : (z != 0)
      · have HZ0 : Hid (z = 0) := hid (by simpa using h2)
        go_wp2
        go_round
        case rel =>
          refine ⟨k + 1, by omega, by go_num, fun j hj => ?_⟩
          by_cases e : j = k
          · rw [e, HZ.out, HZ0.out]
          · exact HR.out j (by omega)
        case measure => simp [intOf]; omega
      · have HA : Hid (orI a b = z) := hid (by
          unfold orI
          have hz0 : z ≠ 0 := by simpa using h2
          have := HZ.out
          by_cases e : k = 0
          · rw [if_pos e] at this
            rw [this, if_pos hz0]
          · rw [if_neg e] at this
            have h3 := HR.out 0 (by omega)
            rw [if_pos rfl] at h3
            rw [h3, if_neg (by simp), this])
        go_wp2
        go_ret
        exact ⟨by rw [HA.out]; rfl, rfl⟩
    · have HA : Hid (orI a b = 0) := hid (by
        unfold orI
        have h3 := HR.out 0 (by omega)
        have h4 := HR.out 1 (by omega)
        rw [if_pos rfl] at h3
        rw [if_neg (by omega)] at h4
        rw [h3, if_neg (by simp), h4])
      go_wp2
      go_ret
      exact ⟨by rw [HA.out]; rfl, rfl⟩
theorem lexL_drop {a b : List Int} : ∀ {k : Nat}, a.take k = b.take k → k ≤ a.length → k ≤ b.length → lexL (a.drop k) (b.drop k) = lexL a b
  | 0, _, _, _ => rfl
  | k + 1, h, h1, h2 => by
    have hk1 : k < a.length := by omega
    have hk2 : k < b.length := by omega
    rw [List.take_succ_eq_append_getElem hk1, List.take_succ_eq_append_getElem hk2] at h
    have h3 := List.append_inj h (by simp; omega)
    have e : a[k] = b[k] := by simpa using h3.2
    rw [← lexL_drop h3.1 (by omega) (by omega), List.drop_eq_getElem_cons hk1, List.drop_eq_getElem_cons hk2, lexL, e, if_neg (by omega), if_neg (by omega)]
theorem lexL_at {a b : List Int} {k : Nat} (h : a.take k = b.take k) (h1 : k < a.length) (h2 : k < b.length) (hc : cpI a[k] b[k] ≠ 0) : lexL a b = cpI a[k] b[k] := by
  rw [← lexL_drop h (by omega) (by omega), List.drop_eq_getElem_cons h1, List.drop_eq_getElem_cons h2, lexL]
  unfold cpI at hc ⊢
  split
  · rfl
  · split
    · rfl
    · rename_i h3 h4; rw [if_neg h3, if_neg h4] at hc; exact absurd rfl hc
theorem cpI_zero {x y : Int} (h : cpI x y = 0) : x = y := by
  unfold cpI at h
  split at h
  · simp at h
  · split at h
    · simp at h
    · omega
theorem cmpL_or (a b : List Int) : orI (cpI a.length b.length) (lexL a b) = cmpL a b := by
  unfold cmpL cpI orI
  by_cases h1 : a.length < b.length
  · rw [if_pos h1, if_pos (show (a.length : Int) < b.length by omega)]; rfl
  · by_cases h2 : b.length < a.length
    · rw [if_neg h1, if_pos h2, if_neg (show ¬ (a.length : Int) < b.length by omega), if_pos (show (b.length : Int) < a.length by omega)]; rfl
    · rw [if_neg h1, if_neg h2, if_neg (show ¬ (a.length : Int) < b.length by omega), if_neg (show ¬ (b.length : Int) < a.length by omega)]; rfl
end Go.Proofs.Ytldgkidojepdlaa
namespace Go.Proofs.Ytldgkidojepdlaa
open Go Go.RowKit Go.Maps
theorem ref5_within (n lo hi : Int) (w : World) :
    Calls Try.prog 107 #[.int .i64 n, .int .i64 lo, .int .i64 hi] w fun e w' => e = .returned (.bool (inB n lo hi)) ∧ w = w' := by
  unfold inB
  by_cases h1 : lo ≤ n
  · by_cases h2 : n ≤ hi
    · go_enter Try.func107, Try.ntmps107
      go_wp2
      go_ret
      exact ⟨by simp [h1, h2], rfl⟩
    · go_enter Try.func107, Try.ntmps107
      go_wp2
      go_ret
      exact ⟨by simp [h1, h2], rfl⟩
  · go_enter Try.func107, Try.ntmps107
    go_wp2
    go_ret
    exact ⟨ret_bool (by simp; omega), rfl⟩

theorem ref5_Valid (v vl : Value) (s : Sg) (l : List (List Int)) (w : World) (hs : SignAt w v s) (hv : Terms w vl l) :
    Calls Try.prog 75 #[v, vl] w fun e w' => e = .returned (.bool (shelfB s l)) ∧ ∃ n, w' = w.drewN n := by
  obtain ⟨a, cap, hve, h1, hl, _⟩ := hv.open
  subst hve
  unfold shelfB
  cases h2 : signB s
  · go_enter Try.func75, Try.ntmps75
    go_wp2_with (first | (go_at_call 77; refine (ref1_ValidSign _ _ _ hs).mono ?_; rintro e w' ⟨rfl, m0, rfl⟩))
    go_ret
    exact ⟨ret_bool rfl, m0, rfl⟩
  · cases h3 : inB l.length 1 60
    · go_enter Try.func75, Try.ntmps75
      go_wp2_with (first | (go_at_call 77; refine (ref1_ValidSign _ _ _ hs).mono ?_; rintro e w' ⟨rfl, m0, rfl⟩) | (go_at_call 107; refine (ref5_within _ _ _ _).mono ?_; rintro e w' ⟨rfl, rfl⟩))
      go_ret
      exact ⟨ret_bool rfl, m0, rfl⟩
    · go_enter Try.func75, Try.ntmps75
      go_wp2_with (first | (go_at_call 77; refine (ref1_ValidSign _ _ _ hs).mono ?_; rintro e w' ⟨rfl, m0, rfl⟩) | (go_at_call 107; refine (ref5_within _ _ _ _).mono ?_; rintro e w' ⟨rfl, rfl⟩) | (go_at_call 108; refine (ref1_AllValid _ _ _ _ _ (hs.drewN _) (hv.drewN _)).mono ?_; rintro e w' ⟨rfl, m1, rfl⟩))
      go_ret
      exact ⟨ret_bool rfl, _, (by first | rfl | exact World.drewN_drewN _ _ _)⟩

theorem chosenL_snoc (b : Bool) : ∀ (l : List Bool) (i : Nat), chosenL i (l ++ [b]) = chosenL i l ++ if b then [((i + l.length : Nat) : Int)] else [] := by
  intro l
  induction l with
  | nil => intro i; cases b <;> simp [chosenL]
  | cons x r ih =>
    intro i
    simp only [List.cons_append, chosenL, ih (i + 1), List.length_cons]
    cases x <;> simp <;> cases b <;> simp <;> omega
theorem chosenL_len : ∀ (l : List Bool) (i : Nat), (chosenL i l).length ≤ l.length := by
  intro l
  induction l with
  | nil => intro i; simp [chosenL]
  | cons x r ih => intro i; have := ih (i + 1); cases x <;> simp [chosenL] <;> omega

end Go.Proofs.Ytldgkidojepdlaa
