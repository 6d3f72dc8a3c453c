/-
  WHAT IT HOLDS: contracts of cmp.Compare, cmp.Or, slices.Compare at int, and of Compare of package term. Conditions: the arguments read as data.
-/
import Derived.Test.YtiacbdipagbblaaZRFindGroups8
import Derived.Test.YtiacbdipagbblaaZRFindGroups24
namespace Go.Proofs.Ytiacbdipagbblaa
open Go Go.RowKit Go.Maps
def cpI (x y : Int) : Int := if x < y then -1 else if y < x then 1 else 0
theorem cmp_isNaN (x : Int) (w : World) : Calls Try.prog 143 #[.int .i64 x] w fun e w' => e = .returned (.bool false) ∧ w = w' := by
  go_enter Try.func143, Try.ntmps143
  go_wp2
  go_ret
  exact ⟨by simp, rfl⟩
theorem cmp_Compare (x y : Int) (w : World) : Calls Try.prog 110 #[.int .i64 x, .int .i64 y] w fun e w' => e = .returned (.int .i64 (cpI x y)) ∧ w = w' := by
  have HX := hid (cmp_isNaN x w)
  have HY := hid (cmp_isNaN y w)
  by_cases h1 : x < y
  · have HC : Hid (cpI x y = -1) := hid (by unfold cpI; rw [if_pos h1])
    go_enter Try.func110, Try.ntmps110
    go_wp2_with fail
    refine HX.out.mono ?_
    rintro e w1 ⟨rfl, rfl⟩
    go_wp2_with fail
    refine HY.out.mono ?_
    rintro e w1 ⟨rfl, rfl⟩
    go_wp2
    go_ret
    exact ⟨by rw [HC.out]; rfl, rfl⟩
  · by_cases h2 : y < x
    · have HC : Hid (cpI x y = 1) := hid (by unfold cpI; rw [if_neg h1, if_pos h2])
      go_enter Try.func110, Try.ntmps110
      go_wp2_with fail
      refine HX.out.mono ?_
      rintro e w1 ⟨rfl, rfl⟩
      go_wp2_with fail
      refine HY.out.mono ?_
      rintro e w1 ⟨rfl, rfl⟩
      go_wp2
      go_ret
      exact ⟨by rw [HC.out]; rfl, rfl⟩
    · have HC : Hid (cpI x y = 0) := hid (by unfold cpI; rw [if_neg h1, if_neg h2])
      go_enter Try.func110, Try.ntmps110
      go_wp2_with fail
      refine HX.out.mono ?_
      rintro e w1 ⟨rfl, rfl⟩
      go_wp2_with fail
      refine HY.out.mono ?_
      rintro e w1 ⟨rfl, rfl⟩
      go_wp2
      go_ret
      exact ⟨by rw [HC.out]; rfl, rfl⟩
def orI (a b : Int) : Int := if a ≠ 0 then a else b
theorem cmp_Or (a b : Int) (bk of c : Nat) (w : World) (h0 : w.cell? ⟨bk, of, none⟩ = some (.int .i64 a)) (h1 : w.cell? ⟨bk, of + 1, none⟩ = some (.int .i64 b)) :
    Calls Try.prog 109 #[.slice (some ⟨bk, of, none⟩) 2 c] w fun e w' => e = .returned (.int .i64 (orI a b)) ∧ w = w' := by
  have HC : Hid (∀ k : Nat, k < 2 → w.cell? ⟨bk, of + k, none⟩ = some (.int .i64 (if k = 0 then a else b))) := hid (fun k hk => by
    match k, hk with
    | 0, _ => simpa using h0
    | 1, _ => simpa using h1)
  clear h0 h1
  go_enter Try.func109, Try.ntmps109
  go_wp2
  go_loop [8] (fun i => ∃ k : Nat, k ≤ 2 ∧ i = .int .i64 k ∧ ∀ j, j < k → (if j = 0 then a else b) = 0) (fun i => 2 - (intOf i).toNat)
  case atStart => exact ⟨0, by omega, rfl, by simp⟩
  case round =>
    obtain ⟨k, hk, rfl, hrel⟩ := hrel
    have HR := hid hrel
    clear hrel
    by_cases hlt : k < 2
    · have hc := HC.out k hlt
      obtain ⟨z, hz⟩ : ∃ z, (if k = 0 then a else b) = z := ⟨_, rfl⟩
      rw [hz] at hc
      have HZ := hid hz
      have y1 : (k : Int) < 2 := by omega
      clear hz
      cases h2 : (z != 0)
      · have HZ0 : Hid (z = 0) := hid (by simpa using h2)
        go_wp2
        go_round
        case rel =>
          refine ⟨k + 1, by omega, by go_num, fun j hj => ?_⟩
          by_cases e : j = k
          · rw [e, HZ.out, HZ0.out]
          · exact HR.out j (by omega)
        case measure => simp [intOf]; omega
      · have HA : Hid (orI a b = z) := hid (by
          unfold orI
          have hz0 : z ≠ 0 := by simpa using h2
          have := HZ.out
          by_cases e : k = 0
          · rw [if_pos e] at this
            rw [this, if_pos hz0]
          · rw [if_neg e] at this
            have h3 := HR.out 0 (by omega)
            rw [if_pos rfl] at h3
            rw [h3, if_neg (by simp), this])
        go_wp2
        go_ret
        exact ⟨by rw [HA.out]; rfl, rfl⟩
    · have HA : Hid (orI a b = 0) := hid (by
        unfold orI
        have h3 := HR.out 0 (by omega)
        have h4 := HR.out 1 (by omega)
        rw [if_pos rfl] at h3
        rw [if_neg (by omega)] at h4
        rw [h3, if_neg (by simp), h4])
      go_wp2
      go_ret
      exact ⟨by rw [HA.out]; rfl, rfl⟩
theorem lexL_drop {a b : List Int} : ∀ {k : Nat}, a.take k = b.take k → k ≤ a.length → k ≤ b.length → lexL (a.drop k) (b.drop k) = lexL a b
  | 0, _, _, _ => rfl
  | k + 1, h, h1, h2 => by
    have hk1 : k < a.length := by omega
    have hk2 : k < b.length := by omega
    rw [List.take_succ_eq_append_getElem hk1, List.take_succ_eq_append_getElem hk2] at h
    have h3 := List.append_inj h (by simp; omega)
    have e : a[k] = b[k] := by simpa using h3.2
    rw [← lexL_drop h3.1 (by omega) (by omega), List.drop_eq_getElem_cons hk1, List.drop_eq_getElem_cons hk2, lexL, e, if_neg (by omega), if_neg (by omega)]
theorem lexL_at {a b : List Int} {k : Nat} (h : a.take k = b.take k) (h1 : k < a.length) (h2 : k < b.length) (hc : cpI a[k] b[k] ≠ 0) : lexL a b = cpI a[k] b[k] := by
  rw [← lexL_drop h (by omega) (by omega), List.drop_eq_getElem_cons h1, List.drop_eq_getElem_cons h2, lexL]
  unfold cpI at hc ⊢
  split
  · rfl
  · split
    · rfl
    · rename_i h3 h4; rw [if_neg h3, if_neg h4] at hc; exact absurd rfl hc
theorem cpI_zero {x y : Int} (h : cpI x y = 0) : x = y := by
  unfold cpI at h
  split at h
  · simp at h
  · split at h
    · simp at h
    · omega
set_option maxHeartbeats 1000000 in
theorem sl_CompareT (va vb : Value) (a b : List Int) (w : World) (ha : Ints w va a) (hb : Ints w vb b) :
    Calls Try.prog 148 #[va, vb] w fun e w' => e = .returned (.int .i64 (lexL a b)) ∧ w = w' := by
  obtain ⟨aa, ac, rfl, h1, hl, h3, HC⟩ := ha.open
  obtain ⟨ba, bc, rfl, h1', hl', h3', HD⟩ := hb.open
  have HC' := hid HC
  have HD' := hid HD
  clear HC ha h3 HD hb h3'
  go_enter Try.func148, Try.ntmps148
  go_wp2
  go_loop [11] (fun i => ∃ k : Nat, k ≤ a.length ∧ k ≤ b.length ∧ i = .int .i64 k ∧ a.take k = b.take k) (fun i => a.length - (intOf i).toNat)
  case atStart => exact ⟨0, by omega, by omega, rfl, by simp⟩
  case round =>
    obtain ⟨k, hk, hkb, rfl, hrel⟩ := hrel
    have HR := hid hrel
    clear hrel
    by_cases hlt : k < a.length
    · obtain ⟨b1, o1, rfl, hcell⟩ := HC'.out k hlt
      by_cases hltb : k < b.length
      · obtain ⟨b2, o2, rfl, hcell'⟩ := HD'.out k hltb
        have y0 : (0 : Int) ≤ (k : Int) := by omega
        have y1 : (k : Int) < (a.length : Int) := by omega
        have y2 : (k : Int) < (b.length : Int) := by omega
        have HCC := hid (cmp_Compare a[k] b[k] w)
        obtain ⟨z, hz⟩ : ∃ z, cpI a[k] b[k] = z := ⟨_, rfl⟩
        rw [hz] at HCC
        cases h2 : (z != 0)
        · have HN : Hid (a.take (k + 1) = b.take (k + 1)) := hid (by
            have : a[k] = b[k] := cpI_zero (by rw [hz]; simpa using h2)
            rw [List.take_succ_eq_append_getElem hlt, List.take_succ_eq_append_getElem hltb, HR.out, this])
          clear hz
          go_wp2_with fail
          refine HCC.out.mono ?_
          rintro e w1 ⟨rfl, rfl⟩
          go_wp2
          go_round
          case rel => exact ⟨k + 1, by omega, by omega, by go_num, HN.out⟩
          case measure => simp [intOf]; omega
        · have HA : Hid (lexL a b = z) := hid (by rw [← hz]; exact lexL_at HR.out hlt hltb (by rw [hz]; simpa using h2))
          clear hz
          go_wp2_with fail
          refine HCC.out.mono ?_
          rintro e w1 ⟨rfl, rfl⟩
          go_wp2
          go_ret
          exact ⟨by rw [HA.out]; rfl, rfl⟩
      · have HA : Hid (lexL a b = 1) := hid (by
          rw [← lexL_drop HR.out (by omega) hkb, List.drop_eq_getElem_cons hlt, show b.drop k = [] from List.drop_eq_nil_of_le (by omega)]; rfl)
        have y2 : (b.length : Int) ≤ (k : Int) := by omega
        go_wp2
        go_ret
        exact ⟨by rw [HA.out]; rfl, rfl⟩
    · by_cases hltb : a.length < b.length
      · have HA : Hid (lexL a b = -1) := hid (by
          rw [← lexL_drop HR.out hk hkb, show a.drop k = [] from List.drop_eq_nil_of_le (by omega), List.drop_eq_getElem_cons (show k < b.length by omega)]; rfl)
        have y2 : (a.length : Int) < (b.length : Int) := by omega
        go_wp2
        go_ret
        exact ⟨by rw [HA.out]; rfl, rfl⟩
      · have HA : Hid (lexL a b = 0) := hid (by
          rw [← lexL_drop HR.out hk hkb, show a.drop k = [] from List.drop_eq_nil_of_le (by omega), show b.drop k = [] from List.drop_eq_nil_of_le (by omega)]; rfl)
        go_wp2
        go_ret
        exact ⟨by rw [HA.out]; rfl, rfl⟩
theorem cmpL_or (a b : List Int) : orI (cpI a.length b.length) (lexL a b) = cmpL a b := by
  unfold cmpL cpI orI
  by_cases h1 : a.length < b.length
  · rw [if_pos h1, if_pos (show (a.length : Int) < b.length by omega)]; rfl
  · by_cases h2 : b.length < a.length
    · rw [if_neg h1, if_pos h2, if_neg (show ¬ (a.length : Int) < b.length by omega), if_pos (show (b.length : Int) < a.length by omega)]; rfl
    · rw [if_neg h1, if_neg h2, if_neg (show ¬ (a.length : Int) < b.length by omega), if_neg (show ¬ (b.length : Int) < a.length by omega)]; rfl
theorem term_Compare (va vb : Value) (a b : List Int) (w : World) (ha : Ints w va a) (hb : Ints w vb b) :
    Calls Try.prog 114 #[va, vb] w fun e w' => e = .returned (.int .i64 (cmpL a b)) ∧ ∃ o, w.alloc o = w' := by
  have H1 := hid (cmp_Compare a.length b.length w)
  have H2 := hid (sl_CompareT va vb a b w ha hb)
  have HE := hid (cmpL_or a b)
  obtain ⟨aa, ac, rfl, -⟩ := ha.open
  obtain ⟨ba, bc, rfl, -⟩ := hb.open
  clear ha hb
  obtain ⟨x, hx⟩ : ∃ x, cpI a.length b.length = x := ⟨_, rfl⟩
  obtain ⟨y, hy⟩ : ∃ y, lexL a b = y := ⟨_, rfl⟩
  rw [hx] at H1 HE
  rw [hy] at H2 HE
  have HO := hid (cmp_Or x y w.heap.size 0 2 (w.alloc (.cells #[.int .i64 x, .int .i64 y] 3)) (by rw [World.cell?_alloc_new]; rfl) (by rw [World.cell?_alloc_new]; rfl))
  rw [HE.out] at HO
  clear hx hy HE
  go_enter Try.func114, Try.ntmps114
  go_wp2_with fail
  refine H1.out.mono ?_
  rintro e w1 ⟨rfl, rfl⟩
  go_wp2_with fail
  refine H2.out.mono ?_
  rintro e w1 ⟨rfl, rfl⟩
  go_wp2_with fail
  refine HO.out.mono ?_
  rintro e w1 ⟨rfl, rfl⟩
  go_wp2
  go_ret
  exact ⟨rfl, _, rfl⟩
end Go.Proofs.Ytiacbdipagbblaa
