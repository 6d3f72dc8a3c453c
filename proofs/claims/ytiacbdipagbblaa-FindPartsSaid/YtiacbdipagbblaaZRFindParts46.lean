/-
  WHAT IT HOLDS: contracts of SamePaths and SameTerms of package lemmaryref01. Conditions: the arguments read as data.
-/
import Derived.Test.YtiacbdipagbblaaZRFindParts6
namespace Go.Proofs.Ytiacbdipagbblaa
open Go Go.RowKit Go.Maps
set_option maxHeartbeats 1000000 in
theorem ref1_SamePaths (v u : Value) (l m : List (List Int)) (w : World) (hv : Terms w v l) (hu : Terms w u m) :
    Calls Try.prog 26 #[v, u] w fun e w' => e = .returned (.bool (decide (l = m))) ∧ ∃ n, w' = w.drewN n := by
  obtain ⟨a, cap, rfl, h1, hl, h3, HC⟩ := hv.open
  obtain ⟨a', cap', rfl, h1', hl', h3', HD⟩ := hu.open
  have HV := hid hv
  have HU := hid hu
  clear HC hv h3 HD hu h3'
  by_cases hlen : l.length = m.length
  · have hne : (((l.length : Nat) : Int) != (m.length : Int)) = false := by simp [hlen]
    have HL := hid hlen
    clear hlen
    go_enter Try.func26, Try.ntmps26
    go_wp2
    go_loopw [5] (fun i wr => ∃ k q : Nat, k ≤ l.length ∧ i = .int .i64 k ∧ wr = w.drewN q ∧ l.take k = m.take k) (fun i _ => l.length - (intOf i).toNat)
    case atStart => exact ⟨0, 0, by omega, rfl, rfl, by simp⟩
    case round =>
      obtain ⟨k, q, hk, rfl, hw, hrel⟩ := hrel
      have HR := hid hrel
      have HW := hid hw
      have hvr : Terms wr (.slice a l.length cap) l := by rw [hw]; exact HV.out.below (below_self_drewN _ _)
      have hur : Terms wr (.slice a' m.length cap') m := by rw [hw]; exact HU.out.below (below_self_drewN _ _)
      obtain ⟨a9, c9, he, -, -, -, HC⟩ := hvr.open
      obtain ⟨rfl, -, rfl⟩ := Value.slice.inj he
      obtain ⟨a8, c8, he', -, -, -, HD⟩ := hur.open
      obtain ⟨rfl, -, rfl⟩ := Value.slice.inj he'
      have HC' := hid HC
      have HD' := hid HD
      clear hrel hw hvr hur HC HD
      by_cases hlt : k < l.length
      · obtain ⟨b, o, x, rfl, hcell, hx⟩ := HC'.out k hlt
        have hlt' : k < m.length := by have := HL.out; omega
        obtain ⟨b', o', x', rfl, hcell', hx'⟩ := HD'.out k hlt'
        obtain ⟨xa, xc, rfl, -⟩ := hx.open
        obtain ⟨ya, yc, rfl, -⟩ := hx'.open
        have HSM := fun j => hid (ref1_SameInts (.slice xa l[k].length xc) (.slice ya m[k].length yc) l[k] m[k] (wr.drewN j) (hx.drewN j) (hx'.drewN j))
        have y0 : (0 : Int) ≤ (k : Int) := by omega
        have y1 : (k : Int) < (l.length : Int) := by omega
        have y2 : (k : Int) < (m.length : Int) := by omega
        clear hx hx'
        by_cases h2 : l[k] = m[k]
        · have HSM2 : ∀ j, Hid (Calls Try.prog 17 #[.slice xa l[k].length xc, .slice ya m[k].length yc] (wr.drewN j) fun e w' => e = .returned (.bool true) ∧ ∃ n, w' = (wr.drewN j).drewN n) := fun j => hid ((HSM j).out.mono fun e w' h => ⟨by rw [h.1, decide_eq_true h2], h.2⟩)
          have H2 := hid h2
          clear h2 HSM
          go_wp2
          go_quiet ((go_at_call 17; exact Calls.quiet_of (HSM2 _).out))
          go_wp2
          go_roundw
          case rel =>
            refine ⟨k + 1, _, by omega, by go_num, by rw [HW.out]; exact World.drewN_drewN _ _ _, ?_⟩
            rw [List.take_succ_eq_append_getElem hlt, List.take_succ_eq_append_getElem hlt', HR.out, H2.out]
          case measure => simp [intOf]; omega
        · have HSM2 : ∀ j, Hid (Calls Try.prog 17 #[.slice xa l[k].length xc, .slice ya m[k].length yc] (wr.drewN j) fun e w' => e = .returned (.bool false) ∧ ∃ n, w' = (wr.drewN j).drewN n) := fun j => hid ((HSM j).out.mono fun e w' h => ⟨by rw [h.1, decide_eq_false h2], h.2⟩)
          have HM : Hid (l ≠ m) := hid (by intro e; subst e; exact h2 rfl)
          clear h2 HSM
          go_wp2
          go_quiet ((go_at_call 17; exact Calls.quiet_of (HSM2 _).out))
          go_wp2
          go_ret
          exact ⟨ret_bool (decide_eq_false HM.out).symm, _, by rw [HW.out]; exact World.drewN_drewN _ _ _⟩
      · have HM : Hid (l = m) := hid (by have := HR.out; have h9 := HL.out; rw [List.take_of_length_le (by omega), List.take_of_length_le (by omega)] at this; exact this)
        go_wp2
        go_ret
        exact ⟨ret_bool (decide_eq_true HM.out).symm, q, HW.out⟩
  · have hne : (((l.length : Nat) : Int) != (m.length : Int)) = true := by simp [bne]; omega
    have HM : Hid (l ≠ m) := hid (by intro e; subst e; exact hlen rfl)
    clear hlen
    go_enter Try.func26, Try.ntmps26
    go_wp2
    go_ret
    exact ⟨ret_bool (decide_eq_false HM.out).symm, 0, rfl⟩
set_option maxHeartbeats 1000000 in
theorem ref1_SameTerms (v u : Value) (l m : List (List Int)) (w : World) (hv : Terms w v l) (hu : Terms w u m) :
    Calls Try.prog 59 #[v, u] w fun e w' => e = .returned (.bool (decide (l = m))) ∧ ∃ n, w' = w.drewN n := by
  obtain ⟨a, cap, rfl, h1, hl, h3, HC⟩ := hv.open
  obtain ⟨a', cap', rfl, h1', hl', h3', HD⟩ := hu.open
  have HV := hid hv
  have HU := hid hu
  clear HC hv h3 HD hu h3'
  by_cases hlen : l.length = m.length
  · have hne : (((l.length : Nat) : Int) != (m.length : Int)) = false := by simp [hlen]
    have HL := hid hlen
    clear hlen
    go_enter Try.func59, Try.ntmps59
    go_wp2
    go_loopw [5] (fun i wr => ∃ k q : Nat, k ≤ l.length ∧ i = .int .i64 k ∧ wr = w.drewN q ∧ l.take k = m.take k) (fun i _ => l.length - (intOf i).toNat)
    case atStart => exact ⟨0, 0, by omega, rfl, rfl, by simp⟩
    case round =>
      obtain ⟨k, q, hk, rfl, hw, hrel⟩ := hrel
      have HR := hid hrel
      have HW := hid hw
      have hvr : Terms wr (.slice a l.length cap) l := by rw [hw]; exact HV.out.below (below_self_drewN _ _)
      have hur : Terms wr (.slice a' m.length cap') m := by rw [hw]; exact HU.out.below (below_self_drewN _ _)
      obtain ⟨a9, c9, he, -, -, -, HC⟩ := hvr.open
      obtain ⟨rfl, -, rfl⟩ := Value.slice.inj he
      obtain ⟨a8, c8, he', -, -, -, HD⟩ := hur.open
      obtain ⟨rfl, -, rfl⟩ := Value.slice.inj he'
      have HC' := hid HC
      have HD' := hid HD
      clear hrel hw hvr hur HC HD
      by_cases hlt : k < l.length
      · obtain ⟨b, o, x, rfl, hcell, hx⟩ := HC'.out k hlt
        have hlt' : k < m.length := by have := HL.out; omega
        obtain ⟨b', o', x', rfl, hcell', hx'⟩ := HD'.out k hlt'
        obtain ⟨xa, xc, rfl, -⟩ := hx.open
        obtain ⟨ya, yc, rfl, -⟩ := hx'.open
        have HSM := fun j => hid (ref1_Same (.slice xa l[k].length xc) (.slice ya m[k].length yc) l[k] m[k] (wr.drewN j) (hx.drewN j) (hx'.drewN j))
        have y0 : (0 : Int) ≤ (k : Int) := by omega
        have y1 : (k : Int) < (l.length : Int) := by omega
        have y2 : (k : Int) < (m.length : Int) := by omega
        clear hx hx'
        by_cases h2 : l[k] = m[k]
        · have HSM2 : ∀ j, Hid (Calls Try.prog 54 #[.slice xa l[k].length xc, .slice ya m[k].length yc] (wr.drewN j) fun e w' => e = .returned (.bool true) ∧ ∃ n, w' = (wr.drewN j).drewN n) := fun j => hid ((HSM j).out.mono fun e w' h => ⟨by rw [h.1, decide_eq_true h2], h.2⟩)
          have H2 := hid h2
          clear h2 HSM
          go_wp2
          go_quiet ((go_at_call 54; exact Calls.quiet_of (HSM2 _).out))
          go_wp2
          go_roundw
          case rel =>
            refine ⟨k + 1, _, by omega, by go_num, by rw [HW.out]; exact World.drewN_drewN _ _ _, ?_⟩
            rw [List.take_succ_eq_append_getElem hlt, List.take_succ_eq_append_getElem hlt', HR.out, H2.out]
          case measure => simp [intOf]; omega
        · have HSM2 : ∀ j, Hid (Calls Try.prog 54 #[.slice xa l[k].length xc, .slice ya m[k].length yc] (wr.drewN j) fun e w' => e = .returned (.bool false) ∧ ∃ n, w' = (wr.drewN j).drewN n) := fun j => hid ((HSM j).out.mono fun e w' h => ⟨by rw [h.1, decide_eq_false h2], h.2⟩)
          have HM : Hid (l ≠ m) := hid (by intro e; subst e; exact h2 rfl)
          clear h2 HSM
          go_wp2
          go_quiet ((go_at_call 54; exact Calls.quiet_of (HSM2 _).out))
          go_wp2
          go_ret
          exact ⟨ret_bool (decide_eq_false HM.out).symm, _, by rw [HW.out]; exact World.drewN_drewN _ _ _⟩
      · have HM : Hid (l = m) := hid (by have := HR.out; have h9 := HL.out; rw [List.take_of_length_le (by omega), List.take_of_length_le (by omega)] at this; exact this)
        go_wp2
        go_ret
        exact ⟨ret_bool (decide_eq_true HM.out).symm, q, HW.out⟩
  · have hne : (((l.length : Nat) : Int) != (m.length : Int)) = true := by simp [bne]; omega
    have HM : Hid (l ≠ m) := hid (by intro e; subst e; exact hlen rfl)
    clear hlen
    go_enter Try.func59, Try.ntmps59
    go_wp2
    go_ret
    exact ⟨ret_bool (decide_eq_false HM.out).symm, 0, rfl⟩
end Go.Proofs.Ytiacbdipagbblaa
