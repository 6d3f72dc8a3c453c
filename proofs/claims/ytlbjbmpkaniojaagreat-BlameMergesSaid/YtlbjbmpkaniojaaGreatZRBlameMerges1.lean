/-
  WHAT IT HOLDS: facts on the types of this translation, each reckoned by the kernel. No condition.
  WHAT IT HOLDS: contracts of Same of the reference of layer 1 and of slices.Equal: whether two lists of numbers are equal. Conditions: the arguments read as data.
-/
import Derived.Test.YtlbjbmpkaniojaaGreatProg
import Derived.Test.YtlbjbmpkaniojaaGreatZRBlameMerges0
namespace Go.Proofs.YtlbjbmpkaniojaaGreat
open Go Go.RowKit Go.Maps
theorem el_int : ElemAt Tryz.prog 3 (.int .i64 0) 1 8 := by unfold ElemAt; kernel_rfl
end Go.Proofs.YtlbjbmpkaniojaaGreat
namespace Go.Proofs.YtlbjbmpkaniojaaGreat
open Go Go.RowKit Go.Maps
set_option maxHeartbeats 400000 in
theorem ref1_Same (v u : Value) (l m : List Int) (w : World) (hv : Ints w v l) (hu : Ints w u m) :
    Calls Tryz.prog 170 #[v, u] w fun e w' => e = .returned (.bool (decide (l = m))) ∧ ∃ n, w' = w.drewN n := by
  obtain ⟨a, cap, rfl, h1, hl, h3, HC⟩ := hv.open
  obtain ⟨a', cap', rfl, h1', hl', h3', HD⟩ := hu.open
  have HC' := hid HC
  have HD' := hid HD
  clear HC hv h3 HD hu h3'
  by_cases hlen : l.length = m.length
  · have hne : (((l.length : Nat) : Int) != (m.length : Int)) = false := by simp [hlen]
    have HL := hid hlen
    clear hlen
    go_enter Tryz.func170, Tryz.ntmps170
    go_wp2
    go_loopw [5] (fun i wr => ∃ k q : Nat, k ≤ l.length ∧ i = .int .i64 k ∧ wr = w.drewN q ∧ l.take k = m.take k) (fun i _ => l.length - (intOf i).toNat)
    case atStart => exact ⟨0, 0, by omega, rfl, rfl, by simp⟩
    case round =>
      obtain ⟨k, q, hk, rfl, rfl, hrel⟩ := hrel
      have HR := hid hrel
      clear hrel
      by_cases hlt : k < l.length
      · obtain ⟨b, o, rfl, hcell⟩ := HC'.out k hlt
        have hlt' : k < m.length := by have := HL.out; omega
        obtain ⟨b', o', rfl, hcell'⟩ := HD'.out k hlt'
        cases h2 : (l[k] != m[k])
        · go_wp2
          go_quiet (fail)
          go_wp2
          go_roundw
          case rel =>
            refine ⟨k + 1, _, by omega, by go_num, (by first | rfl | exact World.drewN_drewN _ _ _), ?_⟩
            rw [List.take_succ_eq_append_getElem hlt, List.take_succ_eq_append_getElem hlt', HR.out]
            have : l[k] = m[k] := by simpa [bne] using h2
            rw [this]
          case measure => simp [intOf]; omega
        · have HM : Hid (l ≠ m) := hid (by intro e; subst e; simp at h2)
          go_wp2
          go_quiet (fail)
          go_wp2
          go_ret
          exact ⟨ret_bool (decide_eq_false HM.out).symm, _, (by first | rfl | exact World.drewN_drewN _ _ _)⟩
      · have HM : Hid (l = m) := hid (by have := HR.out; have h9 := HL.out; rw [List.take_of_length_le (by omega), List.take_of_length_le (by omega)] at this; exact this)
        go_wp2
        go_ret
        exact ⟨ret_bool (decide_eq_true HM.out).symm, q, rfl⟩
  · have hne : (((l.length : Nat) : Int) != (m.length : Int)) = true := by simp [bne]; omega
    have HM : Hid (l ≠ m) := hid (by intro e; subst e; exact hlen rfl)
    clear hlen
    go_enter Tryz.func170, Tryz.ntmps170
    go_wp2
    go_ret
    exact ⟨ret_bool (decide_eq_false HM.out).symm, 0, rfl⟩

set_option maxHeartbeats 400000 in
theorem sl_EqualT (v u : Value) (l m : List Int) (w : World) (hv : Ints w v l) (hu : Ints w u m) :
    Calls Tryz.prog 87 #[v, u] w fun e w' => e = .returned (.bool (decide (l = m))) ∧ ∃ n, w' = w.drewN n := by
  obtain ⟨a, cap, rfl, h1, hl, h3, HC⟩ := hv.open
  obtain ⟨a', cap', rfl, h1', hl', h3', HD⟩ := hu.open
  have HC' := hid HC
  have HD' := hid HD
  clear HC hv h3 HD hu h3'
  by_cases hlen : l.length = m.length
  · have hne : (((l.length : Nat) : Int) != (m.length : Int)) = false := by simp [hlen]
    have HL := hid hlen
    clear hlen
    go_enter Tryz.func87, Tryz.ntmps87
    go_wp2
    go_loopw [13] (fun i wr => ∃ k q : Nat, k ≤ l.length ∧ i = .int .i64 k ∧ wr = w.drewN q ∧ l.take k = m.take k) (fun i _ => l.length - (intOf i).toNat)
    case atStart => exact ⟨0, 0, by omega, rfl, rfl, by simp⟩
    case round =>
      obtain ⟨k, q, hk, rfl, rfl, hrel⟩ := hrel
      have HR := hid hrel
      clear hrel
      by_cases hlt : k < l.length
      · obtain ⟨b, o, rfl, hcell⟩ := HC'.out k hlt
        have hlt' : k < m.length := by have := HL.out; omega
        obtain ⟨b', o', rfl, hcell'⟩ := HD'.out k hlt'
        cases h2 : (l[k] != m[k])
        · go_wp2
          go_quiet (fail)
          go_wp2
          go_roundw
          case rel =>
            refine ⟨k + 1, _, by omega, by go_num, (by first | rfl | exact World.drewN_drewN _ _ _), ?_⟩
            rw [List.take_succ_eq_append_getElem hlt, List.take_succ_eq_append_getElem hlt', HR.out]
            have : l[k] = m[k] := by simpa [bne] using h2
            rw [this]
          case measure => simp [intOf]; omega
        · have HM : Hid (l ≠ m) := hid (by intro e; subst e; simp at h2)
          go_wp2
          go_quiet (fail)
          go_wp2
          go_ret
          exact ⟨ret_bool (decide_eq_false HM.out).symm, _, (by first | rfl | exact World.drewN_drewN _ _ _)⟩
      · have HM : Hid (l = m) := hid (by have := HR.out; have h9 := HL.out; rw [List.take_of_length_le (by omega), List.take_of_length_le (by omega)] at this; exact this)
        go_wp2
        go_ret
        exact ⟨ret_bool (decide_eq_true HM.out).symm, q, rfl⟩
  · have hne : (((l.length : Nat) : Int) != (m.length : Int)) = true := by simp [bne]; omega
    have HM : Hid (l ≠ m) := hid (by intro e; subst e; exact hlen rfl)
    clear hlen
    go_enter Tryz.func87, Tryz.ntmps87
    go_wp2
    go_ret
    exact ⟨ret_bool (decide_eq_false HM.out).symm, 0, rfl⟩

end Go.Proofs.YtlbjbmpkaniojaaGreat
