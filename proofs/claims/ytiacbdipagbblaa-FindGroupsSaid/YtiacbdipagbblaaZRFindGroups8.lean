/-
  WHAT IT HOLDS: facts on the types of this translation, each reckoned by the kernel. No condition.
  WHAT IT HOLDS: contracts of Same of the reference of layer 1 and of slices.Equal: whether two lists of numbers are equal. Conditions: the arguments read as data.
  WHAT IT HOLDS: contracts of the small loops of package lemmaryref01 (Has, SameInts, Same, AllValid): each returns what the plain function says and changes no memory. Conditions: the arguments read as data.
  WHAT IT HOLDS: contracts of functions of package lemmaryref05 that the law of With reaches. Conditions: the arguments read as data.
  WHAT IT HOLDS: contracts of SamePaths and SameTerms of package lemmaryref01. Conditions: the arguments read as data.
-/
import Derived.Test.YtiacbdipagbblaaProg
import Derived.Test.YtiacbdipagbblaaZRFindGroups6
import Derived.Test.YtiacbdipagbblaaZRFindGroups7
namespace Go.Proofs.Ytiacbdipagbblaa
open Go Go.RowKit Go.Maps
theorem el_int : ElemAt Try.prog 3 (.int .i64 0) 1 8 := by unfold ElemAt; kernel_rfl
theorem el_bool : ElemAt Try.prog 4 (.bool false) 1 1 := by unfold ElemAt; kernel_rfl
theorem el_term : ElemAt Try.prog 37 (.slice none 0 0) 1 24 := by unfold ElemAt; kernel_rfl
theorem el_ints : ElemAt Try.prog 25 (.slice none 0 0) 1 24 := by unfold ElemAt; kernel_rfl
theorem el_u8 : ElemAt Try.prog 5 (.int .u8 0) 1 1 := by unfold ElemAt; kernel_rfl
end Go.Proofs.Ytiacbdipagbblaa
namespace Go.Proofs.Ytiacbdipagbblaa
open Go Go.RowKit Go.Maps
set_option maxHeartbeats 400000 in
theorem ref1_Same (v u : Value) (l m : List Int) (w : World) (hv : Ints w v l) (hu : Ints w u m) :
    Calls Try.prog 54 #[v, u] w fun e w' => e = .returned (.bool (decide (l = m))) ∧ ∃ n, w' = w.drewN n := by
  obtain ⟨a, cap, rfl, h1, hl, h3, HC⟩ := hv.open
  obtain ⟨a', cap', rfl, h1', hl', h3', HD⟩ := hu.open
  have HC' := hid HC
  have HD' := hid HD
  clear HC hv h3 HD hu h3'
  by_cases hlen : l.length = m.length
  · have hne : (((l.length : Nat) : Int) != (m.length : Int)) = false := by simp [hlen]
    have HL := hid hlen
    clear hlen
    go_enter Try.func54, Try.ntmps54
    go_wp2
    go_loopw [5] (fun i wr => ∃ k q : Nat, k ≤ l.length ∧ i = .int .i64 k ∧ wr = w.drewN q ∧ l.take k = m.take k) (fun i _ => l.length - (intOf i).toNat)
    case atStart => exact ⟨0, 0, by omega, rfl, rfl, by simp⟩
    case round =>
      obtain ⟨k, q, hk, rfl, rfl, hrel⟩ := hrel
      have HR := hid hrel
      clear hrel
      by_cases hlt : k < l.length
      · obtain ⟨b, o, rfl, hcell⟩ := HC'.out k hlt
        have hlt' : k < m.length := by have := HL.out; omega
        obtain ⟨b', o', rfl, hcell'⟩ := HD'.out k hlt'
        cases h2 : (l[k] != m[k])
        · go_wp2
          go_quiet (fail)
          go_wp2
          go_roundw
          case rel =>
            refine ⟨k + 1, _, by omega, by go_num, (by first | rfl | exact World.drewN_drewN _ _ _), ?_⟩
            rw [List.take_succ_eq_append_getElem hlt, List.take_succ_eq_append_getElem hlt', HR.out]
            have : l[k] = m[k] := by simpa [bne] using h2
            rw [this]
          case measure => simp [intOf]; omega
        · have HM : Hid (l ≠ m) := hid (by intro e; subst e; simp at h2)
          go_wp2
          go_quiet (fail)
          go_wp2
          go_ret
          exact ⟨ret_bool (decide_eq_false HM.out).symm, _, (by first | rfl | exact World.drewN_drewN _ _ _)⟩
      · have HM : Hid (l = m) := hid (by have := HR.out; have h9 := HL.out; rw [List.take_of_length_le (by omega), List.take_of_length_le (by omega)] at this; exact this)
        go_wp2
        go_ret
        exact ⟨ret_bool (decide_eq_true HM.out).symm, q, rfl⟩
  · have hne : (((l.length : Nat) : Int) != (m.length : Int)) = true := by simp [bne]; omega
    have HM : Hid (l ≠ m) := hid (by intro e; subst e; exact hlen rfl)
    clear hlen
    go_enter Try.func54, Try.ntmps54
    go_wp2
    go_ret
    exact ⟨ret_bool (decide_eq_false HM.out).symm, 0, rfl⟩

set_option maxHeartbeats 400000 in
theorem sl_EqualT (v u : Value) (l m : List Int) (w : World) (hv : Ints w v l) (hu : Ints w u m) :
    Calls Try.prog 104 #[v, u] w fun e w' => e = .returned (.bool (decide (l = m))) ∧ ∃ n, w' = w.drewN n := by
  obtain ⟨a, cap, rfl, h1, hl, h3, HC⟩ := hv.open
  obtain ⟨a', cap', rfl, h1', hl', h3', HD⟩ := hu.open
  have HC' := hid HC
  have HD' := hid HD
  clear HC hv h3 HD hu h3'
  by_cases hlen : l.length = m.length
  · have hne : (((l.length : Nat) : Int) != (m.length : Int)) = false := by simp [hlen]
    have HL := hid hlen
    clear hlen
    go_enter Try.func104, Try.ntmps104
    go_wp2
    go_loopw [13] (fun i wr => ∃ k q : Nat, k ≤ l.length ∧ i = .int .i64 k ∧ wr = w.drewN q ∧ l.take k = m.take k) (fun i _ => l.length - (intOf i).toNat)
    case atStart => exact ⟨0, 0, by omega, rfl, rfl, by simp⟩
    case round =>
      obtain ⟨k, q, hk, rfl, rfl, hrel⟩ := hrel
      have HR := hid hrel
      clear hrel
      by_cases hlt : k < l.length
      · obtain ⟨b, o, rfl, hcell⟩ := HC'.out k hlt
        have hlt' : k < m.length := by have := HL.out; omega
        obtain ⟨b', o', rfl, hcell'⟩ := HD'.out k hlt'
        cases h2 : (l[k] != m[k])
        · go_wp2
          go_quiet (fail)
          go_wp2
          go_roundw
          case rel =>
            refine ⟨k + 1, _, by omega, by go_num, (by first | rfl | exact World.drewN_drewN _ _ _), ?_⟩
            rw [List.take_succ_eq_append_getElem hlt, List.take_succ_eq_append_getElem hlt', HR.out]
            have : l[k] = m[k] := by simpa [bne] using h2
            rw [this]
          case measure => simp [intOf]; omega
        · have HM : Hid (l ≠ m) := hid (by intro e; subst e; simp at h2)
          go_wp2
          go_quiet (fail)
          go_wp2
          go_ret
          exact ⟨ret_bool (decide_eq_false HM.out).symm, _, (by first | rfl | exact World.drewN_drewN _ _ _)⟩
      · have HM : Hid (l = m) := hid (by have := HR.out; have h9 := HL.out; rw [List.take_of_length_le (by omega), List.take_of_length_le (by omega)] at this; exact this)
        go_wp2
        go_ret
        exact ⟨ret_bool (decide_eq_true HM.out).symm, q, rfl⟩
  · have hne : (((l.length : Nat) : Int) != (m.length : Int)) = true := by simp [bne]; omega
    have HM : Hid (l ≠ m) := hid (by intro e; subst e; exact hlen rfl)
    clear hlen
    go_enter Try.func104, Try.ntmps104
    go_wp2
    go_ret
    exact ⟨ret_bool (decide_eq_false HM.out).symm, 0, rfl⟩

end Go.Proofs.Ytiacbdipagbblaa
namespace Go.Proofs.Ytiacbdipagbblaa
open Go Go.RowKit Go.Maps
theorem ref1_Has (v : Value) (l : List Int) (n : Int) (w : World) (hv : Ints w v l) :
    Calls Try.prog 19 #[v, .int .i64 n] w fun e w' => e = .returned (.bool (decide (n ∈ l))) ∧ w = w' := by
  obtain ⟨a, cap, rfl, h1, hl, h3, HC⟩ := hv.open
  have HC' := hid HC
  clear HC hv h3
  go_enter Try.func19, Try.ntmps19
  go_wp2
  go_loop [5] (fun i => ∃ k : Nat, k ≤ l.length ∧ i = .int .i64 k ∧ n ∉ l.take k) (fun i => l.length - (intOf i).toNat)
  case atStart => exact ⟨0, by omega, rfl, by simp⟩
  case round =>
    obtain ⟨k, hk, rfl, hrel⟩ := hrel
    have HR := hid hrel
    clear hrel
    by_cases hlt : k < l.length
    · obtain ⟨b, o, rfl, hcell⟩ := HC'.out k hlt
      cases h2 : (l[k] == n)
      · go_wp2
        go_round
        case rel =>
          refine ⟨k + 1, by omega, by go_num, ?_⟩
          rw [List.take_succ_eq_append_getElem hlt]
          intro hm
          rcases List.mem_append.1 hm with hm | hm
          · exact HR.out hm
          · have := List.mem_singleton.1 hm
            simp [this] at h2
        case measure => simp [intOf]; omega
      · have HM : Hid (n ∈ l) := hid (by have := List.getElem_mem hlt; rw [eq_of_beq h2] at this; exact this)
        go_wp2
        go_ret
        exact ⟨ret_bool (decide_eq_true HM.out).symm, rfl⟩
    · have HM : Hid (n ∉ l) := hid (by have := HR.out; rw [List.take_of_length_le (by omega)] at this; exact this)
      go_wp2
      go_ret
      exact ⟨ret_bool (decide_eq_false HM.out).symm, rfl⟩

set_option maxHeartbeats 400000 in
theorem ref1_SameInts (v u : Value) (l m : List Int) (w : World) (hv : Ints w v l) (hu : Ints w u m) :
    Calls Try.prog 17 #[v, u] w fun e w' => e = .returned (.bool (decide (l = m))) ∧ ∃ n, w' = w.drewN n := by
  obtain ⟨a, cap, rfl, h1, hl, h3, HC⟩ := hv.open
  obtain ⟨a', cap', rfl, h1', hl', h3', HD⟩ := hu.open
  have HC' := hid HC
  have HD' := hid HD
  clear HC hv h3 HD hu h3'
  by_cases hlen : l.length = m.length
  · have hne : (((l.length : Nat) : Int) != (m.length : Int)) = false := by simp [hlen]
    have HL := hid hlen
    clear hlen
    go_enter Try.func17, Try.ntmps17
    go_wp2
    go_loopw [5] (fun i wr => ∃ k q : Nat, k ≤ l.length ∧ i = .int .i64 k ∧ wr = w.drewN q ∧ l.take k = m.take k) (fun i _ => l.length - (intOf i).toNat)
    case atStart => exact ⟨0, 0, by omega, rfl, rfl, by simp⟩
    case round =>
      obtain ⟨k, q, hk, rfl, rfl, hrel⟩ := hrel
      have HR := hid hrel
      clear hrel
      by_cases hlt : k < l.length
      · obtain ⟨b, o, rfl, hcell⟩ := HC'.out k hlt
        have hlt' : k < m.length := by have := HL.out; omega
        obtain ⟨b', o', rfl, hcell'⟩ := HD'.out k hlt'
        cases h2 : (l[k] != m[k])
        · go_wp2
          go_quiet (fail)
          go_wp2
          go_roundw
          case rel =>
            refine ⟨k + 1, _, by omega, by go_num, (by first | rfl | exact World.drewN_drewN _ _ _), ?_⟩
            rw [List.take_succ_eq_append_getElem hlt, List.take_succ_eq_append_getElem hlt', HR.out]
            have : l[k] = m[k] := by simpa [bne] using h2
            rw [this]
          case measure => simp [intOf]; omega
        · have HM : Hid (l ≠ m) := hid (by intro e; subst e; simp at h2)
          go_wp2
          go_quiet (fail)
          go_wp2
          go_ret
          exact ⟨ret_bool (decide_eq_false HM.out).symm, _, (by first | rfl | exact World.drewN_drewN _ _ _)⟩
      · have HM : Hid (l = m) := hid (by have := HR.out; have h9 := HL.out; rw [List.take_of_length_le (by omega), List.take_of_length_le (by omega)] at this; exact this)
        go_wp2
        go_ret
        exact ⟨ret_bool (decide_eq_true HM.out).symm, q, rfl⟩
  · have hne : (((l.length : Nat) : Int) != (m.length : Int)) = true := by simp [bne]; omega
    have HM : Hid (l ≠ m) := hid (by intro e; subst e; exact hlen rfl)
    clear hlen
    go_enter Try.func17, Try.ntmps17
    go_wp2
    go_ret
    exact ⟨ret_bool (decide_eq_false HM.out).symm, 0, rfl⟩

set_option maxHeartbeats 400000 in
theorem ref1_AllValid (v vl : Value) (s : Sg) (l : List (List Int)) (w : World) (hs : SignAt w v s) (hv : Terms w vl l) :
    Calls Try.prog 101 #[v, vl] w fun e w' => e = .returned (.bool (allB s l)) ∧ ∃ n, w' = w.drewN n := by
  obtain ⟨a, cap, rfl, h1, hl, h3, HC⟩ := hv.open
  have HC' := hid HC
  clear HC hv h3
  go_enter Try.func101, Try.ntmps101
  go_wp2
  go_loopw [5] (fun i wr => ∃ k q : Nat, k ≤ l.length ∧ i = .int .i64 k ∧ wr = w.drewN q ∧ (l.take k).all (termB s) = true) (fun i _ => l.length - (intOf i).toNat)
  case atStart => exact ⟨0, 0, by omega, rfl, rfl, by simp⟩
  case round =>
    obtain ⟨k, q, hk, rfl, rfl, hrel⟩ := hrel
    have HR := hid hrel
    clear hrel
    by_cases hlt : k < l.length
    · obtain ⟨b, o, u, rfl, hcell, hu⟩ := HC'.out k hlt
      obtain ⟨ua, ucap, hue, _⟩ := hu.open
      subst hue
      have hs' := hs.drewN q
      have hu' := hu.drewN q
      cases h2 : termB s l[k]
      · have HM : Hid (allB s l = false) := hid (by unfold allB; rw [List.all_eq_false]; exact ⟨l[k], List.getElem_mem hlt, by simp [h2]⟩)
        go_wp2_with (go_at_call 78; refine (ref1_Valid _ _ _ _ _ hs' hu').mono ?_; rintro e w' ⟨rfl, m0, rfl⟩)
        go_ret
        exact ⟨ret_bool HM.out.symm, _, (by first | rfl | exact World.drewN_drewN _ _ _)⟩
      · go_wp2_with (go_at_call 78; refine (ref1_Valid _ _ _ _ _ hs' hu').mono ?_; rintro e w' ⟨rfl, m0, rfl⟩)
        go_roundw
        case rel =>
          refine ⟨k + 1, _, by omega, by go_num, (by first | rfl | exact World.drewN_drewN _ _ _), ?_⟩
          rw [List.take_succ_eq_append_getElem hlt, List.all_append, HR.out]
          simp [h2]
        case measure => simp [intOf]; omega
    · have HM : Hid (allB s l = true) := hid (by have := HR.out; rw [List.take_of_length_le (by omega)] at this; exact this)
      go_wp2
      go_ret
      exact ⟨ret_bool HM.out.symm, q, rfl⟩

end Go.Proofs.Ytiacbdipagbblaa
namespace Go.Proofs.Ytiacbdipagbblaa
open Go Go.RowKit Go.Maps
theorem ref5_within (n lo hi : Int) (w : World) :
    Calls Try.prog 67 #[.int .i64 n, .int .i64 lo, .int .i64 hi] w fun e w' => e = .returned (.bool (inB n lo hi)) ∧ w = w' := by
  unfold inB
  by_cases h1 : lo ≤ n
  · by_cases h2 : n ≤ hi
    · go_enter Try.func67, Try.ntmps67
      go_wp2
      go_ret
      exact ⟨by simp [h1, h2], rfl⟩
    · go_enter Try.func67, Try.ntmps67
      go_wp2
      go_ret
      exact ⟨by simp [h1, h2], rfl⟩
  · go_enter Try.func67, Try.ntmps67
    go_wp2
    go_ret
    exact ⟨ret_bool (by simp; omega), rfl⟩

theorem ref5_Valid (v vl : Value) (s : Sg) (l : List (List Int)) (w : World) (hs : SignAt w v s) (hv : Terms w vl l) :
    Calls Try.prog 40 #[v, vl] w fun e w' => e = .returned (.bool (shelfB s l)) ∧ ∃ n, w' = w.drewN n := by
  obtain ⟨a, cap, hve, h1, hl, _⟩ := hv.open
  subst hve
  unfold shelfB
  cases h2 : signB s
  · go_enter Try.func40, Try.ntmps40
    go_wp2_with (first | (go_at_call 100; refine (ref1_ValidSign _ _ _ hs).mono ?_; rintro e w' ⟨rfl, m0, rfl⟩))
    go_ret
    exact ⟨ret_bool rfl, m0, rfl⟩
  · cases h3 : inB l.length 1 60
    · go_enter Try.func40, Try.ntmps40
      go_wp2_with (first | (go_at_call 100; refine (ref1_ValidSign _ _ _ hs).mono ?_; rintro e w' ⟨rfl, m0, rfl⟩) | (go_at_call 67; refine (ref5_within _ _ _ _).mono ?_; rintro e w' ⟨rfl, rfl⟩))
      go_ret
      exact ⟨ret_bool rfl, m0, rfl⟩
    · go_enter Try.func40, Try.ntmps40
      go_wp2_with (first | (go_at_call 100; refine (ref1_ValidSign _ _ _ hs).mono ?_; rintro e w' ⟨rfl, m0, rfl⟩) | (go_at_call 67; refine (ref5_within _ _ _ _).mono ?_; rintro e w' ⟨rfl, rfl⟩) | (go_at_call 101; refine (ref1_AllValid _ _ _ _ _ (hs.drewN _) (hv.drewN _)).mono ?_; rintro e w' ⟨rfl, m1, rfl⟩))
      go_ret
      exact ⟨ret_bool rfl, _, (by first | rfl | exact World.drewN_drewN _ _ _)⟩

theorem chosenL_snoc (b : Bool) : ∀ (l : List Bool) (i : Nat), chosenL i (l ++ [b]) = chosenL i l ++ if b then [((i + l.length : Nat) : Int)] else [] := by
  intro l
  induction l with
  | nil => intro i; cases b <;> simp [chosenL]
  | cons x r ih =>
    intro i
    simp only [List.cons_append, chosenL, ih (i + 1), List.length_cons]
    cases x <;> simp <;> cases b <;> simp <;> omega
theorem chosenL_len : ∀ (l : List Bool) (i : Nat), (chosenL i l).length ≤ l.length := by
  intro l
  induction l with
  | nil => intro i; simp [chosenL]
  | cons x r ih => intro i; have := ih (i + 1); cases x <;> simp [chosenL] <;> omega

set_option maxHeartbeats 400000 in
theorem ref5_chosen (v : Value) (l : List Bool) (w : World) (hv : Bools w v l) (hl60 : l.length ≤ 1000) :
    Calls Try.prog 68 #[v] w fun e w' => ∃ u, e = .returned u ∧ w'.ownsRow w.heap.size 3 1 u (chosenL 0 l).length ((chosenL 0 l).map (Value.int .i64)) ∧ Below w.heap.size w w' := by
  obtain ⟨a, cap, rfl, h1, hl, h3, HC⟩ := hv.open
  have HC' := hid HC
  clear HC hv h3
  go_enter Try.func68, Try.ntmps68
  go_wp2
  go_loopw [3, 4] (fun u i wr => ∃ k : Nat, k ≤ l.length ∧ i = .int .i64 k ∧ wr.ownsRow w.heap.size 3 1 u (chosenL 0 (l.take k)).length ((chosenL 0 (l.take k)).map (Value.int .i64)) ∧ Below w.heap.size w wr) (fun _ i _ => l.length - (intOf i).toNat)
  case atStart => exact ⟨0, by omega, rfl, World.ownsRow_nil _ _ _ _, Below.refl _ _⟩
  case round =>
    obtain ⟨k, hk, rfl, hown, hb⟩ := hrel
    by_cases hlt : k < l.length
    · obtain ⟨b, o, rfl, hcell0⟩ := HC'.out k hlt
      have hcell : wr.cell? ⟨b, o + k, none⟩ = some (.bool l[k]) := (hb.cell (World.block_lt_of_cell? _ _ hcell0)).trans hcell0
      clear hcell0
      have hsn : chosenL 0 (l.take (k + 1)) = chosenL 0 (l.take k) ++ if l[k] then [(k : Int)] else [] := by
        rw [List.take_succ_eq_append_getElem hlt, chosenL_snoc]; simp [Nat.min_eq_left (Nat.le_of_lt hlt)]
      have HS := hid hsn
      have hcl := chosenL_len (l.take k) 0
      have hcl' : (chosenL 0 (l.take k)).length ≤ k := by simp at hcl; omega
      clear hsn hcl
      cases h2 : l[k]
      · go_wp2
        go_roundw
        case rel => exact ⟨k + 1, by omega, by go_num, by rw [HS.out, h2]; simpa using hown, hb⟩
        case measure => simp [intOf]; omega
      · have hsz := hb.size
        go_wp2_with (at_builtin; refine wpList_append_row rfl _ _ 25 rfl w.heap.size 3 el_int Try.underlying25 rfl (by decide) _ _ _ rfl (hown.alloc _) _ 1 [.int .i64 k] rfl (row_one_new _ _ _) (oneCell_one rfl) (by omega) (by omega) (by simp; omega) ?_; intro v' w1 hown1 hgrow1 _)
        have hb1 : Below w.heap.size w w1 := (hb.alloc hsz _).grown hgrow1 (by simp; omega) (fun q hq => (hown.lt q hq).1)
        go_roundw
        case rel => exact ⟨k + 1, by omega, by go_num, by rw [HS.out, h2]; simpa using hown1, hb1⟩
        case measure => simp [intOf]; omega
    · have HT : Hid (l.take k = l) := hid (List.take_of_length_le (by omega))
      go_wp2
      go_ret
      exact ⟨_, rfl, by rw [HT.out] at hown; exact hown, hb⟩

end Go.Proofs.Ytiacbdipagbblaa
namespace Go.Proofs.Ytiacbdipagbblaa
open Go Go.RowKit Go.Maps
set_option maxHeartbeats 1000000 in
theorem ref1_SamePaths (v u : Value) (l m : List (List Int)) (w : World) (hv : Terms w v l) (hu : Terms w u m) :
    Calls Try.prog 26 #[v, u] w fun e w' => e = .returned (.bool (decide (l = m))) ∧ ∃ n, w' = w.drewN n := by
  obtain ⟨a, cap, rfl, h1, hl, h3, HC⟩ := hv.open
  obtain ⟨a', cap', rfl, h1', hl', h3', HD⟩ := hu.open
  have HV := hid hv
  have HU := hid hu
  clear HC hv h3 HD hu h3'
  by_cases hlen : l.length = m.length
  · have hne : (((l.length : Nat) : Int) != (m.length : Int)) = false := by simp [hlen]
    have HL := hid hlen
    clear hlen
    go_enter Try.func26, Try.ntmps26
    go_wp2
    go_loopw [5] (fun i wr => ∃ k q : Nat, k ≤ l.length ∧ i = .int .i64 k ∧ wr = w.drewN q ∧ l.take k = m.take k) (fun i _ => l.length - (intOf i).toNat)
    case atStart => exact ⟨0, 0, by omega, rfl, rfl, by simp⟩
    case round =>
      obtain ⟨k, q, hk, rfl, hw, hrel⟩ := hrel
      have HR := hid hrel
      have HW := hid hw
      have hvr : Terms wr (.slice a l.length cap) l := by rw [hw]; exact HV.out.below (below_self_drewN _ _)
      have hur : Terms wr (.slice a' m.length cap') m := by rw [hw]; exact HU.out.below (below_self_drewN _ _)
      obtain ⟨a9, c9, he, -, -, -, HC⟩ := hvr.open
      obtain ⟨rfl, -, rfl⟩ := Value.slice.inj he
      obtain ⟨a8, c8, he', -, -, -, HD⟩ := hur.open
      obtain ⟨rfl, -, rfl⟩ := Value.slice.inj he'
      have HC' := hid HC
      have HD' := hid HD
      clear hrel hw hvr hur HC HD
      by_cases hlt : k < l.length
      · obtain ⟨b, o, x, rfl, hcell, hx⟩ := HC'.out k hlt
        have hlt' : k < m.length := by have := HL.out; omega
        obtain ⟨b', o', x', rfl, hcell', hx'⟩ := HD'.out k hlt'
        obtain ⟨xa, xc, rfl, -⟩ := hx.open
        obtain ⟨ya, yc, rfl, -⟩ := hx'.open
        have HSM := fun j => hid (ref1_SameInts (.slice xa l[k].length xc) (.slice ya m[k].length yc) l[k] m[k] (wr.drewN j) (hx.drewN j) (hx'.drewN j))
        have y0 : (0 : Int) ≤ (k : Int) := by omega
        have y1 : (k : Int) < (l.length : Int) := by omega
        have y2 : (k : Int) < (m.length : Int) := by omega
        clear hx hx'
        by_cases h2 : l[k] = m[k]
        · have HSM2 : ∀ j, Hid (Calls Try.prog 17 #[.slice xa l[k].length xc, .slice ya m[k].length yc] (wr.drewN j) fun e w' => e = .returned (.bool true) ∧ ∃ n, w' = (wr.drewN j).drewN n) := fun j => hid ((HSM j).out.mono fun e w' h => ⟨by rw [h.1, decide_eq_true h2], h.2⟩)
          have H2 := hid h2
          clear h2 HSM
          go_wp2
          go_quiet ((go_at_call 17; exact Calls.quiet_of (HSM2 _).out))
          go_wp2
          go_roundw
          case rel =>
            refine ⟨k + 1, _, by omega, by go_num, by rw [HW.out]; exact World.drewN_drewN _ _ _, ?_⟩
            rw [List.take_succ_eq_append_getElem hlt, List.take_succ_eq_append_getElem hlt', HR.out, H2.out]
          case measure => simp [intOf]; omega
        · have HSM2 : ∀ j, Hid (Calls Try.prog 17 #[.slice xa l[k].length xc, .slice ya m[k].length yc] (wr.drewN j) fun e w' => e = .returned (.bool false) ∧ ∃ n, w' = (wr.drewN j).drewN n) := fun j => hid ((HSM j).out.mono fun e w' h => ⟨by rw [h.1, decide_eq_false h2], h.2⟩)
          have HM : Hid (l ≠ m) := hid (by intro e; subst e; exact h2 rfl)
          clear h2 HSM
          go_wp2
          go_quiet ((go_at_call 17; exact Calls.quiet_of (HSM2 _).out))
          go_wp2
          go_ret
          exact ⟨ret_bool (decide_eq_false HM.out).symm, _, by rw [HW.out]; exact World.drewN_drewN _ _ _⟩
      · have HM : Hid (l = m) := hid (by have := HR.out; have h9 := HL.out; rw [List.take_of_length_le (by omega), List.take_of_length_le (by omega)] at this; exact this)
        go_wp2
        go_ret
        exact ⟨ret_bool (decide_eq_true HM.out).symm, q, HW.out⟩
  · have hne : (((l.length : Nat) : Int) != (m.length : Int)) = true := by simp [bne]; omega
    have HM : Hid (l ≠ m) := hid (by intro e; subst e; exact hlen rfl)
    clear hlen
    go_enter Try.func26, Try.ntmps26
    go_wp2
    go_ret
    exact ⟨ret_bool (decide_eq_false HM.out).symm, 0, rfl⟩
set_option maxHeartbeats 1000000 in
theorem ref1_SameTerms (v u : Value) (l m : List (List Int)) (w : World) (hv : Terms w v l) (hu : Terms w u m) :
    Calls Try.prog 59 #[v, u] w fun e w' => e = .returned (.bool (decide (l = m))) ∧ ∃ n, w' = w.drewN n := by
  obtain ⟨a, cap, rfl, h1, hl, h3, HC⟩ := hv.open
  obtain ⟨a', cap', rfl, h1', hl', h3', HD⟩ := hu.open
  have HV := hid hv
  have HU := hid hu
  clear HC hv h3 HD hu h3'
  by_cases hlen : l.length = m.length
  · have hne : (((l.length : Nat) : Int) != (m.length : Int)) = false := by simp [hlen]
    have HL := hid hlen
    clear hlen
    go_enter Try.func59, Try.ntmps59
    go_wp2
    go_loopw [5] (fun i wr => ∃ k q : Nat, k ≤ l.length ∧ i = .int .i64 k ∧ wr = w.drewN q ∧ l.take k = m.take k) (fun i _ => l.length - (intOf i).toNat)
    case atStart => exact ⟨0, 0, by omega, rfl, rfl, by simp⟩
    case round =>
      obtain ⟨k, q, hk, rfl, hw, hrel⟩ := hrel
      have HR := hid hrel
      have HW := hid hw
      have hvr : Terms wr (.slice a l.length cap) l := by rw [hw]; exact HV.out.below (below_self_drewN _ _)
      have hur : Terms wr (.slice a' m.length cap') m := by rw [hw]; exact HU.out.below (below_self_drewN _ _)
      obtain ⟨a9, c9, he, -, -, -, HC⟩ := hvr.open
      obtain ⟨rfl, -, rfl⟩ := Value.slice.inj he
      obtain ⟨a8, c8, he', -, -, -, HD⟩ := hur.open
      obtain ⟨rfl, -, rfl⟩ := Value.slice.inj he'
      have HC' := hid HC
      have HD' := hid HD
      clear hrel hw hvr hur HC HD
      by_cases hlt : k < l.length
      · obtain ⟨b, o, x, rfl, hcell, hx⟩ := HC'.out k hlt
        have hlt' : k < m.length := by have := HL.out; omega
        obtain ⟨b', o', x', rfl, hcell', hx'⟩ := HD'.out k hlt'
        obtain ⟨xa, xc, rfl, -⟩ := hx.open
        obtain ⟨ya, yc, rfl, -⟩ := hx'.open
        have HSM := fun j => hid (ref1_Same (.slice xa l[k].length xc) (.slice ya m[k].length yc) l[k] m[k] (wr.drewN j) (hx.drewN j) (hx'.drewN j))
        have y0 : (0 : Int) ≤ (k : Int) := by omega
        have y1 : (k : Int) < (l.length : Int) := by omega
        have y2 : (k : Int) < (m.length : Int) := by omega
        clear hx hx'
        by_cases h2 : l[k] = m[k]
        · have HSM2 : ∀ j, Hid (Calls Try.prog 54 #[.slice xa l[k].length xc, .slice ya m[k].length yc] (wr.drewN j) fun e w' => e = .returned (.bool true) ∧ ∃ n, w' = (wr.drewN j).drewN n) := fun j => hid ((HSM j).out.mono fun e w' h => ⟨by rw [h.1, decide_eq_true h2], h.2⟩)
          have H2 := hid h2
          clear h2 HSM
          go_wp2
          go_quiet ((go_at_call 54; exact Calls.quiet_of (HSM2 _).out))
          go_wp2
          go_roundw
          case rel =>
            refine ⟨k + 1, _, by omega, by go_num, by rw [HW.out]; exact World.drewN_drewN _ _ _, ?_⟩
            rw [List.take_succ_eq_append_getElem hlt, List.take_succ_eq_append_getElem hlt', HR.out, H2.out]
          case measure => simp [intOf]; omega
        · have HSM2 : ∀ j, Hid (Calls Try.prog 54 #[.slice xa l[k].length xc, .slice ya m[k].length yc] (wr.drewN j) fun e w' => e = .returned (.bool false) ∧ ∃ n, w' = (wr.drewN j).drewN n) := fun j => hid ((HSM j).out.mono fun e w' h => ⟨by rw [h.1, decide_eq_false h2], h.2⟩)
          have HM : Hid (l ≠ m) := hid (by intro e; subst e; exact h2 rfl)
          clear h2 HSM
          go_wp2
          go_quiet ((go_at_call 54; exact Calls.quiet_of (HSM2 _).out))
          go_wp2
          go_ret
          exact ⟨ret_bool (decide_eq_false HM.out).symm, _, by rw [HW.out]; exact World.drewN_drewN _ _ _⟩
      · have HM : Hid (l = m) := hid (by have := HR.out; have h9 := HL.out; rw [List.take_of_length_le (by omega), List.take_of_length_le (by omega)] at this; exact this)
        go_wp2
        go_ret
        exact ⟨ret_bool (decide_eq_true HM.out).symm, q, HW.out⟩
  · have hne : (((l.length : Nat) : Int) != (m.length : Int)) = true := by simp [bne]; omega
    have HM : Hid (l ≠ m) := hid (by intro e; subst e; exact hlen rfl)
    clear hlen
    go_enter Try.func59, Try.ntmps59
    go_wp2
    go_ret
    exact ⟨ret_bool (decide_eq_false HM.out).symm, 0, rfl⟩
end Go.Proofs.Ytiacbdipagbblaa
