/-
  WHAT IT HOLDS: contracts of the functions of package term on signs (within, letters, ValidSign), with the library's strings.ContainsFunc that they call. Conditions: the arguments read as data.
-/
import Derived.Lib.OthersKept
import Derived.Deep.LoopGhost
import Derived.Test.YtcpbpamnhdnanaaZRTopDetachedInstances9
import Derived.Test.YtcpbpamnhdnanaaZRTopDetachedInstances8
namespace Go.Proofs.Ytcpbpamnhdnanaa
open Go Go.RowKit Go.Maps
theorem term_within (n lo hi : Int) (w : World) :
    Calls Try.prog 39 #[.int .i64 n, .int .i64 lo, .int .i64 hi] w fun e w' => e = .returned (.bool (inB n lo hi)) ∧ w = w' := by
  unfold inB
  by_cases h1 : lo ≤ n
  · by_cases h2 : n ≤ hi
    · go_enter Try.func39, Try.ntmps39
      go_wp2
      go_ret
      exact ⟨by simp [h1, h2], rfl⟩
    · go_enter Try.func39, Try.ntmps39
      go_wp2
      go_ret
      exact ⟨by simp [h1, h2], rfl⟩
  · go_enter Try.func39, Try.ntmps39
    go_wp2
    go_ret
    exact ⟨ret_bool (by simp; omega), rfl⟩

theorem term_letters1 (r : Nat) (w : World) (hr : r ≤ 1114111) :
    Calls Try.prog 78 #[.int .i32 (r : Int)] w fun e w' => e = .returned (.bool (!inB r 97 122 && !inB r 65 90)) ∧ w = w' := by
  cases h1 : inB r 97 122
  · cases h2 : inB r 65 90
    · go_enter Try.func78, Try.ntmps78
      go_wp2_with (first | (go_at_call 39; refine (term_within _ _ _ _).mono ?_; rintro e w' ⟨rfl, rfl⟩))
      go_ret
      exact ⟨rfl, rfl⟩
    · go_enter Try.func78, Try.ntmps78
      go_wp2_with (first | (go_at_call 39; refine (term_within _ _ _ _).mono ?_; rintro e w' ⟨rfl, rfl⟩))
      go_ret
      exact ⟨rfl, rfl⟩
  · go_enter Try.func78, Try.ntmps78
    go_wp2_with (first | (go_at_call 39; refine (term_within _ _ _ _).mono ?_; rintro e w' ⟨rfl, rfl⟩))
    go_ret
    exact ⟨rfl, rfl⟩

theorem decode_big (s : ByteArray) (pos : Nat) (h : pos < s.size) (hb : 128 ≤ (s[pos]'h).toNat) : 128 ≤ (Utf8.decode s pos).1 ∧ (Utf8.decode s pos).1 ≤ 1114111 := by
  have h0 : (s.get! (pos + 0)).toNat = (s[pos]'h).toNat := by
    have : s.get! pos = s[pos]'h := by
      simp [ByteArray.get!, ByteArray.getElem_eq_getElem_data, h]
    rw [Nat.add_zero, this]
  unfold Utf8.decode
  simp only [h0]
  rw [if_neg (by omega)]
  have hlt : (s[pos]'h).toNat < 256 := (s[pos]'h).toNat_lt
  have h1 : (s.get! (pos + 1)).toNat < 256 := (s.get! (pos + 1)).toNat_lt
  have h2 : (s.get! (pos + 2)).toNat < 256 := (s.get! (pos + 2)).toNat_lt
  have h3 : (s.get! (pos + 3)).toNat < 256 := (s.get! (pos + 3)).toNat_lt
  generalize (s.get! (pos + 1)).toNat = b1 at *
  generalize (s.get! (pos + 2)).toNat = b2 at *
  generalize (s.get! (pos + 3)).toNat = b3 at *
  generalize (s[pos]'h).toNat = b0 at *
  have e : Utf8.runeError = 65533 := rfl
  split
  · split
    · rename_i hc; dsimp only; omega
    · rw [e]; omega
  · split
    · split
      · rename_i hc; dsimp only; simp only [ge_iff_le, Bool.and_eq_true, decide_eq_true_eq] at hc; omega
      · rw [e]; omega
    · split
      · split
        · rename_i hc; dsimp only
          simp only [ge_iff_le, Bool.and_eq_true, decide_eq_true_eq, Utf8.valid] at hc
          simp at hc
          omega
        · rw [e]; omega
      · rw [e]; omega

set_option maxHeartbeats 1000000 in
theorem str_indexFunc (s : ByteArray) (w : World) (hs : s.size ≤ 1000) :
    Calls Try.prog 84 #[.string s, .func (.func 78) #[] #[], .bool true] w fun e w' => ∃ i : Int, e = .returned (.int .i64 i) ∧ ((0 ≤ i) ↔ s.data.toList.all letB = false) ∧ Below w.heap.size w w' := by
  go_enter Try.func84, Try.ntmps84
  go_wp2
  go_loopg [] s.size (fun gf wx => ∃ pos : Nat, wx.heap[w.heap.size]? = some (.stringIter s pos) ∧ Below w.heap.size w wx ∧ (s.data.toList.take pos).all letB = true ∧ s.size = pos + gf)
  case atStart => exact ⟨0, World.iter_heap w s 0, (Below.refl _ w).alloc (Nat.le_refl _) _, by simp, by omega⟩
  case round =>
    obtain ⟨pos, hit, hbw, hleft, hfu⟩ := hrel
    have HL := hid hleft
    clear hleft
    by_cases hps : pos < s.size
    · obtain ⟨g', rfl⟩ : ∃ g', gk = g' + 1 := ⟨gk - 1, by omega⟩
      have hnx : ∀ ty, (Instr.next (.pointer (some ⟨w.heap.size, 0, none⟩)) true ty).run Try.prog wr = _ := fun ty => Lib.run_next_any_at wr w.heap.size s pos ty hit hps
      by_cases hbig : (s[pos]'hps).toNat < 128
      · rw [decode_ascii s pos hps hbig] at hnx
        have hit2 := Lib.iterAt_heap wr w.heap.size s pos (pos + 1) hit
        have hbw2 := Lib.below_iterAt hbw (k := w.heap.size) (Nat.le_refl _) s (pos + 1)
        obtain ⟨W, hWd⟩ : ∃ W, wr.iterAt w.heap.size s (pos + 1) = W := ⟨_, rfl⟩
        rw [hWd] at hnx hit2 hbw2
        have hsn : s.data.toList.take (pos + 1) = s.data.toList.take pos ++ [s[pos]'hps] := by
          rw [List.take_succ_eq_append_getElem (by simpa using hps)]; rfl
        have HM : Hid (s[pos]'hps ∈ s.data.toList) := hid (List.getElem_mem (l := s.data.toList) (n := pos) (by simpa using hps))
        have HS := hid hsn
        clear hsn hWd
        have hlet : (!inB ((s[pos]'hps).toNat : Nat) 97 122 && !inB ((s[pos]'hps).toNat : Nat) 65 90) = !letB (s[pos]'hps) := by unfold letB; simp
        have cS := term_letters1 (s[pos]'hps).toNat W (by omega)
        rw [hlet] at cS
        clear hlet
        have CS := hid cS
        clear cS
        cases hl : letB (s[pos]'hps)
        · rw [hl] at CS
          go_wp2_with (go_at_call 78; refine CS.out.mono ?_; rintro e w' ⟨rfl, rfl⟩)
          go_ret
          refine ⟨_, rfl, ?_, hbw2⟩
          have : s.data.toList.all letB = false := by rw [List.all_eq_false]; exact ⟨_, HM.out, by rw [hl]; simp⟩
          rw [this]
          simp
        · rw [hl] at CS
          go_wp2_with (go_at_call 78; refine CS.out.mono ?_; rintro e w' ⟨rfl, rfl⟩)
          go_roundg g'
          case measure => omega
          case rel => exact ⟨pos + 1, hit2, hbw2, by rw [HS.out, List.all_append, HL.out]; simp [hl], by omega⟩
      · have hdb := decode_big s pos hps (by omega)
        have hit2 := Lib.iterAt_heap wr w.heap.size s pos (pos + (Utf8.decode s pos).2) hit
        have hbw2 := Lib.below_iterAt hbw (k := w.heap.size) (Nat.le_refl _) s (pos + (Utf8.decode s pos).2)
        obtain ⟨W, hWd⟩ : ∃ W, wr.iterAt w.heap.size s (pos + (Utf8.decode s pos).2) = W := ⟨_, rfl⟩
        rw [hWd] at hnx hit2 hbw2
        obtain ⟨R, hR⟩ : ∃ R, (Utf8.decode s pos).1 = R := ⟨_, rfl⟩
        rw [hR] at hnx hdb
        clear hWd hR
        have HM : Hid (s[pos]'hps ∈ s.data.toList) := hid (List.getElem_mem (l := s.data.toList) (n := pos) (by simpa using hps))
        have hlet : (!inB (R : Nat) 97 122 && !inB (R : Nat) 65 90) = true := by simp [inB]; omega
        have hl : letB (s[pos]'hps) = false := by
          unfold letB
          have h1 : inB ((s[pos]'hps).toNat : Int) 97 122 = false := inB_false.2 (by omega)
          have h2 : inB ((s[pos]'hps).toNat : Int) 65 90 = false := inB_false.2 (by omega)
          rw [h1, h2]; rfl
        have cS := term_letters1 R W (by omega)
        rw [hlet] at cS
        clear hlet
        have CS := hid cS
        have HL' := hid hl
        clear cS hl
        go_wp2_with (go_at_call 78; refine CS.out.mono ?_; rintro e w' ⟨rfl, rfl⟩)
        go_ret
        refine ⟨_, rfl, ?_, hbw2⟩
        have : s.data.toList.all letB = false := by rw [List.all_eq_false]; exact ⟨_, HM.out, by rw [HL'.out]; simp⟩
        rw [this]
        simp
    · have hnx : ∀ ty, (Instr.next (.pointer (some ⟨w.heap.size, 0, none⟩)) true ty).run Try.prog wr = _ := fun ty => Lib.run_next_end_at wr w.heap.size s pos ty hit hps
      go_wp2
      go_ret
      refine ⟨_, rfl, ?_, hbw⟩
      have : s.data.toList.all letB = true := by have := HL.out; rw [List.take_of_length_le (by simp; omega)] at this; exact this
      rw [this]
      simp

theorem str_IndexFunc (s : ByteArray) (w : World) (hs : s.size ≤ 1000) :
    Calls Try.prog 83 #[.string s, .func (.func 78) #[] #[]] w fun e w' => ∃ i : Int, e = .returned (.int .i64 i) ∧ ((0 ≤ i) ↔ s.data.toList.all letB = false) ∧ Below w.heap.size w w' := by
  go_enter Try.func83, Try.ntmps83
  go_wp2_with (go_at_call 84; refine (str_indexFunc _ _ hs).mono ?_; rintro e w' ⟨i, rfl, hi, hb⟩; have HI := hid hi; clear hi)
  go_ret
  exact ⟨_, rfl, by assumption, by assumption⟩
theorem str_ContainsFunc (s : ByteArray) (w : World) (hs : s.size ≤ 1000) :
    Calls Try.prog 77 #[.string s, .func (.func 78) #[] #[]] w fun e w' => e = .returned (.bool (!s.data.toList.all letB)) ∧ Below w.heap.size w w' := by
  go_enter Try.func77, Try.ntmps77
  go_wp2_with (go_at_call 83; refine (str_IndexFunc _ _ hs).mono ?_; rintro e w' ⟨i, rfl, hi, hb⟩; have HI := hid hi; clear hi)
  go_ret
  refine ⟨ret_bool ?_, by assumption⟩
  rw [Bool.eq_iff_iff]
  simp only [decide_eq_true_eq, Bool.not_eq_true']
  exact HI.out
theorem term_letters (s : ByteArray) (w : World) (hs : s.size ≤ 140737488355328) :
    Calls Try.prog 56 #[.string s] w fun e w' => e = .returned (.bool (nameB s)) ∧ Below w.heap.size w w' := by
  unfold nameB
  cases h1 : inB s.size 1 8
  · go_enter Try.func56, Try.ntmps56
    go_wp2_with (first | (go_at_call 39; refine (term_within _ _ _ _).mono ?_; rintro e w' ⟨rfl, rfl⟩))
    go_ret
    exact ⟨ret_bool (by simp), Below.refl _ _⟩
  · have := inB_true.1 h1
    go_enter Try.func56, Try.ntmps56
    go_wp2_with (first | (go_at_call 39; refine (term_within _ _ _ _).mono ?_; rintro e w' ⟨rfl, rfl⟩) | (go_at_call 77; refine (str_ContainsFunc _ _ (by omega)).mono ?_; rintro e w' ⟨rfl, hb⟩))
    go_ret
    exact ⟨ret_bool (by simp), by assumption⟩
end Go.Proofs.Ytcpbpamnhdnanaa
