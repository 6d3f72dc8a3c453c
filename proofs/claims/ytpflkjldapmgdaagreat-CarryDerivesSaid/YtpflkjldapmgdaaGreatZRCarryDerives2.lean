/-
  WHAT IT HOLDS: contracts of the functions of package lemmaryref01 that the laws reach: each returns what the plain function says and changes no memory. Conditions: the arguments read as data.
  WHAT IT HOLDS: facts on the types of this translation, each reckoned by the kernel. No condition.
  WHAT IT HOLDS: contracts of Same of the reference of layer 1 and of slices.Equal: whether two lists of numbers are equal. Conditions: the arguments read as data.
  WHAT IT HOLDS: contracts of the small loops of package lemmaryref01 (Has, SameInts, Same, AllValid): each returns what the plain function says and changes no memory. Conditions: the arguments read as data.
  WHAT IT HOLDS: contracts of cmp.Compare, cmp.Or, slices.Compare at int, and of Compare of package term. Conditions: the arguments read as data.
  WHAT IT HOLDS: contracts of functions of package lemmaryref05 that the law of With reaches. Conditions: the arguments read as data.
-/
import Derived.Test.YtpflkjldapmgdaaGreatProg
import Derived.Test.YtpflkjldapmgdaaGreatZRCarryDerives0
import Derived.Test.YtpflkjldapmgdaaGreatZRCarryDerives1
namespace Go.Proofs.YtpflkjldapmgdaaGreat
open Go Go.RowKit Go.Maps
theorem ref1_within (n lo hi : Int) (w : World) :
    Calls Tryz.prog 144 #[.int .i64 n, .int .i64 lo, .int .i64 hi] w fun e w' => e = .returned (.bool (inB n lo hi)) ∧ w = w' := by
  unfold inB
  by_cases h1 : lo ≤ n
  · by_cases h2 : n ≤ hi
    · go_enter Tryz.func144, Tryz.ntmps144
      go_wp2
      go_ret
      exact ⟨by simp [h1, h2], rfl⟩
    · go_enter Tryz.func144, Tryz.ntmps144
      go_wp2
      go_ret
      exact ⟨by simp [h1, h2], rfl⟩
  · go_enter Tryz.func144, Tryz.ntmps144
    go_wp2
    go_ret
    exact ⟨ret_bool (by simp; omega), rfl⟩

theorem ref1_isName (s : ByteArray) (w : World) (hs : s.size ≤ 140737488355328) :
    Calls Tryz.prog 145 #[.string s] w fun e w' => e = .returned (.bool (nameB s)) ∧ w = w' := by
  go_enter Tryz.func145, Tryz.ntmps145
  go_wp2
  go_loop [3] (fun i => ∃ k : Nat, k ≤ s.size ∧ i = .int .i64 k ∧ (s.data.toList.take k).all letB = true) (fun i => s.size - (intOf i).toNat)
  case atStart => exact ⟨0, by omega, rfl, by simp⟩
  case round =>
    obtain ⟨k, hk, rfl, hrel⟩ := hrel
    have HR := hid hrel
    clear hrel
    by_cases hlt : k < s.size
    · have hby : ((s[k]'hlt).toNat : Int) ≤ 255 := by have := (s[k]'hlt).toNat_lt; omega
      have hsn : s.data.toList.take (k + 1) = s.data.toList.take k ++ [s[k]'hlt] := by
        rw [List.take_succ_eq_append_getElem (by simpa using hlt)]; rfl
      have hmem : s[k]'hlt ∈ s.data.toList := by
        have := List.getElem_mem (l := s.data.toList) (n := k) (by simpa using hlt); exact this
      have HS := hid hsn
      have HM := hid hmem
      clear hsn hmem
      have hlet : letB (s[k]'hlt) = (inB (s[k]'hlt).toNat 97 122 || inB (s[k]'hlt).toNat 65 90) := rfl
      have HL := hid hlet
      clear hlet
      cases h1 : inB ((s[k]'hlt).toNat : Int) 97 122
      · cases h2 : inB ((s[k]'hlt).toNat : Int) 65 90
        · go_wp2_with (go_at_call 144; refine (ref1_within _ _ _ _).mono ?_; rintro e w' ⟨rfl, rfl⟩)
          go_ret
          refine ⟨?_, rfl⟩
          have hf : nameB s = false := by
            unfold nameB
            have : s.data.toList.all letB = false := by
              rw [List.all_eq_false]
              exact ⟨_, HM.out, by rw [HL.out, h1, h2]; simp⟩
            rw [this]; rfl
          rw [hf]; rfl
        · go_wp2_with (go_at_call 144; refine (ref1_within _ _ _ _).mono ?_; rintro e w' ⟨rfl, rfl⟩)
          go_round
          case rel => exact ⟨k + 1, by omega, by go_num, by rw [HS.out, List.all_append, HR.out]; simp [HL.out, h2]⟩
          case measure => simp [intOf]; omega
      · go_wp2_with (go_at_call 144; refine (ref1_within _ _ _ _).mono ?_; rintro e w' ⟨rfl, rfl⟩)
        go_round
        case rel => exact ⟨k + 1, by omega, by go_num, by rw [HS.out, List.all_append, HR.out]; simp [HL.out, h1]⟩
        case measure => simp [intOf]; omega
    · have hks : k = s.size := by omega
      have hall : s.data.toList.all letB = true := by
        have := HR.out; rw [hks, List.take_of_length_le (by simp)] at this; exact this
      have HA := hid hall
      clear hall hks
      go_wp2_with (go_at_call 144; refine (ref1_within _ _ _ _).mono ?_; rintro e w' ⟨rfl, rfl⟩)
      go_ret
      exact ⟨by unfold nameB; rw [HA.out]; rfl, rfl⟩

theorem ref1_Arity (v : Value) (s : Sg) (n : Int) (w : World) (hs : SignAt w v s) (hn : n < s.length) :
    Calls Tryz.prog 146 #[v, .int .i64 n] w fun e w' => e = .returned (.int .i64 (arOf s n)) ∧ w = w' := by
  obtain ⟨a, cap, rfl, h1, h2, h3, HC⟩ := hs.open
  have HC' := hid HC
  clear HC hs
  by_cases hneg : n < 0
  · go_enter Tryz.func146, Tryz.ntmps146
    go_wp2
    go_ret
    exact ⟨ret_int (by simp [arOf, hneg]), rfl⟩
  · obtain ⟨k, rfl⟩ := Int.eq_ofNat_of_zero_le (show 0 ≤ n by omega)
    obtain ⟨b, o, rfl, c1, c2, _⟩ := HC'.out k (by omega)
    have hk : k < s.length := by omega
    go_enter Tryz.func146, Tryz.ntmps146
    go_wp2
    go_ret
    exact ⟨ret_int (by rw [arOf, if_neg (by omega)]; simp [hk]), rfl⟩

theorem signB_of {s : Sg} (h1 : inB s.length 1 12 = true) (h : 0 < s.length) (h2 : (s[0].2 == 2) = true) : signB s = (List.range s.length).all (symB s) := by
  unfold signB
  simp [h1, List.getElem?_eq_getElem h, h2]
theorem symB_at {s : Sg} {k : Nat} (h : k < s.length) : symB s k = (nameB s[k].1 && inB s[k].2 0 3 && (s.take k).all (fun y => decide (y.1 ≠ s[k].1))) := by
  unfold symB
  rw [List.getElem?_eq_getElem h]
theorem all_range_false {s : Sg} {k : Nat} (h : k < s.length) (h2 : symB s k = false) : (List.range s.length).all (symB s) = false := by
  rw [List.all_eq_false]
  exact ⟨k, by simp [h], by simp [h2]⟩
theorem bytes_eq (a b : ByteArray) : (a.toList == b.toList) = decide (a = b) := by
  rw [ByteArray.toList_eq, ByteArray.toList_eq, Bool.eq_iff_iff]
  simp only [beq_iff_eq, decide_eq_true_eq]
  exact ⟨WideShapes.bytes_inj, fun h => by rw [h]⟩

set_option maxHeartbeats 1000000 in
theorem ref1_ValidSign (v : Value) (s : Sg) (w : World) (hs : SignAt w v s) :
    Calls Tryz.prog 84 #[v] w fun e w' => e = .returned (.bool (signB s)) ∧ ∃ n, w' = w.drewN n := by
  obtain ⟨a, cap, rfl, hlc, hl, h3, HC⟩ := hs.open
  have HC' := hid HC
  clear HC hs h3
  cases h1 : inB s.length 1 12
  · have hf : signB s = false := by unfold signB; rw [h1]; rfl
    have HF := hid hf
    clear hf
    go_enter Tryz.func84, Tryz.ntmps84
    go_wp2_with (go_at_call 144; refine (ref1_within _ _ _ _).mono ?_; rintro e w' ⟨rfl, rfl⟩)
    go_ret
    exact ⟨ret_bool HF.out.symm, 0, rfl⟩
  · have h0 : 0 < s.length := by have := inB_true.1 h1; omega
    obtain ⟨b, o, rfl, c1, c2, _⟩ := HC'.out 0 h0
    have c2' : w.cell? ⟨b, o + 1, none⟩ = some (.int .i64 s[0].2) := by simpa using c2
    clear c1 c2
    cases h2 : (s[0].2 == 2)
    · have hf : signB s = false := by unfold signB; rw [List.getElem?_eq_getElem h0]; simp only [h2]; simp
      have HF := hid hf
      clear hf
      go_enter Tryz.func84, Tryz.ntmps84
      have h2' : (s[0].2 != 2) = true := by simp [bne, h2]
      go_wp2_with (go_at_call 144; refine (ref1_within _ _ _ _).mono ?_; rintro e w' ⟨rfl, rfl⟩)
      go_ret
      exact ⟨ret_bool HF.out.symm, 0, rfl⟩
    · have h2' : (s[0].2 != 2) = false := by simp [bne, h2]
      have HS := hid (signB_of h1 h0 h2)
      go_enter Tryz.func84, Tryz.ntmps84
      go_wp2_with (go_at_call 144; refine (ref1_within _ _ _ _).mono ?_; rintro e w' ⟨rfl, rfl⟩)
      go_loopw [3] (fun i wr => ∃ k m : Nat, k ≤ s.length ∧ i = .int .i64 k ∧ wr = w.drewN m ∧ ∀ j, j < k → symB s j = true) (fun i _ => s.length - (intOf i).toNat)
      case atStart => exact ⟨0, 0, by omega, rfl, rfl, by simp⟩
      case round =>
        obtain ⟨k, m, hk, rfl, rfl, hrel⟩ := hrel
        have HR := hid hrel
        clear hrel
        by_cases hlt : k < s.length
        · obtain ⟨b', o', hbo, c3, c4, hsz⟩ := HC'.out k hlt
          cases hbo
          cases h4 : nameB s[k].1
          · have HF := hid (all_range_false hlt (by rw [symB_at hlt, h4]; rfl))
            go_wp2_with (first | (go_at_call 145; refine (ref1_isName _ _ hsz).mono ?_; rintro e w' ⟨rfl, rfl⟩) | (go_at_call 144; refine (ref1_within _ _ _ _).mono ?_; rintro e w' ⟨rfl, rfl⟩))
            go_ret
            exact ⟨ret_bool (by rw [HS.out, HF.out]), m, rfl⟩
          · cases h5 : inB s[k].2 0 3
            · have HF := hid (all_range_false hlt (by rw [symB_at hlt, h4, h5]; rfl))
              go_wp2_with (first | (go_at_call 145; refine (ref1_isName _ _ hsz).mono ?_; rintro e w' ⟨rfl, rfl⟩) | (go_at_call 144; refine (ref1_within _ _ _ _).mono ?_; rintro e w' ⟨rfl, rfl⟩))
              go_ret
              exact ⟨ret_bool (by rw [HS.out, HF.out]), m, rfl⟩
            · go_wp2_with (first | (go_at_call 145; refine (ref1_isName _ _ hsz).mono ?_; rintro e w' ⟨rfl, rfl⟩) | (go_at_call 144; refine (ref1_within _ _ _ _).mono ?_; rintro e w' ⟨rfl, rfl⟩))
              go_loopw [4] (fun i wr => ∃ j m : Nat, j ≤ k ∧ i = .int .i64 j ∧ wr = w.drewN m ∧ ∀ y ∈ s.take j, y.1 ≠ s[k].1) (fun i _ => k - (intOf i).toNat)
              case atStart => exact ⟨0, m, by omega, rfl, rfl, by simp⟩
              case round =>
                obtain ⟨j, m', hj, rfl, rfl, hrel⟩ := hrel
                have HR' := hid hrel
                clear hrel
                by_cases hjk : j < k
                · obtain ⟨b'', o'', hbo, c5, c6, _⟩ := HC'.out j (by omega)
                  cases hbo
                  have hjl : j < s.length := by omega
                  cases h6 : (s[j].1.toList == s[k].1.toList)
                  · go_wp2
                    go_quiet (fail)
                    go_wp2
                    go_roundw
                    case rel =>
                      refine ⟨j + 1, _, by omega, by go_num, rfl, ?_⟩
                      rw [List.take_succ_eq_append_getElem hjl]
                      intro y hy
                      rcases List.mem_append.1 hy with hy | hy
                      · exact HR'.out y hy
                      · rw [List.mem_singleton.1 hy]
                        rw [bytes_eq] at h6
                        simpa using h6
                    case measure => simp [intOf]; omega
                  · have HF := hid (all_range_false hlt (by
                      rw [symB_at hlt, h4, h5]
                      simp only [Bool.true_and]
                      rw [List.all_eq_false]
                      refine ⟨s[j], List.mem_take_iff_getElem.2 ⟨j, by omega, rfl⟩, ?_⟩
                      rw [bytes_eq] at h6
                      simpa using h6))
                    go_wp2
                    go_quiet (fail)
                    go_wp2
                    go_ret
                    exact ⟨ret_bool (by rw [HS.out, HF.out]), _, World.drewN_drewN _ _ _⟩
                · have hjk' : j = k := by omega
                  have HS' : Hid (symB s k = true) := by
                    apply hid
                    rw [symB_at hlt, h4, h5]
                    simp only [Bool.true_and]
                    rw [List.all_eq_true]
                    intro y hy
                    have := HR'.out y (by rw [hjk']; exact hy)
                    simpa using this
                  clear hjk'
                  go_wp2
                  go_roundw
                  case rel =>
                    refine ⟨k + 1, _, by omega, by go_num, rfl, fun q hq => ?_⟩
                    by_cases hqk : q = k
                    · rw [hqk]; exact HS'.out
                    · exact HR.out q (by omega)
                  case measure => simp [intOf]; omega
        · have HF : Hid ((List.range s.length).all (symB s) = true) := by
            apply hid
            rw [List.all_eq_true]
            intro j hj
            exact HR.out j (by have := List.mem_range.1 hj; omega)
          go_wp2
          go_ret
          exact ⟨ret_bool (by rw [HS.out, HF.out]), m, rfl⟩

theorem termB_false1 {s : Sg} {t : List Int} (h : signB s = false) : termB s t = false := by unfold termB; rw [h]; rfl
theorem termB_false2 {s : Sg} {t : List Int} (h : inB t.length 1 60 = false) : termB s t = false := by unfold termB; rw [h]; simp
theorem termB_of {s : Sg} {t : List Int} (h1 : signB s = true) (h2 : inB t.length 1 60 = true) : termB s t = needB s t 1 := by unfold termB; rw [h1, h2]; rfl
theorem signB_ar {s : Sg} (h : signB s = true) (n : Int) : 0 ≤ arOf s n ∧ arOf s n ≤ 3 := by
  unfold signB at h
  simp only [Bool.and_eq_true] at h
  have h3 := h.2
  rw [List.all_eq_true] at h3
  unfold arOf
  split
  · omega
  · split
    · rename_i x hx
      have hlt : n.toNat < s.length := (List.getElem?_eq_some_iff.1 hx).1
      have := h3 n.toNat (by simpa using hlt)
      unfold symB at this
      rw [hx] at this
      simp only [Bool.and_eq_true] at this
      exact inB_true.1 this.1.2
    · omega
theorem signB_len {s : Sg} (h : signB s = true) : 1 ≤ s.length ∧ s.length ≤ 12 := by
  unfold signB at h
  simp only [Bool.and_eq_true] at h
  have := inB_true.1 h.1.1
  omega

set_option maxHeartbeats 1000000 in
theorem ref1_Valid (v vt : Value) (s : Sg) (t : List Int) (w : World) (hs : SignAt w v s) (ht : Ints w vt t) :
    Calls Tryz.prog 85 #[v, vt] w fun e w' => e = .returned (.bool (termB s t)) ∧ ∃ n, w' = w.drewN n := by
  obtain ⟨a, cap, rfl, hlc, hl, h3, HC⟩ := ht.open
  have HC' := hid HC
  clear HC h3
  have HT := hid ht
  clear ht
  cases h1 : signB s
  · have HF := hid (termB_false1 (t := t) h1)
    go_enter Tryz.func85, Tryz.ntmps85
    go_wp2_with (first | (go_at_call 84; refine (ref1_ValidSign _ _ _ hs).mono ?_; rintro e w' ⟨rfl, m0, rfl⟩))
    go_ret
    exact ⟨ret_bool HF.out.symm, m0, rfl⟩
  · cases h2 : inB t.length 1 60
    · have HF := hid (termB_false2 (s := s) h2)
      go_enter Tryz.func85, Tryz.ntmps85
      go_wp2_with (first | (go_at_call 84; refine (ref1_ValidSign _ _ _ hs).mono ?_; rintro e w' ⟨rfl, m0, rfl⟩) | (go_at_call 144; refine (ref1_within _ _ _ _).mono ?_; rintro e w' ⟨rfl, rfl⟩))
      go_ret
      exact ⟨ret_bool HF.out.symm, m0, rfl⟩
    · have HF := hid (termB_of h1 h2)
      have hsl := signB_len h1
      have har := signB_ar h1
      have HAR := hid har
      clear har
      obtain ⟨sa, scap, hsv, _⟩ := hs.open
      subst hsv
      have hlen := inB_true.1 h2
      go_enter Tryz.func85, Tryz.ntmps85
      go_wp2_with (first | (go_at_call 84; refine (ref1_ValidSign _ _ _ hs).mono ?_; rintro e w' ⟨rfl, m0, rfl⟩) | (go_at_call 144; refine (ref1_within _ _ _ _).mono ?_; rintro e w' ⟨rfl, rfl⟩))
      have hs' := hs.drewN m0
      go_loop [5, 6] (fun nd i => ∃ (k : Nat) (q : Int), k ≤ t.length ∧ i = .int .i64 k ∧ nd = .int .i64 q ∧ q ≤ 3 * k + 1 ∧ -(k : Int) ≤ q ∧ needB s t 1 = needB s (t.drop k) q) (fun _ i => t.length - (intOf i).toNat)
      case atStart => exact ⟨0, 1, by omega, rfl, rfl, by omega, by omega, by simp⟩
      case round =>
        obtain ⟨k, q, hk, rfl, rfl, hq1, hq2, hrel⟩ := hrel
        have HR := hid hrel
        clear hrel
        by_cases hlt : k < t.length
        · obtain ⟨b, o, rfl, hcell⟩ := HC'.out k hlt
          have hdr : needB s (t.drop k) q = (!(q == 0) && inB t[k] (-12) (s.length - 1) && needB s (t.drop (k + 1)) (q - 1 + arOf s t[k])) := by
            rw [List.drop_eq_getElem_cons hlt]; rfl
          have HD := hid hdr
          clear hdr
          have ha := HAR.out t[k]
          cases h5 : (q == 0)
          · cases h6 : inB t[k] (-12) (s.length - 1)
            · have HN : Hid (termB s t = false) := hid (by rw [HF.out, HR.out, HD.out, h5, h6]; rfl)
              go_wp2_with (first | (go_at_call 144; refine (ref1_within _ _ _ _).mono ?_; rintro e w' ⟨rfl, rfl⟩))
              go_ret
              exact ⟨ret_bool HN.out.symm, m0, rfl⟩
            · have h7 := inB_true.1 h6
              go_wp2_with (first | (go_at_call 144; refine (ref1_within _ _ _ _).mono ?_; rintro e w' ⟨rfl, rfl⟩) | (go_at_call 146; refine (ref1_Arity _ _ _ _ hs' (by omega)).mono ?_; rintro e w' ⟨rfl, rfl⟩))
              go_round
              case rel => exact ⟨k + 1, _, by omega, by go_num, rfl, by omega, by omega, by rw [HR.out, HD.out, h5, h6]; rfl⟩
              case measure => simp [intOf]; omega
          · have HN : Hid (termB s t = false) := hid (by rw [HF.out, HR.out, HD.out, h5]; rfl)
            go_wp2_with (first | (go_at_call 144; refine (ref1_within _ _ _ _).mono ?_; rintro e w' ⟨rfl, rfl⟩))
            go_ret
            exact ⟨ret_bool HN.out.symm, m0, rfl⟩
        · have HN : Hid (termB s t = (q == 0)) := hid (by rw [HF.out, HR.out, List.drop_of_length_le (by omega)]; rfl)
          go_wp2
          go_ret
          exact ⟨ret_bool HN.out.symm, m0, rfl⟩

end Go.Proofs.YtpflkjldapmgdaaGreat
namespace Go.Proofs.YtpflkjldapmgdaaGreat
open Go Go.RowKit Go.Maps
theorem el_int : ElemAt Tryz.prog 3 (.int .i64 0) 1 8 := by unfold ElemAt; kernel_rfl
theorem el_term : ElemAt Tryz.prog 28 (.slice none 0 0) 1 24 := by unfold ElemAt; kernel_rfl
end Go.Proofs.YtpflkjldapmgdaaGreat
namespace Go.Proofs.YtpflkjldapmgdaaGreat
open Go Go.RowKit Go.Maps
set_option maxHeartbeats 400000 in
theorem ref1_Same (v u : Value) (l m : List Int) (w : World) (hv : Ints w v l) (hu : Ints w u m) :
    Calls Tryz.prog 95 #[v, u] w fun e w' => e = .returned (.bool (decide (l = m))) ∧ ∃ n, w' = w.drewN n := by
  obtain ⟨a, cap, rfl, h1, hl, h3, HC⟩ := hv.open
  obtain ⟨a', cap', rfl, h1', hl', h3', HD⟩ := hu.open
  have HC' := hid HC
  have HD' := hid HD
  clear HC hv h3 HD hu h3'
  by_cases hlen : l.length = m.length
  · have hne : (((l.length : Nat) : Int) != (m.length : Int)) = false := by simp [hlen]
    have HL := hid hlen
    clear hlen
    go_enter Tryz.func95, Tryz.ntmps95
    go_wp2
    go_loopw [5] (fun i wr => ∃ k q : Nat, k ≤ l.length ∧ i = .int .i64 k ∧ wr = w.drewN q ∧ l.take k = m.take k) (fun i _ => l.length - (intOf i).toNat)
    case atStart => exact ⟨0, 0, by omega, rfl, rfl, by simp⟩
    case round =>
      obtain ⟨k, q, hk, rfl, rfl, hrel⟩ := hrel
      have HR := hid hrel
      clear hrel
      by_cases hlt : k < l.length
      · obtain ⟨b, o, rfl, hcell⟩ := HC'.out k hlt
        have hlt' : k < m.length := by have := HL.out; omega
        obtain ⟨b', o', rfl, hcell'⟩ := HD'.out k hlt'
        cases h2 : (l[k] != m[k])
        · go_wp2
          go_quiet (fail)
          go_wp2
          go_roundw
          case rel =>
            refine ⟨k + 1, _, by omega, by go_num, (by first | rfl | exact World.drewN_drewN _ _ _), ?_⟩
            rw [List.take_succ_eq_append_getElem hlt, List.take_succ_eq_append_getElem hlt', HR.out]
            have : l[k] = m[k] := by simpa [bne] using h2
            rw [this]
          case measure => simp [intOf]; omega
        · have HM : Hid (l ≠ m) := hid (by intro e; subst e; simp at h2)
          go_wp2
          go_quiet (fail)
          go_wp2
          go_ret
          exact ⟨ret_bool (decide_eq_false HM.out).symm, _, (by first | rfl | exact World.drewN_drewN _ _ _)⟩
      · have HM : Hid (l = m) := hid (by have := HR.out; have h9 := HL.out; rw [List.take_of_length_le (by omega), List.take_of_length_le (by omega)] at this; exact this)
        go_wp2
        go_ret
        exact ⟨ret_bool (decide_eq_true HM.out).symm, q, rfl⟩
  · have hne : (((l.length : Nat) : Int) != (m.length : Int)) = true := by simp [bne]; omega
    have HM : Hid (l ≠ m) := hid (by intro e; subst e; exact hlen rfl)
    clear hlen
    go_enter Tryz.func95, Tryz.ntmps95
    go_wp2
    go_ret
    exact ⟨ret_bool (decide_eq_false HM.out).symm, 0, rfl⟩

set_option maxHeartbeats 400000 in
theorem sl_EqualT (v u : Value) (l m : List Int) (w : World) (hv : Ints w v l) (hu : Ints w u m) :
    Calls Tryz.prog 102 #[v, u] w fun e w' => e = .returned (.bool (decide (l = m))) ∧ ∃ n, w' = w.drewN n := by
  obtain ⟨a, cap, rfl, h1, hl, h3, HC⟩ := hv.open
  obtain ⟨a', cap', rfl, h1', hl', h3', HD⟩ := hu.open
  have HC' := hid HC
  have HD' := hid HD
  clear HC hv h3 HD hu h3'
  by_cases hlen : l.length = m.length
  · have hne : (((l.length : Nat) : Int) != (m.length : Int)) = false := by simp [hlen]
    have HL := hid hlen
    clear hlen
    go_enter Tryz.func102, Tryz.ntmps102
    go_wp2
    go_loopw [13] (fun i wr => ∃ k q : Nat, k ≤ l.length ∧ i = .int .i64 k ∧ wr = w.drewN q ∧ l.take k = m.take k) (fun i _ => l.length - (intOf i).toNat)
    case atStart => exact ⟨0, 0, by omega, rfl, rfl, by simp⟩
    case round =>
      obtain ⟨k, q, hk, rfl, rfl, hrel⟩ := hrel
      have HR := hid hrel
      clear hrel
      by_cases hlt : k < l.length
      · obtain ⟨b, o, rfl, hcell⟩ := HC'.out k hlt
        have hlt' : k < m.length := by have := HL.out; omega
        obtain ⟨b', o', rfl, hcell'⟩ := HD'.out k hlt'
        cases h2 : (l[k] != m[k])
        · go_wp2
          go_quiet (fail)
          go_wp2
          go_roundw
          case rel =>
            refine ⟨k + 1, _, by omega, by go_num, (by first | rfl | exact World.drewN_drewN _ _ _), ?_⟩
            rw [List.take_succ_eq_append_getElem hlt, List.take_succ_eq_append_getElem hlt', HR.out]
            have : l[k] = m[k] := by simpa [bne] using h2
            rw [this]
          case measure => simp [intOf]; omega
        · have HM : Hid (l ≠ m) := hid (by intro e; subst e; simp at h2)
          go_wp2
          go_quiet (fail)
          go_wp2
          go_ret
          exact ⟨ret_bool (decide_eq_false HM.out).symm, _, (by first | rfl | exact World.drewN_drewN _ _ _)⟩
      · have HM : Hid (l = m) := hid (by have := HR.out; have h9 := HL.out; rw [List.take_of_length_le (by omega), List.take_of_length_le (by omega)] at this; exact this)
        go_wp2
        go_ret
        exact ⟨ret_bool (decide_eq_true HM.out).symm, q, rfl⟩
  · have hne : (((l.length : Nat) : Int) != (m.length : Int)) = true := by simp [bne]; omega
    have HM : Hid (l ≠ m) := hid (by intro e; subst e; exact hlen rfl)
    clear hlen
    go_enter Tryz.func102, Tryz.ntmps102
    go_wp2
    go_ret
    exact ⟨ret_bool (decide_eq_false HM.out).symm, 0, rfl⟩

end Go.Proofs.YtpflkjldapmgdaaGreat
namespace Go.Proofs.YtpflkjldapmgdaaGreat
open Go Go.RowKit Go.Maps
theorem ref1_Has (v : Value) (l : List Int) (n : Int) (w : World) (hv : Ints w v l) :
    Calls Tryz.prog 158 #[v, .int .i64 n] w fun e w' => e = .returned (.bool (decide (n ∈ l))) ∧ w = w' := by
  obtain ⟨a, cap, rfl, h1, hl, h3, HC⟩ := hv.open
  have HC' := hid HC
  clear HC hv h3
  go_enter Tryz.func158, Tryz.ntmps158
  go_wp2
  go_loop [5] (fun i => ∃ k : Nat, k ≤ l.length ∧ i = .int .i64 k ∧ n ∉ l.take k) (fun i => l.length - (intOf i).toNat)
  case atStart => exact ⟨0, by omega, rfl, by simp⟩
  case round =>
    obtain ⟨k, hk, rfl, hrel⟩ := hrel
    have HR := hid hrel
    clear hrel
    by_cases hlt : k < l.length
    · obtain ⟨b, o, rfl, hcell⟩ := HC'.out k hlt
      cases h2 : (l[k] == n)
      · go_wp2
        go_round
        case rel =>
          refine ⟨k + 1, by omega, by go_num, ?_⟩
          rw [List.take_succ_eq_append_getElem hlt]
          intro hm
          rcases List.mem_append.1 hm with hm | hm
          · exact HR.out hm
          · have := List.mem_singleton.1 hm
            simp [this] at h2
        case measure => simp [intOf]; omega
      · have HM : Hid (n ∈ l) := hid (by have := List.getElem_mem hlt; rw [eq_of_beq h2] at this; exact this)
        go_wp2
        go_ret
        exact ⟨ret_bool (decide_eq_true HM.out).symm, rfl⟩
    · have HM : Hid (n ∉ l) := hid (by have := HR.out; rw [List.take_of_length_le (by omega)] at this; exact this)
      go_wp2
      go_ret
      exact ⟨ret_bool (decide_eq_false HM.out).symm, rfl⟩

end Go.Proofs.YtpflkjldapmgdaaGreat
namespace Go.Proofs.YtpflkjldapmgdaaGreat
open Go Go.RowKit Go.Maps
def cpI (x y : Int) : Int := if x < y then -1 else if y < x then 1 else 0
theorem cmp_isNaN (x : Int) (w : World) : Calls Tryz.prog 200 #[.int .i64 x] w fun e w' => e = .returned (.bool false) ∧ w = w' := by
  go_enter Tryz.func200, Tryz.ntmps200
  go_wp2
  go_ret
  exact ⟨by simp, rfl⟩
theorem cmp_Compare (x y : Int) (w : World) : Calls Tryz.prog 154 #[.int .i64 x, .int .i64 y] w fun e w' => e = .returned (.int .i64 (cpI x y)) ∧ w = w' := by
  have HX := hid (cmp_isNaN x w)
  have HY := hid (cmp_isNaN y w)
  by_cases h1 : x < y
  · have HC : Hid (cpI x y = -1) := hid (by unfold cpI; rw [if_pos h1])
    go_enter Tryz.func154, Tryz.ntmps154
    go_wp2_with fail
    refine HX.out.mono ?_
    rintro e w1 ⟨rfl, rfl⟩
    go_wp2_with fail
    refine HY.out.mono ?_
    rintro e w1 ⟨rfl, rfl⟩
    go_wp2
    go_ret
    exact ⟨by rw [HC.out]; rfl, rfl⟩
  · by_cases h2 : y < x
    · have HC : Hid (cpI x y = 1) := hid (by unfold cpI; rw [if_neg h1, if_pos h2])
      go_enter Tryz.func154, Tryz.ntmps154
      go_wp2_with fail
      refine HX.out.mono ?_
      rintro e w1 ⟨rfl, rfl⟩
      go_wp2_with fail
      refine HY.out.mono ?_
      rintro e w1 ⟨rfl, rfl⟩
      go_wp2
      go_ret
      exact ⟨by rw [HC.out]; rfl, rfl⟩
    · have HC : Hid (cpI x y = 0) := hid (by unfold cpI; rw [if_neg h1, if_neg h2])
      go_enter Tryz.func154, Tryz.ntmps154
      go_wp2_with fail
      refine HX.out.mono ?_
      rintro e w1 ⟨rfl, rfl⟩
      go_wp2_with fail
      refine HY.out.mono ?_
      rintro e w1 ⟨rfl, rfl⟩
      go_wp2
      go_ret
      exact ⟨by rw [HC.out]; rfl, rfl⟩
def orI (a b : Int) : Int := if a ≠ 0 then a else b
theorem cmp_Or (a b : Int) (bk of c : Nat) (w : World) (h0 : w.cell? ⟨bk, of, none⟩ = some (.int .i64 a)) (h1 : w.cell? ⟨bk, of + 1, none⟩ = some (.int .i64 b)) :
    Calls Tryz.prog 92 #[.slice (some ⟨bk, of, none⟩) 2 c] w fun e w' => e = .returned (.int .i64 (orI a b)) ∧ w = w' := by
  have HC : Hid (∀ k : Nat, k < 2 → w.cell? ⟨bk, of + k, none⟩ = some (.int .i64 (if k = 0 then a else b))) := hid (fun k hk => by
    match k, hk with
    | 0, _ => simpa using h0
    | 1, _ => simpa using h1)
  clear h0 h1
  go_enter Tryz.func92, Tryz.ntmps92
  go_wp2
  go_loop [8] (fun i => ∃ k : Nat, k ≤ 2 ∧ i = .int .i64 k ∧ ∀ j, j < k → (if j = 0 then a else b) = 0) (fun i => 2 - (intOf i).toNat)
  case atStart => exact ⟨0, by omega, rfl, by simp⟩
  case round =>
    obtain ⟨k, hk, rfl, hrel⟩ := hrel
    have HR := hid hrel
    clear hrel
    by_cases hlt : k < 2
    · have hc := HC.out k hlt
      obtain ⟨z, hz⟩ : ∃ z, (if k = 0 then a else b) = z := ⟨_, rfl⟩
      rw [hz] at hc
      have HZ := hid hz
      have y1 : (k : Int) < 2 := by omega
      clear hz
      cases h2 : (z != 0)
      · have HZ0 : Hid (z = 0) := hid (by simpa using h2)
        go_wp2
        go_round
        case rel =>
          refine ⟨k + 1, by omega, by go_num, fun j hj => ?_⟩
          by_cases e : j = k
          · rw [e, HZ.out, HZ0.out]
          · exact HR.out j (by omega)
        case measure => simp [intOf]; omega
      · have HA : Hid (orI a b = z) := hid (by
          unfold orI
          have hz0 : z ≠ 0 := by simpa using h2
          have := HZ.out
          by_cases e : k = 0
          · rw [if_pos e] at this
            rw [this, if_pos hz0]
          · rw [if_neg e] at this
            have h3 := HR.out 0 (by omega)
            rw [if_pos rfl] at h3
            rw [h3, if_neg (by simp), this])
        go_wp2
        go_ret
        exact ⟨by rw [HA.out]; rfl, rfl⟩
    · have HA : Hid (orI a b = 0) := hid (by
        unfold orI
        have h3 := HR.out 0 (by omega)
        have h4 := HR.out 1 (by omega)
        rw [if_pos rfl] at h3
        rw [if_neg (by omega)] at h4
        rw [h3, if_neg (by simp), h4])
      go_wp2
      go_ret
      exact ⟨by rw [HA.out]; rfl, rfl⟩
theorem lexL_drop {a b : List Int} : ∀ {k : Nat}, a.take k = b.take k → k ≤ a.length → k ≤ b.length → lexL (a.drop k) (b.drop k) = lexL a b
  | 0, _, _, _ => rfl
  | k + 1, h, h1, h2 => by
    have hk1 : k < a.length := by omega
    have hk2 : k < b.length := by omega
    rw [List.take_succ_eq_append_getElem hk1, List.take_succ_eq_append_getElem hk2] at h
    have h3 := List.append_inj h (by simp; omega)
    have e : a[k] = b[k] := by simpa using h3.2
    rw [← lexL_drop h3.1 (by omega) (by omega), List.drop_eq_getElem_cons hk1, List.drop_eq_getElem_cons hk2, lexL, e, if_neg (by omega), if_neg (by omega)]
theorem lexL_at {a b : List Int} {k : Nat} (h : a.take k = b.take k) (h1 : k < a.length) (h2 : k < b.length) (hc : cpI a[k] b[k] ≠ 0) : lexL a b = cpI a[k] b[k] := by
  rw [← lexL_drop h (by omega) (by omega), List.drop_eq_getElem_cons h1, List.drop_eq_getElem_cons h2, lexL]
  unfold cpI at hc ⊢
  split
  · rfl
  · split
    · rfl
    · rename_i h3 h4; rw [if_neg h3, if_neg h4] at hc; exact absurd rfl hc
theorem cpI_zero {x y : Int} (h : cpI x y = 0) : x = y := by
  unfold cpI at h
  split at h
  · simp at h
  · split at h
    · simp at h
    · omega
set_option maxHeartbeats 1000000 in
theorem sl_CompareT (va vb : Value) (a b : List Int) (w : World) (ha : Ints w va a) (hb : Ints w vb b) :
    Calls Tryz.prog 155 #[va, vb] w fun e w' => e = .returned (.int .i64 (lexL a b)) ∧ w = w' := by
  obtain ⟨aa, ac, rfl, h1, hl, h3, HC⟩ := ha.open
  obtain ⟨ba, bc, rfl, h1', hl', h3', HD⟩ := hb.open
  have HC' := hid HC
  have HD' := hid HD
  clear HC ha h3 HD hb h3'
  go_enter Tryz.func155, Tryz.ntmps155
  go_wp2
  go_loop [11] (fun i => ∃ k : Nat, k ≤ a.length ∧ k ≤ b.length ∧ i = .int .i64 k ∧ a.take k = b.take k) (fun i => a.length - (intOf i).toNat)
  case atStart => exact ⟨0, by omega, by omega, rfl, by simp⟩
  case round =>
    obtain ⟨k, hk, hkb, rfl, hrel⟩ := hrel
    have HR := hid hrel
    clear hrel
    by_cases hlt : k < a.length
    · obtain ⟨b1, o1, rfl, hcell⟩ := HC'.out k hlt
      by_cases hltb : k < b.length
      · obtain ⟨b2, o2, rfl, hcell'⟩ := HD'.out k hltb
        have y0 : (0 : Int) ≤ (k : Int) := by omega
        have y1 : (k : Int) < (a.length : Int) := by omega
        have y2 : (k : Int) < (b.length : Int) := by omega
        have HCC := hid (cmp_Compare a[k] b[k] w)
        obtain ⟨z, hz⟩ : ∃ z, cpI a[k] b[k] = z := ⟨_, rfl⟩
        rw [hz] at HCC
        cases h2 : (z != 0)
        · have HN : Hid (a.take (k + 1) = b.take (k + 1)) := hid (by
            have : a[k] = b[k] := cpI_zero (by rw [hz]; simpa using h2)
            rw [List.take_succ_eq_append_getElem hlt, List.take_succ_eq_append_getElem hltb, HR.out, this])
          clear hz
          go_wp2_with fail
          refine HCC.out.mono ?_
          rintro e w1 ⟨rfl, rfl⟩
          go_wp2
          go_round
          case rel => exact ⟨k + 1, by omega, by omega, by go_num, HN.out⟩
          case measure => simp [intOf]; omega
        · have HA : Hid (lexL a b = z) := hid (by rw [← hz]; exact lexL_at HR.out hlt hltb (by rw [hz]; simpa using h2))
          clear hz
          go_wp2_with fail
          refine HCC.out.mono ?_
          rintro e w1 ⟨rfl, rfl⟩
          go_wp2
          go_ret
          exact ⟨by rw [HA.out]; rfl, rfl⟩
      · have HA : Hid (lexL a b = 1) := hid (by
          rw [← lexL_drop HR.out (by omega) hkb, List.drop_eq_getElem_cons hlt, show b.drop k = [] from List.drop_eq_nil_of_le (by omega)]; rfl)
        have y2 : (b.length : Int) ≤ (k : Int) := by omega
        go_wp2
        go_ret
        exact ⟨by rw [HA.out]; rfl, rfl⟩
    · by_cases hltb : a.length < b.length
      · have HA : Hid (lexL a b = -1) := hid (by
          rw [← lexL_drop HR.out hk hkb, show a.drop k = [] from List.drop_eq_nil_of_le (by omega), List.drop_eq_getElem_cons (show k < b.length by omega)]; rfl)
        have y2 : (a.length : Int) < (b.length : Int) := by omega
        go_wp2
        go_ret
        exact ⟨by rw [HA.out]; rfl, rfl⟩
      · have HA : Hid (lexL a b = 0) := hid (by
          rw [← lexL_drop HR.out hk hkb, show a.drop k = [] from List.drop_eq_nil_of_le (by omega), show b.drop k = [] from List.drop_eq_nil_of_le (by omega)]; rfl)
        go_wp2
        go_ret
        exact ⟨by rw [HA.out]; rfl, rfl⟩
theorem cmpL_or (a b : List Int) : orI (cpI a.length b.length) (lexL a b) = cmpL a b := by
  unfold cmpL cpI orI
  by_cases h1 : a.length < b.length
  · rw [if_pos h1, if_pos (show (a.length : Int) < b.length by omega)]; rfl
  · by_cases h2 : b.length < a.length
    · rw [if_neg h1, if_pos h2, if_neg (show ¬ (a.length : Int) < b.length by omega), if_pos (show (b.length : Int) < a.length by omega)]; rfl
    · rw [if_neg h1, if_neg h2, if_neg (show ¬ (a.length : Int) < b.length by omega), if_neg (show ¬ (b.length : Int) < a.length by omega)]; rfl
theorem term_Compare (va vb : Value) (a b : List Int) (w : World) (ha : Ints w va a) (hb : Ints w vb b) :
    Calls Tryz.prog 99 #[va, vb] w fun e w' => e = .returned (.int .i64 (cmpL a b)) ∧ ∃ o, w.alloc o = w' := by
  have H1 := hid (cmp_Compare a.length b.length w)
  have H2 := hid (sl_CompareT va vb a b w ha hb)
  have HE := hid (cmpL_or a b)
  obtain ⟨aa, ac, rfl, -⟩ := ha.open
  obtain ⟨ba, bc, rfl, -⟩ := hb.open
  clear ha hb
  obtain ⟨x, hx⟩ : ∃ x, cpI a.length b.length = x := ⟨_, rfl⟩
  obtain ⟨y, hy⟩ : ∃ y, lexL a b = y := ⟨_, rfl⟩
  rw [hx] at H1 HE
  rw [hy] at H2 HE
  have HO := hid (cmp_Or x y w.heap.size 0 2 (w.alloc (.cells #[.int .i64 x, .int .i64 y] 3)) (by rw [World.cell?_alloc_new]; rfl) (by rw [World.cell?_alloc_new]; rfl))
  rw [HE.out] at HO
  clear hx hy HE
  go_enter Tryz.func99, Tryz.ntmps99
  go_wp2_with fail
  refine H1.out.mono ?_
  rintro e w1 ⟨rfl, rfl⟩
  go_wp2_with fail
  refine H2.out.mono ?_
  rintro e w1 ⟨rfl, rfl⟩
  go_wp2_with fail
  refine HO.out.mono ?_
  rintro e w1 ⟨rfl, rfl⟩
  go_wp2
  go_ret
  exact ⟨rfl, _, rfl⟩
end Go.Proofs.YtpflkjldapmgdaaGreat
namespace Go.Proofs.YtpflkjldapmgdaaGreat
open Go Go.RowKit Go.Maps
end Go.Proofs.YtpflkjldapmgdaaGreat
