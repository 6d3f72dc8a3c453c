/-
  WHAT IT HOLDS: facts on the types of this translation, each reckoned by the kernel. No condition.
  WHAT IT HOLDS: contracts of the functions of package lemmaryref01 that the laws reach: each returns what the plain function says and changes no memory. Conditions: the arguments read as data.
  WHAT IT HOLDS: contracts of Same of the reference of layer 1 and of slices.Equal: whether two lists of numbers are equal. Conditions: the arguments read as data.
  WHAT IT HOLDS: contracts of the small loops of package lemmaryref01 (Has, SameInts, Same, AllValid): each returns what the plain function says and changes no memory. Conditions: the arguments read as data.
  WHAT IT HOLDS: contracts of functions of package lemmaryref05 that the law of With reaches. Conditions: the arguments read as data.
  WHAT IT HOLDS: contracts of cmp.Compare, cmp.Or, slices.Compare at int, and of Compare of package term. Conditions: the arguments read as data.
-/
import Derived.Test.YtmpjaakkjhmpmaaGreatDoorProg
import Derived.Test.YtmpjaakkjhmpmaaGreatDoorZRShortCites0
import Derived.Test.YtmpjaakkjhmpmaaGreatDoorZRShortCites1
namespace Go.Proofs.YtmpjaakkjhmpmaaGreatDoor
open Go Go.RowKit Go.Maps
theorem el_int : ElemAt Tryz.prog 3 (.int .i64 0) 1 8 := by unfold ElemAt; kernel_rfl
theorem el_bool : ElemAt Tryz.prog 4 (.bool false) 1 1 := by unfold ElemAt; kernel_rfl
theorem el_term : ElemAt Tryz.prog 34 (.slice none 0 0) 1 24 := by unfold ElemAt; kernel_rfl
end Go.Proofs.YtmpjaakkjhmpmaaGreatDoor
namespace Go.Proofs.YtmpjaakkjhmpmaaGreatDoor
open Go Go.RowKit Go.Maps
theorem ref1_within (n lo hi : Int) (w : World) :
    Calls Tryz.prog 137 #[.int .i64 n, .int .i64 lo, .int .i64 hi] w fun e w' => e = .returned (.bool (inB n lo hi)) ∧ w = w' := by
  unfold inB
  by_cases h1 : lo ≤ n
  · by_cases h2 : n ≤ hi
    · go_enter Tryz.func137, Tryz.ntmps137
      go_wp2
      go_ret
      exact ⟨by simp [h1, h2], rfl⟩
    · go_enter Tryz.func137, Tryz.ntmps137
      go_wp2
      go_ret
      exact ⟨by simp [h1, h2], rfl⟩
  · go_enter Tryz.func137, Tryz.ntmps137
    go_wp2
    go_ret
    exact ⟨ret_bool (by simp; omega), rfl⟩

theorem ref1_isName (s : ByteArray) (w : World) (hs : s.size ≤ 140737488355328) :
    Calls Tryz.prog 138 #[.string s] w fun e w' => e = .returned (.bool (nameB s)) ∧ w = w' := by
  go_enter Tryz.func138, Tryz.ntmps138
  go_wp2
  go_loop [3] (fun i => ∃ k : Nat, k ≤ s.size ∧ i = .int .i64 k ∧ (s.data.toList.take k).all letB = true) (fun i => s.size - (intOf i).toNat)
  case atStart => exact ⟨0, by omega, rfl, by simp⟩
  case round =>
    obtain ⟨k, hk, rfl, hrel⟩ := hrel
    have HR := hid hrel
    clear hrel
    by_cases hlt : k < s.size
    · have hby : ((s[k]'hlt).toNat : Int) ≤ 255 := by have := (s[k]'hlt).toNat_lt; omega
      have hsn : s.data.toList.take (k + 1) = s.data.toList.take k ++ [s[k]'hlt] := by
        rw [List.take_succ_eq_append_getElem (by simpa using hlt)]; rfl
      have hmem : s[k]'hlt ∈ s.data.toList := by
        have := List.getElem_mem (l := s.data.toList) (n := k) (by simpa using hlt); exact this
      have HS := hid hsn
      have HM := hid hmem
      clear hsn hmem
      have hlet : letB (s[k]'hlt) = (inB (s[k]'hlt).toNat 97 122 || inB (s[k]'hlt).toNat 65 90) := rfl
      have HL := hid hlet
      clear hlet
      cases h1 : inB ((s[k]'hlt).toNat : Int) 97 122
      · cases h2 : inB ((s[k]'hlt).toNat : Int) 65 90
        · go_wp2_with (go_at_call 137; refine (ref1_within _ _ _ _).mono ?_; rintro e w' ⟨rfl, rfl⟩)
          go_ret
          refine ⟨?_, rfl⟩
          have hf : nameB s = false := by
            unfold nameB
            have : s.data.toList.all letB = false := by
              rw [List.all_eq_false]
              exact ⟨_, HM.out, by rw [HL.out, h1, h2]; simp⟩
            rw [this]; rfl
          rw [hf]; rfl
        · go_wp2_with (go_at_call 137; refine (ref1_within _ _ _ _).mono ?_; rintro e w' ⟨rfl, rfl⟩)
          go_round
          case rel => exact ⟨k + 1, by omega, by go_num, by rw [HS.out, List.all_append, HR.out]; simp [HL.out, h2]⟩
          case measure => simp [intOf]; omega
      · go_wp2_with (go_at_call 137; refine (ref1_within _ _ _ _).mono ?_; rintro e w' ⟨rfl, rfl⟩)
        go_round
        case rel => exact ⟨k + 1, by omega, by go_num, by rw [HS.out, List.all_append, HR.out]; simp [HL.out, h1]⟩
        case measure => simp [intOf]; omega
    · have hks : k = s.size := by omega
      have hall : s.data.toList.all letB = true := by
        have := HR.out; rw [hks, List.take_of_length_le (by simp)] at this; exact this
      have HA := hid hall
      clear hall hks
      go_wp2_with (go_at_call 137; refine (ref1_within _ _ _ _).mono ?_; rintro e w' ⟨rfl, rfl⟩)
      go_ret
      exact ⟨by unfold nameB; rw [HA.out]; rfl, rfl⟩

theorem ref1_Arity (v : Value) (s : Sg) (n : Int) (w : World) (hs : SignAt w v s) (hn : n < s.length) :
    Calls Tryz.prog 163 #[v, .int .i64 n] w fun e w' => e = .returned (.int .i64 (arOf s n)) ∧ w = w' := by
  obtain ⟨a, cap, rfl, h1, h2, h3, HC⟩ := hs.open
  have HC' := hid HC
  clear HC hs
  by_cases hneg : n < 0
  · go_enter Tryz.func163, Tryz.ntmps163
    go_wp2
    go_ret
    exact ⟨ret_int (by simp [arOf, hneg]), rfl⟩
  · obtain ⟨k, rfl⟩ := Int.eq_ofNat_of_zero_le (show 0 ≤ n by omega)
    obtain ⟨b, o, rfl, c1, c2, _⟩ := HC'.out k (by omega)
    have hk : k < s.length := by omega
    go_enter Tryz.func163, Tryz.ntmps163
    go_wp2
    go_ret
    exact ⟨ret_int (by rw [arOf, if_neg (by omega)]; simp [hk]), rfl⟩

theorem signB_of {s : Sg} (h1 : inB s.length 1 12 = true) (h : 0 < s.length) (h2 : (s[0].2 == 2) = true) : signB s = (List.range s.length).all (symB s) := by
  unfold signB
  simp [h1, List.getElem?_eq_getElem h, h2]
theorem symB_at {s : Sg} {k : Nat} (h : k < s.length) : symB s k = (nameB s[k].1 && inB s[k].2 0 3 && (s.take k).all (fun y => decide (y.1 ≠ s[k].1))) := by
  unfold symB
  rw [List.getElem?_eq_getElem h]
theorem all_range_false {s : Sg} {k : Nat} (h : k < s.length) (h2 : symB s k = false) : (List.range s.length).all (symB s) = false := by
  rw [List.all_eq_false]
  exact ⟨k, by simp [h], by simp [h2]⟩
theorem bytes_eq (a b : ByteArray) : (a.toList == b.toList) = decide (a = b) := by
  rw [ByteArray.toList_eq, ByteArray.toList_eq, Bool.eq_iff_iff]
  simp only [beq_iff_eq, decide_eq_true_eq]
  exact ⟨WideShapes.bytes_inj, fun h => by rw [h]⟩

set_option maxHeartbeats 1000000 in
theorem ref1_ValidSign (v : Value) (s : Sg) (w : World) (hs : SignAt w v s) :
    Calls Tryz.prog 98 #[v] w fun e w' => e = .returned (.bool (signB s)) ∧ ∃ n, w' = w.drewN n := by
  obtain ⟨a, cap, rfl, hlc, hl, h3, HC⟩ := hs.open
  have HC' := hid HC
  clear HC hs h3
  cases h1 : inB s.length 1 12
  · have hf : signB s = false := by unfold signB; rw [h1]; rfl
    have HF := hid hf
    clear hf
    go_enter Tryz.func98, Tryz.ntmps98
    go_wp2_with (go_at_call 137; refine (ref1_within _ _ _ _).mono ?_; rintro e w' ⟨rfl, rfl⟩)
    go_ret
    exact ⟨ret_bool HF.out.symm, 0, rfl⟩
  · have h0 : 0 < s.length := by have := inB_true.1 h1; omega
    obtain ⟨b, o, rfl, c1, c2, _⟩ := HC'.out 0 h0
    have c2' : w.cell? ⟨b, o + 1, none⟩ = some (.int .i64 s[0].2) := by simpa using c2
    clear c1 c2
    cases h2 : (s[0].2 == 2)
    · have hf : signB s = false := by unfold signB; rw [List.getElem?_eq_getElem h0]; simp only [h2]; simp
      have HF := hid hf
      clear hf
      go_enter Tryz.func98, Tryz.ntmps98
      have h2' : (s[0].2 != 2) = true := by simp [bne, h2]
      go_wp2_with (go_at_call 137; refine (ref1_within _ _ _ _).mono ?_; rintro e w' ⟨rfl, rfl⟩)
      go_ret
      exact ⟨ret_bool HF.out.symm, 0, rfl⟩
    · have h2' : (s[0].2 != 2) = false := by simp [bne, h2]
      have HS := hid (signB_of h1 h0 h2)
      go_enter Tryz.func98, Tryz.ntmps98
      go_wp2_with (go_at_call 137; refine (ref1_within _ _ _ _).mono ?_; rintro e w' ⟨rfl, rfl⟩)
      go_loopw [3] (fun i wr => ∃ k m : Nat, k ≤ s.length ∧ i = .int .i64 k ∧ wr = w.drewN m ∧ ∀ j, j < k → symB s j = true) (fun i _ => s.length - (intOf i).toNat)
      case atStart => exact ⟨0, 0, by omega, rfl, rfl, by simp⟩
      case round =>
        obtain ⟨k, m, hk, rfl, rfl, hrel⟩ := hrel
        have HR := hid hrel
        clear hrel
        by_cases hlt : k < s.length
        · obtain ⟨b', o', hbo, c3, c4, hsz⟩ := HC'.out k hlt
          cases hbo
          cases h4 : nameB s[k].1
          · have HF := hid (all_range_false hlt (by rw [symB_at hlt, h4]; rfl))
            go_wp2_with (first | (go_at_call 138; refine (ref1_isName _ _ hsz).mono ?_; rintro e w' ⟨rfl, rfl⟩) | (go_at_call 137; refine (ref1_within _ _ _ _).mono ?_; rintro e w' ⟨rfl, rfl⟩))
            go_ret
            exact ⟨ret_bool (by rw [HS.out, HF.out]), m, rfl⟩
          · cases h5 : inB s[k].2 0 3
            · have HF := hid (all_range_false hlt (by rw [symB_at hlt, h4, h5]; rfl))
              go_wp2_with (first | (go_at_call 138; refine (ref1_isName _ _ hsz).mono ?_; rintro e w' ⟨rfl, rfl⟩) | (go_at_call 137; refine (ref1_within _ _ _ _).mono ?_; rintro e w' ⟨rfl, rfl⟩))
              go_ret
              exact ⟨ret_bool (by rw [HS.out, HF.out]), m, rfl⟩
            · go_wp2_with (first | (go_at_call 138; refine (ref1_isName _ _ hsz).mono ?_; rintro e w' ⟨rfl, rfl⟩) | (go_at_call 137; refine (ref1_within _ _ _ _).mono ?_; rintro e w' ⟨rfl, rfl⟩))
              go_loopw [4] (fun i wr => ∃ j m : Nat, j ≤ k ∧ i = .int .i64 j ∧ wr = w.drewN m ∧ ∀ y ∈ s.take j, y.1 ≠ s[k].1) (fun i _ => k - (intOf i).toNat)
              case atStart => exact ⟨0, m, by omega, rfl, rfl, by simp⟩
              case round =>
                obtain ⟨j, m', hj, rfl, rfl, hrel⟩ := hrel
                have HR' := hid hrel
                clear hrel
                by_cases hjk : j < k
                · obtain ⟨b'', o'', hbo, c5, c6, _⟩ := HC'.out j (by omega)
                  cases hbo
                  have hjl : j < s.length := by omega
                  cases h6 : (s[j].1.toList == s[k].1.toList)
                  · go_wp2
                    go_quiet (fail)
                    go_wp2
                    go_roundw
                    case rel =>
                      refine ⟨j + 1, _, by omega, by go_num, rfl, ?_⟩
                      rw [List.take_succ_eq_append_getElem hjl]
                      intro y hy
                      rcases List.mem_append.1 hy with hy | hy
                      · exact HR'.out y hy
                      · rw [List.mem_singleton.1 hy]
                        rw [bytes_eq] at h6
                        simpa using h6
                    case measure => simp [intOf]; omega
                  · have HF := hid (all_range_false hlt (by
                      rw [symB_at hlt, h4, h5]
                      simp only [Bool.true_and]
                      rw [List.all_eq_false]
                      refine ⟨s[j], List.mem_take_iff_getElem.2 ⟨j, by omega, rfl⟩, ?_⟩
                      rw [bytes_eq] at h6
                      simpa using h6))
                    go_wp2
                    go_quiet (fail)
                    go_wp2
                    go_ret
                    exact ⟨ret_bool (by rw [HS.out, HF.out]), _, World.drewN_drewN _ _ _⟩
                · have hjk' : j = k := by omega
                  have HS' : Hid (symB s k = true) := by
                    apply hid
                    rw [symB_at hlt, h4, h5]
                    simp only [Bool.true_and]
                    rw [List.all_eq_true]
                    intro y hy
                    have := HR'.out y (by rw [hjk']; exact hy)
                    simpa using this
                  clear hjk'
                  go_wp2
                  go_roundw
                  case rel =>
                    refine ⟨k + 1, _, by omega, by go_num, rfl, fun q hq => ?_⟩
                    by_cases hqk : q = k
                    · rw [hqk]; exact HS'.out
                    · exact HR.out q (by omega)
                  case measure => simp [intOf]; omega
        · have HF : Hid ((List.range s.length).all (symB s) = true) := by
            apply hid
            rw [List.all_eq_true]
            intro j hj
            exact HR.out j (by have := List.mem_range.1 hj; omega)
          go_wp2
          go_ret
          exact ⟨ret_bool (by rw [HS.out, HF.out]), m, rfl⟩

theorem termB_false1 {s : Sg} {t : List Int} (h : signB s = false) : termB s t = false := by unfold termB; rw [h]; rfl
theorem termB_false2 {s : Sg} {t : List Int} (h : inB t.length 1 60 = false) : termB s t = false := by unfold termB; rw [h]; simp
theorem termB_of {s : Sg} {t : List Int} (h1 : signB s = true) (h2 : inB t.length 1 60 = true) : termB s t = needB s t 1 := by unfold termB; rw [h1, h2]; rfl
theorem signB_ar {s : Sg} (h : signB s = true) (n : Int) : 0 ≤ arOf s n ∧ arOf s n ≤ 3 := by
  unfold signB at h
  simp only [Bool.and_eq_true] at h
  have h3 := h.2
  rw [List.all_eq_true] at h3
  unfold arOf
  split
  · omega
  · split
    · rename_i x hx
      have hlt : n.toNat < s.length := (List.getElem?_eq_some_iff.1 hx).1
      have := h3 n.toNat (by simpa using hlt)
      unfold symB at this
      rw [hx] at this
      simp only [Bool.and_eq_true] at this
      exact inB_true.1 this.1.2
    · omega
theorem signB_len {s : Sg} (h : signB s = true) : 1 ≤ s.length ∧ s.length ≤ 12 := by
  unfold signB at h
  simp only [Bool.and_eq_true] at h
  have := inB_true.1 h.1.1
  omega

set_option maxHeartbeats 1000000 in
theorem ref1_Valid (v vt : Value) (s : Sg) (t : List Int) (w : World) (hs : SignAt w v s) (ht : Ints w vt t) :
    Calls Tryz.prog 127 #[v, vt] w fun e w' => e = .returned (.bool (termB s t)) ∧ ∃ n, w' = w.drewN n := by
  obtain ⟨a, cap, rfl, hlc, hl, h3, HC⟩ := ht.open
  have HC' := hid HC
  clear HC h3
  have HT := hid ht
  clear ht
  cases h1 : signB s
  · have HF := hid (termB_false1 (t := t) h1)
    go_enter Tryz.func127, Tryz.ntmps127
    go_wp2_with (first | (go_at_call 98; refine (ref1_ValidSign _ _ _ hs).mono ?_; rintro e w' ⟨rfl, m0, rfl⟩))
    go_ret
    exact ⟨ret_bool HF.out.symm, m0, rfl⟩
  · cases h2 : inB t.length 1 60
    · have HF := hid (termB_false2 (s := s) h2)
      go_enter Tryz.func127, Tryz.ntmps127
      go_wp2_with (first | (go_at_call 98; refine (ref1_ValidSign _ _ _ hs).mono ?_; rintro e w' ⟨rfl, m0, rfl⟩) | (go_at_call 137; refine (ref1_within _ _ _ _).mono ?_; rintro e w' ⟨rfl, rfl⟩))
      go_ret
      exact ⟨ret_bool HF.out.symm, m0, rfl⟩
    · have HF := hid (termB_of h1 h2)
      have hsl := signB_len h1
      have har := signB_ar h1
      have HAR := hid har
      clear har
      obtain ⟨sa, scap, hsv, _⟩ := hs.open
      subst hsv
      have hlen := inB_true.1 h2
      go_enter Tryz.func127, Tryz.ntmps127
      go_wp2_with (first | (go_at_call 98; refine (ref1_ValidSign _ _ _ hs).mono ?_; rintro e w' ⟨rfl, m0, rfl⟩) | (go_at_call 137; refine (ref1_within _ _ _ _).mono ?_; rintro e w' ⟨rfl, rfl⟩))
      have hs' := hs.drewN m0
      go_loop [5, 6] (fun nd i => ∃ (k : Nat) (q : Int), k ≤ t.length ∧ i = .int .i64 k ∧ nd = .int .i64 q ∧ q ≤ 3 * k + 1 ∧ -(k : Int) ≤ q ∧ needB s t 1 = needB s (t.drop k) q) (fun _ i => t.length - (intOf i).toNat)
      case atStart => exact ⟨0, 1, by omega, rfl, rfl, by omega, by omega, by simp⟩
      case round =>
        obtain ⟨k, q, hk, rfl, rfl, hq1, hq2, hrel⟩ := hrel
        have HR := hid hrel
        clear hrel
        by_cases hlt : k < t.length
        · obtain ⟨b, o, rfl, hcell⟩ := HC'.out k hlt
          have hdr : needB s (t.drop k) q = (!(q == 0) && inB t[k] (-12) (s.length - 1) && needB s (t.drop (k + 1)) (q - 1 + arOf s t[k])) := by
            rw [List.drop_eq_getElem_cons hlt]; rfl
          have HD := hid hdr
          clear hdr
          have ha := HAR.out t[k]
          cases h5 : (q == 0)
          · cases h6 : inB t[k] (-12) (s.length - 1)
            · have HN : Hid (termB s t = false) := hid (by rw [HF.out, HR.out, HD.out, h5, h6]; rfl)
              go_wp2_with (first | (go_at_call 137; refine (ref1_within _ _ _ _).mono ?_; rintro e w' ⟨rfl, rfl⟩))
              go_ret
              exact ⟨ret_bool HN.out.symm, m0, rfl⟩
            · have h7 := inB_true.1 h6
              go_wp2_with (first | (go_at_call 137; refine (ref1_within _ _ _ _).mono ?_; rintro e w' ⟨rfl, rfl⟩) | (go_at_call 163; refine (ref1_Arity _ _ _ _ hs' (by omega)).mono ?_; rintro e w' ⟨rfl, rfl⟩))
              go_round
              case rel => exact ⟨k + 1, _, by omega, by go_num, rfl, by omega, by omega, by rw [HR.out, HD.out, h5, h6]; rfl⟩
              case measure => simp [intOf]; omega
          · have HN : Hid (termB s t = false) := hid (by rw [HF.out, HR.out, HD.out, h5]; rfl)
            go_wp2_with (first | (go_at_call 137; refine (ref1_within _ _ _ _).mono ?_; rintro e w' ⟨rfl, rfl⟩))
            go_ret
            exact ⟨ret_bool HN.out.symm, m0, rfl⟩
        · have HN : Hid (termB s t = (q == 0)) := hid (by rw [HF.out, HR.out, List.drop_of_length_le (by omega)]; rfl)
          go_wp2
          go_ret
          exact ⟨ret_bool HN.out.symm, m0, rfl⟩

end Go.Proofs.YtmpjaakkjhmpmaaGreatDoor
namespace Go.Proofs.YtmpjaakkjhmpmaaGreatDoor
open Go Go.RowKit Go.Maps
set_option maxHeartbeats 400000 in
theorem ref1_Same (v u : Value) (l m : List Int) (w : World) (hv : Ints w v l) (hu : Ints w u m) :
    Calls Tryz.prog 129 #[v, u] w fun e w' => e = .returned (.bool (decide (l = m))) ∧ ∃ n, w' = w.drewN n := by
  obtain ⟨a, cap, rfl, h1, hl, h3, HC⟩ := hv.open
  obtain ⟨a', cap', rfl, h1', hl', h3', HD⟩ := hu.open
  have HC' := hid HC
  have HD' := hid HD
  clear HC hv h3 HD hu h3'
  by_cases hlen : l.length = m.length
  · have hne : (((l.length : Nat) : Int) != (m.length : Int)) = false := by simp [hlen]
    have HL := hid hlen
    clear hlen
    go_enter Tryz.func129, Tryz.ntmps129
    go_wp2
    go_loopw [5] (fun i wr => ∃ k q : Nat, k ≤ l.length ∧ i = .int .i64 k ∧ wr = w.drewN q ∧ l.take k = m.take k) (fun i _ => l.length - (intOf i).toNat)
    case atStart => exact ⟨0, 0, by omega, rfl, rfl, by simp⟩
    case round =>
      obtain ⟨k, q, hk, rfl, rfl, hrel⟩ := hrel
      have HR := hid hrel
      clear hrel
      by_cases hlt : k < l.length
      · obtain ⟨b, o, rfl, hcell⟩ := HC'.out k hlt
        have hlt' : k < m.length := by have := HL.out; omega
        obtain ⟨b', o', rfl, hcell'⟩ := HD'.out k hlt'
        cases h2 : (l[k] != m[k])
        · go_wp2
          go_quiet (fail)
          go_wp2
          go_roundw
          case rel =>
            refine ⟨k + 1, _, by omega, by go_num, (by first | rfl | exact World.drewN_drewN _ _ _), ?_⟩
            rw [List.take_succ_eq_append_getElem hlt, List.take_succ_eq_append_getElem hlt', HR.out]
            have : l[k] = m[k] := by simpa [bne] using h2
            rw [this]
          case measure => simp [intOf]; omega
        · have HM : Hid (l ≠ m) := hid (by intro e; subst e; simp at h2)
          go_wp2
          go_quiet (fail)
          go_wp2
          go_ret
          exact ⟨ret_bool (decide_eq_false HM.out).symm, _, (by first | rfl | exact World.drewN_drewN _ _ _)⟩
      · have HM : Hid (l = m) := hid (by have := HR.out; have h9 := HL.out; rw [List.take_of_length_le (by omega), List.take_of_length_le (by omega)] at this; exact this)
        go_wp2
        go_ret
        exact ⟨ret_bool (decide_eq_true HM.out).symm, q, rfl⟩
  · have hne : (((l.length : Nat) : Int) != (m.length : Int)) = true := by simp [bne]; omega
    have HM : Hid (l ≠ m) := hid (by intro e; subst e; exact hlen rfl)
    clear hlen
    go_enter Tryz.func129, Tryz.ntmps129
    go_wp2
    go_ret
    exact ⟨ret_bool (decide_eq_false HM.out).symm, 0, rfl⟩

set_option maxHeartbeats 400000 in
theorem sl_EqualT (v u : Value) (l m : List Int) (w : World) (hv : Ints w v l) (hu : Ints w u m) :
    Calls Tryz.prog 159 #[v, u] w fun e w' => e = .returned (.bool (decide (l = m))) ∧ ∃ n, w' = w.drewN n := by
  obtain ⟨a, cap, rfl, h1, hl, h3, HC⟩ := hv.open
  obtain ⟨a', cap', rfl, h1', hl', h3', HD⟩ := hu.open
  have HC' := hid HC
  have HD' := hid HD
  clear HC hv h3 HD hu h3'
  by_cases hlen : l.length = m.length
  · have hne : (((l.length : Nat) : Int) != (m.length : Int)) = false := by simp [hlen]
    have HL := hid hlen
    clear hlen
    go_enter Tryz.func159, Tryz.ntmps159
    go_wp2
    go_loopw [13] (fun i wr => ∃ k q : Nat, k ≤ l.length ∧ i = .int .i64 k ∧ wr = w.drewN q ∧ l.take k = m.take k) (fun i _ => l.length - (intOf i).toNat)
    case atStart => exact ⟨0, 0, by omega, rfl, rfl, by simp⟩
    case round =>
      obtain ⟨k, q, hk, rfl, rfl, hrel⟩ := hrel
      have HR := hid hrel
      clear hrel
      by_cases hlt : k < l.length
      · obtain ⟨b, o, rfl, hcell⟩ := HC'.out k hlt
        have hlt' : k < m.length := by have := HL.out; omega
        obtain ⟨b', o', rfl, hcell'⟩ := HD'.out k hlt'
        cases h2 : (l[k] != m[k])
        · go_wp2
          go_quiet (fail)
          go_wp2
          go_roundw
          case rel =>
            refine ⟨k + 1, _, by omega, by go_num, (by first | rfl | exact World.drewN_drewN _ _ _), ?_⟩
            rw [List.take_succ_eq_append_getElem hlt, List.take_succ_eq_append_getElem hlt', HR.out]
            have : l[k] = m[k] := by simpa [bne] using h2
            rw [this]
          case measure => simp [intOf]; omega
        · have HM : Hid (l ≠ m) := hid (by intro e; subst e; simp at h2)
          go_wp2
          go_quiet (fail)
          go_wp2
          go_ret
          exact ⟨ret_bool (decide_eq_false HM.out).symm, _, (by first | rfl | exact World.drewN_drewN _ _ _)⟩
      · have HM : Hid (l = m) := hid (by have := HR.out; have h9 := HL.out; rw [List.take_of_length_le (by omega), List.take_of_length_le (by omega)] at this; exact this)
        go_wp2
        go_ret
        exact ⟨ret_bool (decide_eq_true HM.out).symm, q, rfl⟩
  · have hne : (((l.length : Nat) : Int) != (m.length : Int)) = true := by simp [bne]; omega
    have HM : Hid (l ≠ m) := hid (by intro e; subst e; exact hlen rfl)
    clear hlen
    go_enter Tryz.func159, Tryz.ntmps159
    go_wp2
    go_ret
    exact ⟨ret_bool (decide_eq_false HM.out).symm, 0, rfl⟩

end Go.Proofs.YtmpjaakkjhmpmaaGreatDoor
namespace Go.Proofs.YtmpjaakkjhmpmaaGreatDoor
open Go Go.RowKit Go.Maps
theorem ref1_Has (v : Value) (l : List Int) (n : Int) (w : World) (hv : Ints w v l) :
    Calls Tryz.prog 217 #[v, .int .i64 n] w fun e w' => e = .returned (.bool (decide (n ∈ l))) ∧ w = w' := by
  obtain ⟨a, cap, rfl, h1, hl, h3, HC⟩ := hv.open
  have HC' := hid HC
  clear HC hv h3
  go_enter Tryz.func217, Tryz.ntmps217
  go_wp2
  go_loop [5] (fun i => ∃ k : Nat, k ≤ l.length ∧ i = .int .i64 k ∧ n ∉ l.take k) (fun i => l.length - (intOf i).toNat)
  case atStart => exact ⟨0, by omega, rfl, by simp⟩
  case round =>
    obtain ⟨k, hk, rfl, hrel⟩ := hrel
    have HR := hid hrel
    clear hrel
    by_cases hlt : k < l.length
    · obtain ⟨b, o, rfl, hcell⟩ := HC'.out k hlt
      cases h2 : (l[k] == n)
      · go_wp2
        go_round
        case rel =>
          refine ⟨k + 1, by omega, by go_num, ?_⟩
          rw [List.take_succ_eq_append_getElem hlt]
          intro hm
          rcases List.mem_append.1 hm with hm | hm
          · exact HR.out hm
          · have := List.mem_singleton.1 hm
            simp [this] at h2
        case measure => simp [intOf]; omega
      · have HM : Hid (n ∈ l) := hid (by have := List.getElem_mem hlt; rw [eq_of_beq h2] at this; exact this)
        go_wp2
        go_ret
        exact ⟨ret_bool (decide_eq_true HM.out).symm, rfl⟩
    · have HM : Hid (n ∉ l) := hid (by have := HR.out; rw [List.take_of_length_le (by omega)] at this; exact this)
      go_wp2
      go_ret
      exact ⟨ret_bool (decide_eq_false HM.out).symm, rfl⟩

set_option maxHeartbeats 400000 in
theorem ref1_AllValid (v vl : Value) (s : Sg) (l : List (List Int)) (w : World) (hs : SignAt w v s) (hv : Terms w vl l) :
    Calls Tryz.prog 140 #[v, vl] w fun e w' => e = .returned (.bool (allB s l)) ∧ ∃ n, w' = w.drewN n := by
  obtain ⟨a, cap, rfl, h1, hl, h3, HC⟩ := hv.open
  have HC' := hid HC
  clear HC hv h3
  go_enter Tryz.func140, Tryz.ntmps140
  go_wp2
  go_loopw [5] (fun i wr => ∃ k q : Nat, k ≤ l.length ∧ i = .int .i64 k ∧ wr = w.drewN q ∧ (l.take k).all (termB s) = true) (fun i _ => l.length - (intOf i).toNat)
  case atStart => exact ⟨0, 0, by omega, rfl, rfl, by simp⟩
  case round =>
    obtain ⟨k, q, hk, rfl, rfl, hrel⟩ := hrel
    have HR := hid hrel
    clear hrel
    by_cases hlt : k < l.length
    · obtain ⟨b, o, u, rfl, hcell, hu⟩ := HC'.out k hlt
      obtain ⟨ua, ucap, hue, _⟩ := hu.open
      subst hue
      have hs' := hs.drewN q
      have hu' := hu.drewN q
      cases h2 : termB s l[k]
      · have HM : Hid (allB s l = false) := hid (by unfold allB; rw [List.all_eq_false]; exact ⟨l[k], List.getElem_mem hlt, by simp [h2]⟩)
        go_wp2_with (go_at_call 127; refine (ref1_Valid _ _ _ _ _ hs' hu').mono ?_; rintro e w' ⟨rfl, m0, rfl⟩)
        go_ret
        exact ⟨ret_bool HM.out.symm, _, (by first | rfl | exact World.drewN_drewN _ _ _)⟩
      · go_wp2_with (go_at_call 127; refine (ref1_Valid _ _ _ _ _ hs' hu').mono ?_; rintro e w' ⟨rfl, m0, rfl⟩)
        go_roundw
        case rel =>
          refine ⟨k + 1, _, by omega, by go_num, (by first | rfl | exact World.drewN_drewN _ _ _), ?_⟩
          rw [List.take_succ_eq_append_getElem hlt, List.all_append, HR.out]
          simp [h2]
        case measure => simp [intOf]; omega
    · have HM : Hid (allB s l = true) := hid (by have := HR.out; rw [List.take_of_length_le (by omega)] at this; exact this)
      go_wp2
      go_ret
      exact ⟨ret_bool HM.out.symm, q, rfl⟩

end Go.Proofs.YtmpjaakkjhmpmaaGreatDoor
namespace Go.Proofs.YtmpjaakkjhmpmaaGreatDoor
open Go Go.RowKit Go.Maps
end Go.Proofs.YtmpjaakkjhmpmaaGreatDoor
namespace Go.Proofs.YtmpjaakkjhmpmaaGreatDoor
open Go Go.RowKit Go.Maps
end Go.Proofs.YtmpjaakkjhmpmaaGreatDoor
