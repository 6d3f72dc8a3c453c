/-
  WHAT IT HOLDS: contracts of the functions of package term on signs (within, letters, ValidSign), with the library's strings.ContainsFunc that they call. Conditions: the arguments read as data.
  WHAT IT HOLDS: the contract of ValidSign of package term. Conditions: the argument reads as data.
-/
import Derived.Lib.OthersKept
import Derived.Deep.LoopGhost
import Derived.Test.YtmpjaakkjhmpmaaGreatDoorZRShortCites2
namespace Go.Proofs.YtmpjaakkjhmpmaaGreatDoor
open Go Go.RowKit Go.Maps
theorem term_within (n lo hi : Int) (w : World) :
    Calls Tryz.prog 153 #[.int .i64 n, .int .i64 lo, .int .i64 hi] w fun e w' => e = .returned (.bool (inB n lo hi)) ∧ w = w' := by
  unfold inB
  by_cases h1 : lo ≤ n
  · by_cases h2 : n ≤ hi
    · go_enter Tryz.func153, Tryz.ntmps153
      go_wp2
      go_ret
      exact ⟨by simp [h1, h2], rfl⟩
    · go_enter Tryz.func153, Tryz.ntmps153
      go_wp2
      go_ret
      exact ⟨by simp [h1, h2], rfl⟩
  · go_enter Tryz.func153, Tryz.ntmps153
    go_wp2
    go_ret
    exact ⟨ret_bool (by simp; omega), rfl⟩

theorem term_letters1 (r : Nat) (w : World) (hr : r ≤ 1114111) :
    Calls Tryz.prog 207 #[.int .i32 (r : Int)] w fun e w' => e = .returned (.bool (!inB r 97 122 && !inB r 65 90)) ∧ w = w' := by
  cases h1 : inB r 97 122
  · cases h2 : inB r 65 90
    · go_enter Tryz.func207, Tryz.ntmps207
      go_wp2_with (first | (go_at_call 153; refine (term_within _ _ _ _).mono ?_; rintro e w' ⟨rfl, rfl⟩))
      go_ret
      exact ⟨rfl, rfl⟩
    · go_enter Tryz.func207, Tryz.ntmps207
      go_wp2_with (first | (go_at_call 153; refine (term_within _ _ _ _).mono ?_; rintro e w' ⟨rfl, rfl⟩))
      go_ret
      exact ⟨rfl, rfl⟩
  · go_enter Tryz.func207, Tryz.ntmps207
    go_wp2_with (first | (go_at_call 153; refine (term_within _ _ _ _).mono ?_; rintro e w' ⟨rfl, rfl⟩))
    go_ret
    exact ⟨rfl, rfl⟩

theorem decode_big (s : ByteArray) (pos : Nat) (h : pos < s.size) (hb : 128 ≤ (s[pos]'h).toNat) : 128 ≤ (Utf8.decode s pos).1 ∧ (Utf8.decode s pos).1 ≤ 1114111 := by
  have h0 : (s.get! (pos + 0)).toNat = (s[pos]'h).toNat := by
    have : s.get! pos = s[pos]'h := by
      simp [ByteArray.get!, ByteArray.getElem_eq_getElem_data, h]
    rw [Nat.add_zero, this]
  unfold Utf8.decode
  simp only [h0]
  rw [if_neg (by omega)]
  have hlt : (s[pos]'h).toNat < 256 := (s[pos]'h).toNat_lt
  have h1 : (s.get! (pos + 1)).toNat < 256 := (s.get! (pos + 1)).toNat_lt
  have h2 : (s.get! (pos + 2)).toNat < 256 := (s.get! (pos + 2)).toNat_lt
  have h3 : (s.get! (pos + 3)).toNat < 256 := (s.get! (pos + 3)).toNat_lt
  generalize (s.get! (pos + 1)).toNat = b1 at *
  generalize (s.get! (pos + 2)).toNat = b2 at *
  generalize (s.get! (pos + 3)).toNat = b3 at *
  generalize (s[pos]'h).toNat = b0 at *
  have e : Utf8.runeError = 65533 := rfl
  split
  · split
    · rename_i hc; dsimp only; omega
    · rw [e]; omega
  · split
    · split
      · rename_i hc; dsimp only; simp only [ge_iff_le, Bool.and_eq_true, decide_eq_true_eq] at hc; omega
      · rw [e]; omega
    · split
      · split
        · rename_i hc; dsimp only
          simp only [ge_iff_le, Bool.and_eq_true, decide_eq_true_eq, Utf8.valid] at hc
          simp at hc
          omega
        · rw [e]; omega
      · rw [e]; omega

set_option maxHeartbeats 1000000 in
theorem str_indexFunc (s : ByteArray) (w : World) (hs : s.size ≤ 1000) :
    Calls Tryz.prog 229 #[.string s, .func (.func 207) #[] #[], .bool true] w fun e w' => ∃ i : Int, e = .returned (.int .i64 i) ∧ ((0 ≤ i) ↔ s.data.toList.all letB = false) ∧ Below w.heap.size w w' := by
  go_enter Tryz.func229, Tryz.ntmps229
  go_wp2
  go_loopg [] s.size (fun gf wx => ∃ pos : Nat, wx.heap[w.heap.size]? = some (.stringIter s pos) ∧ Below w.heap.size w wx ∧ (s.data.toList.take pos).all letB = true ∧ s.size = pos + gf)
  case atStart => exact ⟨0, World.iter_heap w s 0, (Below.refl _ w).alloc (Nat.le_refl _) _, by simp, by omega⟩
  case round =>
    obtain ⟨pos, hit, hbw, hleft, hfu⟩ := hrel
    have HL := hid hleft
    clear hleft
    by_cases hps : pos < s.size
    · obtain ⟨g', rfl⟩ : ∃ g', gk = g' + 1 := ⟨gk - 1, by omega⟩
      have hnx : ∀ ty, (Instr.next (.pointer (some ⟨w.heap.size, 0, none⟩)) true ty).run Tryz.prog wr = _ := fun ty => Lib.run_next_any_at wr w.heap.size s pos ty hit hps
      by_cases hbig : (s[pos]'hps).toNat < 128
      · rw [decode_ascii s pos hps hbig] at hnx
        have hit2 := Lib.iterAt_heap wr w.heap.size s pos (pos + 1) hit
        have hbw2 := Lib.below_iterAt hbw (k := w.heap.size) (Nat.le_refl _) s (pos + 1)
        obtain ⟨W, hWd⟩ : ∃ W, wr.iterAt w.heap.size s (pos + 1) = W := ⟨_, rfl⟩
        rw [hWd] at hnx hit2 hbw2
        have hsn : s.data.toList.take (pos + 1) = s.data.toList.take pos ++ [s[pos]'hps] := by
          rw [List.take_succ_eq_append_getElem (by simpa using hps)]; rfl
        have HM : Hid (s[pos]'hps ∈ s.data.toList) := hid (List.getElem_mem (l := s.data.toList) (n := pos) (by simpa using hps))
        have HS := hid hsn
        clear hsn hWd
        have hlet : (!inB ((s[pos]'hps).toNat : Nat) 97 122 && !inB ((s[pos]'hps).toNat : Nat) 65 90) = !letB (s[pos]'hps) := by unfold letB; simp
        have cS := term_letters1 (s[pos]'hps).toNat W (by omega)
        rw [hlet] at cS
        clear hlet
        have CS := hid cS
        clear cS
        cases hl : letB (s[pos]'hps)
        · rw [hl] at CS
          go_wp2_with (go_at_call 207; refine CS.out.mono ?_; rintro e w' ⟨rfl, rfl⟩)
          go_ret
          refine ⟨_, rfl, ?_, hbw2⟩
          have : s.data.toList.all letB = false := by rw [List.all_eq_false]; exact ⟨_, HM.out, by rw [hl]; simp⟩
          rw [this]
          simp
        · rw [hl] at CS
          go_wp2_with (go_at_call 207; refine CS.out.mono ?_; rintro e w' ⟨rfl, rfl⟩)
          go_roundg g'
          case measure => omega
          case rel => exact ⟨pos + 1, hit2, hbw2, by rw [HS.out, List.all_append, HL.out]; simp [hl], by omega⟩
      · have hdb := decode_big s pos hps (by omega)
        have hit2 := Lib.iterAt_heap wr w.heap.size s pos (pos + (Utf8.decode s pos).2) hit
        have hbw2 := Lib.below_iterAt hbw (k := w.heap.size) (Nat.le_refl _) s (pos + (Utf8.decode s pos).2)
        obtain ⟨W, hWd⟩ : ∃ W, wr.iterAt w.heap.size s (pos + (Utf8.decode s pos).2) = W := ⟨_, rfl⟩
        rw [hWd] at hnx hit2 hbw2
        obtain ⟨R, hR⟩ : ∃ R, (Utf8.decode s pos).1 = R := ⟨_, rfl⟩
        rw [hR] at hnx hdb
        clear hWd hR
        have HM : Hid (s[pos]'hps ∈ s.data.toList) := hid (List.getElem_mem (l := s.data.toList) (n := pos) (by simpa using hps))
        have hlet : (!inB (R : Nat) 97 122 && !inB (R : Nat) 65 90) = true := by simp [inB]; omega
        have hl : letB (s[pos]'hps) = false := by
          unfold letB
          have h1 : inB ((s[pos]'hps).toNat : Int) 97 122 = false := inB_false.2 (by omega)
          have h2 : inB ((s[pos]'hps).toNat : Int) 65 90 = false := inB_false.2 (by omega)
          rw [h1, h2]; rfl
        have cS := term_letters1 R W (by omega)
        rw [hlet] at cS
        clear hlet
        have CS := hid cS
        have HL' := hid hl
        clear cS hl
        go_wp2_with (go_at_call 207; refine CS.out.mono ?_; rintro e w' ⟨rfl, rfl⟩)
        go_ret
        refine ⟨_, rfl, ?_, hbw2⟩
        have : s.data.toList.all letB = false := by rw [List.all_eq_false]; exact ⟨_, HM.out, by rw [HL'.out]; simp⟩
        rw [this]
        simp
    · have hnx : ∀ ty, (Instr.next (.pointer (some ⟨w.heap.size, 0, none⟩)) true ty).run Tryz.prog wr = _ := fun ty => Lib.run_next_end_at wr w.heap.size s pos ty hit hps
      go_wp2
      go_ret
      refine ⟨_, rfl, ?_, hbw⟩
      have : s.data.toList.all letB = true := by have := HL.out; rw [List.take_of_length_le (by simp; omega)] at this; exact this
      rw [this]
      simp

theorem str_IndexFunc (s : ByteArray) (w : World) (hs : s.size ≤ 1000) :
    Calls Tryz.prog 223 #[.string s, .func (.func 207) #[] #[]] w fun e w' => ∃ i : Int, e = .returned (.int .i64 i) ∧ ((0 ≤ i) ↔ s.data.toList.all letB = false) ∧ Below w.heap.size w w' := by
  go_enter Tryz.func223, Tryz.ntmps223
  go_wp2_with (go_at_call 229; refine (str_indexFunc _ _ hs).mono ?_; rintro e w' ⟨i, rfl, hi, hb⟩; have HI := hid hi; clear hi)
  go_ret
  exact ⟨_, rfl, by assumption, by assumption⟩
theorem str_ContainsFunc (s : ByteArray) (w : World) (hs : s.size ≤ 1000) :
    Calls Tryz.prog 206 #[.string s, .func (.func 207) #[] #[]] w fun e w' => e = .returned (.bool (!s.data.toList.all letB)) ∧ Below w.heap.size w w' := by
  go_enter Tryz.func206, Tryz.ntmps206
  go_wp2_with (go_at_call 223; refine (str_IndexFunc _ _ hs).mono ?_; rintro e w' ⟨i, rfl, hi, hb⟩; have HI := hid hi; clear hi)
  go_ret
  refine ⟨ret_bool ?_, by assumption⟩
  rw [Bool.eq_iff_iff]
  simp only [decide_eq_true_eq, Bool.not_eq_true']
  exact HI.out
theorem term_letters (s : ByteArray) (w : World) (hs : s.size ≤ 140737488355328) :
    Calls Tryz.prog 180 #[.string s] w fun e w' => e = .returned (.bool (nameB s)) ∧ Below w.heap.size w w' := by
  unfold nameB
  cases h1 : inB s.size 1 8
  · go_enter Tryz.func180, Tryz.ntmps180
    go_wp2_with (first | (go_at_call 153; refine (term_within _ _ _ _).mono ?_; rintro e w' ⟨rfl, rfl⟩))
    go_ret
    exact ⟨ret_bool (by simp), Below.refl _ _⟩
  · have := inB_true.1 h1
    go_enter Tryz.func180, Tryz.ntmps180
    go_wp2_with (first | (go_at_call 153; refine (term_within _ _ _ _).mono ?_; rintro e w' ⟨rfl, rfl⟩) | (go_at_call 206; refine (str_ContainsFunc _ _ (by omega)).mono ?_; rintro e w' ⟨rfl, hb⟩))
    go_ret
    exact ⟨ret_bool (by simp), by assumption⟩
end Go.Proofs.YtmpjaakkjhmpmaaGreatDoor
namespace Go.Proofs.YtmpjaakkjhmpmaaGreatDoor
open Go Go.RowKit Go.Maps
theorem ek_string_inj : ∀ x y : ByteArray, Value.string x = Value.string y → x = y := fun _ _ h => by cases h; rfl
theorem zero_bool (w : World) : (zeroValue 4).run Tryz.prog w = .ok (.bool false) w := by kernel_rfl
def metM (s : Sg) (k : Nat) : ByteArray → Option Bool := fun x => if (s.take k).any (fun y => decide (y.1 = x)) then some true else none
theorem metM_snoc (s : Sg) (k : Nat) (h : k < s.length) : (fun y => if y = s[k].1 then some true else metM s k y) = metM s (k + 1) := by
  funext y
  unfold metM
  rw [List.take_succ_eq_append_getElem h, List.any_append]
  by_cases h1 : y = s[k].1
  · subst h1; simp
  · have h2 : ¬ s[k].1 = y := fun e => h1 e.symm
    rw [if_neg h1, List.any_cons, decide_eq_false h2, List.any_nil, Bool.or_false, Bool.or_false]
theorem metM_yes {s : Sg} {k : Nat} {x : ByteArray} (h : (s.take k).all (fun y => decide (y.1 ≠ x)) = false) : metM s k x = some true := by
  unfold metM
  rw [List.all_eq_false] at h
  obtain ⟨y, hy, hne⟩ := h
  rw [if_pos]
  rw [List.any_eq_true]
  exact ⟨y, hy, by simpa using hne⟩
theorem metM_no {s : Sg} {k : Nat} {x : ByteArray} (h : (s.take k).all (fun y => decide (y.1 ≠ x)) = true) : metM s k x = none := by
  unfold metM
  rw [List.all_eq_true] at h
  rw [if_neg]
  intro h2
  rw [List.any_eq_true] at h2
  obtain ⟨y, hy, he⟩ := h2
  have := h y hy
  simp at this he
  exact this he

set_option maxHeartbeats 1000000 in
theorem term_ValidSign (v : Value) (s : Sg) (w : World) (hs : SignAt w v s) (hs1 : s.length ≤ 1000) :
    Calls Tryz.prog 146 #[v] w fun e w' => e = .returned (.bool (signB s)) ∧ Below w.heap.size w w' := by
  obtain ⟨a, cap, rfl, hlc, hl, h3, HC⟩ := hs.open
  have HC' := hid HC
  clear HC hs h3
  have hmm := @run_makeMap Tryz.prog
  go_enter Tryz.func146, Tryz.ntmps146
  go_wp2
  go_loopw [9] (fun i wr => ∃ k n : Nat, k ≤ s.length ∧ i = .int .i64 k ∧ MapK Tryz.prog 9 Value.string Value.bool wr w.heap.size n (metM s k) ∧ Below w.heap.size w wr ∧ w.heap.size < wr.heap.size ∧ ∀ j, j < k → symB s j = true) (fun i _ => s.length - (intOf i).toNat)
  case atStart =>
    refine ⟨0, 0, by omega, rfl, ?_, (Below.refl _ _).alloc (Nat.le_refl _) _, by simp, by simp⟩
    have := MapK.made Tryz.prog 9 Value.string Value.bool w
    rw [show metM s 0 = fun _ => none from funext fun x => by simp [metM]]
    exact this
  case round =>
    clear hmm
    obtain ⟨k, n, hk, rfl, hmap, hb, hsz, hrel⟩ := hrel
    have HR := hid hrel
    clear hrel
    by_cases hlt : k < s.length
    · obtain ⟨b, o, rfl, c10, c20, hnsz⟩ := HC'.out k hlt
      have c1 : wr.cell? ⟨b, o + k * 2, none⟩ = some (.string s[k].1) := (hb.cell (World.block_lt_of_cell? _ _ c10)).trans c10
      have c2 : wr.cell? ⟨b, o + k * 2 + 1, none⟩ = some (.int .i64 s[k].2) := (hb.cell (World.block_lt_of_cell? _ _ c20)).trans c20
      clear c10 c20
      cases h4 : nameB s[k].1
      · go_wp2_with (first | (go_at_call 180; refine (term_letters _ _ hnsz).mono ?_; rintro e w1 ⟨rfl, hb1⟩))
        go_ret
        refine ⟨ret_bool ?_, hb.trans (((Below.refl _ _).alloc (Nat.le_refl _) _).trans (hb1.mono (by simp)) |>.mono hb.size)⟩
        unfold signB
        rw [all_range_false hlt (by rw [symB_at hlt, h4]; rfl), Bool.and_false]
      · cases h5 : (s.take k).all (fun y => decide (y.1 ≠ s[k].1))
        · have HV := hid (metM_yes h5)
          have HF := hid (all_range_false hlt (by rw [symB_at hlt, h4, h5, Bool.and_false]))
          clear h5
          go_wp2_with (first | (go_at_call 180; refine (term_letters _ _ hnsz).mono ?_; rintro e w1 ⟨rfl, hb1⟩; obtain ⟨z1, z2⟩ := bcell hb1; have hz0 := z1 wr.heap.size; simp at hz0) | (at_lookup; refine wpList_lookup_mapK rfl _ _ 116 false rfl (string_keyed Tryz.underlying9) ek_string_inj Tryz.underlying116 (zero_bool _) rfl ((hmap.alloc _).belowS hb1) s[k].1 rfl (WideMaps.keyOf_string_mk Tryz.underlying9 (by unfold maxLen; omega)) (.bool true) (by rw [HV.out]; rfl) ?_))
          go_ret
          refine ⟨ret_bool ?_, hb.trans (((Below.refl _ _).alloc (Nat.le_refl _) _).trans (hb1.mono (by simp)) |>.mono hb.size)⟩
          unfold signB
          rw [HF.out, Bool.and_false]
        · have HV := hid (metM_no h5)
          cases h6 : inB s[k].2 0 3
          · have HF := hid (all_range_false hlt (by rw [symB_at hlt, h4, h5, h6]; rfl))
            clear h5
            go_wp2_with (first | (go_at_call 180; refine (term_letters _ _ hnsz).mono ?_; rintro e w1 ⟨rfl, hb1⟩; obtain ⟨z1, z2⟩ := bcell hb1; have hz0 := z1 wr.heap.size; simp at hz0) | (at_lookup; refine wpList_lookup_mapK rfl _ _ 116 false rfl (string_keyed Tryz.underlying9) ek_string_inj Tryz.underlying116 (zero_bool _) rfl ((hmap.alloc _).belowS hb1) s[k].1 rfl (WideMaps.keyOf_string_mk Tryz.underlying9 (by unfold maxLen; omega)) (.bool false) (by rw [HV.out]; rfl) ?_) | (go_at_call 153; refine (term_within _ _ _ _).mono ?_; rintro e w' ⟨rfl, rfl⟩))
            go_ret
            refine ⟨ret_bool ?_, hb.trans (((Below.refl _ _).alloc (Nat.le_refl _) _).trans (hb1.mono (by simp)) |>.mono hb.size)⟩
            unfold signB
            rw [HF.out, Bool.and_false]
          · have HS : Hid (symB s k = true) := hid (by rw [symB_at hlt, h4, h5, h6]; rfl)
            clear h5
            go_wp2_with (first | (go_at_call 180; refine (term_letters _ _ hnsz).mono ?_; rintro e w1 ⟨rfl, hb1⟩; obtain ⟨z1, z2⟩ := bcell hb1; have hz0 := z1 wr.heap.size; simp at hz0) | (at_lookup; refine wpList_lookup_mapK rfl _ _ 116 false rfl (string_keyed Tryz.underlying9) ek_string_inj Tryz.underlying116 (zero_bool _) rfl ((hmap.alloc _).belowS hb1) s[k].1 rfl (WideMaps.keyOf_string_mk Tryz.underlying9 (by unfold maxLen; omega)) (.bool false) (by rw [HV.out]; rfl) ?_) | (go_at_call 153; refine (term_within _ _ _ _).mono ?_; rintro e w' ⟨rfl, rfl⟩) | (at_mapUpdate; refine wpList_update_mapK rfl _ _ _ 116 rfl (string_keyed Tryz.underlying9) ek_string_inj Tryz.underlying116 rfl ((hmap.alloc _).belowS hb1) s[k].1 true rfl rfl (WideMaps.keyOf_string_mk Tryz.underlying9 (by unfold maxLen; omega)) ?_; intro w2 hmap2 hgrow2))
            go_roundw
            case rel =>
              rw [metM_snoc s k hlt] at hmap2
              have hB : Below w.heap.size w w2 := (hb.trans (((Below.refl _ _).alloc (Nat.le_refl _) _).trans (hb1.mono (by simp)) |>.mono hb.size)).grown hgrow2 (by have := hb1.size; simp at this; omega) (fun j h => by cases h; exact Nat.le_refl _)
              refine ⟨k + 1, _, by omega, by go_num, hmap2, hB, by have := hb1.size; have := hgrow2.size; simp at *; omega, fun q hq => ?_⟩
              by_cases hqk : q = k
              · rw [hqk]; exact HS.out
              · exact HR.out q (by omega)
            case measure => simp [intOf]; omega
    · have hall : (List.range s.length).all (symB s) = true := by
        rw [List.all_eq_true]
        intro j hj
        exact HR.out j (by have := List.mem_range.1 hj; omega)
      have HA := hid hall
      clear hall
      cases h7 : inB s.length 1 12
      · go_wp2_with (first | (go_at_call 153; refine (term_within _ _ _ _).mono ?_; rintro e w' ⟨rfl, rfl⟩))
        go_ret
        refine ⟨ret_bool ?_, hb⟩
        unfold signB
        rw [h7]; rfl
      · have h0 : 0 < s.length := by have := inB_true.1 h7; omega
        obtain ⟨b, o, rfl, c10, c20, _⟩ := HC'.out 0 h0
        have c2 : wr.cell? ⟨b, o + 1, none⟩ = some (.int .i64 s[0].2) := (hb.cell (World.block_lt_of_cell? _ _ (by simpa using c20))).trans (by simpa using c20)
        clear c10 c20
        go_wp2_with (first | (go_at_call 153; refine (term_within _ _ _ _).mono ?_; rintro e w' ⟨rfl, rfl⟩))
        go_ret
        refine ⟨ret_bool ?_, hb⟩
        unfold signB
        rw [h7, HA.out, List.getElem?_eq_getElem h0]
        simp
end Go.Proofs.YtmpjaakkjhmpmaaGreatDoor
