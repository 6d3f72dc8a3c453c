/-
  WHAT IT HOLDS: the contract of ValidSign of package term. Conditions: the argument reads as data.
-/
import Derived.Test.YtcpbpamnhdnanaaZRTopDetachedInstances12
namespace Go.Proofs.Ytcpbpamnhdnanaa
open Go Go.RowKit Go.Maps
theorem ek_string_inj : ∀ x y : ByteArray, Value.string x = Value.string y → x = y := fun _ _ h => by cases h; rfl
theorem ek_int_inj : ∀ x y : Int, Value.int .i64 x = Value.int .i64 y → x = y := fun _ _ h => by cases h; rfl
theorem zero_bool (w : World) : (zeroValue 4).run Try.prog w = .ok (.bool false) w := by kernel_rfl
def metM (s : Sg) (k : Nat) : ByteArray → Option Bool := fun x => if (s.take k).any (fun y => decide (y.1 = x)) then some true else none
theorem metM_snoc (s : Sg) (k : Nat) (h : k < s.length) : (fun y => if y = s[k].1 then some true else metM s k y) = metM s (k + 1) := by
  funext y
  unfold metM
  rw [List.take_succ_eq_append_getElem h, List.any_append]
  by_cases h1 : y = s[k].1
  · subst h1; simp
  · have h2 : ¬ s[k].1 = y := fun e => h1 e.symm
    rw [if_neg h1, List.any_cons, decide_eq_false h2, List.any_nil, Bool.or_false, Bool.or_false]
theorem metM_yes {s : Sg} {k : Nat} {x : ByteArray} (h : (s.take k).all (fun y => decide (y.1 ≠ x)) = false) : metM s k x = some true := by
  unfold metM
  rw [List.all_eq_false] at h
  obtain ⟨y, hy, hne⟩ := h
  rw [if_pos]
  rw [List.any_eq_true]
  exact ⟨y, hy, by simpa using hne⟩
theorem metM_no {s : Sg} {k : Nat} {x : ByteArray} (h : (s.take k).all (fun y => decide (y.1 ≠ x)) = true) : metM s k x = none := by
  unfold metM
  rw [List.all_eq_true] at h
  rw [if_neg]
  intro h2
  rw [List.any_eq_true] at h2
  obtain ⟨y, hy, he⟩ := h2
  have := h y hy
  simp at this he
  exact this he

set_option maxHeartbeats 1000000 in
theorem term_ValidSign (v : Value) (s : Sg) (w : World) (hs : SignAt w v s) (hs1 : s.length ≤ 1000) :
    Calls Try.prog 38 #[v] w fun e w' => e = .returned (.bool (signB s)) ∧ Below w.heap.size w w' := by
  obtain ⟨a, cap, rfl, hlc, hl, h3, HC⟩ := hs.open
  have HC' := hid HC
  clear HC hs h3
  have hmm := @run_makeMap Try.prog
  go_enter Try.func38, Try.ntmps38
  go_wp2
  go_loopw [9] (fun i wr => ∃ k n : Nat, k ≤ s.length ∧ i = .int .i64 k ∧ MapK Try.prog 9 Value.string Value.bool wr w.heap.size n (metM s k) ∧ Below w.heap.size w wr ∧ w.heap.size < wr.heap.size ∧ ∀ j, j < k → symB s j = true) (fun i _ => s.length - (intOf i).toNat)
  case atStart =>
    refine ⟨0, 0, by omega, rfl, ?_, (Below.refl _ _).alloc (Nat.le_refl _) _, by simp, by simp⟩
    have := MapK.made Try.prog 9 Value.string Value.bool w
    rw [show metM s 0 = fun _ => none from funext fun x => by simp [metM]]
    exact this
  case round =>
    clear hmm
    obtain ⟨k, n, hk, rfl, hmap, hb, hsz, hrel⟩ := hrel
    have HR := hid hrel
    clear hrel
    by_cases hlt : k < s.length
    · obtain ⟨b, o, rfl, c10, c20, hnsz⟩ := HC'.out k hlt
      have c1 : wr.cell? ⟨b, o + k * 2, none⟩ = some (.string s[k].1) := (hb.cell (World.block_lt_of_cell? _ _ c10)).trans c10
      have c2 : wr.cell? ⟨b, o + k * 2 + 1, none⟩ = some (.int .i64 s[k].2) := (hb.cell (World.block_lt_of_cell? _ _ c20)).trans c20
      clear c10 c20
      cases h4 : nameB s[k].1
      · go_wp2_with (first | (go_at_call 56; refine (term_letters _ _ hnsz).mono ?_; rintro e w1 ⟨rfl, hb1⟩))
        go_ret
        refine ⟨ret_bool ?_, hb.trans (((Below.refl _ _).alloc (Nat.le_refl _) _).trans (hb1.mono (by simp)) |>.mono hb.size)⟩
        unfold signB
        rw [all_range_false hlt (by rw [symB_at hlt, h4]; rfl), Bool.and_false]
      · cases h5 : (s.take k).all (fun y => decide (y.1 ≠ s[k].1))
        · have HV := hid (metM_yes h5)
          have HF := hid (all_range_false hlt (by rw [symB_at hlt, h4, h5, Bool.and_false]))
          clear h5
          go_wp2_with (first | (go_at_call 56; refine (term_letters _ _ hnsz).mono ?_; rintro e w1 ⟨rfl, hb1⟩; obtain ⟨z1, z2⟩ := bcell hb1; have hz0 := z1 wr.heap.size; simp at hz0) | (at_lookup; refine wpList_lookup_mapK rfl _ _ 99 false rfl (string_keyed Try.underlying9) ek_string_inj Try.underlying99 (zero_bool _) rfl ((hmap.alloc _).belowS hb1) s[k].1 rfl (WideMaps.keyOf_string_mk Try.underlying9 (by unfold maxLen; omega)) (.bool true) (by rw [HV.out]; rfl) ?_))
          go_ret
          refine ⟨ret_bool ?_, hb.trans (((Below.refl _ _).alloc (Nat.le_refl _) _).trans (hb1.mono (by simp)) |>.mono hb.size)⟩
          unfold signB
          rw [HF.out, Bool.and_false]
        · have HV := hid (metM_no h5)
          cases h6 : inB s[k].2 0 3
          · have HF := hid (all_range_false hlt (by rw [symB_at hlt, h4, h5, h6]; rfl))
            clear h5
            go_wp2_with (first | (go_at_call 56; refine (term_letters _ _ hnsz).mono ?_; rintro e w1 ⟨rfl, hb1⟩; obtain ⟨z1, z2⟩ := bcell hb1; have hz0 := z1 wr.heap.size; simp at hz0) | (at_lookup; refine wpList_lookup_mapK rfl _ _ 99 false rfl (string_keyed Try.underlying9) ek_string_inj Try.underlying99 (zero_bool _) rfl ((hmap.alloc _).belowS hb1) s[k].1 rfl (WideMaps.keyOf_string_mk Try.underlying9 (by unfold maxLen; omega)) (.bool false) (by rw [HV.out]; rfl) ?_) | (go_at_call 39; refine (term_within _ _ _ _).mono ?_; rintro e w' ⟨rfl, rfl⟩))
            go_ret
            refine ⟨ret_bool ?_, hb.trans (((Below.refl _ _).alloc (Nat.le_refl _) _).trans (hb1.mono (by simp)) |>.mono hb.size)⟩
            unfold signB
            rw [HF.out, Bool.and_false]
          · have HS : Hid (symB s k = true) := hid (by rw [symB_at hlt, h4, h5, h6]; rfl)
            clear h5
            go_wp2_with (first | (go_at_call 56; refine (term_letters _ _ hnsz).mono ?_; rintro e w1 ⟨rfl, hb1⟩; obtain ⟨z1, z2⟩ := bcell hb1; have hz0 := z1 wr.heap.size; simp at hz0) | (at_lookup; refine wpList_lookup_mapK rfl _ _ 99 false rfl (string_keyed Try.underlying9) ek_string_inj Try.underlying99 (zero_bool _) rfl ((hmap.alloc _).belowS hb1) s[k].1 rfl (WideMaps.keyOf_string_mk Try.underlying9 (by unfold maxLen; omega)) (.bool false) (by rw [HV.out]; rfl) ?_) | (go_at_call 39; refine (term_within _ _ _ _).mono ?_; rintro e w' ⟨rfl, rfl⟩) | (at_mapUpdate; refine wpList_update_mapK rfl _ _ _ 99 rfl (string_keyed Try.underlying9) ek_string_inj Try.underlying99 rfl ((hmap.alloc _).belowS hb1) s[k].1 true rfl rfl (WideMaps.keyOf_string_mk Try.underlying9 (by unfold maxLen; omega)) ?_; intro w2 hmap2 hgrow2))
            go_roundw
            case rel =>
              rw [metM_snoc s k hlt] at hmap2
              have hB : Below w.heap.size w w2 := (hb.trans (((Below.refl _ _).alloc (Nat.le_refl _) _).trans (hb1.mono (by simp)) |>.mono hb.size)).grown hgrow2 (by have := hb1.size; simp at this; omega) (fun j h => by cases h; exact Nat.le_refl _)
              refine ⟨k + 1, _, by omega, by go_num, hmap2, hB, by have := hb1.size; have := hgrow2.size; simp at *; omega, fun q hq => ?_⟩
              by_cases hqk : q = k
              · rw [hqk]; exact HS.out
              · exact HR.out q (by omega)
            case measure => simp [intOf]; omega
    · have hall : (List.range s.length).all (symB s) = true := by
        rw [List.all_eq_true]
        intro j hj
        exact HR.out j (by have := List.mem_range.1 hj; omega)
      have HA := hid hall
      clear hall
      cases h7 : inB s.length 1 12
      · go_wp2_with (first | (go_at_call 39; refine (term_within _ _ _ _).mono ?_; rintro e w' ⟨rfl, rfl⟩))
        go_ret
        refine ⟨ret_bool ?_, hb⟩
        unfold signB
        rw [h7]; rfl
      · have h0 : 0 < s.length := by have := inB_true.1 h7; omega
        obtain ⟨b, o, rfl, c10, c20, _⟩ := HC'.out 0 h0
        have c2 : wr.cell? ⟨b, o + 1, none⟩ = some (.int .i64 s[0].2) := (hb.cell (World.block_lt_of_cell? _ _ (by simpa using c20))).trans (by simpa using c20)
        clear c10 c20
        go_wp2_with (first | (go_at_call 39; refine (term_within _ _ _ _).mono ?_; rintro e w' ⟨rfl, rfl⟩))
        go_ret
        refine ⟨ret_bool ?_, hb⟩
        unfold signB
        rw [h7, HA.out, List.getElem?_eq_getElem h0]
        simp
end Go.Proofs.Ytcpbpamnhdnanaa
