/-
  WHAT IT HOLDS: contracts of arity, end and Valid of package term. Conditions: the arguments read as data; at most 1000 names.
-/
import Derived.Laws.EntriesVeiled
import Derived.Test.YtmpjaakkjhmpmaaGreatDoorZRShortTrims4
namespace Go.Proofs.YtmpjaakkjhmpmaaGreatDoor
open Go Go.RowKit Go.Maps
theorem arP_bounds {s : Sg} (h : signB s = true) (n : Int) : -1 ≤ arP s n ∧ arP s n ≤ 3 := by
  have := signB_ar h n
  unfold arP
  split
  · omega
  · split <;> omega
theorem term_arity (v : Value) (s : Sg) (n : Int) (w : World) (hs : SignAt w v s) :
    Calls Tryz.prog 190 #[v, .int .i64 n] w fun e w' => e = .returned (.int .i64 (arP s n)) ∧ w = w' := by
  obtain ⟨a, cap, rfl, hlc, hl, h3, HC⟩ := hs.open
  have HC' := hid HC
  clear HC hs h3
  cases h1 : inB n (-12) (-1)
  · cases h2 : inB n 0 (s.length - 1)
    · have HF : Hid (arP s n = -1) := hid (by unfold arP; rw [h1, h2]; rfl)
      go_enter Tryz.func190, Tryz.ntmps190
      go_wp2_with (first | (go_at_call 153; refine (term_within _ _ _ _).mono ?_; rintro e w' ⟨rfl, rfl⟩))
      go_ret
      exact ⟨ret_int HF.out.symm, rfl⟩
    · have h5 := inB_true.1 h2
      obtain ⟨k, rfl⟩ := Int.eq_ofNat_of_zero_le h5.1
      have hk : k < s.length := by omega
      obtain ⟨b, o, rfl, c1, c2, _⟩ := HC'.out k hk
      have HF : Hid (arP s k = s[k].2) := hid (by unfold arP; rw [h1, h2]; show arOf s k = s[k].2; rw [arOf, if_neg (by omega)]; simp [hk])
      clear h5
      go_enter Tryz.func190, Tryz.ntmps190
      go_wp2_with (first | (go_at_call 153; refine (term_within _ _ _ _).mono ?_; rintro e w' ⟨rfl, rfl⟩))
      go_ret
      exact ⟨ret_int HF.out.symm, rfl⟩
  · have HF : Hid (arP s n = 0) := hid (by unfold arP; rw [h1]; rfl)
    go_enter Tryz.func190, Tryz.ntmps190
    go_wp2_with (first | (go_at_call 153; refine (term_within _ _ _ _).mono ?_; rintro e w' ⟨rfl, rfl⟩))
    go_ret
    exact ⟨ret_int HF.out.symm, rfl⟩

set_option maxHeartbeats 1000000 in
theorem term_end1 (s : Sg) (t : List Int) (vs vt : Value) (pt ps pw : Nat) (hsg : signB s = true) (hl : t.length ≤ 100) (f : Nat) : ∀ (i : Int) (w : World), SignAt w vs s → Ints w vt t →
    w.cell? ⟨pt, 0, none⟩ = some vt → w.cell? ⟨ps, 0, none⟩ = some vs →
    w.cell? ⟨pw, 0, none⟩ = some (.func (.func 189) #[] #[.pointer (some ⟨pt, 0, none⟩), .pointer (some ⟨ps, 0, none⟩), .pointer (some ⟨pw, 0, none⟩)]) →
    -1 ≤ i → i ≤ 100 → (i < 0 ∨ (t.length : Int) - i < f) → 1 ≤ f → f ≤ 1000 →
    Calls Tryz.prog 189 #[.int .i64 i, .pointer (some ⟨pt, 0, none⟩), .pointer (some ⟨ps, 0, none⟩), .pointer (some ⟨pw, 0, none⟩)] w
      fun e w' => e = .returned (.tuple #[.int .i64 (endR s t f i).1, .int .i64 (endR s t f i).2]) ∧ ∃ n, w' = w.drewN n := by
  induction f with
  | zero => intro i w _ _ _ _ _ _ _ _ h; omega
  | succ f ih =>
    intro i w hs ht ct cs cw hi1 hi2 hf _ hf2
    obtain ⟨a, cap, rfl, hlc, hl', h3, HC⟩ := ht.open
    have HC' := hid HC
    clear HC h3 hl'
    have IH := hid ih
    clear ih
    by_cases hneg : i < 0
    · have HF := hid (endR_out (s := s) (t := t) (f := f + 1) (Or.inl hneg))
      go_enter Tryz.func189, Tryz.ntmps189
      go_wp2
      go_ret2
      exact ⟨by rw [HF.out]; rfl, 0, rfl⟩
    · by_cases hbig : (t.length : Int) ≤ i
      · have HF := hid (endR_out (s := s) (t := t) (f := f + 1) (Or.inr hbig))
        go_enter Tryz.func189, Tryz.ntmps189
        go_wp2
        go_ret2
        exact ⟨by rw [HF.out]; rfl, 0, rfl⟩
      · obtain ⟨k, rfl⟩ := Int.eq_ofNat_of_zero_le (show 0 ≤ i by omega)
        have hk : k < t.length := by omega
        obtain ⟨b, o, rfl, hcell⟩ := HC'.out k hk
        have HE : Hid (endR s t (f + 1) k = if arP s t[k] < 0 then (-1, 0) else ((endIter (endR s t f) (arP s t[k]).toNat (k + 1, 0)).1, (endIter (endR s t f) (arP s t[k]).toNat (k + 1, 0)).2 + 1)) := hid (by
          conv => lhs; unfold endR
          rw [if_neg (by omega)]
          simp [hk])
        have hab := arP_bounds hsg t[k]
        by_cases har : arP s t[k] < 0
        · have HF : Hid (endR s t (f + 1) k = (-1, 0)) := hid (by rw [HE.out, if_pos har])
          clear HE
          go_enter Tryz.func189, Tryz.ntmps189
          go_wp2
          go_quiet ((go_at_call 190; exact Calls.quiet_of_same ((term_arity _ _ _ _ (hs.drewN _)).mono fun e w' h => ⟨h.1, h.2.symm⟩)))
          go_wp2
          go_ret2
          exact ⟨by rw [HF.out]; rfl, _, rfl⟩
        · have HF : Hid (endR s t (f + 1) k = ((endIter (endR s t f) (arP s t[k]).toNat (k + 1, 0)).1, (endIter (endR s t f) (arP s t[k]).toNat (k + 1, 0)).2 + 1)) := hid (by rw [HE.out, if_neg har])
          clear HE
          obtain ⟨n, hn⟩ := Int.eq_ofNat_of_zero_le (show 0 ≤ arP s t[k] by omega)
          rw [hn] at hab
          have HN := hid hn
          clear hn har
          go_enter Tryz.func189, Tryz.ntmps189
          go_wp2
          go_quiet ((go_at_call 190; exact Calls.quiet_of_same ((term_arity _ _ _ _ (hs.drewN _)).mono fun e w' h => ⟨by rw [h.1, HN.out], h.2.symm⟩)))
          go_wp2
          have hb := endR_bounds s t f
          have HB := hid hb
          clear hb
          go_loopw [8, 9, 31] (fun dp nx c wr => ∃ (j m : Nat) (x y : Int), j ≤ n ∧ c = .int .i64 j ∧ nx = .int .i64 x ∧ dp = .int .i64 y ∧ endIter (endR s t f) j (k + 1, 0) = (x, y) ∧ wr = w.drewN m) (fun _ _ c _ => n - (intOf c).toNat)
          case atStart => exact ⟨0, _, _, _, by omega, rfl, rfl, rfl, rfl, rfl⟩
          case round =>
            obtain ⟨j, m, x, y, hj, rfl, rfl, rfl, hE, rfl⟩ := hrel
            have HE := hid hE
            clear hE
            have hbd := endIter_bounds HB.out (i := k) (by omega) (by omega) j
            rw [HE.out] at hbd
            simp only at hbd
            by_cases hjn : j < n
            · have hstep : endIter (endR s t f) (j + 1) (k + 1, 0) = ((endR s t f x).1, if y < (endR s t f x).2 then (endR s t f x).2 else y) := by
                simp only [endIter, HE.out]
                rw [Prod.mk.injEq]
                exact ⟨rfl, by split <;> omega⟩
              have HS := hid hstep
              clear hstep
              have hbx := HB.out x
              obtain ⟨X, hX⟩ : ∃ X, (endR s t f x).1 = X := ⟨_, rfl⟩
              obtain ⟨Y, hY⟩ : ∃ Y, (endR s t f x).2 = Y := ⟨_, rfl⟩
              have hc := IH.out x (w.drewN m) (hs.drewN m) (ht.drewN m) ct cs cw (by omega) (by omega) (by omega) (by omega) (by omega)
              rw [hX, hY] at hc hbx HS
              have HC := hid hc
              clear hc hX hY
              go_wp2_with (go_at_call 189; refine HC.out.mono ?_; rintro e w' ⟨rfl, m1, rfl⟩)
              go_roundw
              case rel => exact ⟨j + 1, _, _, _, by omega, by go_num, rfl, rfl, HS.out, (by first | rfl | exact World.drewN_drewN _ _ _)⟩
              case measure => simp [intOf]; omega
            · have hjn' : j = n := by omega
              have HF' : Hid (endR s t (f + 1) k = (x, y + 1)) := hid (by rw [HF.out, HN.out, Int.toNat_natCast, ← hjn', HE.out])
              clear hjn'
              go_wp2
              go_ret2
              exact ⟨by rw [HF'.out]; rfl, m, rfl⟩
theorem term_end (s : Sg) (t : List Int) (vs vt : Value) (i : Int) (w : World) (hsg : signB s = true) (hl : t.length ≤ 100) (hs : SignAt w vs s) (ht : Ints w vt t) (hi1 : -1 ≤ i) (hi2 : i ≤ 100) :
    Calls Tryz.prog 154 #[vs, vt, .int .i64 i] w fun e w' => e = .returned (.tuple #[.int .i64 (endR s t 101 i).1, .int .i64 (endR s t 101 i).2]) ∧ Below w.heap.size w w' := by
  obtain ⟨sa, scap, hse, _⟩ := hs.open
  obtain ⟨ta, tcap, hte, _⟩ := ht.open
  subst hse
  subst hte
  obtain ⟨X, hX⟩ : ∃ X, (endR s t 101 i).1 = X := ⟨_, rfl⟩
  obtain ⟨Y, hY⟩ : ∃ Y, (endR s t 101 i).2 = Y := ⟨_, rfl⟩
  go_enter Tryz.func154, Tryz.ntmps154
  go_wp2_with fail
  obtain ⟨b1, b2, b3, b4⟩ := boxes3 w (.slice sa s.length scap) (.slice ta t.length tcap) (.func (.func 189) #[] #[.pointer (some ⟨w.heap.size + 1, 0, none⟩), .pointer (some ⟨w.heap.size, 0, none⟩), .pointer (some ⟨w.heap.size + 1 + 1, 0, none⟩)]) 23 34 202
  have hc := term_end1 s t _ _ _ _ _ hsg hl 101 i _ (hs.below b4) (ht.below b4) b2 b1 b3 hi1 hi2 (by omega) (by omega) (by omega)
  rw [hX, hY] at hc
  clear b1 b2 b3
  refine hc.mono ?_
  rintro e w' ⟨rfl, m, rfl⟩
  have hb := below_drewN b4 m
  clear hc b4
  go_wp2
  go_ret2
  exact ⟨by rw [hX, hY]; rfl, hb⟩
set_option maxHeartbeats 400000 in
theorem term_Valid (v vt : Value) (s : Sg) (t : List Int) (w : World) (hs : SignAt w v s) (ht : Ints w vt t) (hs1 : s.length ≤ 1000)
    (hend : ∀ (s : Sg) (t : List Int), signB s = true → inB t.length 1 60 = true → ((endR s t 101 0).1 == (t.length : Int)) = needB s t 1) :
    Calls Tryz.prog 119 #[v, vt] w fun e w' => e = .returned (.bool (termB s t)) ∧ Below w.heap.size w w' := by
  obtain ⟨ta, tcap, hte, _⟩ := ht.open
  subst hte
  cases h1 : signB s
  · have HF := hid (termB_false1 (t := t) h1)
    go_enter Tryz.func119, Tryz.ntmps119
    go_wp2_with (first | (go_at_call 146; refine (term_ValidSign _ _ _ hs hs1).mono ?_; rintro e w1 ⟨rfl, hb1⟩))
    go_ret
    exact ⟨ret_bool HF.out.symm, hb1⟩
  · cases h2 : inB t.length 1 60
    · have HF := hid (termB_false2 (s := s) h2)
      go_enter Tryz.func119, Tryz.ntmps119
      go_wp2_with (first | (go_at_call 146; refine (term_ValidSign _ _ _ hs hs1).mono ?_; rintro e w1 ⟨rfl, hb1⟩) | (go_at_call 153; refine (term_within _ _ _ _).mono ?_; rintro e w' ⟨rfl, rfl⟩))
      go_ret
      exact ⟨ret_bool HF.out.symm, hb1⟩
    · have HF := hid ((termB_of h1 h2).trans (hend s t h1 h2).symm)
      have hlen := inB_true.1 h2
      have hend' := HF.out
      go_enter Tryz.func119, Tryz.ntmps119
      obtain ⟨X, hX⟩ : ∃ X, (endR s t 101 0).1 = X := ⟨_, rfl⟩
      obtain ⟨Y, hY⟩ : ∃ Y, (endR s t 101 0).2 = Y := ⟨_, rfl⟩
      rw [hX] at HF
      clear hend'
      have HX := hid hX
      have HY := hid hY
      clear hX hY
      go_wp2_with (first | (go_at_call 146; refine (term_ValidSign _ _ _ hs hs1).mono ?_; rintro e w1 ⟨rfl, hb1⟩) | (go_at_call 153; refine (term_within _ _ _ _).mono ?_; rintro e w' ⟨rfl, rfl⟩) | (go_at_call 154; refine (term_end _ _ _ _ _ _ h1 (by omega) (hs.below hb1) (ht.below hb1) (by omega) (by omega)).mono ?_; rintro e w2 ⟨rfl, hb2⟩; rw [HX.out, HY.out]))
      go_ret
      exact ⟨ret_bool HF.out.symm, hb1.trans (hb2.mono hb1.size)⟩
end Go.Proofs.YtmpjaakkjhmpmaaGreatDoor
