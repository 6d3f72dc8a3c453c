/-
  WHAT IT HOLDS: contracts of arity, end and Valid of package term. Conditions: the arguments read as data; at most 1000 names.
  WHAT IT HOLDS: contracts of functions of package find: within, Valid, search. Conditions: the arguments read as data; at most 1000 names and terms; a function value that is handed in says what p says and leaves what was there.
-/
import Derived.Laws.EntriesVeiled
import Derived.Test.YtldgkidojepdlaaGreatZRTopCarriedShelves8
import Derived.Test.YtldgkidojepdlaaGreatZRTopCarriedShelves7
import Derived.Test.YtldgkidojepdlaaGreatZRTopCarriedShelves0
namespace Go.Proofs.YtldgkidojepdlaaGreat
open Go Go.RowKit Go.Maps
theorem arP_bounds {s : Sg} (h : signB s = true) (n : Int) : -1 ≤ arP s n ∧ arP s n ≤ 3 := by
  have := signB_ar h n
  unfold arP
  split
  · omega
  · split <;> omega
theorem term_arity (v : Value) (s : Sg) (n : Int) (w : World) (hs : SignAt w v s) :
    Calls Tryz.prog 61 #[v, .int .i64 n] w fun e w' => e = .returned (.int .i64 (arP s n)) ∧ w = w' := by
  obtain ⟨a, cap, rfl, hlc, hl, h3, HC⟩ := hs.open
  have HC' := hid HC
  clear HC hs h3
  cases h1 : inB n (-12) (-1)
  · cases h2 : inB n 0 (s.length - 1)
    · have HF : Hid (arP s n = -1) := hid (by unfold arP; rw [h1, h2]; rfl)
      go_enter Tryz.func61, Tryz.ntmps61
      go_wp2_with (first | (go_at_call 40; refine (term_within _ _ _ _).mono ?_; rintro e w' ⟨rfl, rfl⟩))
      go_ret
      exact ⟨ret_int HF.out.symm, rfl⟩
    · have h5 := inB_true.1 h2
      obtain ⟨k, rfl⟩ := Int.eq_ofNat_of_zero_le h5.1
      have hk : k < s.length := by omega
      obtain ⟨b, o, rfl, c1, c2, _⟩ := HC'.out k hk
      have HF : Hid (arP s k = s[k].2) := hid (by unfold arP; rw [h1, h2]; show arOf s k = s[k].2; rw [arOf, if_neg (by omega)]; simp [hk])
      clear h5
      go_enter Tryz.func61, Tryz.ntmps61
      go_wp2_with (first | (go_at_call 40; refine (term_within _ _ _ _).mono ?_; rintro e w' ⟨rfl, rfl⟩))
      go_ret
      exact ⟨ret_int HF.out.symm, rfl⟩
  · have HF : Hid (arP s n = 0) := hid (by unfold arP; rw [h1]; rfl)
    go_enter Tryz.func61, Tryz.ntmps61
    go_wp2_with (first | (go_at_call 40; refine (term_within _ _ _ _).mono ?_; rintro e w' ⟨rfl, rfl⟩))
    go_ret
    exact ⟨ret_int HF.out.symm, rfl⟩

set_option maxHeartbeats 1000000 in
theorem term_end1 (s : Sg) (t : List Int) (vs vt : Value) (pt ps pw : Nat) (hsg : signB s = true) (hl : t.length ≤ 100) (f : Nat) : ∀ (i : Int) (w : World), SignAt w vs s → Ints w vt t →
    w.cell? ⟨pt, 0, none⟩ = some vt → w.cell? ⟨ps, 0, none⟩ = some vs →
    w.cell? ⟨pw, 0, none⟩ = some (.func (.func 60) #[] #[.pointer (some ⟨pt, 0, none⟩), .pointer (some ⟨ps, 0, none⟩), .pointer (some ⟨pw, 0, none⟩)]) →
    -1 ≤ i → i ≤ 100 → (i < 0 ∨ (t.length : Int) - i < f) → 1 ≤ f → f ≤ 1000 →
    Calls Tryz.prog 60 #[.int .i64 i, .pointer (some ⟨pt, 0, none⟩), .pointer (some ⟨ps, 0, none⟩), .pointer (some ⟨pw, 0, none⟩)] w
      fun e w' => e = .returned (.tuple #[.int .i64 (endR s t f i).1, .int .i64 (endR s t f i).2]) ∧ ∃ n, w' = w.drewN n := by
  induction f with
  | zero => intro i w _ _ _ _ _ _ _ _ h; omega
  | succ f ih =>
    intro i w hs ht ct cs cw hi1 hi2 hf _ hf2
    obtain ⟨a, cap, rfl, hlc, hl', h3, HC⟩ := ht.open
    have HC' := hid HC
    clear HC h3 hl'
    have IH := hid ih
    clear ih
    by_cases hneg : i < 0
    · have HF := hid (endR_out (s := s) (t := t) (f := f + 1) (Or.inl hneg))
      go_enter Tryz.func60, Tryz.ntmps60
      go_wp2
      go_ret2
      exact ⟨by rw [HF.out]; rfl, 0, rfl⟩
    · by_cases hbig : (t.length : Int) ≤ i
      · have HF := hid (endR_out (s := s) (t := t) (f := f + 1) (Or.inr hbig))
        go_enter Tryz.func60, Tryz.ntmps60
        go_wp2
        go_ret2
        exact ⟨by rw [HF.out]; rfl, 0, rfl⟩
      · obtain ⟨k, rfl⟩ := Int.eq_ofNat_of_zero_le (show 0 ≤ i by omega)
        have hk : k < t.length := by omega
        obtain ⟨b, o, rfl, hcell⟩ := HC'.out k hk
        have HE : Hid (endR s t (f + 1) k = if arP s t[k] < 0 then (-1, 0) else ((endIter (endR s t f) (arP s t[k]).toNat (k + 1, 0)).1, (endIter (endR s t f) (arP s t[k]).toNat (k + 1, 0)).2 + 1)) := hid (by
          conv => lhs; unfold endR
          rw [if_neg (by omega)]
          simp [hk])
        have hab := arP_bounds hsg t[k]
        by_cases har : arP s t[k] < 0
        · have HF : Hid (endR s t (f + 1) k = (-1, 0)) := hid (by rw [HE.out, if_pos har])
          clear HE
          go_enter Tryz.func60, Tryz.ntmps60
          go_wp2
          go_quiet ((go_at_call 61; exact Calls.quiet_of_same ((term_arity _ _ _ _ (hs.drewN _)).mono fun e w' h => ⟨h.1, h.2.symm⟩)))
          go_wp2
          go_ret2
          exact ⟨by rw [HF.out]; rfl, _, rfl⟩
        · have HF : Hid (endR s t (f + 1) k = ((endIter (endR s t f) (arP s t[k]).toNat (k + 1, 0)).1, (endIter (endR s t f) (arP s t[k]).toNat (k + 1, 0)).2 + 1)) := hid (by rw [HE.out, if_neg har])
          clear HE
          obtain ⟨n, hn⟩ := Int.eq_ofNat_of_zero_le (show 0 ≤ arP s t[k] by omega)
          rw [hn] at hab
          have HN := hid hn
          clear hn har
          go_enter Tryz.func60, Tryz.ntmps60
          go_wp2
          go_quiet ((go_at_call 61; exact Calls.quiet_of_same ((term_arity _ _ _ _ (hs.drewN _)).mono fun e w' h => ⟨by rw [h.1, HN.out], h.2.symm⟩)))
          go_wp2
          have hb := endR_bounds s t f
          have HB := hid hb
          clear hb
          go_loopw [8, 9, 31] (fun dp nx c wr => ∃ (j m : Nat) (x y : Int), j ≤ n ∧ c = .int .i64 j ∧ nx = .int .i64 x ∧ dp = .int .i64 y ∧ endIter (endR s t f) j (k + 1, 0) = (x, y) ∧ wr = w.drewN m) (fun _ _ c _ => n - (intOf c).toNat)
          case atStart => exact ⟨0, _, _, _, by omega, rfl, rfl, rfl, rfl, rfl⟩
          case round =>
            obtain ⟨j, m, x, y, hj, rfl, rfl, rfl, hE, rfl⟩ := hrel
            have HE := hid hE
            clear hE
            have hbd := endIter_bounds HB.out (i := k) (by omega) (by omega) j
            rw [HE.out] at hbd
            simp only at hbd
            by_cases hjn : j < n
            · have hstep : endIter (endR s t f) (j + 1) (k + 1, 0) = ((endR s t f x).1, if y < (endR s t f x).2 then (endR s t f x).2 else y) := by
                simp only [endIter, HE.out]
                rw [Prod.mk.injEq]
                exact ⟨rfl, by split <;> omega⟩
              have HS := hid hstep
              clear hstep
              have hbx := HB.out x
              obtain ⟨X, hX⟩ : ∃ X, (endR s t f x).1 = X := ⟨_, rfl⟩
              obtain ⟨Y, hY⟩ : ∃ Y, (endR s t f x).2 = Y := ⟨_, rfl⟩
              have hc := IH.out x (w.drewN m) (hs.drewN m) (ht.drewN m) ct cs cw (by omega) (by omega) (by omega) (by omega) (by omega)
              rw [hX, hY] at hc hbx HS
              have HC := hid hc
              clear hc hX hY
              go_wp2_with (go_at_call 60; refine HC.out.mono ?_; rintro e w' ⟨rfl, m1, rfl⟩)
              go_roundw
              case rel => exact ⟨j + 1, _, _, _, by omega, by go_num, rfl, rfl, HS.out, (by first | rfl | exact World.drewN_drewN _ _ _)⟩
              case measure => simp [intOf]; omega
            · have hjn' : j = n := by omega
              have HF' : Hid (endR s t (f + 1) k = (x, y + 1)) := hid (by rw [HF.out, HN.out, Int.toNat_natCast, ← hjn', HE.out])
              clear hjn'
              go_wp2
              go_ret2
              exact ⟨by rw [HF'.out]; rfl, m, rfl⟩
theorem term_end (s : Sg) (t : List Int) (vs vt : Value) (i : Int) (w : World) (hsg : signB s = true) (hl : t.length ≤ 100) (hs : SignAt w vs s) (ht : Ints w vt t) (hi1 : -1 ≤ i) (hi2 : i ≤ 100) :
    Calls Tryz.prog 41 #[vs, vt, .int .i64 i] w fun e w' => e = .returned (.tuple #[.int .i64 (endR s t 101 i).1, .int .i64 (endR s t 101 i).2]) ∧ Below w.heap.size w w' := by
  obtain ⟨sa, scap, hse, _⟩ := hs.open
  obtain ⟨ta, tcap, hte, _⟩ := ht.open
  subst hse
  subst hte
  obtain ⟨X, hX⟩ : ∃ X, (endR s t 101 i).1 = X := ⟨_, rfl⟩
  obtain ⟨Y, hY⟩ : ∃ Y, (endR s t 101 i).2 = Y := ⟨_, rfl⟩
  go_enter Tryz.func41, Tryz.ntmps41
  go_wp2_with fail
  obtain ⟨b1, b2, b3, b4⟩ := boxes3 w (.slice sa s.length scap) (.slice ta t.length tcap) (.func (.func 60) #[] #[.pointer (some ⟨w.heap.size + 1, 0, none⟩), .pointer (some ⟨w.heap.size, 0, none⟩), .pointer (some ⟨w.heap.size + 1 + 1, 0, none⟩)]) 23 29 93
  have hc := term_end1 s t _ _ _ _ _ hsg hl 101 i _ (hs.below b4) (ht.below b4) b2 b1 b3 hi1 hi2 (by omega) (by omega) (by omega)
  rw [hX, hY] at hc
  clear b1 b2 b3
  refine hc.mono ?_
  rintro e w' ⟨rfl, m, rfl⟩
  have hb := below_drewN b4 m
  clear hc b4
  go_wp2
  go_ret2
  exact ⟨by rw [hX, hY]; rfl, hb⟩
set_option maxHeartbeats 400000 in
theorem term_Valid (v vt : Value) (s : Sg) (t : List Int) (w : World) (hs : SignAt w v s) (ht : Ints w vt t) (hs1 : s.length ≤ 1000)
    (hend : ∀ (s : Sg) (t : List Int), signB s = true → inB t.length 1 60 = true → ((endR s t 101 0).1 == (t.length : Int)) = needB s t 1) :
    Calls Tryz.prog 18 #[v, vt] w fun e w' => e = .returned (.bool (termB s t)) ∧ Below w.heap.size w w' := by
  obtain ⟨ta, tcap, hte, _⟩ := ht.open
  subst hte
  cases h1 : signB s
  · have HF := hid (termB_false1 (t := t) h1)
    go_enter Tryz.func18, Tryz.ntmps18
    go_wp2_with (first | (go_at_call 34; refine (term_ValidSign _ _ _ hs hs1).mono ?_; rintro e w1 ⟨rfl, hb1⟩))
    go_ret
    exact ⟨ret_bool HF.out.symm, hb1⟩
  · cases h2 : inB t.length 1 60
    · have HF := hid (termB_false2 (s := s) h2)
      go_enter Tryz.func18, Tryz.ntmps18
      go_wp2_with (first | (go_at_call 34; refine (term_ValidSign _ _ _ hs hs1).mono ?_; rintro e w1 ⟨rfl, hb1⟩) | (go_at_call 40; refine (term_within _ _ _ _).mono ?_; rintro e w' ⟨rfl, rfl⟩))
      go_ret
      exact ⟨ret_bool HF.out.symm, hb1⟩
    · have HF := hid ((termB_of h1 h2).trans (hend s t h1 h2).symm)
      have hlen := inB_true.1 h2
      have hend' := HF.out
      go_enter Tryz.func18, Tryz.ntmps18
      obtain ⟨X, hX⟩ : ∃ X, (endR s t 101 0).1 = X := ⟨_, rfl⟩
      obtain ⟨Y, hY⟩ : ∃ Y, (endR s t 101 0).2 = Y := ⟨_, rfl⟩
      rw [hX] at HF
      clear hend'
      have HX := hid hX
      have HY := hid hY
      clear hX hY
      go_wp2_with (first | (go_at_call 34; refine (term_ValidSign _ _ _ hs hs1).mono ?_; rintro e w1 ⟨rfl, hb1⟩) | (go_at_call 40; refine (term_within _ _ _ _).mono ?_; rintro e w' ⟨rfl, rfl⟩) | (go_at_call 41; refine (term_end _ _ _ _ _ _ h1 (by omega) (hs.below hb1) (ht.below hb1) (by omega) (by omega)).mono ?_; rintro e w2 ⟨rfl, hb2⟩; rw [HX.out, HY.out]))
      go_ret
      exact ⟨ret_bool HF.out.symm, hb1.trans (hb2.mono hb1.size)⟩
end Go.Proofs.YtldgkidojepdlaaGreat
namespace Go.Proofs.YtldgkidojepdlaaGreat
open Go Go.RowKit Go.Maps
theorem find_within (n lo hi : Int) (w : World) :
    Calls Tryz.prog 47 #[.int .i64 n, .int .i64 lo, .int .i64 hi] w fun e w' => e = .returned (.bool (inB n lo hi)) ∧ w = w' := by
  unfold inB
  by_cases h1 : lo ≤ n
  · by_cases h2 : n ≤ hi
    · go_enter Tryz.func47, Tryz.ntmps47
      go_wp2
      go_ret
      exact ⟨by simp [h1, h2], rfl⟩
    · go_enter Tryz.func47, Tryz.ntmps47
      go_wp2
      go_ret
      exact ⟨by simp [h1, h2], rfl⟩
  · go_enter Tryz.func47, Tryz.ntmps47
    go_wp2
    go_ret
    exact ⟨ret_bool (by simp; omega), rfl⟩
theorem term_Valid' (v vt : Value) (s : Sg) (t : List Int) (w : World) (hs : SignAt w v s) (ht : Ints w vt t) (hs1 : s.length ≤ 1000) :
    Calls Tryz.prog 18 #[v, vt] w fun e w' => e = .returned (.bool (termB s t)) ∧ Below w.heap.size w w' := term_Valid v vt s t w hs ht hs1 end_need
theorem find_Valid1 (vs vt : Value) (ps : Nat) (s : Sg) (t : List Int) (w : World) (hs : SignAt w vs s) (ht : Ints w vt t) (hs1 : s.length ≤ 1000) (hc : w.cell? ⟨ps, 0, none⟩ = some vs) :
    Calls Tryz.prog 49 #[vt, .pointer (some ⟨ps, 0, none⟩)] w fun e w' => e = .returned (.bool (!termB s t)) ∧ Below w.heap.size w w' := by
  obtain ⟨sa, scap, hse, _⟩ := hs.open
  subst hse
  go_enter Tryz.func49, Tryz.ntmps49
  go_wp2_with (go_at_call 18; refine (term_Valid' _ _ _ _ _ hs ht hs1).mono ?_; rintro e w1 ⟨rfl, hb1⟩)
  go_ret
  exact ⟨rfl, hb1⟩
theorem allB_any (s : Sg) (l : List (List Int)) : (List.range l.length).any (fun i => !termB s (l.getD i [])) = !allB s l := by
  rw [Bool.eq_iff_iff, List.any_eq_true]
  unfold allB
  simp only [Bool.not_eq_true', List.all_eq_false]
  constructor
  · rintro ⟨i, hi, h⟩
    have hil : i < l.length := by simpa using hi
    refine ⟨l[i], List.getElem_mem hil, ?_⟩
    rw [List.getD_eq_getElem?_getD, List.getElem?_eq_getElem hil] at h
    simpa using h
  · rintro ⟨t, ht, h⟩
    obtain ⟨i, hi, rfl⟩ := List.getElem_of_mem ht
    refine ⟨i, by simpa using hi, ?_⟩
    rw [List.getD_eq_getElem?_getD, List.getElem?_eq_getElem hi]
    simpa using h

theorem find_Valid (v vl : Value) (s : Sg) (l : List (List Int)) (w : World) (hs : SignAt w v s) (hv : Terms w vl l) (hs1 : s.length ≤ 1000) :
    Calls Tryz.prog 28 #[v, vl] w fun e w' => e = .returned (.bool (shelfB s l)) ∧ Below w.heap.size w w' := by
  obtain ⟨sa, scap, hse, _⟩ := hs.open
  subst hse
  obtain ⟨vs, hV, hlen, hel⟩ := hv
  obtain ⟨la, lcap, hle, _⟩ := hV.open
  rw [hlen] at hle
  subst hle
  have HEL := hid hel
  have HLEN := hid hlen
  clear hel hlen
  have hbx : Below w.heap.size w (w.alloc (.cells #[.slice sa s.length scap] 23)) := (Below.refl _ _).alloc (Nat.le_refl _) _
  unfold shelfB
  cases h2 : signB s
  · go_enter Tryz.func28, Tryz.ntmps28
    go_wp2_with (first | (go_at_call 34; refine (term_ValidSign _ _ _ (hs.below hbx) hs1).mono ?_; rintro e w1 ⟨rfl, hb1⟩))
    go_ret
    exact ⟨ret_bool rfl, hbx.trans (hb1.mono (by simp))⟩
  · cases h3 : inB l.length 1 60
    · go_enter Tryz.func28, Tryz.ntmps28
      go_wp2_with (first | (go_at_call 34; refine (term_ValidSign _ _ _ (hs.below hbx) hs1).mono ?_; rintro e w1 ⟨rfl, hb1⟩) | (go_at_call 47; refine (find_within _ _ _ _).mono ?_; rintro e w' ⟨rfl, rfl⟩))
      go_ret
      exact ⟨ret_bool rfl, hbx.trans (hb1.mono (by simp))⟩
    · have hcell := cell_new1 w (.slice sa s.length scap) 23
      have key : ∀ w1, Below (w.alloc (.cells #[.slice sa s.length scap] 23)).heap.size (w.alloc (.cells #[.slice sa s.length scap] 23)) w1 →
          Calls Tryz.prog 48 #[.slice la l.length lcap, .func (.func 49) #[] #[.pointer (some ⟨w.heap.size, 0, none⟩)]] w1 fun e w' => e = .returned (.bool (!allB s l)) ∧ Below w1.heap.size w1 w' := by
        intro w1 hb1
        have := sl_ContainsFunc_terms 49 #[.pointer (some ⟨w.heap.size, 0, none⟩)] (enters_of Tryz.func49 (by kernel_rfl) rfl) (.slice la l.length lcap) vs.length vs w1 ((hV.below hbx).below hb1) (fun i => !termB s (l.getD i [])) (by
          intro i x W hx hbW
          have hil : i < l.length := by rw [← HLEN.out]; exact (List.getElem?_eq_some_iff.1 hx).1
          have hI : Ints W x (l.getD i []) := by
            rw [List.getD_eq_getElem?_getD, List.getElem?_eq_getElem hil]
            exact (((HEL.out i x _ hx (List.getElem?_eq_getElem hil)).below hbx).below hb1).below hbW
          have hS : SignAt W (.slice sa s.length scap) s := ((hs.below hbx).below hb1).below hbW
          have hC : W.cell? ⟨w.heap.size, 0, none⟩ = some (.slice sa s.length scap) := by
            rw [hbW.cell (p := ⟨w.heap.size, 0, none⟩) (by have := hb1.size; simp at this; show w.heap.size < _; omega), hb1.cell (p := ⟨w.heap.size, 0, none⟩) (by simp)]
            exact hcell
          exact find_Valid1 _ _ _ _ _ _ hS hI hs1 hC)
        rw [HLEN.out, allB_any] at this
        exact this
      have KEY := hid key
      clear key hcell
      go_enter Tryz.func28, Tryz.ntmps28
      go_wp2_with (first | (go_at_call 34; refine (term_ValidSign _ _ _ (hs.below hbx) hs1).mono ?_; rintro e w1 ⟨rfl, hb1⟩) | (go_at_call 47; refine (find_within _ _ _ _).mono ?_; rintro e w' ⟨rfl, rfl⟩) | (go_at_call 48; refine (KEY.out _ hb1).mono ?_; rintro e w2 ⟨rfl, hb2⟩))
      go_ret
      exact ⟨ret_bool (by simp), (hbx.trans (hb1.mono (by simp))).trans (hb2.mono (by have := hb1.size; simp at this; omega))⟩
theorem chosenL_take_succ {bs : List Bool} {k : Nat} (h : k < bs.length) : chosenL 0 (bs.take (k + 1)) = chosenL 0 (bs.take k) ++ if bs[k] then [(k : Int)] else [] := by
  have h2 : ∀ (l : List Bool) (b : Bool) (i : Nat), chosenL i (l ++ [b]) = chosenL i l ++ if b then [((i + l.length : Nat) : Int)] else [] := by
    intro l b
    induction l with
    | nil => intro i; cases b <;> simp [chosenL]
    | cons x r ih =>
      intro i
      simp only [List.cons_append, chosenL, ih (i + 1), List.length_cons]
      cases x <;> simp <;> cases b <;> simp <;> omega
  rw [List.take_succ_eq_append_getElem h, h2]
  simp [Nat.min_eq_left (Nat.le_of_lt h)]
theorem chosenL_le : ∀ (l : List Bool) (i : Nat), (chosenL i l).length ≤ l.length := by
  intro l
  induction l with
  | nil => intro i; simp [chosenL]
  | cons x r ih => intro i; have := ih (i + 1); cases x <;> simp [chosenL] <;> omega

/-- what search hands back. -/
def searchB (s : Sg) (l : List (List Int)) (q : List Int) (bs : List Bool) : List Int × Int := if shelfB s l && termB s q then (chosenL 0 bs, 0) else ([], 1)

set_option maxHeartbeats 1000000 in
theorem find_search (g : Nat) (lb : Array Value) (eg : ∀ args w, (callFunc g args).run Tryz.prog w = .ok (.enter g args) w) (v vl vq : Value) (s : Sg) (l : List (List Int)) (q : List Int) (bs : List Bool) (w : World)
    (hs : SignAt w v s) (hv : Terms w vl l) (hq : Ints w vq q) (hs1 : s.length ≤ 1000) (hl1 : l.length ≤ 1000) (hbs : bs.length = l.length)
    (hp : shelfB s l = true → termB s q = true → ∀ (i : Nat) (x : Value) (W : World) (hi : i < l.length) (hi' : i < bs.length), Ints W x l[i] → Below w.heap.size w W →
      Calls Tryz.prog g (#[x] ++ lb) W fun e w' => e = .returned (.bool bs[i]) ∧ Below W.heap.size W w') :
    Calls Tryz.prog 20 #[v, vl, vq, .func (.func g) #[] lb] w fun e w' => ∃ u, e = .returned (.tuple #[u, .int .i64 (searchB s l q bs).2]) ∧
      w'.ownsRow w.heap.size 3 1 u (searchB s l q bs).1.length ((searchB s l q bs).1.map (Value.int .i64)) ∧ Below w.heap.size w w' := by
  cases h1 : shelfB s l
  · have HF : Hid (searchB s l q bs = ([], 1)) := hid (by unfold searchB; rw [h1]; rfl)
    clear hp
    go_enter Tryz.func20, Tryz.ntmps20
    go_wp2_with (first | (go_at_call 28; refine (find_Valid _ _ _ _ _ hs hv hs1).mono ?_; rintro e w1 ⟨rfl, hb1⟩))
    go_ret2
    rw [HF.out]
    exact ⟨_, rfl, World.ownsRow_nil _ _ _ _, hb1⟩
  · cases h2 : termB s q
    · have HF : Hid (searchB s l q bs = ([], 1)) := hid (by unfold searchB; rw [h1, h2]; rfl)
      clear hp
      go_enter Tryz.func20, Tryz.ntmps20
      go_wp2_with (first | (go_at_call 28; refine (find_Valid _ _ _ _ _ hs hv hs1).mono ?_; rintro e w1 ⟨rfl, hb1⟩) | (go_at_call 18; refine (term_Valid' _ _ _ _ _ (hs.below hb1) (hq.below hb1) hs1).mono ?_; rintro e w2 ⟨rfl, hb2⟩))
      go_ret2
      rw [HF.out]
      exact ⟨_, rfl, World.ownsRow_nil _ _ _ _, hb1.trans (hb2.mono hb1.size)⟩
    · have HF : Hid (searchB s l q bs = (chosenL 0 bs, 0)) := hid (by unfold searchB; rw [h1, h2]; rfl)
      have HP := hid (hp h1 h2)
      clear hp
      have HB := hid hbs
      clear hbs
      obtain ⟨a, cap, hve, hlc, hl, h3, HC⟩ := hv.open
      subst hve
      have HC' := hid HC
      clear HC h3
      go_enter Tryz.func20, Tryz.ntmps20
      go_wp2_with (first | (go_at_call 28; refine (find_Valid _ _ _ _ _ hs hv hs1).mono ?_; rintro e w1 ⟨rfl, hb1⟩) | (go_at_call 18; refine (term_Valid' _ _ _ _ _ (hs.below hb1) (hq.below hb1) hs1).mono ?_; rintro e w2 ⟨rfl, hb2⟩))
      have hb0 : Below w.heap.size w w2 := hb1.trans (hb2.mono hb1.size)
      clear hb1 hb2
      go_loopw [10, 25] (fun u i wr => ∃ k : Nat, k ≤ l.length ∧ i = .int .i64 k ∧ wr.ownsRow w.heap.size 3 1 u (chosenL 0 (bs.take k)).length ((chosenL 0 (bs.take k)).map (Value.int .i64)) ∧ Below w.heap.size w wr) (fun _ i _ => l.length - (intOf i).toNat)
      case atStart => exact ⟨0, by omega, rfl, World.ownsRow_nil _ _ _ _, hb0⟩
      case round =>
        clear hb0
        obtain ⟨k, hk, rfl, hown, hb⟩ := hrel
        by_cases hlt : k < l.length
        · obtain ⟨b, o, x, rfl, hcell0, hx⟩ := HC'.out k hlt
          have hcell : wr.cell? ⟨b, o + k, none⟩ = some x := (hb.cell (World.block_lt_of_cell? _ _ hcell0)).trans hcell0
          obtain ⟨xa, xcap, rfl, _⟩ := hx.open
          have hkb : k < bs.length := by have := HB.out; omega
          have hc := HP.out k _ wr hlt hkb (hx.below hb) hb
          have HS := hid (chosenL_take_succ hkb)
          have hcl := chosenL_le (bs.take k) 0
          have hcl' : (chosenL 0 (bs.take k)).length ≤ k := by simp at hcl; omega
          clear hcl hcell0
          have hsz := hb.size
          cases h4 : bs[k]
          · rw [h4] at hc
            have HCC := hid hc
            clear hc
            go_wp2_with (go_at_fn g; refine HCC.out.mono ?_; rintro e w3 ⟨rfl, hb3⟩)
            go_roundw
            case rel =>
              refine ⟨k + 1, by omega, by go_num, ?_, hb.trans (hb3.mono hb.size)⟩
              rw [HS.out, h4]
              simpa using owns_below hown hb3
            case measure => simp [intOf]; omega
          · rw [h4] at hc
            have HCC := hid hc
            clear hc
            go_wp2_with (first | (go_at_fn g; refine HCC.out.mono ?_; rintro e w3 ⟨rfl, hb3⟩; have hown3 := owns_below hown hb3; have hsz3 := hb3.size) | (at_builtin; refine wpList_append_row rfl _ _ 28 rfl w.heap.size 3 el_int Tryz.underlying28 rfl (by decide) _ _ _ rfl (hown3.alloc _) _ 1 [.int .i64 k] rfl (row_one_new _ _ _) (oneCell_one rfl) (by omega) (by omega) (by simp; omega) ?_; intro v' w4 hown4 hgrow4 _))
            have hb4 : Below w.heap.size w w4 := ((hb.trans (hb3.mono hb.size)).alloc (by omega) _).grown hgrow4 (by simp; omega) (fun q hq => (hown3.lt q hq).1)
            go_roundw
            case rel => exact ⟨k + 1, by omega, by go_num, by rw [HS.out, h4]; simpa using hown4, hb4⟩
            case measure => simp [intOf]; omega
        · have HT : Hid (bs.take k = bs) := hid (List.take_of_length_le (by have := HB.out; omega))
          go_wp2
          go_ret2
          rw [HF.out]
          exact ⟨_, rfl, by rw [HT.out] at hown; exact hown, hb⟩
end Go.Proofs.YtldgkidojepdlaaGreat
