/-
  WHAT IT HOLDS: contracts of arity, end and Valid of package term. Conditions: the arguments read as data; at most 1000 names.
  WHAT IT HOLDS: contracts of functions of package find: within, Valid, search. Conditions: the arguments read as data; at most 1000 names and terms; a function value that is handed in says what p says and leaves what was there.
  WHAT IT HOLDS: contracts of join and Common of package unify. Conditions: the arguments read as data; both are terms of at most 100 numbers.
  WHAT IT HOLDS: contracts of join and Common of package unify. Conditions: the arguments read as data; both are terms of at most 100 numbers; a sign of 1 to 12 symbols.
  WHAT IT HOLDS: contracts of Closeness of package find, and of the laws' own helpers Small, Few, awake. Conditions: the arguments read as data.
  WHAT IT HOLDS: contracts of match and Instance of package unify: what a match computes. Conditions: the arguments read as data; the signs are small.
  WHAT IT HOLDS: 'a block of memory holds an array of terms, some of them nil' (ArrT), how it is kept and written. Over any program. No condition.
-/
import Derived.Laws.EntriesVeiled
import Derived.Deep.RegionLaw
import Derived.Test.YtmpjaakkjhmpmaaGreatDoorZRShortCites4
import Derived.Test.YtmpjaakkjhmpmaaGreatDoorZRShortCites3
import Derived.Test.YtmpjaakkjhmpmaaGreatDoorZRShortCites1
import Derived.Test.YtmpjaakkjhmpmaaGreatDoorZRShortCites8
import Derived.Test.YtmpjaakkjhmpmaaGreatDoorZRShortCites5
import Derived.Test.YtmpjaakkjhmpmaaGreatDoorZRShortCites2
import Derived.Test.YtmpjaakkjhmpmaaGreatDoorZRShortCites6
namespace Go.Proofs.YtmpjaakkjhmpmaaGreatDoor
open Go Go.RowKit Go.Maps
theorem arP_bounds {s : Sg} (h : signB s = true) (n : Int) : -1 ≤ arP s n ∧ arP s n ≤ 3 := by
  have := signB_ar h n
  unfold arP
  split
  · omega
  · split <;> omega
theorem term_arity (v : Value) (s : Sg) (n : Int) (w : World) (hs : SignAt w v s) :
    Calls Tryz.prog 190 #[v, .int .i64 n] w fun e w' => e = .returned (.int .i64 (arP s n)) ∧ w = w' := by
  obtain ⟨a, cap, rfl, hlc, hl, h3, HC⟩ := hs.open
  have HC' := hid HC
  clear HC hs h3
  cases h1 : inB n (-12) (-1)
  · cases h2 : inB n 0 (s.length - 1)
    · have HF : Hid (arP s n = -1) := hid (by unfold arP; rw [h1, h2]; rfl)
      go_enter Tryz.func190, Tryz.ntmps190
      go_wp2_with (first | (go_at_call 153; refine (term_within _ _ _ _).mono ?_; rintro e w' ⟨rfl, rfl⟩))
      go_ret
      exact ⟨ret_int HF.out.symm, rfl⟩
    · have h5 := inB_true.1 h2
      obtain ⟨k, rfl⟩ := Int.eq_ofNat_of_zero_le h5.1
      have hk : k < s.length := by omega
      obtain ⟨b, o, rfl, c1, c2, _⟩ := HC'.out k hk
      have HF : Hid (arP s k = s[k].2) := hid (by unfold arP; rw [h1, h2]; show arOf s k = s[k].2; rw [arOf, if_neg (by omega)]; simp [hk])
      clear h5
      go_enter Tryz.func190, Tryz.ntmps190
      go_wp2_with (first | (go_at_call 153; refine (term_within _ _ _ _).mono ?_; rintro e w' ⟨rfl, rfl⟩))
      go_ret
      exact ⟨ret_int HF.out.symm, rfl⟩
  · have HF : Hid (arP s n = 0) := hid (by unfold arP; rw [h1]; rfl)
    go_enter Tryz.func190, Tryz.ntmps190
    go_wp2_with (first | (go_at_call 153; refine (term_within _ _ _ _).mono ?_; rintro e w' ⟨rfl, rfl⟩))
    go_ret
    exact ⟨ret_int HF.out.symm, rfl⟩

set_option maxHeartbeats 1000000 in
theorem term_end1 (s : Sg) (t : List Int) (vs vt : Value) (pt ps pw : Nat) (hsg : signB s = true) (hl : t.length ≤ 100) (f : Nat) : ∀ (i : Int) (w : World), SignAt w vs s → Ints w vt t →
    w.cell? ⟨pt, 0, none⟩ = some vt → w.cell? ⟨ps, 0, none⟩ = some vs →
    w.cell? ⟨pw, 0, none⟩ = some (.func (.func 189) #[] #[.pointer (some ⟨pt, 0, none⟩), .pointer (some ⟨ps, 0, none⟩), .pointer (some ⟨pw, 0, none⟩)]) →
    -1 ≤ i → i ≤ 100 → (i < 0 ∨ (t.length : Int) - i < f) → 1 ≤ f → f ≤ 1000 →
    Calls Tryz.prog 189 #[.int .i64 i, .pointer (some ⟨pt, 0, none⟩), .pointer (some ⟨ps, 0, none⟩), .pointer (some ⟨pw, 0, none⟩)] w
      fun e w' => e = .returned (.tuple #[.int .i64 (endR s t f i).1, .int .i64 (endR s t f i).2]) ∧ ∃ n, w' = w.drewN n := by
  induction f with
  | zero => intro i w _ _ _ _ _ _ _ _ h; omega
  | succ f ih =>
    intro i w hs ht ct cs cw hi1 hi2 hf _ hf2
    obtain ⟨a, cap, rfl, hlc, hl', h3, HC⟩ := ht.open
    have HC' := hid HC
    clear HC h3 hl'
    have IH := hid ih
    clear ih
    by_cases hneg : i < 0
    · have HF := hid (endR_out (s := s) (t := t) (f := f + 1) (Or.inl hneg))
      go_enter Tryz.func189, Tryz.ntmps189
      go_wp2
      go_ret2
      exact ⟨by rw [HF.out]; rfl, 0, rfl⟩
    · by_cases hbig : (t.length : Int) ≤ i
      · have HF := hid (endR_out (s := s) (t := t) (f := f + 1) (Or.inr hbig))
        go_enter Tryz.func189, Tryz.ntmps189
        go_wp2
        go_ret2
        exact ⟨by rw [HF.out]; rfl, 0, rfl⟩
      · obtain ⟨k, rfl⟩ := Int.eq_ofNat_of_zero_le (show 0 ≤ i by omega)
        have hk : k < t.length := by omega
        obtain ⟨b, o, rfl, hcell⟩ := HC'.out k hk
        have HE : Hid (endR s t (f + 1) k = if arP s t[k] < 0 then (-1, 0) else ((endIter (endR s t f) (arP s t[k]).toNat (k + 1, 0)).1, (endIter (endR s t f) (arP s t[k]).toNat (k + 1, 0)).2 + 1)) := hid (by
          conv => lhs; unfold endR
          rw [if_neg (by omega)]
          simp [hk])
        have hab := arP_bounds hsg t[k]
        by_cases har : arP s t[k] < 0
        · have HF : Hid (endR s t (f + 1) k = (-1, 0)) := hid (by rw [HE.out, if_pos har])
          clear HE
          go_enter Tryz.func189, Tryz.ntmps189
          go_wp2
          go_quiet ((go_at_call 190; exact Calls.quiet_of_same ((term_arity _ _ _ _ (hs.drewN _)).mono fun e w' h => ⟨h.1, h.2.symm⟩)))
          go_wp2
          go_ret2
          exact ⟨by rw [HF.out]; rfl, _, rfl⟩
        · have HF : Hid (endR s t (f + 1) k = ((endIter (endR s t f) (arP s t[k]).toNat (k + 1, 0)).1, (endIter (endR s t f) (arP s t[k]).toNat (k + 1, 0)).2 + 1)) := hid (by rw [HE.out, if_neg har])
          clear HE
          obtain ⟨n, hn⟩ := Int.eq_ofNat_of_zero_le (show 0 ≤ arP s t[k] by omega)
          rw [hn] at hab
          have HN := hid hn
          clear hn har
          go_enter Tryz.func189, Tryz.ntmps189
          go_wp2
          go_quiet ((go_at_call 190; exact Calls.quiet_of_same ((term_arity _ _ _ _ (hs.drewN _)).mono fun e w' h => ⟨by rw [h.1, HN.out], h.2.symm⟩)))
          go_wp2
          have hb := endR_bounds s t f
          have HB := hid hb
          clear hb
          go_loopw [8, 9, 31] (fun dp nx c wr => ∃ (j m : Nat) (x y : Int), j ≤ n ∧ c = .int .i64 j ∧ nx = .int .i64 x ∧ dp = .int .i64 y ∧ endIter (endR s t f) j (k + 1, 0) = (x, y) ∧ wr = w.drewN m) (fun _ _ c _ => n - (intOf c).toNat)
          case atStart => exact ⟨0, _, _, _, by omega, rfl, rfl, rfl, rfl, rfl⟩
          case round =>
            obtain ⟨j, m, x, y, hj, rfl, rfl, rfl, hE, rfl⟩ := hrel
            have HE := hid hE
            clear hE
            have hbd := endIter_bounds HB.out (i := k) (by omega) (by omega) j
            rw [HE.out] at hbd
            simp only at hbd
            by_cases hjn : j < n
            · have hstep : endIter (endR s t f) (j + 1) (k + 1, 0) = ((endR s t f x).1, if y < (endR s t f x).2 then (endR s t f x).2 else y) := by
                simp only [endIter, HE.out]
                rw [Prod.mk.injEq]
                exact ⟨rfl, by split <;> omega⟩
              have HS := hid hstep
              clear hstep
              have hbx := HB.out x
              obtain ⟨X, hX⟩ : ∃ X, (endR s t f x).1 = X := ⟨_, rfl⟩
              obtain ⟨Y, hY⟩ : ∃ Y, (endR s t f x).2 = Y := ⟨_, rfl⟩
              have hc := IH.out x (w.drewN m) (hs.drewN m) (ht.drewN m) ct cs cw (by omega) (by omega) (by omega) (by omega) (by omega)
              rw [hX, hY] at hc hbx HS
              have HC := hid hc
              clear hc hX hY
              go_wp2_with (go_at_call 189; refine HC.out.mono ?_; rintro e w' ⟨rfl, m1, rfl⟩)
              go_roundw
              case rel => exact ⟨j + 1, _, _, _, by omega, by go_num, rfl, rfl, HS.out, (by first | rfl | exact World.drewN_drewN _ _ _)⟩
              case measure => simp [intOf]; omega
            · have hjn' : j = n := by omega
              have HF' : Hid (endR s t (f + 1) k = (x, y + 1)) := hid (by rw [HF.out, HN.out, Int.toNat_natCast, ← hjn', HE.out])
              clear hjn'
              go_wp2
              go_ret2
              exact ⟨by rw [HF'.out]; rfl, m, rfl⟩
theorem term_end (s : Sg) (t : List Int) (vs vt : Value) (i : Int) (w : World) (hsg : signB s = true) (hl : t.length ≤ 100) (hs : SignAt w vs s) (ht : Ints w vt t) (hi1 : -1 ≤ i) (hi2 : i ≤ 100) :
    Calls Tryz.prog 154 #[vs, vt, .int .i64 i] w fun e w' => e = .returned (.tuple #[.int .i64 (endR s t 101 i).1, .int .i64 (endR s t 101 i).2]) ∧ Below w.heap.size w w' := by
  obtain ⟨sa, scap, hse, _⟩ := hs.open
  obtain ⟨ta, tcap, hte, _⟩ := ht.open
  subst hse
  subst hte
  obtain ⟨X, hX⟩ : ∃ X, (endR s t 101 i).1 = X := ⟨_, rfl⟩
  obtain ⟨Y, hY⟩ : ∃ Y, (endR s t 101 i).2 = Y := ⟨_, rfl⟩
  go_enter Tryz.func154, Tryz.ntmps154
  go_wp2_with fail
  obtain ⟨b1, b2, b3, b4⟩ := boxes3 w (.slice sa s.length scap) (.slice ta t.length tcap) (.func (.func 189) #[] #[.pointer (some ⟨w.heap.size + 1, 0, none⟩), .pointer (some ⟨w.heap.size, 0, none⟩), .pointer (some ⟨w.heap.size + 1 + 1, 0, none⟩)]) 23 34 202
  have hc := term_end1 s t _ _ _ _ _ hsg hl 101 i _ (hs.below b4) (ht.below b4) b2 b1 b3 hi1 hi2 (by omega) (by omega) (by omega)
  rw [hX, hY] at hc
  clear b1 b2 b3
  refine hc.mono ?_
  rintro e w' ⟨rfl, m, rfl⟩
  have hb := below_drewN b4 m
  clear hc b4
  go_wp2
  go_ret2
  exact ⟨by rw [hX, hY]; rfl, hb⟩
set_option maxHeartbeats 400000 in
theorem term_Valid (v vt : Value) (s : Sg) (t : List Int) (w : World) (hs : SignAt w v s) (ht : Ints w vt t) (hs1 : s.length ≤ 1000)
    (hend : ∀ (s : Sg) (t : List Int), signB s = true → inB t.length 1 60 = true → ((endR s t 101 0).1 == (t.length : Int)) = needB s t 1) :
    Calls Tryz.prog 119 #[v, vt] w fun e w' => e = .returned (.bool (termB s t)) ∧ Below w.heap.size w w' := by
  obtain ⟨ta, tcap, hte, _⟩ := ht.open
  subst hte
  cases h1 : signB s
  · have HF := hid (termB_false1 (t := t) h1)
    go_enter Tryz.func119, Tryz.ntmps119
    go_wp2_with (first | (go_at_call 146; refine (term_ValidSign _ _ _ hs hs1).mono ?_; rintro e w1 ⟨rfl, hb1⟩))
    go_ret
    exact ⟨ret_bool HF.out.symm, hb1⟩
  · cases h2 : inB t.length 1 60
    · have HF := hid (termB_false2 (s := s) h2)
      go_enter Tryz.func119, Tryz.ntmps119
      go_wp2_with (first | (go_at_call 146; refine (term_ValidSign _ _ _ hs hs1).mono ?_; rintro e w1 ⟨rfl, hb1⟩) | (go_at_call 153; refine (term_within _ _ _ _).mono ?_; rintro e w' ⟨rfl, rfl⟩))
      go_ret
      exact ⟨ret_bool HF.out.symm, hb1⟩
    · have HF := hid ((termB_of h1 h2).trans (hend s t h1 h2).symm)
      have hlen := inB_true.1 h2
      have hend' := HF.out
      go_enter Tryz.func119, Tryz.ntmps119
      obtain ⟨X, hX⟩ : ∃ X, (endR s t 101 0).1 = X := ⟨_, rfl⟩
      obtain ⟨Y, hY⟩ : ∃ Y, (endR s t 101 0).2 = Y := ⟨_, rfl⟩
      rw [hX] at HF
      clear hend'
      have HX := hid hX
      have HY := hid hY
      clear hX hY
      go_wp2_with (first | (go_at_call 146; refine (term_ValidSign _ _ _ hs hs1).mono ?_; rintro e w1 ⟨rfl, hb1⟩) | (go_at_call 153; refine (term_within _ _ _ _).mono ?_; rintro e w' ⟨rfl, rfl⟩) | (go_at_call 154; refine (term_end _ _ _ _ _ _ h1 (by omega) (hs.below hb1) (ht.below hb1) (by omega) (by omega)).mono ?_; rintro e w2 ⟨rfl, hb2⟩; rw [HX.out, HY.out]))
      go_ret
      exact ⟨ret_bool HF.out.symm, hb1.trans (hb2.mono hb1.size)⟩
end Go.Proofs.YtmpjaakkjhmpmaaGreatDoor
namespace Go.Proofs.YtmpjaakkjhmpmaaGreatDoor
open Go Go.RowKit Go.Maps
theorem term_Valid' (v vt : Value) (s : Sg) (t : List Int) (w : World) (hs : SignAt w v s) (ht : Ints w vt t) (hs1 : s.length ≤ 1000) :
    Calls Tryz.prog 119 #[v, vt] w fun e w' => e = .returned (.bool (termB s t)) ∧ Below w.heap.size w w' := term_Valid v vt s t w hs ht hs1 end_need
theorem allB_any (s : Sg) (l : List (List Int)) : (List.range l.length).any (fun i => !termB s (l.getD i [])) = !allB s l := by
  rw [Bool.eq_iff_iff, List.any_eq_true]
  unfold allB
  simp only [Bool.not_eq_true', List.all_eq_false]
  constructor
  · rintro ⟨i, hi, h⟩
    have hil : i < l.length := by simpa using hi
    refine ⟨l[i], List.getElem_mem hil, ?_⟩
    rw [List.getD_eq_getElem?_getD, List.getElem?_eq_getElem hil] at h
    simpa using h
  · rintro ⟨t, ht, h⟩
    obtain ⟨i, hi, rfl⟩ := List.getElem_of_mem ht
    refine ⟨i, by simpa using hi, ?_⟩
    rw [List.getD_eq_getElem?_getD, List.getElem?_eq_getElem hi]
    simpa using h

end Go.Proofs.YtmpjaakkjhmpmaaGreatDoor
namespace Go.Proofs.YtmpjaakkjhmpmaaGreatDoor
open Go Go.RowKit Go.Maps
theorem T_small {s : Sg} {t : List Int} (h : IsT s 12 t) (hs : s.length ≤ 100) : ∀ z ∈ t, -12 ≤ z ∧ z ≤ 200 := by
  intro z hz
  rcases h.range z hz with h | h <;> omega
theorem T_lt {s : Sg} {t : List Int} (h : IsT s 12 t) (h0 : 0 < s.length) : ∀ z ∈ t, z < s.length := by
  intro z hz
  rcases h.range z hz with h | h <;> omega

theorem drop_flat {c : Nat} {zs : List (List Int)} {k : Nat} (h : k < zs.length) : ((c : Int) :: zs.flatten).drop (1 + (zs.take k).flatten.length) = zs[k] ++ (zs.drop (k + 1)).flatten := by
  rw [Nat.add_comm, List.drop_succ_cons]
  have : zs.flatten = (zs.take k).flatten ++ (zs[k] ++ (zs.drop (k + 1)).flatten) := by
    conv => lhs; rw [← List.take_append_drop k zs, List.flatten_append, List.drop_eq_getElem_cons h, List.flatten_cons]
  rw [this, List.drop_left]
theorem flat_next (zs : List (List Int)) {k : Nat} (h : k < zs.length) : 1 + (zs.take (k + 1)).flatten.length = 1 + (zs.take k).flatten.length + zs[k].length := by
  rw [List.take_succ_eq_append_getElem h, List.flatten_append, List.length_append]
  simp only [List.flatten_cons, List.flatten_nil, List.append_nil]
  omega
end Go.Proofs.YtmpjaakkjhmpmaaGreatDoor
namespace Go.Proofs.YtmpjaakkjhmpmaaGreatDoor
open Go Go.RowKit Go.Maps
end Go.Proofs.YtmpjaakkjhmpmaaGreatDoor
namespace Go.Proofs.YtmpjaakkjhmpmaaGreatDoor
open Go Go.RowKit Go.Maps
theorem termB_facts {s : Sg} {t : List Int} (h : termB s t = true) : signB s = true ∧ 1 ≤ s.length ∧ s.length ≤ 12 ∧ t.length ≤ 60 := by
  have h' := h
  unfold termB at h'
  simp only [Bool.and_eq_true] at h'
  have h1 := signB_len h'.1.1
  have h2 := inB_true.1 h'.1.2
  exact ⟨h'.1.1, h1.1, h1.2, by omega⟩
end Go.Proofs.YtmpjaakkjhmpmaaGreatDoor
namespace Go.Proofs.YtmpjaakkjhmpmaaGreatDoor
open Go Go.RowKit Go.Maps
abbrev VT := Value × List Int
def eI (n : Int) : Value := .int .i64 n
def eV (v : VT) : Value := v.1
theorem eI_inj : ∀ x y : Int, eI x = eI y → x = y := by intro x y h; simpa [eI] using h
theorem int_key (n : Int) (h : (Lit.int .i64 n).wf = true) : keyOf Tryz.prog 3 (eI n) = some (.int .i64 n) := keyOf_int_mk Tryz.underlying3 h
theorem wf_small {n : Int} (h1 : -1000000 ≤ n) (h2 : n ≤ 1000000) : (Lit.int .i64 n).wf = true := by
  simp [Lit.wf, IntKind.min, IntKind.max, IntKind.signed, IntKind.bits]; omega
abbrev TMap (w : World) (b n : Nat) (M : Int → Option VT) : Prop := MapK Tryz.prog 3 eI eV w b n M
def mOf (M : Int → Option VT) : MM := fun n => (M n).map Prod.snd
theorem zero_term (w : World) : (zeroValue 34).run Tryz.prog w = .ok (.slice none 0 0) w := by kernel_rfl
theorem drop_next {l : List Int} {k : Nat} (h : k < l.length) : l.drop k = l[k] :: l.drop (k + 1) := List.drop_eq_getElem_cons h
theorem drop_more {l p r : List Int} {i : Nat} (h : l.drop i = p ++ r) : l.drop (i + p.length) = r := by
  rw [← List.drop_drop, h, List.drop_left]
theorem mOf_upd (M : Int → Option VT) (n : Int) (v : Value) (l : List Int) : mOf (fun y => if y = n then some (v, l) else M y) = updM (mOf M) n l := by
  funext x
  unfold mOf updM
  by_cases h : x = n <;> simp [h]
theorem mOf_same {M : Int → Option VT} {n : Int} {v0 : Value} {l : List Int} (h : M n = some (v0, l)) (v : Value) : mOf (fun y => if y = n then some (v, l) else M y) = mOf M := by
  funext x
  unfold mOf
  by_cases e : x = n <;> simp [e, h]
set_option maxHeartbeats 2000000 in
set_option maxRecDepth 100000 in
theorem unify_match (vs va vb : Value) (s : Sg) (a b : List Int) (w : World) (hsl : 1 ≤ s.length) (hsl2 : s.length ≤ 12) (ha : IsT s 12 a) (hb : IsT s 12 b) (hs : SignAt w vs s) (ra : Ints w va a) (rb : Ints w vb b) (hla : a.length ≤ 100) (hlb : b.length ≤ 100) :
    Calls Tryz.prog 144 #[vs, va, vb] w fun e w' => Below w.heap.size w w' ∧
      ((matL s a b noM = none ∧ e = .returned (.tuple #[.map none, .bool false])) ∨
       ∃ M n, matL s a b noM = some (mOf M) ∧ e = .returned (.tuple #[.map (some w.heap.size), .bool true]) ∧ TMap w' w.heap.size n M ∧ ∀ x v l, M x = some (v, l) → Ints w' v l) := by
  obtain ⟨sa, scap, rfl, -⟩ := hs.open
  obtain ⟨aa, acap, rfl, ha1, ha2, -, AC⟩ := ra.open
  obtain ⟨ba, bcap, rfl, hb1, hb2, -, BC⟩ := rb.open
  have AC' := hid AC
  have BC' := hid BC
  have HA := hid (T_small ha (by omega))
  have HB := hid (T_small hb (by omega))
  have HBL := hid (T_lt hb (by omega))
  obtain ⟨R, hR⟩ : ∃ R, matL s a b noM = R := ⟨_, rfl⟩
  rw [hR]
  have hmm := @run_makeMap Tryz.prog
  have RA := hid ra
  have RB := hid rb
  have HS := hid hs
  have FA := hid ha.fo
  have FB := hid hb.fo
  have HR := hid hR
  clear AC BC ra rb hs ha hb hR
  go_enter Tryz.func144, Tryz.ntmps144
  go_wp2_with fail
  clear hmm
  have km := MapK.made Tryz.prog 3 eI eV w
  have KM := hid km
  clear km
  go_loopw [9, 19] (fun iv kv wr => ∃ (k i kk : Nat) (M : Int → Option VT) (cnt : Nat), k ≤ a.length ∧ iv = .int .i64 i ∧ kv = .int .i64 k ∧ i ≤ b.length ∧ Fo s 12 kk (a.drop k) ∧ Fo s 12 kk (b.drop i) ∧
      TMap wr w.heap.size cnt M ∧ (∀ n v l, M n = some (v, l) → Ints wr v l) ∧ matL s (a.drop k) (b.drop i) (mOf M) = R ∧ Below w.heap.size w wr) (fun _ kv _ => a.length - (intOf kv).toNat)
  case atStart => exact ⟨0, 0, 1, _, 0, by omega, rfl, rfl, by omega, by simpa using FA.out, by simpa using FB.out, KM.out, (fun _ _ _ h => by cases h), HR.out, (Below.refl _ _).alloc (Nat.le_refl _) _⟩
  case round =>
    obtain ⟨k, i, kk, M, cnt, hk, rfl, rfl, hi, hfa, hfb, hm, hMi, hmat, hbl⟩ := hrel
    have hsz := hbl.size
    by_cases hlt : k < a.length
    · rw [drop_next hlt] at hfa hmat
      have hrng := HA.out a[k] (List.getElem_mem hlt)
      obtain ⟨ab, ao, rfl, ca⟩ := AC'.out k hlt
      have cak := (hbl.cell (World.block_lt_of_cell? _ _ ca)).trans ca
      obtain ⟨k', rfl, ⟨h1, h2, h3⟩ | ⟨h1, h2, c, hc, r, hr, h4⟩⟩ := hfa.cons_inv
      · -- a variable
        obtain ⟨p, u, hp, hpT, hu⟩ := hfb.split
        have hpl := congrArg List.length hp
        rw [List.length_drop, List.length_append] at hpl
        have hp0 := hpT.ne
        rw [hp, matL_var h1 _ hpT] at hmat
        have hge : decide (a[k] ≥ 0) = false := by simp; omega
        have hib : i < b.length := by omega
        obtain ⟨bb, bo, hbe, -⟩ := BC'.out i hib
        subst hbe
        have hsub := (RB.out.below hbl).sub hp (cap' := p.length) (Nat.le_refl _)
        have haf := unify_after _ _ s 12 b p u i wr (HS.out.below hbl) (RB.out.below hbl) hpT hp HBL.out (by omega) (by omega)
        have e1 : (0 : Int) ≤ (i : Int) + (p.length : Int) ∧ (i : Int) + (p.length : Int) ≤ (bcap : Int) := by omega
        have e2 : i ≤ ((i : Int) + (p.length : Int)).toNat := by omega
        have e3 : ((i : Int) + (p.length : Int)).toNat - i = p.length := by omega
        have HMAT := hid hmat
        have HSUB := hid hsub
        have HAF := hid haf
        have H3 := hid h3
        have HU := hid hu
        have HP := hid hp
        have HMI := hid hMi
        have HPL := hid hpl
        clear hmat hsub haf h3 hu hp hMi ca hfb hpl
        have HKEY := hid (int_key a[k] (wf_small (by omega) (by omega)))
        cases hMn : M a[k] with
        | none =>
          have hmn : mOf M a[k] = none := by simp [mOf, hMn]
          rw [hmn] at HMAT
          have HMN := hid hMn
          have HUPD := hid (mOf_upd M a[k] (.slice (some ⟨bb, bo + i, none⟩) p.length p.length) p)
          clear hMn hmn
          go_wp2_with (first
            | (go_at_call 178; refine HAF.out.mono ?_; rintro e w1 ⟨rfl, rfl⟩)
            | (at_lookup; refine wpList_lookup_mapK rfl _ _ 153 true rfl (int_keyed Tryz.underlying3) eI_inj Tryz.underlying153 (zero_term _) rfl hm a[k] rfl HKEY.out (.tuple #[.slice none 0 0, .bool false]) (by rw [HMN.out]; rfl) ?_)
            | (at_mapUpdate; refine wpList_update_mapK rfl _ _ _ 153 rfl (int_keyed Tryz.underlying3) eI_inj Tryz.underlying153 rfl hm a[k] (.slice (some ⟨bb, bo + i, none⟩) p.length p.length, p) rfl rfl HKEY.out ?_; intro w2 hm2 hg2))
          have hbl2 : Below w.heap.size w w2 := hbl.grown hg2 hsz (fun q hq => by cases hq; exact Nat.le_refl _)
          go_roundw
          case rel =>
            refine ⟨k + 1, i + p.length, k', _, _, by omega, by go_num, by go_num, by have := HPL.out; omega, H3.out, by rw [drop_more HP.out]; exact HU.out, hm2, fun n v l hx => ?_, ?_, hbl2⟩
            · by_cases e : n = a[k]
              · subst e
                simp at hx
                obtain ⟨rfl, rfl⟩ := hx
                exact hm.ints rfl hg2 HSUB.out
              · rw [if_neg e] at hx
                exact hm.ints rfl hg2 (HMI.out n v l hx)
            · rw [HUPD.out, drop_more HP.out]; exact HMAT.out
          case measure => simp [intOf]; omega
        | some vl =>
          obtain ⟨v0, l0⟩ := vl
          have hmn : mOf M a[k] = some l0 := by simp [mOf, hMn]
          rw [hmn] at HMAT
          have hi0 := HMI.out _ _ _ hMn
          obtain ⟨va0, vc0, hve0, -⟩ := hi0.open
          subst hve0
          have HEQ := hid (sl_EqualT _ _ l0 p wr hi0 HSUB.out)
          have HMN := hid hMn
          by_cases hlp : l0 = p
          · subst hlp
            have HUPD := hid (mOf_same hMn (.slice (some ⟨bb, bo + i, none⟩) l0.length l0.length))
            have HMAT2 : Hid (matL s (List.drop (k + 1) a) u (mOf M) = R) := hid (by have := HMAT.out; simp only [if_true] at this; exact this)
            have HT : Hid (decide (l0 = l0) = true) := hid (by simp)
            clear HMAT
            have HMAT := HMAT2
            clear hMn hmn hi0 HMAT2
            go_wp2_with (first
              | (go_at_call 178; refine HAF.out.mono ?_; rintro e w1 ⟨rfl, rfl⟩)
              | (go_at_call 159; refine HEQ.out.mono ?_; rintro e w1 ⟨rfl, nq, rfl⟩; rw [HT.out])
              | (at_lookup; refine wpList_lookup_mapK rfl _ _ 153 true rfl (int_keyed Tryz.underlying3) eI_inj Tryz.underlying153 (zero_term _) rfl hm a[k] rfl HKEY.out (.tuple #[.slice va0 l0.length vc0, .bool true]) (by rw [HMN.out]; rfl) ?_)
              | (at_mapUpdate; refine wpList_update_mapK rfl _ _ _ 153 rfl (int_keyed Tryz.underlying3) eI_inj Tryz.underlying153 rfl (hm.drewN nq) a[k] (.slice (some ⟨bb, bo + i, none⟩) l0.length l0.length, l0) rfl rfl HKEY.out ?_; intro w2 hm2 hg2'))
            have hg2 : wr.grownBy w2 (some w.heap.size) := grown_trans (grown_of_below (below_self_drewN wr nq)) hg2'
            have hbl2 : Below w.heap.size w w2 := hbl.grown hg2 hsz (fun q hq => by cases hq; exact Nat.le_refl _)
            go_roundw
            case rel =>
              refine ⟨k + 1, i + l0.length, k', _, _, by omega, by go_num, by go_num, by have := HPL.out; omega, H3.out, by rw [drop_more HP.out]; exact HU.out, hm2, fun n v l hx => ?_, ?_, hbl2⟩
              · by_cases e : n = a[k]
                · subst e
                  simp at hx
                  obtain ⟨rfl, rfl⟩ := hx
                  exact hm.ints rfl hg2 HSUB.out
                · rw [if_neg e] at hx
                  exact hm.ints rfl hg2 (HMI.out n v l hx)
              · rw [HUPD.out, drop_more HP.out]; exact HMAT.out
            case measure => simp [intOf]; omega

          · have HMAT2 : Hid (none = R) := hid (by have := HMAT.out; simp only [if_neg hlp] at this; exact this)
            have HT : Hid (decide (l0 = p) = false) := hid (by simp [hlp])
            clear HMAT hMn hmn hi0 hlp
            go_wp2_with (first
              | (go_at_call 178; refine HAF.out.mono ?_; rintro e w1 ⟨rfl, rfl⟩)
              | (go_at_call 159; refine HEQ.out.mono ?_; rintro e w1 ⟨rfl, nq, rfl⟩; rw [HT.out])
              | (at_lookup; refine wpList_lookup_mapK rfl _ _ 153 true rfl (int_keyed Tryz.underlying3) eI_inj Tryz.underlying153 (zero_term _) rfl hm a[k] rfl HKEY.out (.tuple #[.slice va0 l0.length vc0, .bool true]) (by rw [HMN.out]; rfl) ?_))
            go_ret2
            exact ⟨below_drewN hbl nq, Or.inl ⟨HMAT2.out.symm, rfl⟩⟩
      · -- a symbol
        obtain ⟨i0, hi0⟩ : ∃ x, b.drop i = x := ⟨_, rfl⟩
        have hib : i < b.length := by
          apply Nat.lt_of_not_le
          intro hle
          rw [List.drop_eq_nil_of_le hle] at hfb
          have := hfb.of_nil
          omega
        rw [drop_next hib] at hmat hfb
        rw [matL_app h1] at hmat
        obtain ⟨bb, bo, hbe, cb⟩ := BC'.out i hib
        subst hbe
        have cbk := (hbl.cell (World.block_lt_of_cell? _ _ cb)).trans cb
        have hge : decide (a[k] ≥ 0) = true := by simp; omega
        have HMI := hid hMi
        clear ca cb hMi hi0
        by_cases hcn : b[i] = a[k]
        · rw [if_pos hcn] at hmat
          have hneq : (b[i] != a[k]) = false := by simp [hcn]
          have HMAT := hid hmat
          have HFB : Hid (Fo s 12 (r + k') (b.drop (i + 1))) := hid (by
            obtain ⟨k2, hk2, ⟨h5, _, _⟩ | ⟨_, _, _, _, r2, hr2, h6⟩⟩ := hfb.cons_inv
            · omega
            · rw [hcn, hr] at hr2
              have : r2 = r := by omega
              subst this
              have : k2 = k' := by omega
              subst this
              exact h6)
          have H4 := hid h4
          clear hmat hfb hcn h4 hr
          go_wp2
          go_roundw
          case rel => exact ⟨k + 1, i + 1, r + k', M, cnt, by omega, by go_num, by go_num, by omega, H4.out, HFB.out, hm, HMI.out, HMAT.out, hbl⟩
          case measure => simp [intOf]; omega
        · rw [if_neg hcn] at hmat
          have hneq : (b[i] != a[k]) = true := by simpa [bne] using hcn
          have HMAT := hid hmat
          clear hmat hfb hcn h4 hr
          go_wp2
          go_ret2
          exact ⟨hbl, Or.inl ⟨HMAT.out.symm, rfl⟩⟩
    · have hka : k = a.length := by omega
      subst hka
      rw [List.drop_length, matL_nil] at hmat
      have HMAT := hid hmat
      have HMI := hid hMi
      clear hmat hfa hfb hMi
      go_wp2
      go_ret2
      exact ⟨hbl, Or.inr ⟨M, cnt, HMAT.out.symm, rfl, hm, HMI.out⟩⟩
end Go.Proofs.YtmpjaakkjhmpmaaGreatDoor
namespace Go.Proofs.YtmpjaakkjhmpmaaGreatDoor
open Go Go.RowKit Go.Maps

abbrev TT := Nat → Option VT
def sV : Option VT → Value
  | none => .slice none 0 0
  | some v => v.1
/-- cells off .. off + N - 1 of block pa are the terms T; all cells of the block are slices. -/
def ArrT (w : World) (pa off N : Nat) (T : TT) : Prop :=
  ∃ (cs : Array Value) (ty : TypeId), w.heap[pa]? = some (.cells cs ty (0, 0)) ∧ (∀ (i : Nat) (u : Value), cs[i]? = some u → ∃ a n c, u = Value.slice a n c) ∧
    ∀ v, v < N → cs[off + v]? = some (sV (T v)) ∧ ∀ u l, T v = some (u, l) → (∃ x n c, u = .slice (some x) n c) ∧ Ints w u l
theorem ArrT.lt {w : World} {pa off N : Nat} {T : TT} (h : ArrT w pa off N T) : pa < w.heap.size := by
  obtain ⟨cs, ty, h1, _⟩ := h
  exact (Array.getElem?_eq_some_iff.1 h1).1
theorem ArrT.cell {w : World} {pa off N : Nat} {T : TT} (h : ArrT w pa off N T) {v : Nat} (hv : v < N) : w.cell? ⟨pa, off + v, none⟩ = some (sV (T v)) := by
  obtain ⟨cs, ty, h1, _, h3⟩ := h
  rw [cell_of_row w pa (off + v) cs ty (0, 0) h1]
  exact (h3 v hv).1
theorem ArrT.frozen {w : World} {pa off N : Nat} {T : TT} (h : ArrT w pa off N T) (i : Nat) : w.frozen? ⟨pa, i, none⟩ = false := by
  obtain ⟨cs, ty, h1, _⟩ := h
  exact frozen_of_row w pa i cs ty h1
theorem ArrT.ints {w : World} {pa off N : Nat} {T : TT} (h : ArrT w pa off N T) {v : Nat} (hv : v < N) {u : Value} {l : List Int} (ht : T v = some (u, l)) : (∃ x n c, u = .slice (some x) n c) ∧ Ints w u l := by
  obtain ⟨cs, ty, _, _, h3⟩ := h
  exact (h3 v hv).2 u l ht
/-- a cell that is no slice stays while the array is written. -/
theorem ArrT.keep {w w' : World} {pa off N : Nat} {T : TT} {row : Option Nat} (h : ArrT w pa off N T) (hr : row = some pa) (hg : w.grownBy w' row) {a : Addr} {v : Value} (hc : w.cell? a = some v) (hv : ∀ x n c, v ≠ .slice x n c) : w'.cell? a = some v := by
  subst hr
  refine hg.cell hc fun e => ?_
  obtain ⟨cs, ty, h1, h2, _⟩ := h
  have e' : a.block = pa := by simpa using e
  obtain ⟨b, o, spot⟩ := a
  simp only at e'
  subst e'
  have hs := World.cell?_spot hc
  simp only at hs
  subst hs
  rw [cell_of_row w b o cs ty (0, 0) h1] at hc
  obtain ⟨x, n, c, rfl⟩ := h2 o v hc
  exact hv x n c rfl
theorem ArrT.rowK {w w' : World} {pa off N : Nat} {T : TT} {row : Option Nat} (h : ArrT w pa off N T) (hr : row = some pa) (hg : w.grownBy w' row) {v : Value} {q r : Nat} {xs : List Value} (hx : RowK w v q r xs) (hn : ∀ u ∈ xs, ∀ x n c, u ≠ .slice x n c) : RowK w' v q r xs := by
  obtain ⟨h1, a, cap, h2, h3, h4, h5, h6⟩ := hx
  refine ⟨h1, a, cap, h2, h3, h4, h5, fun j u hj => ?_⟩
  obtain ⟨b', o, h7, h8⟩ := h6 j u hj
  exact ⟨b', o, h7, h.keep hr hg h8 (hn u (List.mem_of_getElem? hj))⟩
theorem ArrT.keepInts {w w' : World} {pa off N : Nat} {T : TT} {row : Option Nat} (h : ArrT w pa off N T) (hr : row = some pa) (hg : w.grownBy w' row) {v : Value} {l : List Int} (hx : Ints w v l) : Ints w' v l :=
  h.rowK hr hg hx fun u hu x n c e => by
    obtain ⟨y, _, rfl⟩ := List.mem_map.1 hu
    cases e
theorem ArrT.keepSign {w w' : World} {pa off N : Nat} {T : TT} {row : Option Nat} (h : ArrT w pa off N T) (hr : row = some pa) (hg : w.grownBy w' row) {v : Value} {s : Sg} (hx : SignAt w v s) : SignAt w' v s :=
  ⟨h.rowK hr hg hx.1 fun u hu x n c e => by
    subst e
    obtain ⟨y, _, hy⟩ := List.mem_flatMap.1 hu
    simp at hy, hx.2⟩
theorem ArrT.below {w w' : World} {pa off N : Nat} {T : TT} (h : ArrT w pa off N T) (hb : Below w.heap.size w w') : ArrT w' pa off N T := by
  have hl := h.lt
  obtain ⟨cs, ty, h1, h2, h3⟩ := h
  refine ⟨cs, ty, by rw [hb.block pa hl]; exact h1, h2, fun v hv => ⟨(h3 v hv).1, fun u l e => ?_⟩⟩
  obtain ⟨h4, h5⟩ := (h3 v hv).2 u l e
  exact ⟨h4, h5.below hb⟩
/-- a store. -/
theorem ArrT.set {w : World} {pa off N : Nat} {T : TT} (h : ArrT w pa off N T) {v : Nat} (hv : v < N) {x : Addr} {n c : Nat} {l : List Int} (hu : Ints w (.slice (some x) n c) l) :
    ArrT (w.setCell ⟨pa, off + v, none⟩ (.slice (some x) n c)) pa off N (fun y => if y = v then some (.slice (some x) n c, l) else T y) ∧ w.grownBy (w.setCell ⟨pa, off + v, none⟩ (.slice (some x) n c)) (some pa) := by
  have hg : w.grownBy (w.setCell ⟨pa, off + v, none⟩ (.slice (some x) n c)) (some pa) :=
    ⟨rfl, rfl, rfl, by simp, fun k _ hk => heap_setCell_other w ⟨pa, off + v, none⟩ k _ (fun e => hk (by simp [e]))⟩
  have h0 := h
  obtain ⟨cs, ty, h1, h2, h3⟩ := h
  have hlt : off + v < cs.size := (Array.getElem?_eq_some_iff.1 (h3 v hv).1).1
  refine ⟨⟨cs.setIfInBounds (off + v) (.slice (some x) n c), ty, heap_setCell_same w pa (off + v) cs ty _ h1, fun i u hi => ?_, fun y hy => ?_⟩, hg⟩
  · rw [Array.getElem?_setIfInBounds] at hi
    split at hi
    · cases hi; exact ⟨_, _, _, rfl⟩
    · exact h2 i u hi
  · by_cases e : y = v
    · subst e
      refine ⟨by simp [hlt, sV], fun u l' hl => ?_⟩
      simp at hl
      obtain ⟨rfl, rfl⟩ := hl
      exact ⟨⟨_, _, _, rfl⟩, h0.keepInts rfl hg hu⟩
    · simp only [if_neg e]
      refine ⟨?_, fun u l' hl => ?_⟩
      · rw [Array.getElem?_setIfInBounds, if_neg (by omega)]
        exact (h3 y hy).1
      · obtain ⟨h4, h5⟩ := (h3 y hy).2 u l' hl
        exact ⟨h4, h0.keepInts rfl hg h5⟩
/-- what the variables of terms are sent to. -/
def mR (T : TT) : MM := fun n => if n < 0 then (T (-n - 1).toNat).map Prod.snd else none
theorem mR_at (T : TT) {n : Int} (hn : n < 0) {v : Nat} (hv : -n - 1 = v) : mR T n = (T v).map Prod.snd := by
  unfold mR
  rw [if_pos hn, hv, Int.toNat_natCast]
theorem mR_set (T : TT) {n : Int} (hn : n < 0) {v : Nat} (hv : -n - 1 = v) (u : Value) (l : List Int) : mR (fun y => if y = v then some (u, l) else T y) = updM (mR T) n l := by
  funext x
  show (if x < 0 then ((fun y => if y = v then some (u, l) else T y) (-x - 1).toNat).map Prod.snd else none) = if x = n then some l else mR T x
  by_cases hx : x < 0
  · rw [if_pos hx]
    by_cases e : x = n
    · subst e
      rw [if_pos rfl, hv, Int.toNat_natCast]
      simp
    · have : (-x - 1).toNat ≠ v := by omega
      rw [if_neg e]
      simp only [if_neg this]
      unfold mR
      rw [if_pos hx]
  · rw [if_neg hx, if_neg (by omega)]
    unfold mR
    rw [if_neg hx]
end Go.Proofs.YtmpjaakkjhmpmaaGreatDoor
