/-
  WHAT IT HOLDS: contracts of matched, Match and Instance of the reference of layer 2. Conditions: the arguments read as data; whole terms stand at the indexes.
-/
import Derived.Lib.SliceRun
import Derived.Deep.RegionHeld3
import Derived.Test.YtmpjaakkjhmpmaaGreatDoorZRShortCites9
import Derived.Test.YtmpjaakkjhmpmaaGreatDoorZRShortCites6
import Derived.Test.YtmpjaakkjhmpmaaGreatDoorZRShortCites2
namespace Go.Proofs.YtmpjaakkjhmpmaaGreatDoor
open Go Go.RowKit Go.Maps
theorem Ints.at2 {w : World} {a : Option Addr} {n cap : Nat} {t : List Int} (h : Ints w (.slice a n cap) t) {k : Nat} (hk : k < t.length) : ∃ b o, a = some ⟨b, o, none⟩ ∧ w.cell? ⟨b, o + k, none⟩ = some (.int .i64 t[k]) := by
  obtain ⟨a', cap', h1, _, _, _, h2⟩ := h.open
  simp only [Value.slice.injEq] at h1
  obtain ⟨rfl, _, rfl⟩ := h1
  exact h2 k hk
theorem owns_ints {w : World} {base : Nat} {e : TypeId} {v : Value} {l : List Int} (h : w.ownsRow base e 1 v l.length (l.map (Value.int .i64))) (h0 : 0 < l.length) (hl : l.length ≤ 1000) : ∃ g cap, v = .slice (some ⟨g, 0, none⟩) l.length cap ∧ Ints w (.slice (some ⟨g, 0, none⟩) l.length cap) l := by
  obtain ⟨g, cap, rfl, _⟩ := owns_some h h0
  exact ⟨g, cap, rfl, Ints.of_owns h (by omega)⟩
/-- what matched leaves. -/
def MOut (s : Sg) (p q : List Int) (pa : Nat) (T : TT) (w : World) (e : Ending) (w' : World) : Prop :=
  ∃ T' b, e = .returned (.bool b) ∧ ArrT w' pa 0 12 T' ∧ w.grownBy w' (some pa) ∧ (b = true → matL s p q (mR T) = some (mR T')) ∧ (b = false → matL s p q (mR T) = none)
set_option maxHeartbeats 2000000 in
set_option maxRecDepth 100000 in
theorem ref2_matched_var (s : Sg) (vs va vb : Value) (A B q rb : List Int) (n : Int) (i j pa : Nat) (T : TT) (w : World) (hn : n < 0) (hn2 : -12 ≤ n) (hs : SignAt w vs s) (ra : Ints w va A) (rb' : Ints w vb B) (hA : A.length ≤ 100) (hB : B.length ≤ 100)
    (hi : i < A.length) (hAi : A[i] = n) (hq : IsT s 12 q) (hBj : B.drop j = q ++ rb) (hsb : ∀ x ∈ B, x < s.length) (hT : ArrT w pa 0 12 T) :
    Calls Tryz.prog 128 #[vs, va, vb, .int .i64 i, .int .i64 j, .pointer (some ⟨pa, 0, none⟩)] w (MOut s [n] q pa T w) := by
  have hjl := congrArg List.length hBj
  rw [List.length_drop, List.length_append] at hjl
  have hq0 := hq.ne
  have hql : q.length ≤ 1000 := by omega
  have hj : j < B.length := by omega
  obtain ⟨aa, acap, rfl, ha1, ha2, -, AC⟩ := ra.open
  obtain ⟨ab, ao, rfl, ca⟩ := AC i hi
  rw [hAi] at ca
  obtain ⟨ba, bcap, rfl, -⟩ := rb'.open
  obtain ⟨sa, scap, rfl, -⟩ := hs.open
  obtain ⟨v, hv⟩ := Int.eq_ofNat_of_zero_le (show 0 ≤ -n - 1 by omega)
  have hv12 : v < 12 := by omega
  have hpart := fun nq => ref1_Part _ _ s 12 B q rb j (w.drewN nq) (hs.drewN nq) (rb'.drewN nq) hq hBj hsb (by omega) hj
  have hmat := matL_var (s := s) (q := 12) hn [] hq [] (mR T)
  rw [List.append_nil] at hmat
  have hval := mR_at T hn hv
  have HMAT := hid hmat
  have HPART := hid hpart
  have HQ := hid hq
  have hneg : decide (n < 0) = true := by simp [hn]
  have hq37 := fun (w : World) (a : Option Addr) (n c n' c' : Nat) => Lib.run_eql_slice_nil (P := Tryz.prog) w _ _ a n c n' c' Tryz.underlying34
  clear AC hjl hq hBj hsb hs ra rb' hpart hmat
  go_enter Tryz.func128, Tryz.ntmps128
  go_wp2
  go_region_held3 (fun w' => w'.cell? ⟨ab, ao + i, none⟩ = some (.int .i64 n)) (first | assumption | go_keep) (first
    | (go_at_call 164; refine (HPART.out 1).mono ?_; rintro e w1 ⟨u, rfl, hown, hb1⟩; have hck := (hb1.cell (World.block_lt_of_cell? _ _ ca)).trans ca))
  have hB1 : Below w.heap.size w w1 := (below_self_drewN w 1).trans hb1
  have hT1 := hT.below hB1
  obtain ⟨g, cap, rfl, hiu⟩ := owns_ints hown hq0 hql
  have hw1 : IntKind.i64.wrap (-n) = -n := IntWalk.i64_in _ ⟨by omega, by omega⟩
  have hw2 : IntKind.i64.wrap (-n - 1) = v := by rw [hv]; exact IntWalk.i64_in _ ⟨by omega, by omega⟩
  rw [hw1, hw2]
  have hcl := hT1.cell hv12
  have hfr := hT1.frozen (0 + v)
  have HIU := hid hiu
  have HB1 := hid hB1
  have HT1 := hid hT1
  have HV := hid hv
  simp only [Nat.zero_add] at hcl hfr
  clear hown hb1 hck hB1 hT1 hiu hw1 hw2 hv hT
  cases hTv : T v with
  | none =>
    rw [hTv] at hcl hval
    have hs0 : sV none = .slice none 0 0 := rfl
    rw [hs0] at hcl
    have hset := HT1.out.set hv12 HIU.out
    have hmr := mR_set T hn HV.out (.slice (some ⟨g, 0, none⟩) q.length cap) q
    simp only [Nat.zero_add] at hset
    have HI2 := hid (HT1.out.keepInts rfl hset.2 HIU.out)
    have HSET := hid hset
    have hm2 := HMAT.out
    rw [hval] at hm2
    have HM := hid hm2
    have HMR := hid hmr
    have HEQ : Hid (decide (q = q) = true) := hid (by simp)
    clear hset hmr hm2 hTv hval hs0
    go_wp2_with (go_at_call 129; refine (ref1_Same _ _ q q _ HI2.out HI2.out).mono ?_; rintro e w2 ⟨rfl, nq, rfl⟩; rw [HEQ.out])
    go_ret
    refine ⟨_, _, rfl, HSET.out.1.below (below_self_drewN _ nq), grown_trans (grown_of_below HB1.out) (grown_trans HSET.out.2 (grown_of_below (below_self_drewN _ nq))), fun _ => ?_, fun h => by cases h⟩
    rw [HM.out, HMR.out]
    simp [matL_nil]
  | some ul =>
    obtain ⟨u0, l0⟩ := ul
    rw [hTv] at hcl hval
    obtain ⟨⟨x0, n0, c0, rfl⟩, hi0⟩ := HT1.out.ints hv12 hTv
    have hs0 : sV (some (.slice (some x0) n0 c0, l0)) = .slice (some x0) n0 c0 := rfl
    rw [hs0] at hcl
    have HI0 := hid hi0
    have hm2 := HMAT.out
    rw [hval] at hm2
    have HM := hid hm2
    clear hm2 hTv hval hs0 hi0
    go_wp2_with (go_at_call 129; refine (ref1_Same _ _ l0 q _ HI0.out HIU.out).mono ?_; rintro e w2 ⟨rfl, nq, rfl⟩)
    go_ret
    refine ⟨_, _, rfl, HT1.out.below (below_self_drewN _ nq), grown_trans (grown_of_below HB1.out) (grown_of_below (below_self_drewN _ nq)), fun h => ?_, fun h => ?_⟩
    · rw [HM.out]; simp [of_decide_eq_true h, matL_nil]
    · rw [HM.out]; simp [of_decide_eq_false h]
theorem Fo.take {s : Sg} {q : Int} {zs : List (List Int)} (h : ∀ a ∈ zs, IsT s q a) (k : Nat) : Fo s q (zs.take k).length (zs.take k).flatten := ⟨_, rfl, rfl, fun a ha => h a (List.mem_of_mem_take ha)⟩
theorem matL_step {s : Sg} {zs us : List (List Int)} (hz : ∀ a ∈ zs, IsT s 12 a) (hu : ∀ a ∈ us, IsT s 12 a) (hl : zs.length = us.length) (m : MM) {k : Nat} (h : k < zs.length) (h' : k < us.length) :
    matL s (zs.take (k + 1)).flatten (us.take (k + 1)).flatten m = (matL s (zs.take k).flatten (us.take k).flatten m).bind fun m' => matL s zs[k] us[k] m' := by
  rw [List.take_succ_eq_append_getElem h, List.take_succ_eq_append_getElem h', List.flatten_append, List.flatten_append]
  have := matL_append (s := s) (q := 12) (zs.take k).flatten (zs.take k).length (us.take k).flatten m zs[k] us[k] (Fo.take hz k) (by
    have e : (zs.take k).length = (us.take k).length := by simp; omega
    rw [e]; exact Fo.take hu k)
  simpa using this
theorem matL_fail {s : Sg} {zs us : List (List Int)} (hz : ∀ a ∈ zs, IsT s 12 a) (hu : ∀ a ∈ us, IsT s 12 a) (hl : zs.length = us.length) (m : MM) (k : Nat) (h : matL s (zs.take k).flatten (us.take k).flatten m = none) :
    matL s zs.flatten us.flatten m = none := by
  have := matL_append (s := s) (q := 12) (zs.take k).flatten (zs.take k).length (us.take k).flatten m (zs.drop k).flatten (us.drop k).flatten (Fo.take hz k) (by
    have e : (zs.take k).length = (us.take k).length := by simp; omega
    rw [e]; exact Fo.take hu k)
  rw [← List.flatten_append, ← List.flatten_append, List.take_append_drop, List.take_append_drop, h] at this
  exact this
set_option maxHeartbeats 4000000 in
set_option maxRecDepth 100000 in
theorem ref2_matched (s : Sg) (vs va vb : Value) (A B : List Int) (pa : Nat) (hA : A.length ≤ 100) (hB : B.length ≤ 100) (hsa : ∀ x ∈ A, x < s.length) (hsb : ∀ x ∈ B, x < s.length) {p : List Int} (hp : IsT s 12 p) :
    ∀ (q ra rb : List Int) (i j : Nat) (T : TT) (w : World), SignAt w vs s → Ints w va A → Ints w vb B → A.drop i = p ++ ra → IsT s 12 q → B.drop j = q ++ rb → ArrT w pa 0 12 T →
    Calls Tryz.prog 128 #[vs, va, vb, .int .i64 i, .int .i64 j, .pointer (some ⟨pa, 0, none⟩)] w (MOut s p q pa T w) := by
  induction hp with
  | var n h1 h2 =>
    intro q ra rb i j T w hs ia ib hAi hq hBj hT
    have hil := congrArg List.length hAi
    rw [List.length_drop, List.length_append] at hil
    have hi : i < A.length := by simp at hil; omega
    have hAn : A[i] = n := by
      have := List.drop_eq_getElem_cons hi
      rw [hAi] at this
      exact (List.cons.inj this).1.symm
    exact ref2_matched_var s vs va vb A B q rb n i j pa T w h2 h1 hs ia ib hA hB hi hAn hq hBj hsb hT
  | app c zs h1 h2 h3 ih =>
    intro q ra rb i j T w hs ia ib hAi hq hBj hT
    have hil := congrArg List.length hAi
    rw [List.length_drop, List.length_append, List.length_cons] at hil
    have hi : i < A.length := by omega
    have hAn : A[i] = c := by
      have := List.drop_eq_getElem_cons hi
      rw [hAi] at this
      exact (List.cons.inj this).1.symm
    have hjl := congrArg List.length hBj
    rw [List.length_drop, List.length_append] at hjl
    have hq0 := hq.ne
    have hj : j < B.length := by omega
    obtain ⟨aa, acap, hva, ha1, ha2, -, AC⟩ := ia.open
    subst hva
    obtain ⟨ab, ao, haa, ca⟩ := AC i hi
    subst haa
    rw [hAn] at ca
    obtain ⟨ba, bcap, hvb, hb1, hb2, -, BC⟩ := ib.open
    subst hvb
    obtain ⟨bb, bo, hbb, cb⟩ := BC j hj
    subst hbb
    obtain ⟨sa, scap, hvs, -⟩ := hs.open
    subst hvs
    have hdc : decide ((c : Int) < 0) = false := by simp
    clear AC BC hjl hil
    by_cases hcd : B[j] = c
    · -- the same symbol
      have hBc := List.drop_eq_getElem_cons hj
      rw [hBj, hcd] at hBc
      cases hq with
      | var n k1 k2 =>
        have := (List.cons.inj hBc).1
        omega
      | app d us k1 k2 k3 =>
        have hdc' := (List.cons.inj hBc).1
        have hdc2 : d = c := by omega
        subst hdc2
        rw [hcd] at cb
        have hne : ((d : Int) != (d : Int)) = false := by simp
        have hlen : zs.length = us.length := by have := h2.trans k2.symm; omega
        have hmc : ∀ m, matL s ((d : Int) :: zs.flatten) ((d : Int) :: us.flatten) m = matL s zs.flatten us.flatten m := fun m => by rw [matL_app (by omega), if_pos rfl]
        have HARGA := fun w' (hs' : SignAt w' _ s) (ia' : Ints w' _ A) => hid (ref1_Arguments (.slice sa s.length scap) (.slice (some ⟨ab, ao, none⟩) A.length acap) s 12 A ra d zs i w' hs' ia' h1 h2 h3 hAi hsa (by omega))
        have HARGB := fun w' (hs' : SignAt w' _ s) (ib' : Ints w' _ B) => hid (ref1_Arguments (.slice sa s.length scap) (.slice (some ⟨bb, bo, none⟩) B.length bcap) s 12 B rb d us j w' hs' ib' h1 k2 k3 hBj hsb (by omega))
        have hPA := fun (k : Nat) (hk : k < zs.length) => drop_part hAi hk
        have hPB := fun (k : Nat) (hk : k < us.length) => drop_part hBj hk
        have hzl := terms_len h3
        have hAl := congrArg List.length hAi
        rw [List.length_drop, List.length_append, List.length_cons] at hAl
        have hz100 : zs.length ≤ 1000 := by omega
        have IH := hid ih
        have H3 := hid h3
        have K3 := hid k3
        have HPA := hid hPA
        have HPB := hid hPB
        have HMC := hid (hmc (mR T))
        have HLEN := hid hlen
        have HT := hid hT
        have HSA := hid hsa
        have HSB := hid hsb
        have HS := hid hs
        have HIA := hid ia
        have HIB := hid ib
        clear hcd hBc hdc' hlen hmc hPA hPB hzl hAl ih h3 k3 hT hBj hAi h2 k2 hAn hsa hsb hs ia ib hq0
        go_enter Tryz.func128, Tryz.ntmps128
        go_wp2
        go_quiet (fail)
        go_wp2_with fail
        refine (HARGA _ (HS.out.drewN nq) (HIA.out.drewN nq)).out.mono ?_
        rintro e w1 ⟨ua, rfl, oa, hba⟩
        have hb1 : Below w.heap.size w w1 := (below_self_drewN w nq).trans hba
        go_wp2_with fail
        refine (HARGB _ (HS.out.below hb1) (HIB.out.below hb1)).out.mono ?_
        rintro e w2 ⟨ub, rfl, ob, hbb⟩
        have hb2 : Below w.heap.size w w2 := hb1.trans (hbb.mono hb1.size)
        have hla := startL_len i zs zs.length
        have hlb := startL_len j us us.length
        have iua : Ints w2 ua (startL i zs zs.length) := (Ints.of_owns oa (by omega)).below hbb
        have iub : Ints w2 ub (startL j us us.length) := Ints.of_owns ob (by rw [hlb]; have := HLEN.out; omega)
        obtain ⟨xa, xcap, hxe, -⟩ := iua.open
        subst hxe
        obtain ⟨ya, ycap, hye, -⟩ := iub.open
        subst hye
        rw [hla] at iua ⊢
        rw [hlb] at iub ⊢
        have HIUA := hid iua
        have HIUB := hid iub
        have HB2 := hid hb2
        have HT2 := hid (HT.out.below hb2)
        clear oa ob hba hbb hb1 iua iub hb2 hla hlb HARGA HARGB ca cb
        go_wp2
        go_loopw [17] (fun kv wr => ∃ (k : Nat) (T' : TT), k ≤ zs.length ∧ kv = .int .i64 k ∧ ArrT wr pa 0 12 T' ∧ w2.grownBy wr (some pa) ∧ matL s (zs.take k).flatten (us.take k).flatten (mR T) = some (mR T')) (fun kv _ => zs.length - (intOf kv).toNat)
        case atStart => exact ⟨0, T, by omega, rfl, HT2.out, grown_of_below (Below.refl _ _), by simp [matL_nil]⟩
        case round =>
          obtain ⟨k, T', hk, rfl, hT', hg, hmat⟩ := hrel
          have hgw : w.grownBy wr (some pa) := grown_trans (grown_of_below HB2.out) hg
          by_cases hlt : k < zs.length
          · have hltu : k < us.length := by have := HLEN.out; omega
            have hka : k < (startL i zs zs.length).length := by rw [startL_len]; exact hlt
            have hkb : k < (startL j us us.length).length := by rw [startL_len]; exact hltu
            obtain ⟨xb, xo, hxe, hcx⟩ := (HT2.out.keepInts rfl hg HIUA.out).at2 hka
            subst hxe
            obtain ⟨yb, yo, hye, hcy⟩ := (HT2.out.keepInts rfl hg HIUB.out).at2 hkb
            subst hye
            rw [startL_get i zs hlt] at hcx
            rw [startL_get j us hltu] at hcy
            have hstep := matL_step H3.out K3.out HLEN.out (mR T) hlt hltu
            rw [hmat] at hstep
            have hpa := HPA.out k hlt
            have hpb := HPB.out k hltu
            obtain ⟨I, hI⟩ : ∃ x, i + 1 + (zs.take k).flatten.length = x := ⟨_, rfl⟩
            obtain ⟨J, hJ⟩ : ∃ x, j + 1 + (us.take k).flatten.length = x := ⟨_, rfl⟩
            rw [hI] at hcx hpa
            rw [hJ] at hcy hpb
            have hcall := IH.out zs[k] (List.getElem_mem hlt) us[k] _ _ I J T' (wr.drewN 1) (HT.out.keepSign rfl hgw HS.out) (HT.out.keepInts rfl hgw HIA.out) (HT.out.keepInts rfl hgw HIB.out) hpa (K3.out _ (List.getElem_mem hltu)) hpb hT'
            have HCALL := hid hcall
            have HSTEP := hid hstep
            have HT' := hid hT'
            clear hcall hstep hT' hmat hpa hpb hI hJ hka hkb
            go_wp2
            go_region_held3 (fun w' => w'.cell? ⟨xb, xo + k, none⟩ = some (.int .i64 I) ∧ w'.cell? ⟨yb, yo + k, none⟩ = some (.int .i64 J)) (first | (exact ⟨by assumption, by assumption⟩) | go_keep) (first
              | (go_at_call 128; refine HCALL.out.mono ?_; rintro e w3 ⟨T3, bo3, rfl, hT3, hg3, ht3, hf3⟩
                 have hcx3 : w3.cell? ⟨xb, xo + k, none⟩ = some (.int .i64 I) := HT'.out.keep (w := wr.drewN 1) rfl hg3 hcx (by intro _ _ _ h; cases h)
                 have hcy3 : w3.cell? ⟨yb, yo + k, none⟩ = some (.int .i64 J) := HT'.out.keep (w := wr.drewN 1) rfl hg3 hcy (by intro _ _ _ h; cases h)))
            have hg4 : w2.grownBy w3 (some pa) := grown_trans hg (grown_trans (grown_of_below (below_self_drewN wr 1)) hg3)
            have HT3 := hid hT3
            have HG4 := hid hg4
            cases bo3 with
            | true =>
              have HM3 := hid (ht3 rfl)
              clear ht3 hf3 hT3 hg4 hg3
              go_wp2
              go_roundw
              case rel => exact ⟨k + 1, T3, by omega, by go_num, HT3.out, HG4.out, by rw [HSTEP.out]; exact HM3.out⟩
              case measure => simp [intOf]; omega
            | false =>
              have HM3 := hid (hf3 rfl)
              have HF : Hid (matL s zs.flatten us.flatten (mR T) = none) := hid (matL_fail H3.out K3.out HLEN.out (mR T) (k + 1) (by rw [HSTEP.out]; exact HM3.out))
              clear ht3 hf3 hT3 hg4 hg3
              go_wp2
              go_ret
              exact ⟨T3, false, rfl, HT3.out, grown_trans (grown_of_below HB2.out) HG4.out, (fun h => by cases h), fun _ => by rw [HMC.out]; exact HF.out⟩
          · have hkz : k = zs.length := by omega
            rw [hkz, List.take_of_length_le (Nat.le_refl _), List.take_of_length_le (by have := HLEN.out; omega)] at hmat
            have HMAT := hid hmat
            have HT' := hid hT'
            have HG := hid hgw
            clear hmat hT' hgw hg
            go_wp2
            go_ret
            exact ⟨T', true, rfl, HT'.out, HG.out, (fun _ => by rw [HMC.out]; exact HMAT.out), fun h => by cases h⟩
    · have hne : ((c : Int) != B[j]) = true := by simp [bne]; omega
      have HF : Hid (matL s ((c : Int) :: zs.flatten) q (mR T) = none) := hid (by
        have e : q = B[j] :: (B.drop (j + 1)).take (q.length - 1) := by
          have := List.drop_eq_getElem_cons hj
          rw [hBj] at this
          cases q with
          | nil => simp at hq0
          | cons x q =>
            rw [List.cons_append] at this
            obtain ⟨e1, e2⟩ := List.cons.inj this
            rw [e1, ← e2]; simp
        rw [e, matL_app (by omega), if_neg hcd])
      have HT := hid hT
      clear hcd hq hBj hAi hT ih h2 h3
      go_enter Tryz.func128, Tryz.ntmps128
      go_wp2
      go_quiet (fail)
      go_wp2
      go_ret
      exact ⟨T, false, rfl, HT.out.below (below_self_drewN _ nq), grown_of_below (below_self_drewN _ nq), (fun h => by cases h), fun _ => HF.out⟩
end Go.Proofs.YtmpjaakkjhmpmaaGreatDoor
