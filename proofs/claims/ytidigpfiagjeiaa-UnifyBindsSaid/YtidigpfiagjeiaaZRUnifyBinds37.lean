/-
  WHAT IT HOLDS: contract of Compose of the reference of layer 2. Conditions: the arguments read as data.
-/
import Derived.Test.YtidigpfiagjeiaaZRUnifyBinds28
import Derived.Test.YtidigpfiagjeiaaZRUnifyBinds36
import Derived.Test.YtidigpfiagjeiaaZRUnifyBinds35
import Derived.Test.YtidigpfiagjeiaaZRUnifyBinds34
namespace Go.Proofs.Ytidigpfiagjeiaa
open Go Go.RowKit Go.Maps
set_option maxHeartbeats 4000000 in
set_option maxRecDepth 100000 in
theorem ref2_Compose (vs v1 v2 : Value) (s : Sg) (l m : BL) (w : World) (hs : SignAt w vs s) (hv : BindsAt w v1 l) (hm : BindsAt w v2 m) (hs1 : s.length ≤ 1000) :
    Calls Try.prog 37 #[vs, v1, v2] w fun e w' => ∃ u, e = .returned (.tuple #[u, .int .i64 (comR s l m).2]) ∧ BindsAt w' u (comR s l m).1 ∧ Below w.heap.size w w' := by
  have HVL := hid (ref2_ValidBinds vs v1 s l w hs hv)
  have HVM := hid (fun (X : World) (hX : Below w.heap.size w X) => ref2_ValidBinds vs v2 s m X (hs.below hX) (hm.below hX))
  have HV := hid hv
  have HM := hid hm
  clear hs hv hm
  cases h1 : bndsB s l
  · have HA : Hid (comR s l m = ([], 1)) := hid (by unfold comR; rw [h1]; rfl)
    simp only [h1] at HVL
    clear h1
    go_enter Try.func37, Try.ntmps37
    go_wp2_with fail
    refine HVL.out.mono ?_
    rintro e w1 ⟨rfl, hb1⟩
    go_wp2
    go_ret2
    rw [HA.out]
    exact ⟨_, rfl, binds_nil _, hb1⟩
  · simp only [h1] at HVL
    cases h2 : bndsB s m
    · have HA : Hid (comR s l m = ([], 1)) := hid (by unfold comR; rw [h1, h2]; rfl)
      simp only [h2] at HVM
      clear h1 h2
      go_enter Try.func37, Try.ntmps37
      go_wp2_with fail
      refine HVL.out.mono ?_
      rintro e w1 ⟨rfl, hb1⟩
      go_wp2_with fail
      refine (HVM.out _ hb1).mono ?_
      rintro e w2 ⟨rfl, hb2⟩
      go_wp2
      go_ret2
      rw [HA.out]
      exact ⟨_, rfl, binds_nil _, hb1.trans (hb2.mono hb1.size)⟩
    · have HH1 := hid h1
      have HH2 := hid h2
      simp only [h2] at HVM
      clear h1 h2
      go_enter Try.func37, Try.ntmps37
      go_wp2_with fail
      refine HVL.out.mono ?_
      rintro e w1 ⟨rfl, hb1⟩
      go_wp2_with fail
      refine (HVM.out _ hb1).mono ?_
      rintro e w2 ⟨rfl, hb2⟩
      have HB2 := hid (hb1.trans (hb2.mono hb1.size))
      have hs2 := HB2.out.size
      clear hb1 hb2 HVL HVM
      go_wp2
      go_loopw [8, 9] (fun u kv wr => ∃ (k : Nat) (bs : List BV), k ≤ 12 ∧ kv = .int .i64 k ∧ BSep 61 3 wr w.heap.size u bs ∧ biP bs = bndL (comM l m) k ∧ Below w.heap.size w wr ∧ ∀ i, i < k → comLe l m i = true) (fun _ kv _ => 12 - (intOf kv).toNat)
      case atStart => exact ⟨0, [], by omega, rfl, BSep.nil _ _ _ _, rfl, HB2.out, fun i hi => by omega⟩
      case round =>
        obtain ⟨k, bs, hk, rfl, hown, hbp, hb, hle⟩ := hrel
        have hsz := hb.size
        by_cases hlt : k < 12
        · have hl12 := bndL_len (comM l m) k
          rw [← hbp, biP_len] at hl12
          have hrow := BSep.row hown
          obtain ⟨ao, co, rfl⟩ := ownsRow_slice hrow
          have HOWN := hid hown
          have HBP := hid hbp
          have HLE := hid hle
          have HB := hid hb
          clear hown hbp hle hb hrow
          have hof := ofN_T HH1.out (n := -(k : Int) - 1) (by omega) (by omega)
          have hrl0 := sub_le HH2.out hof.1
          obtain ⟨r, hr⟩ : ∃ r, subL (ofN m) (ofN l (-(k : Int) - 1)) = r := ⟨_, rfl⟩
          rw [hr] at hrl0
          have hrl : r.length ≤ 3600 := by omega
          have HSUC := hid (comM_succ hr)
          have HLQ : Hid (comLe l m k = decide (r.length ≤ 60)) := hid (by unfold comLe; rw [hr])
          have HOF := hid hof
          have HR := hid hr
          clear hr hrl0 hof
          go_wp2_with fail
          refine (ref2_Of v1 l k _ (HV.out.below HB.out) (by omega) (by omega)).mono ?_
          rintro e w3 ⟨u3, rfl, i3, hb3⟩
          have HB3 := hid hb3
          have HB03 := hid (HB.out.trans (hb3.mono hsz))
          have hap := ref2_Applied v2 u3 m _ w3 (HM.out.below HB03.out) i3 (by have := HOF.out.2; omega) (fun x hx => by rcases HOF.out.1.range x hx with h | h <;> omega) (fun x hx h0 => (ofN_T HH2.out (HOF.out.1.vars x hx h0) h0).2)
          rw [HR.out] at hap
          have HAP := hid hap
          clear hap hb3 i3
          go_wp2_with fail
          refine HAP.out.mono ?_
          rintro e w4 ⟨u4, rfl, o4, hb4⟩
          have i4 := Ints.of_owns o4 (by omega)
          obtain ⟨a4, c4, rfl, -⟩ := i4.open
          have HI4 := hid i4
          have HO4 := hid o4
          have HB4 := hid (HB3.out.trans (hb4.mono HB3.out.size))
          have HB34 := hid hb4
          clear hb4 i4 o4
          by_cases h60 : r.length ≤ 60
          · have hle : comLe l m k = true := by rw [HLQ.out]; simp [h60]
            have HLT := hid hle
            clear hle
            go_wp2_with fail
            refine (ref2_Variable (k : Int) _ (by omega) (by omega)).mono ?_
            rintro e w5 ⟨u5, rfl, o5, hb5⟩
            have HI5 := hid (Ints.of_owns o5 (by simp))
            have HB5 := hid (HB4.out.trans (hb5.mono HB4.out.size))
            have HB35 := hid (HB34.out.trans (hb5.mono HB34.out.size))
            have HI45 := hid (HI4.out.below hb5)
            have HO45 := hid (owns_below HO4.out hb5)
            clear o5 hb5 HI4 HO4
            go_wp2_with fail
            refine (ref1_Same _ _ r [-(k : Int) - 1] _ HI45.out HI5.out).mono ?_
            rintro e w6 ⟨rfl, nq, rfl⟩
            have HB6 := hid (below_drewN HB5.out nq)
            have HO6 := hid (owns_below HO45.out (below_self_drewN w5 nq))
            generalize w5.drewN nq = w6 at *
            have HS := hid (HOWN.out.below HB6.out)
            have HB06 := hid (HB.out.trans (HB6.out.mono hsz))
            have hs6 := HB6.out.size
            clear HO45 HI45 HI5
            by_cases heq : r = [-(k : Int) - 1]
            · have HD : Hid (decide (r = [-(k : Int) - 1]) = true) := hid (by simp [heq])
              have HSU : Hid (bndL (comM l m) (k + 1) = bndL (comM l m) k) := hid (by rw [HSUC.out, if_pos heq]; simp)
              clear heq
              rw [HD.out]
              go_wp2
              go_roundw
              case rel => exact ⟨k + 1, bs, by omega, by go_num, HS.out, by rw [HSU.out, HBP.out], HB06.out, fun i hi => by
                rcases Nat.lt_succ_iff_lt_or_eq.1 hi with h1 | rfl
                · exact HLE.out i h1
                · exact HLT.out⟩
              case measure => simp [intOf]; omega
            · have HD : Hid (decide (r = [-(k : Int) - 1]) = false) := hid (by simp [heq])
              have HSU : Hid (bndL (comM l m) (k + 1) = bndL (comM l m) k ++ [((k : Int), r)]) := hid (by rw [HSUC.out, if_neg heq])
              clear heq
              rw [HD.out]
              have hbA6 : Below w6.heap.size w6 (w6.alloc (.cells #[.int .i64 k, .slice a4 r.length c4] 61)) := (Below.refl _ _).alloc (Nat.le_refl _) _
              have HBZ := hid (HB6.out.trans (hbA6.mono hs6))
              have HOZ := hid (owns_below HO6.out hbA6)
              have HRW := hid HOWN.out.row
              have HRA := hid (owns_below HOWN.out.row HBZ.out)
              have hsrc : RowK (w6.alloc (.cells #[.int .i64 k, .slice a4 r.length c4] 61)) (.slice (some ⟨w6.heap.size, 0, none⟩) 1 1) 2 1 [.int .i64 k, .slice a4 r.length c4] := row_two_new _ _ _ _
              have HSRC := hid hsrc
              have hszA : w.heap.size ≤ (w6.alloc (.cells #[.int .i64 k, .slice a4 r.length c4] 61)).heap.size := Nat.le_trans hsz HBZ.out.size
              clear hbA6 hsrc
              go_wp2_with (at_builtin; refine wpList_append_lie rfl _ _ 39 rfl w.heap.size 61 el_bind Try.underlying39 rfl (by decide) _ _ _ rfl HRA.out _ 1 [.int .i64 k, .slice a4 r.length c4] rfl HSRC.out (by simp; exact ⟨rfl, rfl⟩) (by decide) (by omega) (by omega) hszA _ rfl ?_; intro g1 c1 w7 hown7 hgrow7 hat7 hlt7)
              have HPUSH := hid (HOWN.out.push HBZ.out HB3.out.size (Nat.le_trans hsz HB3.out.size) HOZ.out rfl hown7 hgrow7 rfl hat7)
              have hb7 : Below w.heap.size w w7 := (HB.out.trans (HBZ.out.mono hsz)).grown hgrow7 hszA (fun q hq => (HRW.out.lt q hq).1)
              have HB7 := hid hb7
              clear hb7 hown7 hgrow7 hat7 hlt7
              go_roundw
              case rel => exact ⟨k + 1, bs ++ [((k : Int), .slice a4 r.length c4, r)], by omega, by go_num, HPUSH.out, by rw [biP_snoc, HSU.out, HBP.out], HB7.out, fun i hi => by
                rcases Nat.lt_succ_iff_lt_or_eq.1 hi with h1 | rfl
                · exact HLE.out i h1
                · exact HLT.out⟩
              case measure => simp [intOf]; omega
          · have HR4 := hid (comR_long HH1.out HH2.out hlt (by rw [HLQ.out]; simp [h60]))
            go_wp2
            go_ret2
            rw [HR4.out]
            exact ⟨_, rfl, binds_nil _, HB.out.trans (HB4.out.mono hsz)⟩
        · have hk12 : k = 12 := by omega
          subst hk12
          have hl12 := bndL_len (comM l m) 12
          rw [← hbp, biP_len] at hl12
          have HR4 := hid (comR_full HH1.out HH2.out hle)
          have HAT := hid (hown.at hbp (by omega) (fun b hb' => by
            obtain ⟨v, h1, _, h3, _⟩ := bndL_mem hb'
            have h5 := hle v h1
            have h6 : subL (ofN m) (ofN l (-(v : Int) - 1)) = b.2 := Option.some.inj h3
            unfold comLe at h5
            rw [h6] at h5
            have := of_decide_eq_true h5
            omega))
          clear hown hbp hle
          go_wp2
          go_ret2
          rw [HR4.out]
          exact ⟨_, rfl, HAT.out, hb⟩
end Go.Proofs.Ytidigpfiagjeiaa
