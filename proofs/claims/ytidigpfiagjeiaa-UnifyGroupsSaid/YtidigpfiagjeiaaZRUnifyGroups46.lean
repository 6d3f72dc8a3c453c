/-
  WHAT IT HOLDS: contract of Compose of the reference of layer 2. Conditions: the arguments read as data.
  WHAT IT HOLDS: the walk of the law UnifyComposes.
-/
import Derived.Test.YtidigpfiagjeiaaZRUnifyGroups29
import Derived.Test.YtidigpfiagjeiaaZRUnifyGroups37
import Derived.Test.YtidigpfiagjeiaaZRUnifyGroups36
import Derived.Test.YtidigpfiagjeiaaZRUnifyGroups35
import Derived.Test.YtidigpfiagjeiaaZRUnifyGroups45
import Derived.Test.YtidigpfiagjeiaaZRUnifyGroups0
import Derived.Test.YtidigpfiagjeiaaZRUnifyGroups44
import Derived.Test.YtidigpfiagjeiaaZRUnifyGroups43
namespace Go.Proofs.Ytidigpfiagjeiaa
open Go Go.RowKit Go.Maps
set_option maxHeartbeats 4000000 in
set_option maxRecDepth 100000 in
theorem ref2_Compose (vs v1 v2 : Value) (s : Sg) (l m : BL) (w : World) (hs : SignAt w vs s) (hv : BindsAt w v1 l) (hm : BindsAt w v2 m) (hs1 : s.length ≤ 1000) :
    Calls Try.prog 37 #[vs, v1, v2] w fun e w' => ∃ u, e = .returned (.tuple #[u, .int .i64 (comR s l m).2]) ∧ BindsAt w' u (comR s l m).1 ∧ Below w.heap.size w w' := by
  have HVL := hid (ref2_ValidBinds vs v1 s l w hs hv)
  have HVM := hid (fun (X : World) (hX : Below w.heap.size w X) => ref2_ValidBinds vs v2 s m X (hs.below hX) (hm.below hX))
  have HV := hid hv
  have HM := hid hm
  clear hs hv hm
  cases h1 : bndsB s l
  · have HA : Hid (comR s l m = ([], 1)) := hid (by unfold comR; rw [h1]; rfl)
    simp only [h1] at HVL
    clear h1
    go_enter Try.func37, Try.ntmps37
    go_wp2_with fail
    refine HVL.out.mono ?_
    rintro e w1 ⟨rfl, hb1⟩
    go_wp2
    go_ret2
    rw [HA.out]
    exact ⟨_, rfl, binds_nil _, hb1⟩
  · simp only [h1] at HVL
    cases h2 : bndsB s m
    · have HA : Hid (comR s l m = ([], 1)) := hid (by unfold comR; rw [h1, h2]; rfl)
      simp only [h2] at HVM
      clear h1 h2
      go_enter Try.func37, Try.ntmps37
      go_wp2_with fail
      refine HVL.out.mono ?_
      rintro e w1 ⟨rfl, hb1⟩
      go_wp2_with fail
      refine (HVM.out _ hb1).mono ?_
      rintro e w2 ⟨rfl, hb2⟩
      go_wp2
      go_ret2
      rw [HA.out]
      exact ⟨_, rfl, binds_nil _, hb1.trans (hb2.mono hb1.size)⟩
    · have HH1 := hid h1
      have HH2 := hid h2
      simp only [h2] at HVM
      clear h1 h2
      go_enter Try.func37, Try.ntmps37
      go_wp2_with fail
      refine HVL.out.mono ?_
      rintro e w1 ⟨rfl, hb1⟩
      go_wp2_with fail
      refine (HVM.out _ hb1).mono ?_
      rintro e w2 ⟨rfl, hb2⟩
      have HB2 := hid (hb1.trans (hb2.mono hb1.size))
      have hs2 := HB2.out.size
      clear hb1 hb2 HVL HVM
      go_wp2
      go_loopw [8, 9] (fun u kv wr => ∃ (k : Nat) (bs : List BV), k ≤ 12 ∧ kv = .int .i64 k ∧ BSep 61 3 wr w.heap.size u bs ∧ biP bs = bndL (comM l m) k ∧ Below w.heap.size w wr ∧ ∀ i, i < k → comLe l m i = true) (fun _ kv _ => 12 - (intOf kv).toNat)
      case atStart => exact ⟨0, [], by omega, rfl, BSep.nil _ _ _ _, rfl, HB2.out, fun i hi => by omega⟩
      case round =>
        obtain ⟨k, bs, hk, rfl, hown, hbp, hb, hle⟩ := hrel
        have hsz := hb.size
        by_cases hlt : k < 12
        · have hl12 := bndL_len (comM l m) k
          rw [← hbp, biP_len] at hl12
          have hrow := BSep.row hown
          obtain ⟨ao, co, rfl⟩ := ownsRow_slice hrow
          have HOWN := hid hown
          have HBP := hid hbp
          have HLE := hid hle
          have HB := hid hb
          clear hown hbp hle hb hrow
          have hof := ofN_T HH1.out (n := -(k : Int) - 1) (by omega) (by omega)
          have hrl0 := sub_le HH2.out hof.1
          obtain ⟨r, hr⟩ : ∃ r, subL (ofN m) (ofN l (-(k : Int) - 1)) = r := ⟨_, rfl⟩
          rw [hr] at hrl0
          have hrl : r.length ≤ 3600 := by omega
          have HSUC := hid (comM_succ hr)
          have HLQ : Hid (comLe l m k = decide (r.length ≤ 60)) := hid (by unfold comLe; rw [hr])
          have HOF := hid hof
          have HR := hid hr
          clear hr hrl0 hof
          go_wp2_with fail
          refine (ref2_Of v1 l k _ (HV.out.below HB.out) (by omega) (by omega)).mono ?_
          rintro e w3 ⟨u3, rfl, i3, hb3⟩
          have HB3 := hid hb3
          have HB03 := hid (HB.out.trans (hb3.mono hsz))
          have hap := ref2_Applied v2 u3 m _ w3 (HM.out.below HB03.out) i3 (by have := HOF.out.2; omega) (fun x hx => by rcases HOF.out.1.range x hx with h | h <;> omega) (fun x hx h0 => (ofN_T HH2.out (HOF.out.1.vars x hx h0) h0).2)
          rw [HR.out] at hap
          have HAP := hid hap
          clear hap hb3 i3
          go_wp2_with fail
          refine HAP.out.mono ?_
          rintro e w4 ⟨u4, rfl, o4, hb4⟩
          have i4 := Ints.of_owns o4 (by omega)
          obtain ⟨a4, c4, rfl, -⟩ := i4.open
          have HI4 := hid i4
          have HO4 := hid o4
          have HB4 := hid (HB3.out.trans (hb4.mono HB3.out.size))
          have HB34 := hid hb4
          clear hb4 i4 o4
          by_cases h60 : r.length ≤ 60
          · have hle : comLe l m k = true := by rw [HLQ.out]; simp [h60]
            have HLT := hid hle
            clear hle
            go_wp2_with fail
            refine (ref2_Variable (k : Int) _ (by omega) (by omega)).mono ?_
            rintro e w5 ⟨u5, rfl, o5, hb5⟩
            have HI5 := hid (Ints.of_owns o5 (by simp))
            have HB5 := hid (HB4.out.trans (hb5.mono HB4.out.size))
            have HB35 := hid (HB34.out.trans (hb5.mono HB34.out.size))
            have HI45 := hid (HI4.out.below hb5)
            have HO45 := hid (owns_below HO4.out hb5)
            clear o5 hb5 HI4 HO4
            go_wp2_with fail
            refine (ref1_Same _ _ r [-(k : Int) - 1] _ HI45.out HI5.out).mono ?_
            rintro e w6 ⟨rfl, nq, rfl⟩
            have HB6 := hid (below_drewN HB5.out nq)
            have HO6 := hid (owns_below HO45.out (below_self_drewN w5 nq))
            generalize w5.drewN nq = w6 at *
            have HS := hid (HOWN.out.below HB6.out)
            have HB06 := hid (HB.out.trans (HB6.out.mono hsz))
            have hs6 := HB6.out.size
            clear HO45 HI45 HI5
            by_cases heq : r = [-(k : Int) - 1]
            · have HD : Hid (decide (r = [-(k : Int) - 1]) = true) := hid (by simp [heq])
              have HSU : Hid (bndL (comM l m) (k + 1) = bndL (comM l m) k) := hid (by rw [HSUC.out, if_pos heq]; simp)
              clear heq
              rw [HD.out]
              go_wp2
              go_roundw
              case rel => exact ⟨k + 1, bs, by omega, by go_num, HS.out, by rw [HSU.out, HBP.out], HB06.out, fun i hi => by
                rcases Nat.lt_succ_iff_lt_or_eq.1 hi with h1 | rfl
                · exact HLE.out i h1
                · exact HLT.out⟩
              case measure => simp [intOf]; omega
            · have HD : Hid (decide (r = [-(k : Int) - 1]) = false) := hid (by simp [heq])
              have HSU : Hid (bndL (comM l m) (k + 1) = bndL (comM l m) k ++ [((k : Int), r)]) := hid (by rw [HSUC.out, if_neg heq])
              clear heq
              rw [HD.out]
              have hbA6 : Below w6.heap.size w6 (w6.alloc (.cells #[.int .i64 k, .slice a4 r.length c4] 61)) := (Below.refl _ _).alloc (Nat.le_refl _) _
              have HBZ := hid (HB6.out.trans (hbA6.mono hs6))
              have HOZ := hid (owns_below HO6.out hbA6)
              have HRW := hid HOWN.out.row
              have HRA := hid (owns_below HOWN.out.row HBZ.out)
              have hsrc : RowK (w6.alloc (.cells #[.int .i64 k, .slice a4 r.length c4] 61)) (.slice (some ⟨w6.heap.size, 0, none⟩) 1 1) 2 1 [.int .i64 k, .slice a4 r.length c4] := row_two_new _ _ _ _
              have HSRC := hid hsrc
              have hszA : w.heap.size ≤ (w6.alloc (.cells #[.int .i64 k, .slice a4 r.length c4] 61)).heap.size := Nat.le_trans hsz HBZ.out.size
              clear hbA6 hsrc
              go_wp2_with (at_builtin; refine wpList_append_lie rfl _ _ 39 rfl w.heap.size 61 el_bind Try.underlying39 rfl (by decide) _ _ _ rfl HRA.out _ 1 [.int .i64 k, .slice a4 r.length c4] rfl HSRC.out (by simp; exact ⟨rfl, rfl⟩) (by decide) (by omega) (by omega) hszA _ rfl ?_; intro g1 c1 w7 hown7 hgrow7 hat7 hlt7)
              have HPUSH := hid (HOWN.out.push HBZ.out HB3.out.size (Nat.le_trans hsz HB3.out.size) HOZ.out rfl hown7 hgrow7 rfl hat7)
              have hb7 : Below w.heap.size w w7 := (HB.out.trans (HBZ.out.mono hsz)).grown hgrow7 hszA (fun q hq => (HRW.out.lt q hq).1)
              have HB7 := hid hb7
              clear hb7 hown7 hgrow7 hat7 hlt7
              go_roundw
              case rel => exact ⟨k + 1, bs ++ [((k : Int), .slice a4 r.length c4, r)], by omega, by go_num, HPUSH.out, by rw [biP_snoc, HSU.out, HBP.out], HB7.out, fun i hi => by
                rcases Nat.lt_succ_iff_lt_or_eq.1 hi with h1 | rfl
                · exact HLE.out i h1
                · exact HLT.out⟩
              case measure => simp [intOf]; omega
          · have HR4 := hid (comR_long HH1.out HH2.out hlt (by rw [HLQ.out]; simp [h60]))
            go_wp2
            go_ret2
            rw [HR4.out]
            exact ⟨_, rfl, binds_nil _, HB.out.trans (HB4.out.mono hsz)⟩
        · have hk12 : k = 12 := by omega
          subst hk12
          have hl12 := bndL_len (comM l m) 12
          rw [← hbp, biP_len] at hl12
          have HR4 := hid (comR_full HH1.out HH2.out hle)
          have HAT := hid (hown.at hbp (by omega) (fun b hb' => by
            obtain ⟨v, h1, _, h3, _⟩ := bndL_mem hb'
            have h5 := hle v h1
            have h6 : subL (ofN m) (ofN l (-(v : Int) - 1)) = b.2 := Option.some.inj h3
            unfold comLe at h5
            rw [h6] at h5
            have := of_decide_eq_true h5
            omega))
          clear hown hbp hle
          go_wp2
          go_ret2
          rw [HR4.out]
          exact ⟨_, rfl, HAT.out, hb⟩
end Go.Proofs.Ytidigpfiagjeiaa
namespace Go.Proofs.Ytidigpfiagjeiaa
open Go Go.RowKit Go.Maps
theorem com_apps {s : Sg} {l m : BL} {t : List Int} (h : (comR s l m).2 = 0) (h2 : (appR s l t).2 = 0) : appR s m (appR s l t).1 = appR s (comR s l m).1 t := by
  obtain ⟨c1, c2, c3, c4, c5, c6⟩ := comR_ok h
  have e1 : appR s l t = if termB s t && bndsB s l then (if (subL (ofN l) t).length ≤ 60 then (subL (ofN l) t, 0) else ([], 4)) else ([], 1) := rfl
  cases ht : termB s t
  · rw [e1, ht] at h2; simp at h2
  · rw [ht, c1] at e1
    by_cases h60 : (subL (ofN l) t).length ≤ 60
    · rw [if_pos (by rfl : (true && true) = true), if_pos h60] at e1
      have hT : termB s (subL (ofN l) t) = true := T_termB (bndsB_iff.1 c1).1 (sub_T c1 (termB_T ht)) h60
      have e2 : appR s m (subL (ofN l) t) = if termB s (subL (ofN l) t) && bndsB s m then (if (subL (ofN m) (subL (ofN l) t)).length ≤ 60 then (subL (ofN m) (subL (ofN l) t), 0) else ([], 4)) else ([], 1) := rfl
      have e3 : appR s (comR s l m).1 t = if termB s t && bndsB s (comR s l m).1 then (if (subL (ofN (comR s l m).1) t).length ≤ 60 then (subL (ofN (comR s l m).1) t, 0) else ([], 4)) else ([], 1) := rfl
      rw [e1]
      show appR s m (subL (ofN l) t) = _
      rw [e2, e3, com_app h (termB_T ht), hT, c2, ht, c5]
    · rw [if_pos (by rfl : (true && true) = true), if_neg h60] at e1
      rw [e1] at h2; simp at h2
set_option maxHeartbeats 4000000 in
set_option maxRecDepth 100000 in
theorem walk_UnifyComposes (vs vl vm vt : Value) (s : Sg) (l m : BL) (t : List Int) (w : World) (hs : SignAt w vs s) (hl : BindsAt w vl l) (hm : BindsAt w vm m) (ht : Ints w vt t) :
    Calls Try.prog 9 #[vs, .agg #[vl, vm, vt]] w fun e w' => e = .returned (.bool true) ∧ Below w.heap.size w w' := by
  obtain ⟨al, kl, he0, -⟩ := hl.open
  obtain ⟨am, km, he1, -⟩ := hm.open
  obtain ⟨aT, kt, he2, -⟩ := ht.open
  subst he0 he1 he2
  have hbx := Box3.new w (.slice al l.length kl) (.slice am m.length km) (.slice aT t.length kt) 46
  have hb1 : Below w.heap.size w (w.alloc (.cells #[.slice al l.length kl, .slice am m.length km, .slice aT t.length kt] 46)) := (Below.refl _ _).alloc (Nat.le_refl _) _
  have hT := litT1 (ht.below hb1) 25
  rw [World.size_alloc] at hT
  have hb12 : Below (w.alloc (.cells #[.slice al l.length kl, .slice am m.length km, .slice aT t.length kt] 46)).heap.size (w.alloc (.cells #[.slice al l.length kl, .slice am m.length km, .slice aT t.length kt] 46)) ((w.alloc (.cells #[.slice al l.length kl, .slice am m.length km, .slice aT t.length kt] 46)).alloc (.cells #[.slice aT t.length kt] 25)) := (Below.refl _ _).alloc (Nat.le_refl _) _
  have hb2 := hb1.trans (hb12.mono hb1.size)
  have HBX := hid (hbx.below hb12)
  have HSM := hid (law1_Small vs _ s _ _ (hs.below hb2) hT)
  have HFL := hid (fun (X : World) (hX : Below w.heap.size w X) => law2_few _ l X (hl.below hX))
  have HFM := hid (fun (X : World) (hX : Below w.heap.size w X) => law2_few _ m X (hm.below hX))
  have HB := hid hb2
  have HS := hid hs
  have HL := hid hl
  have HM := hid hm
  have HT := hid ht
  clear hT hb1 hb12 hb2 hs hl hm ht hbx
  go_enter Try.func9, Try.ntmps9
  go_wp2_with fail
  refine HSM.out.mono ?_
  rintro e w1 ⟨rfl, rfl⟩
  cases hsm : smallB s [t]
  · go_wp2_with fail
    refine (law2_awake _).mono ?_
    rintro e w2 ⟨rfl, hb3⟩
    have HB3 := hid (HB.out.trans (hb3.mono HB.out.size))
    clear hb3
    go_wp2
    go_ret
    exact ⟨rfl, HB3.out⟩
  · have hs40 : s.length ≤ 1000 := by simp [smallB] at hsm; omega
    clear hsm
    have HC := hid (fun (X : World) (hX : Below w.heap.size w X) => unify_Compose vs _ _ s l m X (HS.out.below hX) (HL.out.below hX) (HM.out.below hX) hs40)
    have HRC := hid (fun (X : World) (hX : Below w.heap.size w X) => ref2_Compose vs _ _ s l m X (HS.out.below hX) (HL.out.below hX) (HM.out.below hX) hs40)
    have HAP := hid (fun (X : World) (hX : Below w.heap.size w X) (u v : Value) (p : BL) (q : List Int) (hu : BindsAt X u p) (hv : Ints X v q) => unify_Apply vs u v s p q X (HS.out.below hX) hu hv hs40)
    have HW := hid (fun (X : World) (hX : Below w.heap.size w X) => chainL hX (law2_awake X))
    clear HSM
    generalize (w.alloc (.cells #[.slice al l.length kl, .slice am m.length km, .slice aT t.length kt] 46)).alloc (.cells #[.slice aT t.length kt] 25) = W at *
    obtain ⟨c0, c1, c2⟩ := HBX.out
    go_wp2_with fail
    refine (HFL.out _ HB.out).mono ?_
    rintro e w1 ⟨rfl, rfl⟩
    cases hfl : fewB l
    · clear c0 c1 c2
      go_wp2_with fail
      refine (HW.out _ HB.out).mono ?_
      rintro e w2 ⟨rfl, hb3⟩
      have HB3 := hid hb3
      clear hb3
      go_wp2
      go_ret
      exact ⟨rfl, HB3.out⟩
    · clear hfl
      go_wp2_with fail
      refine (HFM.out _ HB.out).mono ?_
      rintro e w1 ⟨rfl, rfl⟩
      cases hfm : fewB m
      · clear c0 c1 c2
        go_wp2_with fail
        refine (HW.out _ HB.out).mono ?_
        rintro e w2 ⟨rfl, hb3⟩
        have HB3 := hid hb3
        clear hb3
        go_wp2
        go_ret
        exact ⟨rfl, HB3.out⟩
      · clear hfm
        have HCA := hid (fun (h : (comR s l m).2 = 0) (h2 : (appR s l t).2 = 0) => com_apps h h2)
        obtain ⟨x, hx⟩ : ∃ x, comR s l m = x := ⟨_, rfl⟩
        obtain ⟨x1, x2⟩ := x
        simp only [hx] at HC HRC HCA
        have n1 : (x2 != x2) = false := by simp
        clear hx
        go_wp2_with fail
        refine (HC.out _ HB.out).mono ?_
        rintro e w3 ⟨u3, rfl, hu3, hb3⟩
        obtain ⟨a3, k3, rfl, -⟩ := hu3.open
        have HB3 := hid (HB.out.trans (hb3.mono HB.out.size))
        have HBX3 := hid (HBX.out.below hb3)
        have HU3 := hid hu3
        clear hb3 hu3 c0 c1 c2
        obtain ⟨c0, c1, c2⟩ := HBX3.out
        go_wp2_with fail
        refine (HRC.out _ HB3.out).mono ?_
        rintro e w4 ⟨u4, rfl, hu4, hb4⟩
        obtain ⟨a4, k4, rfl, -⟩ := hu4.open
        have HB4 := hid (HB3.out.trans (hb4.mono HB3.out.size))
        have HBX4 := hid (HBX3.out.below hb4)
        have HU4 := hid (HU3.out.below hb4)
        have HV4 := hid hu4
        clear hb4 hu4 c0 c1 c2 HC HRC HU3
        go_wp2_with fail
        refine (ref2_SameBinds _ _ _ _ _ HU4.out HV4.out).mono ?_
        rintro e w5 ⟨rfl, nq, rfl⟩
        rw [show decide (x1 = x1) = true from by simp]
        have hd5 := below_self_drewN w4 nq
        have HB5 := hid (HB4.out.trans (hd5.mono HB4.out.size))
        have HBX5 := hid (HBX4.out.below hd5)
        have HU5 := hid (HU4.out.below hd5)
        generalize w4.drewN nq = w5 at *
        clear hd5 HU4 HV4
        by_cases h0 : x2 = 0
        · subst h0
          obtain ⟨c0, c1, c2⟩ := HBX5.out
          have hca := HCA.out rfl
          obtain ⟨y, hy⟩ : ∃ y, appR s l t = y := ⟨_, rfl⟩
          obtain ⟨y1, y2⟩ := y
          have HA1 := hid (fun (X : World) (hX : Below w.heap.size w X) => HAP.out X hX _ _ l t (HL.out.below hX) (HT.out.below hX))
          simp only [hy] at HA1 hca
          have HCA2 := hid hca
          clear hy hca HCA
          go_wp2_with fail
          refine (HA1.out _ HB5.out).mono ?_
          rintro e w6 ⟨u6, rfl, hu6, hb6⟩
          have HB6 := hid (HB5.out.trans (hb6.mono HB5.out.size))
          have HBX6 := hid (HBX5.out.below hb6)
          have HU6 := hid (HU5.out.below hb6)
          have HT6 := hid hu6
          clear hb6 hu6 c0 c1 c2 HA1 HU5
          by_cases h00 : y2 = 0
          · subst h00
            have hc := HCA2.out rfl
            have HA2 := hid (fun (X : World) (hX : Below w.heap.size w X) (v : Value) (hv : Ints X v y1) => HAP.out X hX _ v m y1 (HM.out.below hX) hv)
            have HA3 := hid (fun (X : World) (hX : Below w.heap.size w X) (u : Value) (hu : BindsAt X u x1) => HAP.out X hX u _ x1 t hu (HT.out.below hX))
            rw [hc] at HA2
            obtain ⟨z, hz⟩ : ∃ z, appR s x1 t = z := ⟨_, rfl⟩
            obtain ⟨z1, z2⟩ := z
            simp only [hz] at HA2 HA3
            have m1 : (z2 == z2) = true := by simp
            clear hc hz HCA2
            obtain ⟨c0, c1, c2⟩ := HBX6.out
            go_wp2_with fail
            refine (HA2.out _ HB6.out _ HT6.out).mono ?_
            rintro e w7 ⟨u7, rfl, hu7, hb7⟩
            have HB7 := hid (HB6.out.trans (hb7.mono HB6.out.size))
            have HBX7 := hid (HBX6.out.below hb7)
            have HU7 := hid (HU6.out.below hb7)
            have HV7 := hid hu7
            clear hb7 hu7 c0 c1 c2 HA2 HU6
            obtain ⟨c0, c1, c2⟩ := HBX7.out
            go_wp2_with fail
            refine (HA3.out _ HB7.out _ HU7.out).mono ?_
            rintro e w8 ⟨u8, rfl, hu8, hb8⟩
            have HB8 := hid (HB7.out.trans (hb8.mono HB7.out.size))
            have HV8 := hid (HV7.out.below hb8)
            have HW8 := hid hu8
            clear hb8 hu8 c0 c1 c2 HA3 HU7 HV7
            go_wp2_with fail
            refine (ref1_Same _ _ z1 z1 _ HV8.out HW8.out).mono ?_
            rintro e w9 ⟨rfl, nq9, rfl⟩
            rw [show decide (z1 = z1) = true from by simp]
            have HB9 := hid (below_drewN HB8.out nq9)
            generalize w8.drewN nq9 = w9 at *
            go_wp2_with fail
            refine (HW.out _ HB9.out).mono ?_
            rintro e w10 ⟨rfl, hb10⟩
            have HB10 := hid hb10
            clear hb10
            go_wp2
            go_ret
            exact ⟨rfl, HB10.out⟩
          · go_wp2_with fail
            refine (HW.out _ HB6.out).mono ?_
            rintro e w10 ⟨rfl, hb10⟩
            have HB10 := hid hb10
            clear hb10
            go_wp2
            go_ret
            exact ⟨rfl, HB10.out⟩
        · go_wp2_with fail
          refine (HW.out _ HB5.out).mono ?_
          rintro e w10 ⟨rfl, hb10⟩
          have HB10 := hid hb10
          clear hb10
          go_wp2
          go_ret
          exact ⟨rfl, HB10.out⟩
end Go.Proofs.Ytidigpfiagjeiaa
