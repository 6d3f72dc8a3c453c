/-
  WHAT IT HOLDS: contract of Compose of the reference of layer 2. Conditions: the arguments read as data.
  WHAT IT HOLDS: contracts of Solved of both packages and of Renaming of the reference of layer 2. Conditions: the arguments read as data; small signs.
-/
import Derived.Test.YtidigpfiagjeiaaZRUnifyUnifies40
import Derived.Test.YtidigpfiagjeiaaZRUnifyUnifies46
import Derived.Test.YtidigpfiagjeiaaZRUnifyUnifies45
import Derived.Test.YtidigpfiagjeiaaZRUnifyUnifies31
import Derived.Test.YtidigpfiagjeiaaZRUnifyUnifies44
namespace Go.Proofs.Ytidigpfiagjeiaa
open Go Go.RowKit Go.Maps
set_option maxHeartbeats 4000000 in
set_option maxRecDepth 100000 in
theorem ref2_Compose (vs v1 v2 : Value) (s : Sg) (l m : BL) (w : World) (hs : SignAt w vs s) (hv : BindsAt w v1 l) (hm : BindsAt w v2 m) (hs1 : s.length ≤ 1000) :
    Calls Try.prog 37 #[vs, v1, v2] w fun e w' => ∃ u, e = .returned (.tuple #[u, .int .i64 (comR s l m).2]) ∧ BindsAt w' u (comR s l m).1 ∧ Below w.heap.size w w' := by
  have HVL := hid (ref2_ValidBinds vs v1 s l w hs hv)
  have HVM := hid (fun (X : World) (hX : Below w.heap.size w X) => ref2_ValidBinds vs v2 s m X (hs.below hX) (hm.below hX))
  have HV := hid hv
  have HM := hid hm
  clear hs hv hm
  cases h1 : bndsB s l
  · have HA : Hid (comR s l m = ([], 1)) := hid (by unfold comR; rw [h1]; rfl)
    simp only [h1] at HVL
    clear h1
    go_enter Try.func37, Try.ntmps37
    go_wp2_with fail
    refine HVL.out.mono ?_
    rintro e w1 ⟨rfl, hb1⟩
    go_wp2
    go_ret2
    rw [HA.out]
    exact ⟨_, rfl, binds_nil _, hb1⟩
  · simp only [h1] at HVL
    cases h2 : bndsB s m
    · have HA : Hid (comR s l m = ([], 1)) := hid (by unfold comR; rw [h1, h2]; rfl)
      simp only [h2] at HVM
      clear h1 h2
      go_enter Try.func37, Try.ntmps37
      go_wp2_with fail
      refine HVL.out.mono ?_
      rintro e w1 ⟨rfl, hb1⟩
      go_wp2_with fail
      refine (HVM.out _ hb1).mono ?_
      rintro e w2 ⟨rfl, hb2⟩
      go_wp2
      go_ret2
      rw [HA.out]
      exact ⟨_, rfl, binds_nil _, hb1.trans (hb2.mono hb1.size)⟩
    · have HH1 := hid h1
      have HH2 := hid h2
      simp only [h2] at HVM
      clear h1 h2
      go_enter Try.func37, Try.ntmps37
      go_wp2_with fail
      refine HVL.out.mono ?_
      rintro e w1 ⟨rfl, hb1⟩
      go_wp2_with fail
      refine (HVM.out _ hb1).mono ?_
      rintro e w2 ⟨rfl, hb2⟩
      have HB2 := hid (hb1.trans (hb2.mono hb1.size))
      have hs2 := HB2.out.size
      clear hb1 hb2 HVL HVM
      go_wp2
      go_loopw [8, 9] (fun u kv wr => ∃ (k : Nat) (bs : List BV), k ≤ 12 ∧ kv = .int .i64 k ∧ BSep 61 3 wr w.heap.size u bs ∧ biP bs = bndL (comM l m) k ∧ Below w.heap.size w wr ∧ ∀ i, i < k → comLe l m i = true) (fun _ kv _ => 12 - (intOf kv).toNat)
      case atStart => exact ⟨0, [], by omega, rfl, BSep.nil _ _ _ _, rfl, HB2.out, fun i hi => by omega⟩
      case round =>
        obtain ⟨k, bs, hk, rfl, hown, hbp, hb, hle⟩ := hrel
        have hsz := hb.size
        by_cases hlt : k < 12
        · have hl12 := bndL_len (comM l m) k
          rw [← hbp, biP_len] at hl12
          have hrow := BSep.row hown
          obtain ⟨ao, co, rfl⟩ := ownsRow_slice hrow
          have HOWN := hid hown
          have HBP := hid hbp
          have HLE := hid hle
          have HB := hid hb
          clear hown hbp hle hb hrow
          have hof := ofN_T HH1.out (n := -(k : Int) - 1) (by omega) (by omega)
          have hrl0 := sub_le HH2.out hof.1
          obtain ⟨r, hr⟩ : ∃ r, subL (ofN m) (ofN l (-(k : Int) - 1)) = r := ⟨_, rfl⟩
          rw [hr] at hrl0
          have hrl : r.length ≤ 3600 := by omega
          have HSUC := hid (comM_succ hr)
          have HLQ : Hid (comLe l m k = decide (r.length ≤ 60)) := hid (by unfold comLe; rw [hr])
          have HOF := hid hof
          have HR := hid hr
          clear hr hrl0 hof
          go_wp2_with fail
          refine (ref2_Of v1 l k _ (HV.out.below HB.out) (by omega) (by omega)).mono ?_
          rintro e w3 ⟨u3, rfl, i3, hb3⟩
          have HB3 := hid hb3
          have HB03 := hid (HB.out.trans (hb3.mono hsz))
          have hap := ref2_Applied v2 u3 m _ w3 (HM.out.below HB03.out) i3 (by have := HOF.out.2; omega) (fun x hx => by rcases HOF.out.1.range x hx with h | h <;> omega) (fun x hx h0 => (ofN_T HH2.out (HOF.out.1.vars x hx h0) h0).2)
          rw [HR.out] at hap
          have HAP := hid hap
          clear hap hb3 i3
          go_wp2_with fail
          refine HAP.out.mono ?_
          rintro e w4 ⟨u4, rfl, o4, hb4⟩
          have i4 := Ints.of_owns o4 (by omega)
          obtain ⟨a4, c4, rfl, -⟩ := i4.open
          have HI4 := hid i4
          have HO4 := hid o4
          have HB4 := hid (HB3.out.trans (hb4.mono HB3.out.size))
          have HB34 := hid hb4
          clear hb4 i4 o4
          by_cases h60 : r.length ≤ 60
          · have hle : comLe l m k = true := by rw [HLQ.out]; simp [h60]
            have HLT := hid hle
            clear hle
            go_wp2_with fail
            refine (ref2_Variable (k : Int) _ (by omega) (by omega)).mono ?_
            rintro e w5 ⟨u5, rfl, o5, hb5⟩
            have HI5 := hid (Ints.of_owns o5 (by simp))
            have HB5 := hid (HB4.out.trans (hb5.mono HB4.out.size))
            have HB35 := hid (HB34.out.trans (hb5.mono HB34.out.size))
            have HI45 := hid (HI4.out.below hb5)
            have HO45 := hid (owns_below HO4.out hb5)
            clear o5 hb5 HI4 HO4
            go_wp2_with fail
            refine (ref1_Same _ _ r [-(k : Int) - 1] _ HI45.out HI5.out).mono ?_
            rintro e w6 ⟨rfl, nq, rfl⟩
            have HB6 := hid (below_drewN HB5.out nq)
            have HO6 := hid (owns_below HO45.out (below_self_drewN w5 nq))
            generalize w5.drewN nq = w6 at *
            have HS := hid (HOWN.out.below HB6.out)
            have HB06 := hid (HB.out.trans (HB6.out.mono hsz))
            have hs6 := HB6.out.size
            clear HO45 HI45 HI5
            by_cases heq : r = [-(k : Int) - 1]
            · have HD : Hid (decide (r = [-(k : Int) - 1]) = true) := hid (by simp [heq])
              have HSU : Hid (bndL (comM l m) (k + 1) = bndL (comM l m) k) := hid (by rw [HSUC.out, if_pos heq]; simp)
              clear heq
              rw [HD.out]
              go_wp2
              go_roundw
              case rel => exact ⟨k + 1, bs, by omega, by go_num, HS.out, by rw [HSU.out, HBP.out], HB06.out, fun i hi => by
                rcases Nat.lt_succ_iff_lt_or_eq.1 hi with h1 | rfl
                · exact HLE.out i h1
                · exact HLT.out⟩
              case measure => simp [intOf]; omega
            · have HD : Hid (decide (r = [-(k : Int) - 1]) = false) := hid (by simp [heq])
              have HSU : Hid (bndL (comM l m) (k + 1) = bndL (comM l m) k ++ [((k : Int), r)]) := hid (by rw [HSUC.out, if_neg heq])
              clear heq
              rw [HD.out]
              have hbA6 : Below w6.heap.size w6 (w6.alloc (.cells #[.int .i64 k, .slice a4 r.length c4] 61)) := (Below.refl _ _).alloc (Nat.le_refl _) _
              have HBZ := hid (HB6.out.trans (hbA6.mono hs6))
              have HOZ := hid (owns_below HO6.out hbA6)
              have HRW := hid HOWN.out.row
              have HRA := hid (owns_below HOWN.out.row HBZ.out)
              have hsrc : RowK (w6.alloc (.cells #[.int .i64 k, .slice a4 r.length c4] 61)) (.slice (some ⟨w6.heap.size, 0, none⟩) 1 1) 2 1 [.int .i64 k, .slice a4 r.length c4] := row_two_new _ _ _ _
              have HSRC := hid hsrc
              have hszA : w.heap.size ≤ (w6.alloc (.cells #[.int .i64 k, .slice a4 r.length c4] 61)).heap.size := Nat.le_trans hsz HBZ.out.size
              clear hbA6 hsrc
              go_wp2_with (at_builtin; refine wpList_append_lie rfl _ _ 39 rfl w.heap.size 61 el_bind Try.underlying39 rfl (by decide) _ _ _ rfl HRA.out _ 1 [.int .i64 k, .slice a4 r.length c4] rfl HSRC.out (by simp; exact ⟨rfl, rfl⟩) (by decide) (by omega) (by omega) hszA _ rfl ?_; intro g1 c1 w7 hown7 hgrow7 hat7 hlt7)
              have HPUSH := hid (HOWN.out.push HBZ.out HB3.out.size (Nat.le_trans hsz HB3.out.size) HOZ.out rfl hown7 hgrow7 rfl hat7)
              have hb7 : Below w.heap.size w w7 := (HB.out.trans (HBZ.out.mono hsz)).grown hgrow7 hszA (fun q hq => (HRW.out.lt q hq).1)
              have HB7 := hid hb7
              clear hb7 hown7 hgrow7 hat7 hlt7
              go_roundw
              case rel => exact ⟨k + 1, bs ++ [((k : Int), .slice a4 r.length c4, r)], by omega, by go_num, HPUSH.out, by rw [biP_snoc, HSU.out, HBP.out], HB7.out, fun i hi => by
                rcases Nat.lt_succ_iff_lt_or_eq.1 hi with h1 | rfl
                · exact HLE.out i h1
                · exact HLT.out⟩
              case measure => simp [intOf]; omega
          · have HR4 := hid (comR_long HH1.out HH2.out hlt (by rw [HLQ.out]; simp [h60]))
            go_wp2
            go_ret2
            rw [HR4.out]
            exact ⟨_, rfl, binds_nil _, HB.out.trans (HB4.out.mono hsz)⟩
        · have hk12 : k = 12 := by omega
          subst hk12
          have hl12 := bndL_len (comM l m) 12
          rw [← hbp, biP_len] at hl12
          have HR4 := hid (comR_full HH1.out HH2.out hle)
          have HAT := hid (hown.at hbp (by omega) (fun b hb' => by
            obtain ⟨v, h1, _, h3, _⟩ := bndL_mem hb'
            have h5 := hle v h1
            have h6 : subL (ofN m) (ofN l (-(v : Int) - 1)) = b.2 := Option.some.inj h3
            unfold comLe at h5
            rw [h6] at h5
            have := of_decide_eq_true h5
            omega))
          clear hown hbp hle
          go_wp2
          go_ret2
          rw [HR4.out]
          exact ⟨_, rfl, HAT.out, hb⟩
end Go.Proofs.Ytidigpfiagjeiaa
namespace Go.Proofs.Ytidigpfiagjeiaa
open Go Go.RowKit Go.Maps
set_option maxHeartbeats 400000 in
theorem sl_IndexFunc_term (g : Nat) (lb : Array Value) (eg : ∀ args w, (callFunc g args).run Try.prog w = .ok (.enter g args) w) (v : Value) (n : Nat) (xs : List Value) (w : World) (hv : RowK w v 1 n xs) (p : Nat → Bool)
    (hp : ∀ (i : Nat) (x : Value) (W : World), xs[i]? = some x → Below w.heap.size w W → Calls Try.prog g (#[x] ++ lb) W fun e w' => e = .returned (.bool (p i)) ∧ Below W.heap.size W w') :
    Calls Try.prog 116 #[v, .func (.func g) #[] lb] w fun e w' => ∃ r : Int, e = .returned (.int .i64 r) ∧ (0 ≤ r ↔ (List.range n).any p = true) ∧ Below w.heap.size w w' := by
  obtain ⟨hlen, a, cap, rfl, h1, h2, h3, HC⟩ := hv
  have HC' := hid HC
  have HP := hid hp
  have HL := hid hlen
  clear HC hp hlen h3
  go_enter Try.func116, Try.ntmps116
  go_wp2
  go_loopw [8] (fun i wr => ∃ k : Nat, k ≤ n ∧ i = .int .i64 k ∧ Below w.heap.size w wr ∧ ∀ j, j < k → p j = false) (fun i _ => n - (intOf i).toNat)
  case atStart => exact ⟨0, by omega, rfl, Below.refl _ _, by simp⟩
  case round =>
    obtain ⟨k, hk, rfl, hb, hrel⟩ := hrel
    have HR := hid hrel
    clear hrel
    by_cases hlt : k < n
    · obtain ⟨x, hx⟩ : ∃ x, xs[k]? = some x := ⟨xs[k]'(by have := HL.out; omega), by simp [HL.out, hlt]⟩
      obtain ⟨b, o, rfl, hcell0⟩ := HC'.out k x hx
      have hcell : wr.cell? ⟨b, o + k, none⟩ = some x := (hb.cell (World.block_lt_of_cell? _ _ hcell0)).trans hcell0
      have hc := HP.out k x wr hx hb
      have HX := hid hx
      clear hcell0 hx
      cases h4 : p k
      · rw [h4] at hc
        have HCC := hid hc
        clear hc
        go_wp2_with (go_at_fn g; refine HCC.out.mono ?_; rintro e w' ⟨rfl, hb1⟩)
        go_roundw
        case rel =>
          refine ⟨k + 1, by omega, by go_num, hb.trans (hb1.mono hb.size), fun j hj => ?_⟩
          by_cases hjk : j = k
          · rw [hjk]; exact h4
          · exact HR.out j (by omega)
        case measure => simp [intOf]; omega
      · rw [h4] at hc
        have HCC := hid hc
        clear hc
        go_wp2_with (go_at_fn g; refine HCC.out.mono ?_; rintro e w' ⟨rfl, hb1⟩)
        go_ret
        refine ⟨_, rfl, ?_, hb.trans (hb1.mono hb.size)⟩
        have : (List.range n).any p = true := by rw [List.any_eq_true]; exact ⟨k, by simp [hlt], h4⟩
        rw [this]
        simp
    · go_wp2
      go_ret
      refine ⟨_, rfl, ?_, hb⟩
      have : (List.range n).any p = false := by
        rw [List.any_eq_false]
        intro j hj
        have := HR.out j (by have := List.mem_range.1 hj; omega)
        simp [this]
      rw [this]
      simp
theorem sl_ContainsFunc_term (g : Nat) (lb : Array Value) (eg : ∀ args w, (callFunc g args).run Try.prog w = .ok (.enter g args) w) (v : Value) (n : Nat) (xs : List Value) (w : World) (hv : RowK w v 1 n xs) (p : Nat → Bool)
    (hp : ∀ (i : Nat) (x : Value) (W : World), xs[i]? = some x → Below w.heap.size w W → Calls Try.prog g (#[x] ++ lb) W fun e w' => e = .returned (.bool (p i)) ∧ Below W.heap.size W w') :
    Calls Try.prog 89 #[v, .func (.func g) #[] lb] w fun e w' => e = .returned (.bool ((List.range n).any p)) ∧ Below w.heap.size w w' := by
  have HP := hid (sl_IndexFunc_term g lb eg v n xs w hv p hp)
  clear hp
  obtain ⟨hlen, a, cap, rfl, h1, h2, h3, HC⟩ := hv
  clear HC hlen h3
  go_enter Try.func89, Try.ntmps89
  go_wp2_with (go_at_call 116; refine HP.out.mono ?_; rintro e w' ⟨r, rfl, hr, hb⟩; have HI := hid hr; clear hr)
  go_ret
  refine ⟨ret_bool ?_, by assumption⟩
  rw [Bool.eq_iff_iff]
  simp only [decide_eq_true_eq]
  exact HI.out
theorem solB_true {s : Sg} {l : BL} (h : bndsB s l = true) (hh : ∀ i (hi : i < l.length) j (hj : j < l.length), -l[i].1 - 1 ∉ l[j].2) : solB s l = true := by
  unfold solB
  rw [h, Bool.true_and, List.all_eq_true]
  intro b hb
  rw [List.all_eq_true]
  intro c hc
  obtain ⟨i, hi, rfl⟩ := List.getElem_of_mem hb
  obtain ⟨j, hj, rfl⟩ := List.getElem_of_mem hc
  simp [hh i hi j hj]
theorem solB_false {s : Sg} {l : BL} {i j : Nat} (hi : i < l.length) (hj : j < l.length) (hm : -l[i].1 - 1 ∈ l[j].2) : solB s l = false := by
  cases h : solB s l
  · rfl
  · unfold solB at h
    rw [Bool.and_eq_true, List.all_eq_true] at h
    have h1 := List.all_eq_true.1 (h.2 _ (List.getElem_mem hi)) _ (List.getElem_mem hj)
    simp [hm] at h1
theorem tab_some {s : Sg} {l : BL} (h : bndsB s l = true) (n : Int) : (tabP l n).isSome = true ↔ ∃ i, ∃ hi : i < l.length, -l[i].1 - 1 = n := by
  rw [tabP_find h, Option.isSome_map, List.find?_isSome]
  constructor
  · rintro ⟨b, hb, e⟩
    obtain ⟨i, hi, rfl⟩ := List.getElem_of_mem hb
    exact ⟨i, hi, by simpa using e⟩
  · rintro ⟨i, hi, e⟩
    exact ⟨l[i], List.getElem_mem hi, by simpa using e⟩
theorem any_dom {s : Sg} {l : BL} (h : bndsB s l = true) {t : List Int} {p : Nat → Bool} (hp : ∀ i, i < t.length → p i = (tabP l (t.getD i 0)).isSome) : (List.range t.length).any p = true ↔ ∃ i, ∃ hi : i < l.length, -l[i].1 - 1 ∈ t := by
  rw [List.any_eq_true]
  constructor
  · rintro ⟨k, hk, e⟩
    have hk' := List.mem_range.1 hk
    rw [hp k hk', tab_some h] at e
    obtain ⟨i, hi, e⟩ := e
    refine ⟨i, hi, ?_⟩
    rw [e, List.getD_eq_getElem?_getD, List.getElem?_eq_getElem hk']
    exact List.getElem_mem hk'
  · rintro ⟨i, hi, hm⟩
    obtain ⟨k, hk, e⟩ := List.getElem_of_mem hm
    refine ⟨k, List.mem_range.2 hk, ?_⟩
    rw [hp k hk, tab_some h]
    refine ⟨i, hi, ?_⟩
    rw [List.getD_eq_getElem?_getD, List.getElem?_eq_getElem hk, ← e]; rfl
set_option maxRecDepth 100000 in
theorem unify_Solved1 (bb bm nM : Nat) (Mp : Int → Option VT) (n : Int) (w : World) (hc : w.cell? ⟨bb, 0, none⟩ = some (.map (some bm))) (hM : TMap w bm nM Mp) (h1 : -1000000 ≤ n) (h2 : n ≤ 1000000) :
    Calls Try.prog 90 #[.int .i64 n, .pointer (some ⟨bb, 0, none⟩)] w fun e w' => e = .returned (.bool (mOf Mp n).isSome) ∧ Below w.heap.size w w' := by
  have HKEY := hid (int_key n (wf_small (by omega) (by omega)))
  have HM := hid hM
  clear hM
  cases hMk : Mp n with
  | none =>
    have HR : Hid ((mOf Mp n).isSome = false) := hid (by unfold mOf; rw [hMk]; rfl)
    have HMX := hid hMk
    clear hMk
    go_enter Try.func90, Try.ntmps90
    go_wp2_with (at_lookup; refine wpList_lookup_mapK rfl _ _ 65 true rfl (int_keyed Try.underlying3) eI_inj Try.underlying65 (zero_term _) rfl HM.out n rfl HKEY.out (.tuple #[.slice none 0 0, .bool false]) (by rw [HMX.out]; rfl) ?_)
    go_ret
    exact ⟨ret_bool HR.out.symm, Below.refl _ _⟩
  | some up =>
    have HR : Hid ((mOf Mp n).isSome = true) := hid (by unfold mOf; rw [hMk]; rfl)
    have HMX := hid hMk
    clear hMk
    go_enter Try.func90, Try.ntmps90
    go_wp2_with (at_lookup; refine wpList_lookup_mapK rfl _ _ 65 true rfl (int_keyed Try.underlying3) eI_inj Try.underlying65 (zero_term _) rfl HM.out n rfl HKEY.out (.tuple #[up.1, .bool true]) (by rw [HMX.out]; rfl) ?_)
    go_ret
    exact ⟨ret_bool HR.out.symm, Below.refl _ _⟩
set_option maxHeartbeats 2000000 in
set_option maxRecDepth 100000 in
theorem unify_Solved (vs v1 : Value) (s : Sg) (l : BL) (w : World) (hs : SignAt w vs s) (hv : BindsAt w v1 l) (hs1 : s.length ≤ 1000) :
    Calls Try.prog 41 #[vs, v1] w fun e w' => e = .returned (.bool (solB s l)) ∧ Below w.heap.size w w' := by
  have HVL := hid (unify_ValidBinds vs v1 s l w hs hv hs1)
  have HV := hid hv
  cases h1 : bndsB s l
  · have HA : Hid (solB s l = false) := hid (by unfold solB; rw [h1]; rfl)
    simp only [h1] at HVL
    clear h1 hs hv
    go_enter Try.func41, Try.ntmps41
    go_wp2_with fail
    refine HVL.out.mono ?_
    rintro e w1 ⟨rfl, hb1⟩
    go_wp2
    go_ret
    exact ⟨ret_bool HA.out.symm, hb1⟩
  · have HTB := hid (fun (X : World) (hX : Below w.heap.size w X) => unify_tableW v1 l w X hX hv (bnds_range h1))
    have HH1 := hid h1
    simp only [h1] at HVL
    obtain ⟨a, cap, rfl, h1, h2, -, HC⟩ := hv.open
    have HC' := hid HC
    clear HC h1 hs hv
    go_enter Try.func41, Try.ntmps41
    go_wp2_with fail
    refine HVL.out.mono ?_
    rintro e w1 ⟨rfl, hb1⟩
    have HB1 := hid hb1
    clear hb1 HVL
    go_wp2_with fail
    refine (HTB.out _ HB1.out).mono ?_
    rintro e w2 ⟨hb2, Mp, nM, rfl, hTM, hmo, hmi⟩
    have HTM := hid hTM
    have HMO := hid hmo
    have HB2 := hid (HB1.out.trans (hb2.mono HB1.out.size))
    clear hTM hmo hmi hb2 HTB
    obtain ⟨W, hW⟩ : ∃ W, w2.alloc (.cells #[.map (some w1.heap.size)] 65) = W := ⟨_, rfl⟩
    have hbW := (Below.refl w2.heap.size w2).alloc (Nat.le_refl _) (.cells #[.map (some w1.heap.size)] 65)
    have cb : W.cell? ⟨w2.heap.size, 0, none⟩ = some (.map (some w1.heap.size)) := by rw [← hW]; exact cell_new1 w2 _ _
    rw [hW] at hbW
    have HTW := hid (HTM.out.belowS hbW)
    have HBW := hid (HB2.out.trans (hbW.mono HB2.out.size))
    have HCB := hid cb
    clear cb hbW
    go_wp2
    (try simp only [hW])
    clear hW
    have hsW := HBW.out.size
    go_loopw [16] (fun kv wr => ∃ k : Nat, k ≤ l.length ∧ kv = .int .i64 k ∧ Below W.heap.size W wr ∧ ∀ j (hj : j < l.length), j < k → ∀ i (hi : i < l.length), -l[i].1 - 1 ∉ l[j].2) (fun kv _ => l.length - (intOf kv).toNat)
    case atStart => exact ⟨0, by omega, rfl, Below.refl _ _, fun j hj h => by omega⟩
    case round =>
      obtain ⟨k, hk, rfl, hb, hrel⟩ := hrel
      have HR := hid hrel
      clear hrel
      have hsz := hb.size
      by_cases hlt : k < l.length
      · obtain ⟨b, o, u, rfl, hc10, hc20, hi0⟩ := HC'.out k hlt
        obtain ⟨au, cu, rfl, -⟩ := hi0.open
        have hbz := HBW.out.trans (hb.mono hsW)
        have hc1 := (hbz.cell (World.block_lt_of_cell? _ _ hc10)).trans hc10
        have hc2 := (hbz.cell (World.block_lt_of_cell? _ _ hc20)).trans hc20
        obtain ⟨x, hx⟩ : ∃ x, l[k].1 = x := ⟨_, rfl⟩
        have hT := termB_T ((bndsB_iff.1 HH1.out).2.1 _ (List.getElem_mem hlt)).2.1
        have hbA : Below wr.heap.size wr (wr.alloc (.cells #[.int .i64 x, .slice au l[k].2.length cu] 61)) := (Below.refl _ _).alloc (Nat.le_refl _) _
        have hbWA := hb.trans (hbA.mono hsz)
        have key := sl_ContainsFunc_term 90 #[.pointer (some ⟨w2.heap.size, 0, none⟩)] (enters_of Try.func90 (by kernel_rfl) rfl) (.slice au l[k].2.length cu) l[k].2.length _ (wr.alloc (.cells #[.int .i64 x, .slice au l[k].2.length cu] 61)) ((hi0.below (HBW.out.trans (hbWA.mono hsW))))
          (fun i => (tabP l (l[k].2.getD i 0)).isSome) (by
          intro i y X hy hbX
          have hil : i < l[k].2.length := by simpa using (List.getElem?_eq_some_iff.1 hy).1
          have hmem : l[k].2.getD i 0 ∈ l[k].2 := by rw [List.getD_eq_getElem?_getD, List.getElem?_eq_getElem hil]; exact List.getElem_mem hil
          obtain rfl : y = .int .i64 (l[k].2.getD i 0) := by
            rw [List.getElem?_map, List.getElem?_eq_getElem hil] at hy
            rw [List.getD_eq_getElem?_getD, List.getElem?_eq_getElem hil]
            simpa using hy.symm
          have hr := hT.range _ hmem
          have hbWX := hbWA.trans (hbX.mono hbWA.size)
          rw [← HMO.out]
          exact unify_Solved1 w2.heap.size w1.heap.size nM Mp _ X ((hbWX.cell (World.block_lt_of_cell? _ _ HCB.out)).trans HCB.out) (HTW.out.belowS hbWX) (by omega) (by omega))
        have hany := any_dom HH1.out (t := l[k].2) (p := fun i => (tabP l (l[k].2.getD i 0)).isSome) (fun i hi => rfl)
        have HKEY := hid key
        rw [hx] at hc1
        clear key hT hi0 hc10 hc20
        cases hq : (List.range l[k].2.length).any (fun i => (tabP l (l[k].2.getD i 0)).isSome)
        · rw [hq] at HKEY
          have HN : Hid (∀ i (hi : i < l.length), -l[i].1 - 1 ∉ l[k].2) := hid (fun i hi hm => by rw [hany.2 ⟨i, hi, hm⟩] at hq; cases hq)
          clear hany hq hx
          go_wp2_with fail
          refine HKEY.out.mono ?_
          rintro e w4 ⟨rfl, hb4⟩
          have HB4 := hid (hbWA.trans (hb4.mono hbWA.size))
          clear hb4
          go_wp2
          go_roundw
          case rel => exact ⟨k + 1, by omega, by go_num, HB4.out, fun j hj hjk => by
            rcases Nat.lt_succ_iff_lt_or_eq.1 hjk with h1 | rfl
            · exact HR.out j hj h1
            · exact HN.out⟩
          case measure => simp [intOf]; omega
        · rw [hq] at HKEY
          have HS : Hid (solB s l = false) := hid (by
            obtain ⟨i, hi, hm⟩ := hany.1 hq
            exact solB_false hi hlt hm)
          clear hany hq hx
          go_wp2_with fail
          refine HKEY.out.mono ?_
          rintro e w4 ⟨rfl, hb4⟩
          have HB4 := hid (hbWA.trans (hb4.mono hbWA.size))
          clear hb4
          go_wp2
          go_ret
          exact ⟨ret_bool HS.out.symm, HBW.out.trans (HB4.out.mono hsW)⟩
      · have HS : Hid (solB s l = true) := hid (solB_true HH1.out (fun i hi j hj => HR.out j hj (by omega) i hi))
        go_wp2
        go_ret
        exact ⟨ret_bool HS.out.symm, HBW.out.trans (hb.mono hsW)⟩
set_option maxHeartbeats 2000000 in
set_option maxRecDepth 100000 in
theorem ref2_Solved (vs v1 : Value) (s : Sg) (l : BL) (w : World) (hs : SignAt w vs s) (hv : BindsAt w v1 l) :
    Calls Try.prog 42 #[vs, v1] w fun e w' => e = .returned (.bool (solB s l)) ∧ Below w.heap.size w w' := by
  have HVL := hid (ref2_ValidBinds vs v1 s l w hs hv)
  cases h1 : bndsB s l
  · have HA : Hid (solB s l = false) := hid (by unfold solB; rw [h1]; rfl)
    simp only [h1] at HVL
    clear h1 hs hv
    go_enter Try.func42, Try.ntmps42
    go_wp2_with fail
    refine HVL.out.mono ?_
    rintro e w1 ⟨rfl, hb1⟩
    go_wp2
    go_ret
    exact ⟨ret_bool HA.out.symm, hb1⟩
  · have HH1 := hid h1
    simp only [h1] at HVL
    obtain ⟨a, cap, rfl, h1, h2, -, HC⟩ := hv.open
    have HC' := hid HC
    clear HC h1 hs hv
    go_enter Try.func42, Try.ntmps42
    go_wp2_with fail
    refine HVL.out.mono ?_
    rintro e w1 ⟨rfl, hb1⟩
    have HB1 := hid hb1
    clear hb1 HVL
    go_wp2
    go_loopw [5] (fun kv wr => ∃ k : Nat, k ≤ l.length ∧ kv = .int .i64 k ∧ Below w.heap.size w wr ∧ ∀ i (hi : i < l.length), i < k → ∀ j (hj : j < l.length), -l[i].1 - 1 ∉ l[j].2) (fun kv _ => l.length - (intOf kv).toNat)
    case atStart => exact ⟨0, by omega, rfl, HB1.out, fun j hj h => by omega⟩
    case round =>
      obtain ⟨k, hk, rfl, hb, hrel⟩ := hrel
      have HR := hid hrel
      have HBk := hid hb
      clear hrel hb
      by_cases hlt : k < l.length
      · obtain ⟨b, o, u, rfl, hc10, -, -⟩ := HC'.out k hlt
        have hxr := ((bndsB_iff.1 HH1.out).2.1 _ (List.getElem_mem hlt)).1
        obtain ⟨x, hx⟩ : ∃ x, l[k].1 = x := ⟨_, rfl⟩
        rw [hx] at hc10 hxr
        have HX := hid hx
        have hw1 : IntKind.i64.wrap (-x) = -x := IntWalk.i64_in _ ⟨by omega, by omega⟩
        have hw2 : IntKind.i64.wrap (-x - 1) = -x - 1 := IntWalk.i64_in _ ⟨by omega, by omega⟩
        clear hx
        go_wp2
        go_loopw [6] (fun jv wr => ∃ j : Nat, j ≤ l.length ∧ jv = .int .i64 j ∧ Below w.heap.size w wr ∧ ∀ j' (hj : j' < l.length), j' < j → -x - 1 ∉ l[j'].2) (fun jv _ => l.length - (intOf jv).toNat)
        case atStart => exact ⟨0, by omega, rfl, HBk.out, fun j hj h => by omega⟩
        case round =>
          obtain ⟨j, hj, rfl, hbj, hrel⟩ := hrel
          have HRj := hid hrel
          clear hrel
          by_cases hltj : j < l.length
          · obtain ⟨b', o', uj, e, -, hd20, hij⟩ := HC'.out j hltj
            cases e
            have hc1 := (hbj.cell (World.block_lt_of_cell? _ _ hc10)).trans hc10
            have hd2 := (hbj.cell (World.block_lt_of_cell? _ _ hd20)).trans hd20
            have HHS := hid (fun (X : World) (hX : Below w.heap.size w X) => ref1_Has uj l[j].2 (-x - 1) X (hij.below hX))
            have HBj := hid hbj
            clear hd20 hij hbj
            cases hq : decide (-x - 1 ∈ l[j].2)
            · rw [hq] at HHS
              have HN := hid (of_decide_eq_false hq)
              clear hq
              go_wp2
              go_quiet ((go_at_call 56; exact (HHS.out _ (below_drewN HBj.out _)).mono (by rintro e w' ⟨h1, h2⟩; exact ⟨h1, _, h2.symm⟩)))
              go_wp2
              go_roundw
              case rel => exact ⟨j + 1, by omega, by go_num, below_drewN HBj.out nq, fun j' hj' h => by
                rcases Nat.lt_succ_iff_lt_or_eq.1 h with h1 | rfl
                · exact HRj.out j' hj' h1
                · exact HN.out⟩
              case measure => simp [intOf]; omega
            · rw [hq] at HHS
              have HS : Hid (solB s l = false) := hid (solB_false hlt hltj (by rw [HX.out]; exact of_decide_eq_true hq))
              clear hq
              go_wp2
              go_quiet ((go_at_call 56; exact (HHS.out _ (below_drewN HBj.out _)).mono (by rintro e w' ⟨h1, h2⟩; exact ⟨h1, _, h2.symm⟩)))
              go_wp2
              go_ret
              exact ⟨ret_bool HS.out.symm, below_drewN HBj.out nq⟩
          · go_wp2
            go_roundw
            case rel => exact ⟨k + 1, by omega, by go_num, hbj, fun i hi h => by
              rcases Nat.lt_succ_iff_lt_or_eq.1 h with h1 | rfl
              · exact HR.out i hi h1
              · intro j' hj'
                rw [HX.out]
                exact HRj.out j' hj' (by omega)⟩
            case measure => simp [intOf]; omega
      · have HS : Hid (solB s l = true) := hid (solB_true HH1.out (fun i hi j hj => HR.out i hi (by omega) j hj))
        go_wp2
        go_ret
        exact ⟨ret_bool HS.out.symm, HBk.out⟩
set_option maxHeartbeats 2000000 in
set_option maxRecDepth 100000 in
theorem ref2_Renaming (vs v1 : Value) (s : Sg) (l : BL) (w : World) (hs : SignAt w vs s) (hv : BindsAt w v1 l) (hs1 : s.length ≤ 1000) :
    Calls Try.prog 44 #[vs, v1] w fun e w' => e = .returned (.bool (renB s l)) ∧ Below w.heap.size w w' := by
  have HVL := hid (ref2_ValidBinds vs v1 s l w hs hv)
  cases h1 : bndsB s l
  · have HA : Hid (renB s l = false) := hid (by unfold renB; rw [h1]; rfl)
    simp only [h1] at HVL
    clear h1 hs hv
    go_enter Try.func44, Try.ntmps44
    go_wp2_with fail
    refine HVL.out.mono ?_
    rintro e w1 ⟨rfl, hb1⟩
    go_wp2
    go_ret
    exact ⟨ret_bool HA.out.symm, hb1⟩
  · have HH1 := hid h1
    simp only [h1] at HVL
    have HV := hid hv
    clear h1 hs hv
    go_enter Try.func44, Try.ntmps44
    go_wp2_with fail
    refine HVL.out.mono ?_
    rintro e w1 ⟨rfl, hb1⟩
    have HB1 := hid hb1
    clear hb1 HVL
    go_wp2
    go_loopw [5, 6] (fun u kv wr => ∃ (k : Nat) (g : List Int), k ≤ 12 ∧ kv = .int .i64 k ∧ g = (List.range k).map (hdN l) ∧ wr.ownsRow w.heap.size 3 1 u g.length (g.map (Value.int .i64)) ∧ Below w.heap.size w wr ∧ ∀ i, i < k → renQ l i = true) (fun _ kv _ => 12 - (intOf kv).toNat)
    case atStart => exact ⟨0, [], by omega, rfl, rfl, World.ownsRow_nil _ _ _ _, HB1.out, fun i h => by omega⟩
    case round =>
      obtain ⟨k, g, hk, rfl, hg, hown, hb, hrel⟩ := hrel
      have HR := hid hrel
      have HB := hid hb
      have hsz := hb.size
      clear hrel hb
      by_cases hlt : k < 12
      · have hgl : g.length = k := by rw [hg]; simp
        have HOWN := hid hown
        have HG := hid hg
        have HOF := hid (ofN_T HH1.out (n := -(k : Int) - 1) (by omega) (by omega))
        obtain ⟨t, ht⟩ : ∃ t, ofN l (-(k : Int) - 1) = t := ⟨_, rfl⟩
        have HT := hid ht
        rw [ht] at HOF
        have hO := ref2_Of _ l k wr (HV.out.below HB.out) (by omega) (by omega)
        rw [ht] at hO
        have HO := hid hO
        clear hO ht hown hg
        go_wp2_with fail
        refine HO.out.mono ?_
        rintro e w3 ⟨u3, rfl, i3, hb3⟩
        obtain ⟨x, r, rfl⟩ : ∃ x r, t = x :: r := by
          cases t with
          | nil => have h9 := HOF.out.1; cases h9
          | cons x r => exact ⟨x, r, rfl⟩
        have hxr := HOF.out.1.range x (by simp)
        have hhd : hdN l k = x := by unfold hdN; rw [HT.out]; rfl
        have hq : renQ l k = (decide (x < 0) && decide (x ∉ g)) := by unfold renQ; rw [hhd, HG.out]
        obtain ⟨a3, c3, rfl, -, -, -, HC⟩ := i3.open
        obtain ⟨b, o, rfl, cx⟩ := HC 0 (by simp)
        simp only [Nat.add_zero, List.getElem_cons_zero] at cx
        have hl0 : 0 < (x :: r).length := by simp
        obtain ⟨n3, hn3⟩ : ∃ n, (x :: r).length = n := ⟨_, rfl⟩
        rw [hn3] at hl0 ⊢
        have HO3 := hid (owns_below HOWN.out hb3)
        have HI3 := hid (Ints.of_owns HO3.out (by omega))
        have HB3 := hid (HB.out.trans (hb3.mono hsz))
        have hs3 := HB3.out.size
        have HQ := hid hq
        have HHD := hid hhd
        clear HC i3 hb3 hq hhd HO hn3
        by_cases hx0 : 0 ≤ x
        · have HS : Hid (renB s l = false) := hid (renB_no hlt (by rw [HQ.out]; simp; omega))
          have hd0 : (decide (0 ≤ x)) = true := by simp [hx0]
          go_wp2
          go_ret
          exact ⟨ret_bool HS.out.symm, HB3.out⟩
        · have hd0 : (decide (0 ≤ x)) = false := by simp [hx0]
          have HHS := hid (ref1_Has _ g x w3 HI3.out)
          cases hm : decide (x ∈ g)
          · rw [hm] at HHS
            have HS : Hid (renQ l k = true) := hid (by rw [HQ.out]; simp; exact ⟨by omega, of_decide_eq_false hm⟩)
            clear hm
            go_wp2_with (first
              | (go_at_call 56; refine HHS.out.mono ?_; rintro e w' ⟨rfl, rfl⟩)
              | (at_builtin; refine wpList_append_row rfl _ _ 24 rfl w.heap.size 3 el_int Try.underlying24 rfl (by decide) _ _ _ rfl (HO3.out.alloc _) _ 1 [.int .i64 x] rfl (row_one_new _ _ _) (oneCell_one rfl) (by omega) (by omega) (by simp; omega) ?_; intro v' w4 hown4 hgrow4 _))
            have hb4 : Below w.heap.size w w4 := (HB3.out.trans (((Below.refl _ _).alloc (Nat.le_refl _) (.cells #[.int .i64 x] 3)).mono hs3)).grown hgrow4 (by simp; omega) (fun q hq => (HO3.out.lt q hq).1)
            have HB4 := hid hb4
            have HO4 := hid hown4
            clear hb4 hown4 hgrow4
            go_roundw
            case rel => exact ⟨k + 1, g ++ [x], by omega, by go_num, by rw [List.range_succ, List.map_append, ← HG.out, List.map_singleton, HHD.out], by simpa using HO4.out, HB4.out, fun i h => by
              rcases Nat.lt_succ_iff_lt_or_eq.1 h with h1 | rfl
              · exact HR.out i h1
              · exact HS.out⟩
            case measure => simp [intOf]; omega
          · rw [hm] at HHS
            have HS : Hid (renB s l = false) := hid (renB_no hlt (by rw [HQ.out]; simp; intro _; exact of_decide_eq_true hm))
            clear hm
            go_wp2_with (go_at_call 56; refine HHS.out.mono ?_; rintro e w' ⟨rfl, rfl⟩)
            go_ret
            exact ⟨ret_bool HS.out.symm, HB3.out⟩
      · have HS : Hid (renB s l = true) := hid (renB_full HH1.out (fun i hi => HR.out i (by omega)))
        go_wp2
        go_ret
        exact ⟨ret_bool HS.out.symm, HB.out⟩
end Go.Proofs.Ytidigpfiagjeiaa
