/-
  WHAT IT HOLDS: contracts of cites, Unused and Dropped of the reference of layer 7. Conditions: the arguments read as data.
  WHAT IT HOLDS: the walk of the law ShortDrops: it returns true. Conditions: the arguments read as data; the library's table of powers of ten stands as it is written.
-/
import Derived.Test.YtmpjaakkjhmpmaaGreatDoorZRShortDrops45
import Derived.Test.YtmpjaakkjhmpmaaGreatDoorZRShortDrops34
import Derived.Test.YtmpjaakkjhmpmaaGreatDoorZRShortDrops44
namespace Go.Proofs.YtmpjaakkjhmpmaaGreatDoor
open Go Go.RowKit Go.Maps
theorem ref7_cites (v : Value) (p : List St) (i : Nat) (w : World) (hv : StepsAt w v p) (hn : p.length ≤ 1000) (hi : i ≤ 1000) :
    Calls Tryz.prog 68 #[v, .int .i64 (i : Int)] w fun e w' => e = .returned (.bool (citB p i)) ∧ w = w' := by
  obtain ⟨pa, pc, rfl, -, -, -, HC⟩ := hv.open
  have HC' := hid HC
  clear HC hv
  go_enter Tryz.func68, Tryz.ntmps68
  go_wp2
  go_loopw [5] (fun kv wr => ∃ k : Nat, k ≤ p.length ∧ kv = .int .i64 k ∧ wr = w ∧ citB (p.take k) i = false) (fun kv _ => p.length - (intOf kv).toNat)
  case atStart => exact ⟨0, by omega, rfl, rfl, by simp [citB]⟩
  case round =>
    obtain ⟨k, hk, rfl, rfl, hci⟩ := hrel
    by_cases hlt : k < p.length
    · obtain ⟨b, o, rfl, x0, x1, x2⟩ := HC'.out k hlt
      have hst := citB_snoc (p.take k) p[k] i
      rw [← List.take_succ_eq_append_getElem hlt, hci, Bool.false_or] at hst
      obtain ⟨x, hxx⟩ : ∃ x, p[k] = x := ⟨_, rfl⟩
      have HMEM := hid (show x ∈ p from hxx ▸ List.getElem_mem hlt)
      rw [hxx] at x0 x1 x2 hst
      clear hxx hci
      by_cases h1 : x.1 = 1
      · rw [h1] at x0
        by_cases h2 : x.2.1 = (i : Int)
        · have HY : Hid (citB p i = true) := hid (by
            unfold citB; rw [List.any_eq_true]
            exact ⟨x, HMEM.out, by unfold citS; rw [decide_eq_true h1, decide_eq_true h2]; rfl⟩)
          rw [h2] at x1
          have c1 : ((i : Int) == (i : Int)) = true := by simp
          clear hst h1 h2
          go_wp2
          go_ret
          exact ⟨by rw [HY.out]; rfl, rfl⟩
        · have HY : Hid (citB (p.take (k + 1)) i = false) := hid (by rw [hst]; unfold citS; rw [decide_eq_false h2]; simp)
          obtain ⟨y, hy⟩ : ∃ y, x.2.1 = y := ⟨_, rfl⟩
          rw [hy] at x1 h2
          have c1 : (y == (i : Int)) = false := by rw [beq_eq_false_iff_ne]; exact h2
          clear hst h1 h2 hy
          go_wp2
          go_roundw
          case rel => exact ⟨k + 1, by omega, by go_num, by first | rfl | trivial, HY.out⟩
          case measure => simp [intOf]; omega
      · have HY : Hid (citB (p.take (k + 1)) i = false) := hid (by rw [hst]; unfold citS; rw [decide_eq_false h1]; simp)
        obtain ⟨κ, hκ⟩ : ∃ κ, x.1 = κ := ⟨_, rfl⟩
        rw [hκ] at x0 h1
        have c1 : (κ == 1) = false := by rw [beq_eq_false_iff_ne]; exact h1
        clear hst h1 hκ
        go_wp2
        go_roundw
        case rel => exact ⟨k + 1, by omega, by go_num, by first | rfl | trivial, HY.out⟩
        case measure => simp [intOf]; omega
    · have hkl : k = p.length := by omega
      subst hkl
      rw [List.take_of_length_le (Nat.le_refl _)] at hci
      have HY := hid hci
      clear hci
      go_wp2
      go_ret
      exact ⟨by rw [HY.out]; rfl, rfl⟩
theorem unusedG_succ (k : Nat) (p : List St) : unusedG (k + 1) p = if citB p k = true then unusedG k p else unusedG k p ++ [k] := by
  unfold unusedG
  rw [List.range_succ, List.filter_append]
  cases h : citB p k <;> simp [h]
theorem usedG_succ (k : Nat) (p : List St) : usedG (k + 1) p = if citB p k = true then usedG k p ++ [k] else usedG k p := by
  unfold usedG
  rw [List.range_succ, List.filter_append]
  cases h : citB p k <;> simp [h]
set_option maxHeartbeats 2000000 in
theorem ref7_Unused (g : Int) (v : Value) (p : List St) (w : World) (hv : StepsAt w v p) :
    Calls Tryz.prog 26 #[.int .i64 g, v] w fun e w' => UnuQ g p w e w' := by
  have HV := hid (ref7_valid g v p w hv)
  have HP := hid hv
  obtain ⟨pa, pc, rfl, -⟩ := hv.open
  clear hv
  unfold UnuQ
  cases hb : vldB g p
  · rw [hb] at HV
    rw [vldE_1 hb]
    clear hb HP
    go_enter Tryz.func26, Tryz.ntmps26
    go_wp2_with fail
    refine HV.out.mono ?_
    rintro e w1 ⟨rfl, hb1⟩
    go_wp2
    go_ret2
    exact ⟨_, rfl, ints_nil7 _, hb1⟩
  rw [hb] at HV
  rw [vldE_0 hb]
  obtain ⟨n, rfl, hn60, hp⟩ := vldB_nat hb
  rw [Int.toNat_natCast]
  have h60 := proof60 hp
  have HCI := hid (fun (i : Nat) (hi : i < n) (X : World) (hX : Below w.heap.size w X) => ref7_cites (.slice pa p.length pc) p i X (HP.out.below hX) (by omega) (by omega))
  have HL := hid (unusedG_len (g := n) (p := p))
  clear hb HP hp
  go_enter Tryz.func26, Tryz.ntmps26
  go_wp2_with fail
  refine HV.out.mono ?_
  rintro e w1 ⟨rfl, hb1⟩
  have HB1 := hid hb1
  clear hb1 HV
  go_wp2
  go_loopw [6, 7] (fun u kv wr => ∃ k : Nat, k ≤ n ∧ kv = .int .i64 k ∧ wr.ownsRow w.heap.size 3 1 u (unusedG k p).length ((natO (unusedG k p)).map (Value.int .i64)) ∧ Below w.heap.size w wr) (fun _ kv _ => n - (intOf kv).toNat)
  case atStart => exact ⟨0, by omega, rfl, World.ownsRow_nil _ _ _ _, HB1.out⟩
  case round =>
    obtain ⟨k, hk, rfl, hown, hb⟩ := hrel
    have hsz := hb.size
    by_cases hlt : k < n
    · have HC := hid (HCI.out k hlt wr hb)
      have hul := unusedG_len (g := k) (p := p)
      have hsu := unusedG_succ k p
      have HB := hid hb
      have HOWN := hid hown
      clear hb hown
      cases hz : citB p k
      · rw [hz] at HC hsu
        have HS := hid (show unusedG (k + 1) p = unusedG k p ++ [k] from hsu)
        clear hz hsu
        go_wp2_with (first
          | (go_at_call 68; refine HC.out.mono ?_; rintro e w' ⟨rfl, rfl⟩)
          | (at_builtin; refine wpList_append_row rfl _ _ 33 rfl w.heap.size 3 el_int Tryz.underlying33 rfl (by decide) _ _ _ rfl (HOWN.out.alloc _) _ 1 [.int .i64 (k : Int)] rfl (row_one_new _ _ _) (oneCell_one rfl) (by omega) (by omega) (by simp; omega) ?_; intro v' w4 hown4 hgrow4 _))
        go_roundw
        case rel =>
          refine ⟨k + 1, by omega, by go_num, ?_, (HB.out.alloc hsz _).grown hgrow4 (by have := HB.out.size; simp; omega) (fun q hq => (HOWN.out.lt q hq).1)⟩
          rw [HS.out, List.length_append, natO_snoc, List.map_append]
          exact hown4
        case measure => simp [intOf]; omega
      · rw [hz] at HC hsu
        have HS := hid (show unusedG (k + 1) p = unusedG k p from hsu)
        clear hz hsu
        go_wp2_with (go_at_call 68; refine HC.out.mono ?_; rintro e w' ⟨rfl, rfl⟩)
        go_roundw
        case rel => exact ⟨k + 1, by omega, by go_num, by rw [HS.out]; exact HOWN.out, HB.out⟩
        case measure => simp [intOf]; omega
    · have hkl : k = n := by omega
      subst hkl
      have HI := hid (show Ints wr u6 (natO (unusedG k p)) from Ints.of_owns (by rw [natO_len]; exact hown) (by rw [natO_len]; have := HL.out; omega))
      obtain ⟨a1, c1, rfl⟩ := owns_slice hown
      have HB := hid hb
      clear hown hb
      go_wp2
      go_ret2
      exact ⟨_, rfl, HI.out, HB.out⟩
theorem usedG_pre {k : Nat} (p : List St) : ∀ (d : Nat), ∃ r, usedG (k + d) p = usedG k p ++ r
  | 0 => ⟨[], by simp⟩
  | d + 1 => by
    obtain ⟨r, h⟩ := usedG_pre (k := k) p d
    rw [← Nat.add_assoc, usedG_succ, h]
    split
    · exact ⟨r ++ [k + d], by simp⟩
    · exact ⟨r, rfl⟩
theorem ixN_used {g k : Nat} {p : List St} (hk : k < g) (h : citB p k = true) : ixN (usedG g p) k = (usedG k p).length := by
  obtain ⟨r, hr⟩ := usedG_pre (k := k + 1) p (g - (k + 1))
  rw [show k + 1 + (g - (k + 1)) = g by omega, usedG_succ, if_pos h, List.append_assoc] at hr
  rw [hr]
  refine ixN_eq (by simp) ?_ fun j hj => ?_
  · rw [List.getD_eq_getElem?_getD, List.getElem?_append_right (Nat.le_refl _), Nat.sub_self]; rfl
  · rw [List.getD_eq_getElem?_getD, List.getElem?_append_left hj, List.getElem?_eq_getElem hj]
    have := usedG_lt (g := k) (p := p) _ (List.getElem_mem hj)
    simp only [Option.getD_some]
    omega
/-- where the givens stand that are gone through. -/
def toG (g : Nat) (p : List St) (k : Nat) : List Int := (List.range g).map fun i => if i < k ∧ citB p i = true then (ixN (usedG g p) i : Int) else 0
theorem toG_len (g : Nat) (p : List St) (k : Nat) : (toG g p k).length = g := by unfold toG; simp
theorem toG_get {g : Nat} {p : List St} {k i : Nat} (hi : i < g) : (toG g p k)[i]? = some (if i < k ∧ citB p i = true then (ixN (usedG g p) i : Int) else 0) := by unfold toG; simp [hi]
theorem toG_0 (g : Nat) (p : List St) : toG g p 0 = List.replicate g 0 := by
  unfold toG
  simp [List.map_const']
theorem toG_no {g : Nat} {p : List St} {k : Nat} (h : citB p k = false) : toG g p (k + 1) = toG g p k := by
  unfold toG
  apply List.map_congr_left
  intro i _
  by_cases e : i = k
  · subst e; rw [h]; simp
  · by_cases h1 : i < k
    · simp [h1, Nat.lt_succ_of_lt h1]
    · rw [if_neg (by omega), if_neg (by omega)]
theorem toG_yes {g : Nat} {p : List St} {k : Nat} (hk : k < g) (h : citB p k = true) : (toG g p k).set k ((usedG k p).length : Int) = toG g p (k + 1) := by
  apply List.ext_getElem?
  intro i
  rw [List.getElem?_set]
  by_cases hi : i < g
  · by_cases e : k = i
    · subst e
      rw [if_pos rfl, if_pos (by rw [toG_len]; exact hk), toG_get hi, if_pos ⟨by omega, h⟩, ixN_used hk h]
    · rw [if_neg e, toG_get hi, toG_get hi]
      by_cases h1 : i < k
      · simp [h1, Nat.lt_succ_of_lt h1]
      · rw [if_neg (by omega), if_neg (by omega)]
  · rw [List.getElem?_eq_none (by rw [toG_len]; omega)]
    split
    · rename_i e; subst e; omega
    · rw [List.getElem?_eq_none (by rw [toG_len]; omega)]
theorem ints7_at {b : List Int} {i : Nat} (h : i < b.length) : (b.map (Value.int .i64))[i]? = some (.int .i64 (b.getD i 0)) := by
  rw [List.getElem?_map, List.getD_eq_getElem?_getD, List.getElem?_eq_getElem h]; rfl
set_option maxHeartbeats 4000000 in
set_option maxRecDepth 100000 in
theorem ref7_Dropped (g : Int) (v : Value) (p : List St) (w : World) (hv : StepsAt w v p) :
    Calls Tryz.prog 28 #[.int .i64 g, v] w fun e w' => DrpQ g p w e w' := by
  have HV := hid (ref7_valid g v p w hv)
  have HP := hid hv
  obtain ⟨pa, pc, rfl, -⟩ := hv.open
  clear hv
  unfold DrpQ
  cases hb : vldB g p
  · rw [hb] at HV
    rw [vldE_1 hb]
    clear hb HP
    go_enter Tryz.func28, Tryz.ntmps28
    go_wp2_with fail
    refine HV.out.mono ?_
    rintro e w1 ⟨rfl, hb1⟩
    go_wp2
    go_ret3
    exact ⟨_, _, rfl, StepsAt.nil _, ints_nil7 _, hb1⟩
  rw [hb] at HV
  rw [vldE_0 hb]
  obtain ⟨n, rfl, hn60, hp⟩ := vldB_nat hb
  rw [Int.toNat_natCast]
  have h60 := proof60 hp
  have h1 := proof1 hp
  have HCI := hid (fun (i : Nat) (hi : i < n) (X : World) (hX : Below w.heap.size w X) => ref7_cites (.slice pa p.length pc) p i X (HP.out.below hX) (by omega) (by omega))
  have HIN := hid (fun (k : Nat) (hk : k < p.length) (h : p[k].1 = 1) => cit_in hp hk h)
  have HDP : Hid (drpP n p = p.map (drpS (usedG n p))) := hid rfl
  have HL := hid (usedG_len (g := n) (p := p))
  clear hb hp
  go_enter Tryz.func28, Tryz.ntmps28
  go_wp2_with fail
  refine HV.out.mono ?_
  rintro e w1 ⟨rfl, hb1⟩
  have HB1 := hid hb1
  clear hb1 HV
  go_wp2_with (at_make; refine wpList_make_row rfl _ _ 33 rfl w.heap.size 3 el_int Tryz.underlying33 rfl n rfl rfl (by omega) (by omega) HB1.out.size ?_; intro q w2 hq0 hq1 hown2 hgrow2)
  have HB2 := hid (HB1.out.grown hgrow2 HB1.out.size (fun _ h => by cases h))
  have HO2 := hid hown2
  clear hown2 hgrow2
  go_loopw [8, 9] (fun us kv wr => ∃ k : Nat, k ≤ n ∧ kv = .int .i64 k ∧ wr.ownsRow w.heap.size 3 1 (.slice (some ⟨q, 0, none⟩) n n) n ((toG n p k).map (Value.int .i64)) ∧ wr.ownsRow w.heap.size 3 1 us (usedG k p).length ((natO (usedG k p)).map (Value.int .i64)) ∧ us.ownBlock ≠ some q ∧ Below w.heap.size w wr) (fun _ kv _ => n - (intOf kv).toNat)
  case atStart => exact ⟨0, by omega, rfl, by rw [toG_0]; simpa using HO2.out, World.ownsRow_nil _ _ _ _, by simp [Value.ownBlock], HB2.out⟩
  case round =>
    clear HO2 HB2
    obtain ⟨k, hk, rfl, hto, hus, hne, hb⟩ := hrel
    have hsz := hb.size
    by_cases hlt : k < n
    · have HC := hid (HCI.out k hlt wr hb)
      have hul := usedG_len (g := k) (p := p)
      have hsu := usedG_succ k p
      have HB := hid hb
      obtain ⟨ua, uc, rfl⟩ := owns_slice hus
      cases hz : citB p k
      · rw [hz] at HC hsu
        have HS := hid (show usedG (k + 1) p = usedG k p from hsu)
        have HT := hid (toG_no (g := n) hz)
        have HTO := hid hto
        have HUS := hid hus
        have HNE := hid hne
        clear hz hsu hto hus hne hb
        go_wp2_with (go_at_call 68; refine HC.out.mono ?_; rintro e w' ⟨rfl, rfl⟩)
        go_roundw
        case rel => exact ⟨k + 1, by omega, by go_num, by rw [HT.out]; exact HTO.out, by rw [HS.out]; exact HUS.out, HNE.out, HB.out⟩
        case measure => simp [intOf]; omega
      · rw [hz] at HC hsu
        have HS := hid (show usedG (k + 1) p = usedG k p ++ [k] from hsu)
        have HT := hid (toG_yes hlt hz)
        have cA := hto.cellAt k (by omega)
        rw [ints7_at (by rw [toG_len]; exact hlt)] at cA
        have fA := hto.frozenAt k
        have hst := (hto.stored k (.int .i64 ((usedG k p).length : Int))).1
        rw [← List.map_set, HT.out] at hst
        have hus2 := ownsRow_setCell_other (a := ⟨q, k, none⟩) hus hne (.int .i64 ((usedG k p).length : Int))
        have hbs : Below w.heap.size w (wr.setCell ⟨q, k, none⟩ (.int .i64 ((usedG k p).length : Int))) := hb.setCell (p := ⟨q, k, none⟩) hq0 _
        have HTO := hid (hst.alloc (.cells #[.int .i64 (k : Int)] 3))
        have HUS := hid (hus2.alloc (.cells #[.int .i64 (k : Int)] 3))
        have HNE := hid hne
        have HBS := hid (hbs.alloc hbs.size (.cells #[.int .i64 (k : Int)] 3))
        have hsrc := row_one_new (wr.setCell ⟨q, k, none⟩ (.int .i64 ((usedG k p).length : Int))) (.int .i64 (k : Int)) 3
        have hssz : (wr.setCell ⟨q, k, none⟩ (.int .i64 ((usedG k p).length : Int))).heap.size = wr.heap.size := by simp
        rw [hssz] at hsrc
        have HSRC := hid hsrc
        clear hz hsu hto hus hne hb hst hus2 hbs hsrc hssz
        go_wp2_with (first
          | (go_at_call 68; refine HC.out.mono ?_; rintro e w' ⟨rfl, rfl⟩)
          | (at_builtin; refine wpList_append_lie rfl _ _ 33 rfl w.heap.size 3 el_int Tryz.underlying33 rfl (by decide) _ _ _ rfl HUS.out _ 1 [.int .i64 (k : Int)] rfl HSRC.out (oneCell_one rfl) (by omega) (by omega) (by omega) HBS.out.size _ rfl ?_; intro g2 c2 w3 hown3 hgrow3 hat3 hlt3))
        go_roundw
        case rel =>
          refine ⟨k + 1, by omega, by go_num, ?_, ?_, ?_, HBS.out.grown hgrow3 (by have := HBS.out.size; omega) (fun q hq => (HUS.out.lt q hq).1)⟩
          · exact HTO.out.kept hgrow3 (Or.inr fun e => HNE.out e.symm)
          · rw [HS.out, List.length_append, natO_snoc, List.map_append]
            exact hown3
          · intro e
            simp only [Value.ownBlock, Option.some.injEq] at e
            subst e
            rcases hat3 with h | h
            · exact HNE.out h
            · have h5 : g2 < _ := (HTO.out.lt _ rfl).2
              omega
        case measure => simp [intOf]; omega
    · have hkl : k = n := by omega
      subst hkl
      obtain ⟨WL, hWL⟩ : ∃ X, X = wr := ⟨wr, rfl⟩
      subst hWL
      obtain ⟨ua, uc, rfl⟩ := owns_slice hus
      have HTI := hid (show Ints WL (.slice (some ⟨q, 0, none⟩) k k) (toG k p k) from Ints.of_owns (by rw [toG_len]; exact hto) (by rw [toG_len]; omega))
      have HIU := hid (show Ints WL (.slice ua (usedG k p).length uc) (natO (usedG k p)) from Ints.of_owns (by rw [natO_len]; exact hus) (by rw [natO_len]; have := HL.out; omega))
      have HB := hid hb
      have hb0 : Below WL.heap.size WL (WL.alloc (.cells #[] 57)) := (Below.refl _ _).alloc (Nat.le_refl _) _
      have HR := hid (show RowK (WL.alloc (.cells #[] 57)) (.slice pa p.length pc) 3 p.length (stC p) from (HP.out.below hb).below hb0)
      have HOWN := hid (World.ownsRow_lit (base := WL.heap.size) (e := 57) (size := 3) WL #[] 0 (Nat.le_refl _) (by simp [maxLen]) rfl)
      have HB0 := hid hb0
      clear hto hus hne hb hb0
      go_wp2_with (at_builtin; refine wpList_append_row rfl _ _ 25 rfl WL.heap.size 57 el_step Tryz.underlying25 rfl (by decide) _ 0 [] rfl HOWN.out _ p.length (stC p) rfl HR.out (stC_one p) (by omega) (by omega) (by simp) ?_; intro u5 w5 hown5 hgrow5 _)
      have hown6 : w5.ownsRow WL.heap.size 57 3 u5 p.length (stC p) := by simpa using hown5
      have hb5 := HB0.out.grown hgrow5 (by simp) (fun q hq => by cases hq; exact Nat.le_refl _)
      obtain ⟨c, cap, rfl⟩ : ∃ c cap, u5 = .slice (some ⟨c, 0, none⟩) p.length cap := by
        rcases hown6.2 with ⟨rfl, h⟩ | ⟨c, cap, cur, rfl, -⟩
        · omega
        · exact ⟨c, cap, rfl⟩
      have hc0 : WL.heap.size ≤ c := (hown6.lt c rfl).1
      have HO6 := hid hown6
      have HB5 := hid hb5
      obtain ⟨ta, tc', he, -, -, -, TC⟩ := HTI.out.open
      simp only [Value.slice.injEq] at he
      obtain ⟨rfl, -, -⟩ := he
      have TC' := hid TC
      clear hown5 hgrow5 hown6 hb5 HR HOWN HB0 TC
      go_wp2
      go_loopw [11] (fun kv wr => ∃ j : Nat, j ≤ p.length ∧ kv = .int .i64 j ∧ wr.ownsRow WL.heap.size 57 3 (.slice (some ⟨c, 0, none⟩) p.length cap) p.length (stC (mpL (drpS (usedG k p)) p j)) ∧ Below WL.heap.size WL wr) (fun kv _ => p.length - (intOf kv).toNat)
      case atStart => exact ⟨0, by omega, rfl, by rw [mpL_0]; exact HO6.out, HB5.out⟩
      case round =>
        clear HO6 HB5
        obtain ⟨j, hj, rfl, hown, hbz⟩ := hrel
        have hsz := hbz.size
        by_cases hlt : j < p.length
        · have hml := mpL_len (drpS (usedG k p)) p j
          obtain ⟨g0, g1, g2⟩ := stC_get (mpL (drpS (usedG k p)) p j) j (by rw [hml]; exact hlt)
          rw [mpL_at (drpS (usedG k p)) p hlt (by rw [hml]; exact hlt)] at g0 g1 g2
          have x0 := hown.cellAt (j * 3) (by omega)
          have x1 := hown.cellAt (j * 3 + 1) (by omega)
          rw [g0] at x0
          rw [g1] at x1
          have hsame := mpL_same (drpS (usedG k p)) p hlt
          have hsucc := mpL_succ (drpS (usedG k p)) p hlt
          have hset := fun a => stC_setA (mpL (drpS (usedG k p)) p j) a j p[j] (mpL_get (drpS (usedG k p)) p hlt)
          have hci := HIN.out j hlt
          obtain ⟨x, hxx⟩ : ∃ x, p[j] = x := ⟨_, rfl⟩
          rw [hxx] at x0 x1 hsame hsucc hset hci
          clear g0 g1 g2 hml hxx
          obtain ⟨L, hL⟩ : ∃ L, mpL (drpS (usedG k p)) p j = L := ⟨_, rfl⟩
          rw [hL] at hown hsame hsucc hset
          clear hL
          by_cases h2 : x.1 = 1
          · obtain ⟨hm, hA⟩ := hci h2
            obtain ⟨A, hAe⟩ : ∃ A, nA x = A := ⟨_, rfl⟩
            rw [hAe] at hm hA
            obtain ⟨hAk, hAc⟩ := usedG_mem.1 hm
            have hdr : drpS (usedG k p) x = (x.1, (ixN (usedG k p) A : Int), x.2.2) := by unfold drpS; rw [if_pos h2, hAe, h2]
            rw [hdr] at hsucc
            have HLS := hid hsucc
            rw [h2] at x0
            rw [hA] at x1
            obtain ⟨tb, to, et, tcell⟩ := TC'.out A (by rw [toG_len]; exact hAk)
            cases et
            have e1 : (toG k p k)[A]'(by rw [toG_len]; exact hAk) = (ixN (usedG k p) A : Int) := by
              have h := toG_get (g := k) (p := p) (k := k) hAk
              rw [List.getElem?_eq_getElem (by rw [toG_len]; exact hAk), if_pos ⟨hAk, hAc⟩] at h
              exact Option.some.inj h
            rw [e1, Nat.zero_add] at tcell
            obtain ⟨I, hI⟩ : ∃ I : Int, (ixN (usedG k p) A : Int) = I := ⟨_, rfl⟩
            rw [hI] at tcell HLS
            have htz := (hbz.cell (World.block_lt_of_cell? _ _ tcell)).trans tcell
            have hf1 := hown.frozenAt (j * 3 + 1)
            have hst := (hown.stored (j * 3 + 1) (.int .i64 I)).1
            rw [hset, ← HLS.out] at hst
            have HST := hid hst
            have HBX := hid (hbz.setCell (p := ⟨c, j * 3 + 1, none⟩) hc0 (.int .i64 I))
            clear hm hA hAe hdr hsucc hsame hset h2 hst hown hbz hci hI e1 tcell
            go_wp2
            go_roundw
            case rel => exact ⟨j + 1, by omega, by go_num, HST.out, HBX.out⟩
            case measure => simp [intOf]; omega
          · have hdr : drpS (usedG k p) x = x := by unfold drpS; rw [if_neg h2]
            have HLS := hid (hsame hdr)
            obtain ⟨κ, hκ⟩ : ∃ κ, x.1 = κ := ⟨_, rfl⟩
            rw [hκ] at x0 h2
            have c1 : (κ == 1) = false := by rw [beq_eq_false_iff_ne]; exact h2
            have HOX := hid hown
            have HBX := hid hbz
            clear hdr hsucc hsame hset hκ h2 hown hbz hci x1
            go_wp2
            go_roundw
            case rel => exact ⟨j + 1, by omega, by go_num, by rw [HLS.out]; exact HOX.out, HBX.out⟩
            case measure => simp [intOf]; omega
        · have hjl : j = p.length := by omega
          subst hjl
          rw [mpL_all, ← HDP.out] at hown
          have hdl : (drpP k p).length = p.length := by rw [HDP.out, List.length_map]
          have HO := hid (show StepsAt wr (.slice (some ⟨c, 0, none⟩) p.length cap) (drpP k p) from by
            have h := RowK.of_owns hown (by omega)
            unfold StepsAt
            rw [hdl]
            exact h)
          have HIw := hid (HIU.out.below hbz)
          have HBw := hid (HB.out.trans (hbz.mono HB.out.size))
          clear hown hbz hdl
          go_wp2
          go_ret3
          exact ⟨_, _, rfl, HO.out, HIw.out, HBw.out⟩
end Go.Proofs.YtmpjaakkjhmpmaaGreatDoor
namespace Go.Proofs.YtmpjaakkjhmpmaaGreatDoor
open Go Go.RowKit Go.Maps
set_option maxHeartbeats 1000000 in
set_option maxRecDepth 100000 in
theorem walk_ShortDrops (vp : Value) (g : Int) (p : List St) (w : World) (hp : StepsAt w vp p) (htab : Tab w) :
    Calls Tryz.prog 5 #[.int .i64 g, vp] w fun e w' => e = .returned (.bool true) ∧ Below w.heap.size w w' := by
  have HP := hid hp
  have HAW := hid (law7_awake w htab)
  obtain ⟨pa, pc, rfl, -, hpl, -⟩ := hp.open
  clear hp htab
  obtain ⟨L1, hL1⟩ : ∃ L, (if vldB g p = true then natO (unusedG g.toNat p) else []) = L := ⟨_, rfl⟩
  obtain ⟨L2, hL2⟩ : ∃ L, (if vldB g p = true then drpP g.toNat p else []) = L := ⟨_, rfl⟩
  obtain ⟨L3, hL3⟩ : ∃ L, (if vldB g p = true then natO (usedG g.toNat p) else []) = L := ⟨_, rfl⟩
  obtain ⟨E, hE⟩ : ∃ E, vldE g p = E := ⟨_, rfl⟩
  have HE := hid hE
  have HL1 := hid hL1
  have HL2 := hid hL2
  have HL3 := hid hL3
  clear hL1 hL2 hL3 hE
  go_enter Tryz.func5, Tryz.ntmps5
  go_wp2_with fail
  refine HAW.out.mono ?_
  rintro e w1 ⟨rfl, hb1⟩
  have HB1 := hid hb1
  clear hb1 HAW
  by_cases hbig : 100 < p.length
  · have q1 : (p.length : Int) > 100 := by omega
    go_wp2
    go_ret
    exact ⟨rfl, HB1.out⟩
  have q1 : ¬ (p.length : Int) > 100 := by omega
  have HUN := hid (short_Unused g _ p w1 (HP.out.below HB1.out))
  unfold UnuQ at HUN
  rw [HL1.out, HE.out] at HUN
  go_wp2_with fail
  refine HUN.out.mono ?_
  rintro e w2 ⟨u1, rfl, hi1, hb2⟩
  have HB2 := hid (HB1.out.trans (hb2.mono HB1.out.size))
  have HU2 := hid (ref7_Unused g _ p w2 (HP.out.below HB2.out))
  unfold UnuQ at HU2
  rw [HL1.out, HE.out] at HU2
  have HI1 := hid hi1
  obtain ⟨a1, c1, rfl, -⟩ := hi1.open
  clear hi1 hb2 HUN
  go_wp2_with fail
  refine HU2.out.mono ?_
  rintro e w3 ⟨u2, rfl, hi2, hb3⟩
  have HB3 := hid (HB2.out.trans (hb3.mono HB2.out.size))
  have HI13 := hid (HI1.out.below hb3)
  have HI2 := hid hi2
  have HD1 := hid (short_Dropped g _ p w3 (HP.out.below HB3.out))
  unfold DrpQ at HD1
  rw [HL2.out, HL3.out, HE.out] at HD1
  obtain ⟨a2, c2, rfl, -⟩ := hi2.open
  clear hi2 hb3 HU2 HI1
  go_wp2_with fail
  refine HD1.out.mono ?_
  rintro e w4 ⟨u3, u4, rfl, hi3, hi4, hb4⟩
  have HB4 := hid (HB3.out.trans (hb4.mono HB3.out.size))
  have HI14 := hid (HI13.out.below hb4)
  have HI24 := hid (HI2.out.below hb4)
  have HI3 := hid hi3
  have HI4 := hid hi4
  have HD2 := hid (ref7_Dropped g _ p w4 (HP.out.below HB4.out))
  unfold DrpQ at HD2
  rw [HL2.out, HL3.out, HE.out] at HD2
  obtain ⟨a3, c3, rfl, -⟩ := hi3.open
  obtain ⟨a4, c4, rfl, -⟩ := hi4.open
  clear hi3 hi4 hb4 HD1 HI13 HI2
  go_wp2_with fail
  refine HD2.out.mono ?_
  rintro e w5 ⟨u5, u6, rfl, hi5, hi6, hb5⟩
  have HB5 := hid (HB4.out.trans (hb5.mono HB4.out.size))
  have HI15 := hid (HI14.out.below hb5)
  have HI25 := hid (HI24.out.below hb5)
  have HI35 := hid (HI3.out.below hb5)
  have HI45 := hid (HI4.out.below hb5)
  have HI5 := hid hi5
  have HI6 := hid hi6
  obtain ⟨a5, c5, rfl, -⟩ := hi5.open
  obtain ⟨a6, c6, rfl, -⟩ := hi6.open
  clear hi5 hi6 hb5 HD2 HI14 HI24 HI3 HI4
  have S1 := hid (ref6_SameInts _ _ L1 L1 w5 HI15.out HI25.out)
  rw [decide_eq_true (rfl : L1 = L1)] at S1
  have S2 := hid (fun (X : World) (hX : Below w5.heap.size w5 X) => ref6_SameProof _ _ L2 L2 X (HI35.out.below hX) (HI5.out.below hX))
  rw [decide_eq_true (rfl : L2 = L2)] at S2
  have S3 := hid (fun (X : World) (hX : Below w5.heap.size w5 X) => ref6_SameInts _ _ L3 L3 X (HI45.out.below hX) (HI6.out.below hX))
  rw [decide_eq_true (rfl : L3 = L3)] at S3
  have cE : (E != E) = false := by simp
  go_wp2_with fail
  refine S1.out.mono ?_
  rintro e w6 ⟨rfl, n6, hw6⟩
  have hb6 : Below w5.heap.size w5 w6 := hw6 ▸ below_self_drewN _ _
  have HB6 := hid hb6
  have K2 := hid (S2.out w6 hb6)
  clear hw6 hb6 S1 S2
  go_wp2_with fail
  refine K2.out.mono ?_
  rintro e w7 ⟨rfl, n7, hw7⟩
  have hb7 : Below w5.heap.size w5 w7 := hw7 ▸ below_drewN HB6.out n7
  have HB7 := hid hb7
  have K3 := hid (S3.out w7 hb7)
  clear hw7 hb7 K2 S3
  go_wp2_with fail
  refine K3.out.mono ?_
  rintro e w8 ⟨rfl, n8, hw8⟩
  have hb8 : Below w5.heap.size w5 w8 := hw8 ▸ below_drewN HB7.out n8
  have HB58 := hid hb8
  have HB8 := hid (HB5.out.trans (hb8.mono HB5.out.size))
  clear hw8 hb8 K3
  cases hv : vldB g p
  · have e1 : E = 1 := by rw [← HE.out]; exact vldE_1 hv
    subst e1
    clear hv HL1 HL2 HL3
    go_wp2
    go_ret
    exact ⟨rfl, HB8.out⟩
  have e1 : E = 0 := by rw [← HE.out]; exact vldE_0 hv
  subst e1
  obtain ⟨n, rfl, hn60, hpv⟩ := vldB_nat hv
  have hl1 := HL1.out
  have hl2 := HL2.out
  have hl3 := HL3.out
  rw [if_pos hv, Int.toNat_natCast] at hl1 hl2 hl3
  subst hl1 hl2 hl3
  have hM := kernel_Moved_ok (usedG n p).length (.slice a3 (drpP n p).length c3) (.slice a4 (natO (usedG n p)).length c4) (drpP n p) (usedG n p) n w8 (HI35.out.below HB58.out) (HI45.out.below HB58.out) (drp_valid hpv) (by have := usedG_len (g := n) (p := p); omega) rfl hn60 usedG_lt
  rw [drp_back hpv] at hM
  have HM := hid hM
  have huu := used_unused n p
  have hnl := natO_len (usedG n p)
  have hnl2 := natO_len (unusedG n p)
  rw [hnl] at HM
  obtain ⟨A, hA⟩ : ∃ A, (usedG n p).length = A := ⟨_, rfl⟩
  obtain ⟨B, hB⟩ : ∃ B, (unusedG n p).length = B := ⟨_, rfl⟩
  rw [hA] at HM huu hnl
  rw [hB] at huu hnl2
  simp only [hnl, hnl2]
  have y1 : IntKind.i64.wrap ((A : Int) + (B : Int)) = (n : Int) := by rw [IntWalk.i64_in _ (by omega)]; omega
  have y2 : (A : Int) + (B : Int) = (n : Int) := by omega
  clear hM hv hpv HL1 HL2 HL3 hA hB hnl hnl2 HE
  go_wp2_with fail
  refine HM.out.mono ?_
  rintro e w9 ⟨u9, rfl, hi9, hb9⟩
  have HB9 := hid (HB8.out.trans (hb9.mono HB8.out.size))
  have SP := hid (ref6_SameProof _ _ p p w9 hi9 (HP.out.below HB9.out))
  rw [decide_eq_true (rfl : p = p)] at SP
  obtain ⟨a9, c9, rfl, -⟩ := hi9.open
  clear hi9 hb9 HM
  go_wp2_with fail
  refine SP.out.mono ?_
  rintro e wa ⟨rfl, na, hwa⟩
  have HBa := hid (show Below w.heap.size w wa from hwa ▸ below_drewN HB9.out na)
  clear hwa SP
  go_wp2
  go_ret
  exact ⟨rfl, HBa.out⟩
end Go.Proofs.YtmpjaakkjhmpmaaGreatDoor
