/-
  WHAT IT HOLDS: contracts of within, order, Valid, OneToOne of the reference of layer 3. Conditions: the arguments read as data; small signs.
-/
import Derived.Test.YtalodmochkodiaaGreatZRTopCarried25
import Derived.Test.YtalodmochkodiaaGreatZRTopCarried3
namespace Go.Proofs.YtalodmochkodiaaGreat
open Go Go.RowKit Go.Maps Go.Shelf
theorem ord_no {l : List Int} {i : Nat} (hi : i < l.length) (h : (i : Int) ∉ l) : ordB l = false := by
  rw [Bool.eq_false_iff]
  intro ho
  exact h ((ordB_mem ho).2 ⟨by omega, by omega⟩)
theorem perm_full : ∀ (k l : List Int), k.Nodup → (∀ x ∈ k, x ∈ l) → l.length ≤ k.length → l.Perm k := by
  intro k
  induction k with
  | nil => intro l _ _ h; cases l with
    | nil => exact .refl _
    | cons _ _ => simp at h
  | cons y k ih =>
    intro l h1 h2 h3
    obtain ⟨g1, g2⟩ := List.nodup_cons.1 h1
    have hy := h2 y (by simp)
    refine (List.perm_cons_erase hy).trans (List.Perm.cons _ (ih _ g2 (fun x hx => ?_) ?_))
    · exact (List.mem_erase_of_ne (fun (e : x = y) => g1 (e ▸ hx))).2 (h2 x (by simp [hx]))
    · rw [List.length_erase_of_mem hy]; simp at h3; omega
theorem ord_yes {l : List Int} (h : ∀ i, i < l.length → (i : Int) ∈ l) : ordB l = true := by
  have hs : ∀ x ∈ ascL l.length, x ∈ l := by
    intro x hx
    obtain ⟨h1, h2⟩ := ascL_mem.1 hx
    have := h x.toNat (by omega)
    rwa [Int.toNat_of_nonneg h1] at this
  refine ordB_iff.2 (List.Perm.symm ?_)
  exact (perm_full _ _ (ascL_nodup _) hs (by rw [ascL_len]; exact Nat.le_refl _)).symm
theorem sign_ar0 {s : Sg} (h : signB s = true) (h0 : 0 < s.length) : s[0].2 = 2 := by
  unfold signB at h
  simp only [Bool.and_eq_true] at h
  have h2 := h.1.2
  rw [List.getElem?_eq_getElem h0] at h2
  simpa using h2
theorem dic_way_no {a b : Sg} {d : Dic} {k : Nat} (hk : k < d.length) (h : wayB a b d k = false) : dicB a b d = false := by
  unfold dicB
  rw [way_one hk h, Bool.and_false]
theorem ord_two {p : List Int} (h : ordB p = true) (h2 : p.length = 2) (h0 : p[0] = 0) : p = [0, 1] := by
  match p, h2 with
  | [u, v], _ =>
    simp at h0
    subst h0
    have := (ordB_mem h (x := 1)).2 ⟨by omega, by simp⟩
    simp at this
    rw [← this]
theorem one_no {d : Dic} {k i : Nat} (hk : k < i) (hi : i < d.length) (h : d[k].1 = d[i].1) : decide (d.map (·.1)).Nodup = false := by
  rw [decide_eq_false_iff_not]
  intro hn
  have := List.pairwise_iff_getElem.1 hn k i (by simpa using by omega) (by simpa using hi) hk
  simp at this
  exact this h
theorem one_yes {d : Dic} (h : ∀ i k (hi : i < d.length) (hk : k < i), d[k].1 ≠ d[i].1) : decide (d.map (·.1)).Nodup = true := by
  rw [decide_eq_true_eq]
  refine List.pairwise_iff_getElem.2 fun k i hk hi hki => ?_
  simp at hk hi
  simpa using h i k hi hki
theorem ref3_within (n lo hi : Int) (w : World) :
    Calls Tryz.prog 171 #[.int .i64 n, .int .i64 lo, .int .i64 hi] w fun e w' => e = .returned (.bool (inB n lo hi)) ∧ w' = w := by
  unfold inB
  by_cases h1 : lo ≤ n
  · by_cases h2 : n ≤ hi
    · go_enter Tryz.func171, Tryz.ntmps171
      go_wp2
      go_ret
      exact ⟨by simp [h1, h2], rfl⟩
    · go_enter Tryz.func171, Tryz.ntmps171
      go_wp2
      go_ret
      exact ⟨by simp [h1, h2], rfl⟩
  · go_enter Tryz.func171, Tryz.ntmps171
    go_wp2
    go_ret
    exact ⟨ret_bool (by simp; omega), rfl⟩
theorem ref3_order (v : Value) (l : List Int) (w : World) (hv : Ints w v l) :
    Calls Tryz.prog 172 #[v] w fun e w' => e = .returned (.bool (ordB l)) ∧ w' = w := by
  have HH := hid (fun (n : Int) => ref1_Has v l n w hv)
  obtain ⟨a, cap, rfl, h1, hl, -⟩ := hv.open
  clear hv
  go_enter Tryz.func172, Tryz.ntmps172
  go_wp2
  go_loopw [3] (fun kv wr => ∃ k : Nat, k ≤ l.length ∧ kv = .int .i64 k ∧ wr = w ∧ ∀ j, j < k → (j : Int) ∈ l) (fun kv _ => l.length - (intOf kv).toNat)
  case atStart => exact ⟨0, by omega, rfl, rfl, by simp⟩
  case round =>
    obtain ⟨k, hk, rfl, rfl, hr⟩ := hrel
    have HR := hid hr
    clear hr
    by_cases hlt : k < l.length
    · have HK := hid (HH.out k)
      by_cases hm : (k : Int) ∈ l
      · rw [decide_eq_true hm] at HK
        have HM := hid hm
        clear hm
        go_wp2_with fail
        refine HK.out.mono ?_
        rintro e w1 ⟨rfl, rfl⟩
        go_wp2
        go_round
        case rel =>
          refine ⟨k + 1, by omega, by go_num, by first | trivial | rfl, fun j hj => ?_⟩
          by_cases e : j = k
          · rw [e]; exact HM.out
          · exact HR.out j (by omega)
        case measure => simp [intOf]; omega
      · rw [decide_eq_false hm] at HK
        have HF := hid (ord_no hlt hm)
        clear hm
        go_wp2_with fail
        refine HK.out.mono ?_
        rintro e w1 ⟨rfl, rfl⟩
        go_wp2
        go_ret
        exact ⟨ret_bool HF.out.symm, by first | trivial | rfl⟩
    · have HT := hid (ord_yes fun i hi => HR.out i (by omega))
      go_wp2
      go_ret
      exact ⟨ret_bool HT.out.symm, by first | trivial | rfl⟩
set_option maxHeartbeats 8000000 in
set_option maxRecDepth 100000 in
theorem ref3_Valid (va vb vd : Value) (a b : Sg) (d : Dic) (w : World) (ha : SignAt w va a) (hb : SignAt w vb b) (hd : BindsAt w vd d) (ha1 : a.length ≤ 1000) (hb1 : b.length ≤ 1000) :
    Calls Tryz.prog 80 #[va, vb, vd] w fun e w' => e = .returned (.bool (dicB a b d)) ∧ Below w.heap.size w w' := by
  have HVA := hid (fun (X : World) (hX : Below w.heap.size w X) => (ref1_ValidSign va a X (ha.below hX)).mono (R' := fun e w' => e = .returned (.bool (signB a)) ∧ Below w.heap.size w w') (by rintro e w1 ⟨rfl, n, rfl⟩; exact ⟨rfl, below_drewN hX n⟩))
  have HVB := hid (fun (X : World) (hX : Below w.heap.size w X) => (ref1_ValidSign vb b X (hb.below hX)).mono (R' := fun e w' => e = .returned (.bool (signB b)) ∧ Below w.heap.size w w') (by rintro e w1 ⟨rfl, n, rfl⟩; exact ⟨rfl, below_drewN hX n⟩))
  obtain ⟨aa, ac, rfl, -, -, -, AC⟩ := ha.open
  obtain ⟨ba, bc, rfl, -, -, -, BC⟩ := hb.open
  obtain ⟨da, dc, rfl, -, hdl, -, DC⟩ := hd.open
  have AC := hid AC
  have BC := hid BC
  have DC := hid DC
  clear ha hb hd
  cases h1 : signB a
  · rw [h1] at HVA
    have HF := hid (dic_no0 (b := b) (d := d) (Or.inl h1))
    clear h1
    go_enter Tryz.func80, Tryz.ntmps80
    go_wp2_with fail
    refine (HVA.out _ (Below.refl _ _)).mono ?_
    rintro e w1 ⟨rfl, hb1⟩
    go_wp2
    go_ret
    exact ⟨ret_bool HF.out.symm, hb1⟩
  · rw [h1] at HVA
    cases h2 : signB b
    · rw [h2] at HVB
      have HF := hid (dic_no0 (a := a) (d := d) (Or.inr (Or.inl h2)))
      clear h1 h2
      go_enter Tryz.func80, Tryz.ntmps80
      go_wp2_with fail
      refine (HVA.out _ (Below.refl _ _)).mono ?_
      rintro e w1 ⟨rfl, hb1⟩
      go_wp2_with fail
      refine (HVB.out _ hb1).mono ?_
      rintro e w2 ⟨rfl, hb2⟩
      go_wp2
      go_ret
      exact ⟨ret_bool HF.out.symm, hb2⟩
    · rw [h2] at HVB
      obtain ⟨la1, la2⟩ := sign_len h1
      obtain ⟨lb1, lb2⟩ := sign_len h2
      by_cases h3 : d.length = a.length
      · have hn3 : ((d.length : Int) != (a.length : Int)) = false := by simp [h3]
        have h0 : 0 < d.length := by omega
        have H1 := hid h1
        have H2 := hid h2
        have H3 := hid h3
        clear h1 h2 h3
        go_enter Tryz.func80, Tryz.ntmps80
        go_wp2_with fail
        refine (HVA.out _ (Below.refl _ _)).mono ?_
        rintro e w1 ⟨rfl, hb1⟩
        go_wp2_with fail
        refine (HVB.out _ hb1).mono ?_
        rintro e w2 ⟨rfl, hb2⟩
        have HB2 := hid hb2
        clear hb1 hb2 HVA HVB
        go_wp2
        go_loopw [7] (fun kv wr => ∃ k : Nat, k ≤ d.length ∧ kv = .int .i64 k ∧ Below w.heap.size w wr ∧ ∀ j, j < k → wayB a b d j = true) (fun kv _ => d.length - (intOf kv).toNat)
        case atStart => exact ⟨0, by omega, rfl, HB2.out, by simp⟩
        case round =>
          clear HB2
          obtain ⟨k, hk, rfl, hb, hrel⟩ := hrel
          have HR := hid hrel
          have hsz := hb.size
          clear hrel
          by_cases hlt : k < d.length
          · obtain ⟨cb, co, u, rfl, c10, c20, i0⟩ := DC.out k hlt
            have hka : k < a.length := by have := H3.out; omega
            obtain ⟨ab, ao, rfl, -, ca0, -⟩ := AC.out k hka
            have hAR := sign_ar H1.out hka
            have hWA : ∀ x p, d[k].1 = x → d[k].2 = p → wayB a b d k = (inB x 0 (b.length - 1) && decide (arOf b x = a[k].2) && decide ((p.length : Int) = a[k].2) && ordB p) := fun x p h1 h2 => by rw [way_at hlt h1 h2, arOf_get hka]
            obtain ⟨x, hx⟩ : ∃ x, d[k].1 = x := ⟨_, rfl⟩
            obtain ⟨p, hp⟩ : ∃ p, d[k].2 = p := ⟨_, rfl⟩
            obtain ⟨y, hy⟩ : ∃ y, a[k].2 = y := ⟨_, rfl⟩
            have HW := hid (hWA x p hx hp)
            have HNO := hid (fun h => dic_way_no (a := a) (b := b) hlt h)
            rw [hx] at c10
            rw [hp] at i0
            rw [hy] at ca0 HW hAR
            have c1' := (hb.cell (World.block_lt_of_cell? _ _ c10)).trans c10
            have c2' := (hb.cell (World.block_lt_of_cell? _ _ c20)).trans c20
            have ca' := (hb.cell (World.block_lt_of_cell? _ _ ca0)).trans ca0
            have HI0 := hid (i0.below hb)
            obtain ⟨ua, uc, rfl, -⟩ := i0.open
            clear c10 c20 ca0 i0 hx hp hWA hy
            have hw1 : IntKind.i64.wrap ((b.length : Int) - 1) = (b.length : Int) - 1 := by rw [IntWalk.i64_in _ (by omega)]
            have HHIN := hid (fun X => ref3_within x 0 ((b.length : Int) - 1) X)
            have HORD := hid (fun (X : World) (hX : Below wr.heap.size wr X) => ref3_order _ p X (HI0.out.below hX))
            have CBC : Hid (∀ (to : Nat) (hto : to < b.length), ∃ bb bo, ba = some ⟨bb, bo, none⟩ ∧ wr.cell? ⟨bb, bo + to * 2 + 1, none⟩ = some (.int .i64 b[to].2)) := hid (fun to hto => by
              obtain ⟨bb, bo, h1, -, h2, -⟩ := BC.out to hto
              exact ⟨bb, bo, h1, (hb.cell (World.block_lt_of_cell? _ _ h2)).trans h2⟩)
            have HB := hid hb
            clear HI0 hb
            go_wp2
            cases hin : inB x 0 ((b.length : Int) - 1)
            · rw [hin] at HHIN
              have HF := hid (HNO.out (by rw [HW.out, hin]; rfl))
              clear hin
              go_quiet ((go_at_call 171; exact Calls.quiet_of_same (HHIN.out _)))
              go_wp2
              go_ret
              exact ⟨ret_bool HF.out.symm, below_drewN HB.out _⟩
            · rw [hin] at HHIN
              obtain ⟨to, rfl⟩ : ∃ to : Nat, x = to := ⟨x.toNat, by have := inB_true.1 hin; omega⟩
              have hto : to < b.length := by have := inB_true.1 hin; omega
              obtain ⟨bb, bo, rfl, cb0⟩ := CBC.out to hto
              have hBR := sign_ar H2.out hto
              have HW2 := hid (show wayB a b d k = (decide (b[to].2 = y) && decide ((p.length : Int) = y) && ordB p) by rw [HW.out, hin, arOf_get hto, Bool.true_and])
              obtain ⟨z, hz⟩ : ∃ z, b[to].2 = z := ⟨_, rfl⟩
              rw [hz] at cb0 HW2 hBR
              clear hin hz HW
              by_cases hzy : z = y
              · subst hzy
                have hnz : (z != z) = false := by simp
                by_cases hpl : (p.length : Int) = z
                · have hnp : ((p.length : Int) != z) = false := by simpa using hpl
                  have HPL := hid hpl
                  clear hpl
                  cases ho : ordB p
                  · rw [ho] at HORD
                    have HF := hid (HNO.out (by rw [HW2.out, ho]; simp))
                    clear ho
                    go_quiet ((first | (go_at_call 171; exact Calls.quiet_of_same (HHIN.out _)) | (go_at_call 172; exact Calls.quiet_of_same (HORD.out _ (below_self_drewN _ _)))))
                    go_wp2
                    go_ret
                    exact ⟨ret_bool HF.out.symm, below_drewN HB.out _⟩
                  · rw [ho] at HORD
                    have HY := hid (show wayB a b d k = true by rw [HW2.out, ho]; simpa using HPL.out)
                    clear ho
                    have hwk := IntWalk.i64_in ((k : Int) + 1) (by omega)
                    go_quiet ((first | (go_at_call 171; exact Calls.quiet_of_same (HHIN.out _)) | (go_at_call 172; exact Calls.quiet_of_same (HORD.out _ (below_self_drewN _ _)))))
                    go_wp2
                    go_roundw
                    case rel =>
                      refine ⟨k + 1, by omega, by go_num, below_drewN HB.out _, fun q hq => ?_⟩
                      by_cases hqk : q = k
                      · subst hqk; exact HY.out
                      · exact HR.out q (by omega)
                    case measure => simp [intOf]; omega
                · have hnp : ((p.length : Int) != z) = true := by simpa using hpl
                  have HF := hid (HNO.out (by rw [HW2.out, decide_eq_false hpl]; simp))
                  clear hpl
                  go_quiet ((go_at_call 171; exact Calls.quiet_of_same (HHIN.out _)))
                  go_wp2
                  go_ret
                  exact ⟨ret_bool HF.out.symm, below_drewN HB.out _⟩
              · have hnz : (z != y) = true := by simpa using hzy
                have HF := hid (HNO.out (by rw [HW2.out, decide_eq_false hzy]; simp))
                clear hzy
                go_quiet ((go_at_call 171; exact Calls.quiet_of_same (HHIN.out _)))
                go_wp2
                go_ret
                exact ⟨ret_bool HF.out.symm, below_drewN HB.out _⟩
          · have HALL := hid (way_all (a := a) (b := b) (d := d) fun j hj => HR.out j (by omega))
            have hw0 := HR.out 0 (by omega)
            obtain ⟨db, dof, u, rfl, c10, c20, i0⟩ := DC.out 0 h0
            simp only [Nat.zero_mul, Nat.add_zero] at c10 c20
            have hq : wayB a b d 0 = (inB d[0].1 0 (b.length - 1) && decide (arOf b d[0].1 = a[0].2) && decide ((d[0].2.length : Int) = a[0].2) && ordB d[0].2) := by rw [way_at h0 rfl rfl]; rw [show ((0 : Nat) : Int) = (((0 : Nat) : Nat) : Int) from rfl, arOf_get (s := a) (i := 0) (by omega)]
            rw [hw0] at hq
            have hq2 := hq.symm
            clear hq
            simp only [Bool.and_eq_true, decide_eq_true_eq, sign_ar0 H1.out (show 0 < a.length by omega)] at hq2
            obtain ⟨⟨-, hp2⟩, hpo⟩ := hq2
            have HHD := hid (fun h4 h5 => dic_head (a := a) (b := b) H1.out H2.out H3.out h0 h4 h5)
            have HNO := hid (fun h => dic_no (a := a) (b := b) h0 h)
            obtain ⟨x, hx⟩ : ∃ x, d[0].1 = x := ⟨_, rfl⟩
            obtain ⟨p, hp⟩ : ∃ p, d[0].2 = p := ⟨_, rfl⟩
            rw [hx] at c10 HHD HNO
            rw [hp] at i0 hp2 hpo HHD HNO
            have hp3 : p.length = 2 := by omega
            have HTW := hid (fun h => ord_two hpo hp3 h)
            obtain ⟨ua, uc, rfl, -, -, -, IC⟩ := i0.open
            obtain ⟨ib, io, rfl, ic⟩ := IC 0 (by omega)
            rw [Nat.add_zero] at ic
            obtain ⟨y, hy⟩ : ∃ y, p[0] = y := ⟨_, rfl⟩
            rw [hy] at ic HTW
            have c1' := (hb.cell (World.block_lt_of_cell? _ _ c10)).trans c10
            have c2' := (hb.cell (World.block_lt_of_cell? _ _ c20)).trans c20
            have ci' := (hb.cell (World.block_lt_of_cell? _ _ ic)).trans ic
            have hpp : 0 < p.length := by omega
            have HNP := hid (show y ≠ 0 → p ≠ [0, 1] from fun h e => h (by rw [← hy]; simp [e]))
            clear hx hp hy hw0 hp2 hp3 hpo c10 c20 ic i0 IC
            by_cases h4 : x = 0
            · by_cases h5 : y = 0
              · have HT := hid (show dicB a b d = true by rw [HHD.out h4 (HTW.out h5)]; exact HALL.out)
                subst h4 h5
                go_wp2
                go_ret
                exact ⟨ret_bool HT.out.symm, hb⟩
              · have HF := hid (HNO.out (Or.inr (Or.inr (Or.inr (Or.inr (HNP.out h5))))))
                have hn5 : (y == 0) = false := by simpa using h5
                subst h4
                go_wp2
                go_ret
                exact ⟨ret_bool HF.out.symm, hb⟩
            · have HF := hid (HNO.out (Or.inr (Or.inr (Or.inr (Or.inl h4)))))
              have hn4 : (x == 0) = false := by simpa using h4
              go_wp2
              go_ret
              exact ⟨ret_bool HF.out.symm, hb⟩
      · have hn3 : ((d.length : Int) != (a.length : Int)) = true := by simp; omega
        have HF := hid (dic_no0 (b := b) (Or.inr (Or.inr h3)))
        clear h1 h2 h3
        go_enter Tryz.func80, Tryz.ntmps80
        go_wp2_with fail
        refine (HVA.out _ (Below.refl _ _)).mono ?_
        rintro e w1 ⟨rfl, hb1⟩
        go_wp2_with fail
        refine (HVB.out _ hb1).mono ?_
        rintro e w2 ⟨rfl, hb2⟩
        go_wp2
        go_ret
        exact ⟨ret_bool HF.out.symm, hb2⟩
set_option maxHeartbeats 2000000 in
theorem ref3_OneToOne (va vb vd : Value) (a b : Sg) (d : Dic) (w : World) (ha : SignAt w va a) (hb : SignAt w vb b) (hd : BindsAt w vd d) (ha1 : a.length ≤ 1000) (hb1 : b.length ≤ 1000) :
    Calls Tryz.prog 60 #[va, vb, vd] w fun e w' => e = .returned (.bool (oneB a b d)) ∧ Below w.heap.size w w' := by
  have HV := hid (ref3_Valid va vb vd a b d w ha hb hd ha1 hb1)
  obtain ⟨aa, ac, rfl, -⟩ := ha.open
  obtain ⟨ba, bc, rfl, -⟩ := hb.open
  obtain ⟨da, dc, rfl, -, hdl, -, DC⟩ := hd.open
  have DC := hid DC
  clear ha hb hd
  cases h : dicB a b d
  · have HF := hid (show oneB a b d = false by unfold oneB; rw [h]; rfl)
    rw [h] at HV
    clear h
    go_enter Tryz.func60, Tryz.ntmps60
    go_wp2_with fail
    refine HV.out.mono ?_
    rintro e w1 ⟨rfl, hb1⟩
    go_wp2
    go_ret
    exact ⟨ret_bool HF.out.symm, hb1⟩
  · rw [h] at HV
    by_cases hl : a.length = b.length
    · have HO := hid (show oneB a b d = decide (d.map (·.1)).Nodup by unfold oneB; rw [h]; simp [hl])
      have hn : ((a.length : Int) != (b.length : Int)) = false := by simp [hl]
      clear h hl
      go_enter Tryz.func60, Tryz.ntmps60
      go_wp2_with fail
      refine HV.out.mono ?_
      rintro e w1 ⟨rfl, hb1⟩
      go_wp2
      go_loopw [7] (fun iv wr => ∃ i : Nat, i ≤ d.length ∧ iv = .int .i64 i ∧ Below w.heap.size w wr ∧ ∀ i' k (hi : i' < d.length) (hk : k < i'), i' < i → d[k].1 ≠ d[i'].1) (fun iv _ => d.length - (intOf iv).toNat)
      case atStart => exact ⟨0, by omega, rfl, hb1, by intro i' k hi hk h; omega⟩
      case round =>
        clear hb1
        obtain ⟨i, hi, rfl, hb1, hrel⟩ := hrel
        have HR := hid hrel
        clear hrel
        by_cases hlt : i < d.length
        · obtain ⟨cb, co, u, rfl, c10, c20, -⟩ := DC.out i hlt
          have hwi := IntWalk.i64_in ((i : Int) + 1) (by omega)
          clear c20
          obtain ⟨y, hy⟩ : ∃ y, d[i].1 = y := ⟨_, rfl⟩
          have HY := hid hy
          rw [hy] at c10
          clear hy
          go_wp2
          go_loopw [8] (fun kv wr => ∃ k : Nat, k ≤ i ∧ kv = .int .i64 k ∧ Below w.heap.size w wr ∧ ∀ j (hj : j < i), j < k → d[j].1 ≠ d[i].1) (fun kv _ => i - (intOf kv).toNat)
          case atStart => exact ⟨0, by omega, rfl, hb1, by intro j hj h; omega⟩
          case round =>
            clear hb1
            obtain ⟨k, hk, rfl, hb1, hrel⟩ := hrel
            have HK := hid hrel
            clear hrel
            by_cases hki : k < i
            · obtain ⟨cb', co', u', he, c30, c40, -⟩ := DC.out k (by omega)
              cases he
              clear c40
              obtain ⟨x, hx⟩ : ∃ x, d[k].1 = x := ⟨_, rfl⟩
              have HX := hid hx
              rw [hx] at c30
              clear hx
              have c1' := (hb1.cell (World.block_lt_of_cell? _ _ c10)).trans c10
              have c3' := (hb1.cell (World.block_lt_of_cell? _ _ c30)).trans c30
              have hkd : k < d.length := by omega
              have HB := hid hb1
              clear hb1
              by_cases hxy : x = y
              · subst hxy
                have HF := hid (show oneB a b d = false by rw [HO.out]; exact one_no hki hlt (by rw [HX.out, HY.out]))
                go_wp2
                go_region
                go_wp2
                go_ret
                exact ⟨ret_bool HF.out.symm, below_drewN HB.out 1⟩
              · have hxy' : (x == y) = false := by simpa using hxy
                have HN := hid hxy
                clear hxy
                go_wp2
                go_region
                go_wp2
                go_roundw
                case rel =>
                  refine ⟨k + 1, by omega, by go_num, below_drewN HB.out 1, fun j hj h => ?_⟩
                  by_cases e : j = k
                  · subst e; rw [HX.out, HY.out]; exact HN.out
                  · exact HK.out j hj (by omega)
                case measure => simp [intOf]; omega
            · have HKK := hid (show ∀ j (hj : j < i), d[j].1 ≠ d[i].1 from fun j hj => HK.out j hj (by omega))
              go_wp2
              go_roundw
              case rel =>
                refine ⟨i + 1, by omega, by go_num, hb1, fun i' k' hi' hk' h => ?_⟩
                by_cases e : i' = i
                · subst e; exact HKK.out k' hk'
                · exact HR.out i' k' hi' hk' (by omega)
              case measure => simp [intOf]; omega
        · have HT := hid (show oneB a b d = true by rw [HO.out]; exact one_yes fun i' k hi' hk => HR.out i' k hi' hk (by omega))
          go_wp2
          go_ret
          exact ⟨ret_bool HT.out.symm, hb1⟩
    · have HF := hid (show oneB a b d = false by unfold oneB; rw [decide_eq_false hl]; simp)
      have hn : ((a.length : Int) != (b.length : Int)) = true := by simp; omega
      clear h hl
      go_enter Tryz.func60, Tryz.ntmps60
      go_wp2_with fail
      refine HV.out.mono ?_
      rintro e w1 ⟨rfl, hb1⟩
      go_wp2
      go_ret
      exact ⟨ret_bool HF.out.symm, hb1⟩
end Go.Proofs.YtalodmochkodiaaGreat
