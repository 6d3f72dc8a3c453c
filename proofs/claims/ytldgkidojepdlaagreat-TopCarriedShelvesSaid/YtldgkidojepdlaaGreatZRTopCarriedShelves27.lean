/-
  WHAT IT HOLDS: contracts of Valid, single, OneToOne of package tongue. Conditions: the arguments read as data; small signs.
  WHAT IT HOLDS: contracts of single, OneToOne of package tongue. Conditions: the arguments read as data; small signs.
-/
import Derived.Deep.RegionHeld3
import Derived.Test.YtldgkidojepdlaaGreatZRTopCarriedShelves26
namespace Go.Proofs.YtldgkidojepdlaaGreat
open Go Go.RowKit Go.Maps Go.Shelf
theorem sign_ar {s : Sg} (h : signB s = true) {i : Nat} (hi : i < s.length) : 0 ≤ s[i].2 ∧ s[i].2 ≤ 3 := by
  unfold signB at h
  simp only [Bool.and_eq_true, List.all_eq_true, List.mem_range] at h
  have := h.2 i hi
  unfold symB at this
  rw [List.getElem?_eq_getElem hi] at this
  simp only [Bool.and_eq_true] at this
  exact inB_true.1 this.1.2
theorem sign_len {s : Sg} (h : signB s = true) : 1 ≤ s.length ∧ s.length ≤ 12 := by
  unfold signB at h
  simp only [Bool.and_eq_true] at h
  have := inB_true.1 h.1.1
  omega
theorem arOf_get {s : Sg} {i : Nat} (hi : i < s.length) : arOf s (i : Int) = s[i].2 := by
  unfold arOf
  rw [if_neg (by omega)]
  simp [hi]
theorem ints_lit2 (w : World) (x y : Int) (T : TypeId) : Ints (w.alloc (.cells #[.int .i64 x, .int .i64 y] T)) (.slice (some ⟨w.heap.size, 0, none⟩) 2 2) [x, y] := by
  refine ⟨rfl, _, _, rfl, Nat.le_refl _, by simp, (fun h => by cases h), fun j u hj => ⟨_, _, rfl, ?_⟩⟩
  rw [World.cell?_alloc_new]
  match j, hj with
  | 0, hj => simpa using hj
  | 1, hj => simpa using hj
  | _ + 2, hj => simp at hj
theorem dic_head {a b : Sg} {d : Dic} (h1 : signB a = true) (h2 : signB b = true) (h3 : d.length = a.length) (h0 : 0 < d.length) (h4 : d[0].1 = 0) (h5 : d[0].2 = [0, 1]) : dicB a b d = (List.range d.length).all (wayB a b d) := by
  unfold dicB
  rw [h1, h2, List.getElem?_eq_getElem h0]
  simp [h3, h4, h5]
theorem dic_no {a b : Sg} {d : Dic} (h0 : 0 < d.length) (h : signB a = false ∨ signB b = false ∨ d.length ≠ a.length ∨ d[0].1 ≠ 0 ∨ d[0].2 ≠ [0, 1]) : dicB a b d = false := by
  unfold dicB
  rw [List.getElem?_eq_getElem h0]
  rcases h with h | h | h | h | h <;> simp [h]
theorem dic_no0 {a b : Sg} {d : Dic} (h : signB a = false ∨ signB b = false ∨ d.length ≠ a.length) : dicB a b d = false := by
  unfold dicB
  rcases h with h | h | h <;> simp [h]
theorem way_all {a b : Sg} {d : Dic} (h : ∀ j, j < d.length → wayB a b d j = true) : (List.range d.length).all (wayB a b d) = true := by
  rw [List.all_eq_true]
  intro j hj
  exact h j (by simpa using hj)
theorem way_one {a b : Sg} {d : Dic} {k : Nat} (hk : k < d.length) (h : wayB a b d k = false) : (List.range d.length).all (wayB a b d) = false := by
  rw [List.all_eq_false]
  exact ⟨k, by simpa using hk, by simp [h]⟩
theorem way_at {a b : Sg} {d : Dic} {k : Nat} (hk : k < d.length) {x : Int} {p : List Int} (h1 : d[k].1 = x) (h2 : d[k].2 = p) : wayB a b d k = (inB x 0 (b.length - 1) && decide (arOf b x = arOf a k) && decide ((p.length : Int) = arOf a k) && ordB p) := by
  unfold wayB
  rw [List.getElem?_eq_getElem hk]
  subst h1; subst h2
  rfl
set_option maxHeartbeats 8000000 in
set_option maxRecDepth 100000 in
theorem tongue_Valid (va vb vd : Value) (a b : Sg) (d : Dic) (w : World) (ha : SignAt w va a) (hb : SignAt w vb b) (hd : BindsAt w vd d) (ha1 : a.length ≤ 1000) (hb1 : b.length ≤ 1000) :
    Calls Tryz.prog 14 #[va, vb, vd] w fun e w' => e = .returned (.bool (dicB a b d)) ∧ Below w.heap.size w w' := by
  have HVA := hid (fun (X : World) (hX : Below w.heap.size w X) => term_ValidSign va a X (ha.below hX) ha1)
  have HVB := hid (fun (X : World) (hX : Below w.heap.size w X) => term_ValidSign vb b X (hb.below hX) hb1)
  obtain ⟨aa, ac, rfl, -, -, -, AC⟩ := ha.open
  obtain ⟨ba, bc, rfl, -, -, -, BC⟩ := hb.open
  obtain ⟨da, dc, rfl, -, hdl, -, DC⟩ := hd.open
  have AC := hid AC
  have BC := hid BC
  have DC := hid DC
  clear ha hb hd
  cases h1 : signB a
  · rw [h1] at HVA
    have HF := hid (dic_no0 (b := b) (d := d) (Or.inl h1))
    clear h1
    go_enter Tryz.func14, Tryz.ntmps14
    go_wp2_with fail
    refine (HVA.out _ (Below.refl _ _)).mono ?_
    rintro e w1 ⟨rfl, hb1⟩
    go_wp2
    go_ret
    exact ⟨ret_bool HF.out.symm, hb1⟩
  · rw [h1] at HVA
    cases h2 : signB b
    · rw [h2] at HVB
      have HF := hid (dic_no0 (a := a) (d := d) (Or.inr (Or.inl h2)))
      clear h1 h2
      go_enter Tryz.func14, Tryz.ntmps14
      go_wp2_with fail
      refine (HVA.out _ (Below.refl _ _)).mono ?_
      rintro e w1 ⟨rfl, hb1⟩
      go_wp2_with fail
      refine (HVB.out _ hb1).mono ?_
      rintro e w2 ⟨rfl, hb2⟩
      go_wp2
      go_ret
      exact ⟨ret_bool HF.out.symm, hb1.trans (hb2.mono hb1.size)⟩
    · rw [h2] at HVB
      obtain ⟨la1, la2⟩ := sign_len h1
      obtain ⟨lb1, lb2⟩ := sign_len h2
      by_cases h3 : d.length = a.length
      · have hn3 : ((d.length : Int) != (a.length : Int)) = false := by simp [h3]
        have h0 : 0 < d.length := by omega
        obtain ⟨db, dof, u, rfl, c10, c20, i0⟩ := DC.out 0 h0
        simp only [Nat.zero_mul, Nat.add_zero] at c10 c20
        obtain ⟨x, hx⟩ : ∃ x, d[0].1 = x := ⟨_, rfl⟩
        obtain ⟨p, hp⟩ : ∃ p, d[0].2 = p := ⟨_, rfl⟩
        obtain ⟨ua, uc, rfl, -⟩ := i0.open
        rw [hx] at c10
        rw [hp] at c20 i0
        by_cases h4 : x = 0
        · subst h4
          have HEQ := hid (fun (X : World) (hX : Below w.heap.size w X) => sl_EqualI _ _ p [0, 1] (X.alloc (.cells #[.int .i64 0, .int .i64 1] 3)) (i0.below (hX.alloc hX.size _)) (ints_lit2 X 0 1 3))
          by_cases h5 : p = [0, 1]
          · have hD : Hid (dicB a b d = (List.range d.length).all (wayB a b d)) := hid (dic_head h1 h2 h3 h0 hx (by rw [hp]; exact h5))
            have hdq : decide (p = [0, 1]) = true := by simpa using h5
            rw [hdq] at HEQ
            have H1 := hid h1
            have H2 := hid h2
            have H3 := hid h3
            have I0 := hid i0
            clear h1 h2 h3 h5 hp hx hdq i0
            go_enter Tryz.func14, Tryz.ntmps14
            go_wp2_with fail
            refine (HVA.out _ (Below.refl _ _)).mono ?_
            rintro e w1 ⟨rfl, hb1⟩
            go_wp2_with fail
            refine (HVB.out _ hb1).mono ?_
            rintro e w2 ⟨rfl, hb2⟩
            have hbx := hb1.trans (hb2.mono hb1.size)
            have d1 := (hbx.cell (World.block_lt_of_cell? _ _ c10)).trans c10
            have d2 := (hbx.cell (World.block_lt_of_cell? _ _ c20)).trans c20
            have HBX := hid hbx
            clear hb1 hb2 hbx HVA HVB
            go_wp2_with fail
            refine (HEQ.out _ HBX.out).mono ?_
            rintro e w3 ⟨rfl, nq, rfl⟩
            clear d1 d2 c10 c20 HEQ
            have HB3 := hid (below_drewN (HBX.out.alloc HBX.out.size (.cells #[.int .i64 0, .int .i64 1] 3)) nq)
            clear HBX
            generalize (w2.alloc (.cells #[.int .i64 0, .int .i64 1] 3)).drewN nq = W3 at *
            go_wp2
            go_loopw [42] (fun kv wr => ∃ k : Nat, k ≤ d.length ∧ kv = .int .i64 k ∧ Below w.heap.size w wr ∧ ∀ j, j < k → wayB a b d j = true) (fun kv _ => d.length - (intOf kv).toNat)
            case atStart => exact ⟨0, by omega, rfl, HB3.out, by simp⟩
            case round =>
              clear HB3
              obtain ⟨k, hk, rfl, hb, hrel⟩ := hrel
              have HR := hid hrel
              have hsz := hb.size
              clear hrel
              by_cases hlt : k < d.length
              · obtain ⟨cb, co, u, he, c10, c20, i0⟩ := DC.out k hlt
                cases he
                have hka : k < a.length := by have := H3.out; omega
                obtain ⟨ab, ao, rfl, -, ca0, -⟩ := AC.out k hka
                have hAR := sign_ar H1.out hka
                have hWA : ∀ x p, d[k].1 = x → d[k].2 = p → wayB a b d k = (inB x 0 (b.length - 1) && decide (arOf b x = a[k].2) && decide ((p.length : Int) = a[k].2) && ordB p) := fun x p h1 h2 => by rw [way_at hlt h1 h2, arOf_get hka]
                obtain ⟨x, hx⟩ : ∃ x, d[k].1 = x := ⟨_, rfl⟩
                obtain ⟨p, hp⟩ : ∃ p, d[k].2 = p := ⟨_, rfl⟩
                obtain ⟨y, hy⟩ : ∃ y, a[k].2 = y := ⟨_, rfl⟩
                have HW := hid (hWA x p hx hp)
                have HNO := hid (fun h => way_one (a := a) (b := b) hlt h)
                rw [hx] at c10
                rw [hp] at i0
                rw [hy] at ca0 HW hAR
                have c1' := (hb.cell (World.block_lt_of_cell? _ _ c10)).trans c10
                have c2' := (hb.cell (World.block_lt_of_cell? _ _ c20)).trans c20
                have HI0 := hid (i0.below hb)
                obtain ⟨ua, uc, rfl, -⟩ := i0.open
                clear c10 c20 i0 hx hp hWA hy
                have hw1 : IntKind.i64.wrap ((b.length : Int) - 1) = (b.length : Int) - 1 := by rw [IntWalk.i64_in _ (by omega)]
                have hbA : Below wr.heap.size wr (wr.alloc (.cells #[.int .i64 x, .slice ua p.length uc] 43)) := (Below.refl _ _).alloc (Nat.le_refl _) _
                have c0 : (wr.alloc (.cells #[.int .i64 x, .slice ua p.length uc] 43)).cell? ⟨wr.heap.size, 0, none⟩ = some (.int .i64 x) := by rw [World.cell?_alloc_new]; rfl
                have c1 : (wr.alloc (.cells #[.int .i64 x, .slice ua p.length uc] 43)).cell? ⟨wr.heap.size, 1, none⟩ = some (.slice ua p.length uc) := by rw [World.cell?_alloc_new]; rfl
                have caW := (hbA.cell (World.block_lt_of_cell? _ _ ((hb.cell (World.block_lt_of_cell? _ _ ca0)).trans ca0))).trans ((hb.cell (World.block_lt_of_cell? _ _ ca0)).trans ca0)
                have HBW := hid (hb.trans (hbA.mono hsz))
                have HIW := hid (HI0.out.below hbA)
                have HHIN := hid (fun X => tongue_within x 0 ((b.length : Int) - 1) X)
                have CBC : Hid (∀ (to : Nat) (hto : to < b.length), ∃ bb bo, ba = some ⟨bb, bo, none⟩ ∧ (wr.alloc (.cells #[.int .i64 x, .slice ua p.length uc] 43)).cell? ⟨bb, bo + to * 2 + 1, none⟩ = some (.int .i64 b[to].2)) := hid (fun to hto => by
                  obtain ⟨bb, bo, h1, -, h2, -⟩ := BC.out to hto
                  exact ⟨bb, bo, h1, (HBW.out.cell (World.block_lt_of_cell? _ _ h2)).trans h2⟩)
                clear hbA ca0 HI0
                go_wp2_with fail
                clear c1' c2'
                obtain ⟨bx, hbx⟩ : ∃ bx, wr.heap.size = bx := ⟨_, rfl⟩
                rw [hbx] at c0 c1
                try rw [hbx]
                clear hbx
                generalize wr.alloc (.cells #[.int .i64 x, .slice ua p.length uc] 43) = W1 at *
                cases hin : inB x 0 ((b.length : Int) - 1)
                · rw [hin] at HHIN
                  have HF := hid (HNO.out (by rw [HW.out, hin]; rfl))
                  clear hin
                  go_quiet ((go_at_call 36; exact Calls.quiet_of_same ((HHIN.out _).mono fun _ _ h => ⟨h.1, h.2.symm⟩)))
                  go_wp2
                  go_ret
                  exact ⟨ret_bool (by rw [hD.out]; exact HF.out.symm), below_drewN HBW.out _⟩
                · rw [hin] at HHIN
                  obtain ⟨to, rfl⟩ : ∃ to : Nat, x = to := ⟨x.toNat, by have := inB_true.1 hin; omega⟩
                  have hto : to < b.length := by have := inB_true.1 hin; omega
                  obtain ⟨bb, bo, rfl, cb0⟩ := CBC.out to hto
                  have hBR := sign_ar H2.out hto
                  have HW2 := hid (show wayB a b d k = (decide (b[to].2 = y) && decide ((p.length : Int) = y) && ordB p) by rw [HW.out, hin, arOf_get hto, Bool.true_and])
                  obtain ⟨z, hz⟩ : ∃ z, b[to].2 = z := ⟨_, rfl⟩
                  rw [hz] at cb0 HW2 hBR
                  clear hin hz HW
                  by_cases hzy : z = y
                  · subst hzy
                    have hnz : (z != z) = false := by simp
                    by_cases hpl : (p.length : Int) = z
                    · have hnp : ((p.length : Int) != z) = false := by simpa using hpl
                      have HPL := hid hpl
                      have HORD := hid (fun (X : World) (hX : Below W1.heap.size W1 X) => chainW hX (tongue_order _ p X (HIW.out.below hX) (by omega)))
                      have hp100 : p.length ≤ 100 := by omega
                      clear hpl
                      cases ho : ordB p
                      · rw [ho] at HORD
                        have HF := hid (HNO.out (by rw [HW2.out, ho]; simp))
                        clear ho
                        go_region_held3 (fun w' => w'.cell? ⟨bx, 0, none⟩ = some (.int .i64 to) ∧ w'.cell? ⟨bx, 1, none⟩ = some (.slice ua p.length uc) ∧ w'.cell? ⟨bb, bo + to * 2 + 1, none⟩ = some (.int .i64 z) ∧ w'.cell? ⟨ab, ao + k * 2 + 1, none⟩ = some (.int .i64 z))
                          (first | exact ⟨by assumption, by assumption, by assumption, by assumption⟩ | go_keep)
                          (first
                          | (go_at_call 36; refine (HHIN.out _).mono ?_; rintro e w1 ⟨rfl, rfl⟩)
                          | (go_at_call 37; refine (HORD.out _ (below_self_drewN W1 1)).mono ?_; rintro e w1 ⟨rfl, hb1⟩
                             have c0 := (hb1.cell (World.block_lt_of_cell? _ _ c0)).trans c0
                             have c1 := (hb1.cell (World.block_lt_of_cell? _ _ c1)).trans c1
                             have cb0 := (hb1.cell (World.block_lt_of_cell? _ _ cb0)).trans cb0
                             have caW := (hb1.cell (World.block_lt_of_cell? _ _ caW)).trans caW))
                        go_wp2
                        go_ret
                        exact ⟨ret_bool (by rw [hD.out]; exact HF.out.symm), HBW.out.trans (hb1.mono HBW.out.size)⟩
                      · rw [ho] at HORD
                        have HY := hid (show wayB a b d k = true by rw [HW2.out, ho]; simpa using HPL.out)
                        clear ho
                        have hwk := IntWalk.i64_in ((k : Int) + 1) (by omega)
                        go_region_held3 (fun w' => w'.cell? ⟨bx, 0, none⟩ = some (.int .i64 to) ∧ w'.cell? ⟨bx, 1, none⟩ = some (.slice ua p.length uc) ∧ w'.cell? ⟨bb, bo + to * 2 + 1, none⟩ = some (.int .i64 z) ∧ w'.cell? ⟨ab, ao + k * 2 + 1, none⟩ = some (.int .i64 z))
                          (first | exact ⟨by assumption, by assumption, by assumption, by assumption⟩ | go_keep)
                          (first
                          | (go_at_call 36; refine (HHIN.out _).mono ?_; rintro e w1 ⟨rfl, rfl⟩)
                          | (go_at_call 37; refine (HORD.out _ (below_self_drewN W1 1)).mono ?_; rintro e w1 ⟨rfl, hb1⟩
                             have c0 := (hb1.cell (World.block_lt_of_cell? _ _ c0)).trans c0
                             have c1 := (hb1.cell (World.block_lt_of_cell? _ _ c1)).trans c1
                             have cb0 := (hb1.cell (World.block_lt_of_cell? _ _ cb0)).trans cb0
                             have caW := (hb1.cell (World.block_lt_of_cell? _ _ caW)).trans caW))
                        go_wp2
                        go_roundw
                        case rel =>
                          refine ⟨k + 1, by omega, by go_num, HBW.out.trans (hb1.mono HBW.out.size), fun q hq => ?_⟩
                          by_cases hqk : q = k
                          · subst hqk; exact HY.out
                          · exact HR.out q (by omega)
                        case measure => simp [intOf]; omega
                    · have hnp : ((p.length : Int) != z) = true := by simpa using hpl
                      have HF := hid (HNO.out (by rw [HW2.out, decide_eq_false hpl]; simp))
                      clear hpl
                      go_quiet ((go_at_call 36; exact Calls.quiet_of_same ((HHIN.out _).mono fun _ _ h => ⟨h.1, h.2.symm⟩)))
                      go_wp2
                      go_ret
                      exact ⟨ret_bool (by rw [hD.out]; exact HF.out.symm), below_drewN HBW.out _⟩
                  · have hnz : (z != y) = true := by simpa using hzy
                    have HF := hid (HNO.out (by rw [HW2.out, decide_eq_false hzy]; simp))
                    clear hzy
                    go_quiet ((go_at_call 36; exact Calls.quiet_of_same ((HHIN.out _).mono fun _ _ h => ⟨h.1, h.2.symm⟩)))
                    go_wp2
                    go_ret
                    exact ⟨ret_bool (by rw [hD.out]; exact HF.out.symm), below_drewN HBW.out _⟩
              · have hkl : k = d.length := by omega
                have HT := hid (way_all (a := a) (b := b) (d := d) fun j hj => HR.out j (by omega))
                go_wp2
                go_ret
                exact ⟨ret_bool (by rw [hD.out]; exact HT.out.symm), hb⟩
          · have HF := hid (dic_no (a := a) (b := b) h0 (Or.inr (Or.inr (Or.inr (Or.inr (by rw [hp]; exact h5))))))
            have hdq : decide (p = [0, 1]) = false := by simpa using h5
            rw [hdq] at HEQ
            clear h1 h2 h3 h5 hp hx hdq i0
            go_enter Tryz.func14, Tryz.ntmps14
            go_wp2_with fail
            refine (HVA.out _ (Below.refl _ _)).mono ?_
            rintro e w1 ⟨rfl, hb1⟩
            go_wp2_with fail
            refine (HVB.out _ hb1).mono ?_
            rintro e w2 ⟨rfl, hb2⟩
            have hbx := hb1.trans (hb2.mono hb1.size)
            have d1 := (hbx.cell (World.block_lt_of_cell? _ _ c10)).trans c10
            have d2 := (hbx.cell (World.block_lt_of_cell? _ _ c20)).trans c20
            have HBX := hid hbx
            clear hb1 hb2 hbx HVA HVB
            go_wp2_with fail
            refine (HEQ.out _ HBX.out).mono ?_
            rintro e w3 ⟨rfl, nq, rfl⟩
            have HB3 := hid (below_drewN (HBX.out.alloc HBX.out.size (.cells #[.int .i64 0, .int .i64 1] 3)) nq)
            go_wp2
            go_ret
            exact ⟨ret_bool HF.out.symm, HB3.out⟩
        · have hnx : (x != 0) = true := by simpa using h4
          have HF := hid (dic_no (a := a) (b := b) h0 (Or.inr (Or.inr (Or.inr (Or.inl (by rw [hx]; exact h4))))))
          clear h1 h2 h3 h4 hp hx i0
          go_enter Tryz.func14, Tryz.ntmps14
          go_wp2_with fail
          refine (HVA.out _ (Below.refl _ _)).mono ?_
          rintro e w1 ⟨rfl, hb1⟩
          go_wp2_with fail
          refine (HVB.out _ hb1).mono ?_
          rintro e w2 ⟨rfl, hb2⟩
          have hbx := hb1.trans (hb2.mono hb1.size)
          have d1 := (hbx.cell (World.block_lt_of_cell? _ _ c10)).trans c10
          have HBX := hid hbx
          clear hb1 hb2 hbx HVA HVB
          go_wp2
          go_ret
          exact ⟨ret_bool HF.out.symm, HBX.out⟩
      · have hn3 : ((d.length : Int) != (a.length : Int)) = true := by simp; omega
        have HF := hid (dic_no0 (b := b) (Or.inr (Or.inr h3)))
        clear h1 h2 h3
        go_enter Tryz.func14, Tryz.ntmps14
        go_wp2_with fail
        refine (HVA.out _ (Below.refl _ _)).mono ?_
        rintro e w1 ⟨rfl, hb1⟩
        go_wp2_with fail
        refine (HVB.out _ hb1).mono ?_
        rintro e w2 ⟨rfl, hb2⟩
        go_wp2
        go_ret
        exact ⟨ret_bool HF.out.symm, hb1.trans (hb2.mono hb1.size)⟩
end Go.Proofs.YtldgkidojepdlaaGreat
namespace Go.Proofs.YtldgkidojepdlaaGreat
open Go Go.RowKit Go.Maps Go.Shelf
def insA {α : Type} [DecidableEq α] (ks : List α) (x : α) : List α := if x ∈ ks then ks else ks ++ [x]
/-- each once, in the order in which they come first. -/
def keysA {α : Type} [DecidableEq α] (l : List α) : List α := l.foldl insA []
theorem keysA_snoc {α : Type} [DecidableEq α] (l : List α) (x : α) : keysA (l ++ [x]) = insA (keysA l) x := by simp [keysA]
theorem mem_foldA {α : Type} [DecidableEq α] : ∀ (l ks : List α) (x : α), x ∈ l.foldl insA ks ↔ x ∈ ks ∨ x ∈ l := by
  intro l
  induction l with
  | nil => intro ks x; simp
  | cons y l ih =>
    intro ks x
    rw [List.foldl_cons, ih]
    unfold insA
    split
    · constructor
      · rintro (h | h)
        · exact Or.inl h
        · exact Or.inr (by simp [h])
      · rintro (h | h)
        · exact Or.inl h
        · rcases List.mem_cons.1 h with rfl | h
          · exact Or.inl (by assumption)
          · exact Or.inr h
    · simp [or_assoc]
theorem mem_keysA {α : Type} [DecidableEq α] {l : List α} {x : α} : x ∈ keysA l ↔ x ∈ l := by unfold keysA; rw [mem_foldA]; simp
theorem foldA_len {α : Type} [DecidableEq α] : ∀ (l ks : List α), ks.Nodup → (l.foldl insA ks).length ≤ ks.length + l.length ∧ ((l.foldl insA ks).length = ks.length + l.length ↔ (ks ++ l).Nodup) := by
  intro l
  induction l with
  | nil => intro ks h; simp [h]
  | cons y l ih =>
    intro ks h
    rw [List.foldl_cons]
    by_cases hy : y ∈ ks
    · rw [show insA ks y = ks from if_pos hy]
      have := (ih ks h).1
      refine ⟨by simp; omega, ⟨fun e => by simp at e; omega, fun hn => ?_⟩⟩
      have := (List.nodup_append.1 hn).2.2 y hy y (by simp)
      exact absurd rfl this
    · rw [show insA ks y = ks ++ [y] from if_neg hy]
      have h' : (ks ++ [y]).Nodup := by
        rw [List.nodup_append]
        refine ⟨h, by simp, fun a ha b hb => ?_⟩
        simp at hb
        subst hb
        rintro rfl
        exact hy ha
      have := ih (ks ++ [y]) h'
      rw [List.append_assoc, List.singleton_append] at this
      simp only [List.length_append, List.length_cons, List.length_nil] at this
      refine ⟨by simp; omega, ?_⟩
      rw [← this.2]
      simp
      omega
theorem keysA_len {α : Type} [DecidableEq α] (l : List α) : (keysA l).length ≤ l.length ∧ ((keysA l).length = l.length ↔ l.Nodup) := by
  have := foldA_len l [] (by simp)
  simpa [keysA] using this
/-- a set as a map. -/
def setA {α : Type} [DecidableEq α] (ks : List α) (x : α) : Option Bool := if x ∈ ks then some true else none
theorem setA_nil {α : Type} [DecidableEq α] : setA ([] : List α) = fun _ => none := by funext x; simp [setA]
theorem setA_ins {α : Type} [DecidableEq α] (l : List α) (x : α) : (fun y => if y = x then some true else setA (keysA l) y) = setA (keysA (l ++ [x])) := by
  funext y
  unfold setA
  simp only [mem_keysA, List.mem_append, List.mem_singleton]
  by_cases h : y = x
  · simp [h]
  · simp [h]
theorem setA_len {α : Type} [DecidableEq α] (l : List α) (x : α) : (if (setA (keysA l) x).isSome = true then (keysA l).length else (keysA l).length + 1) = (keysA (l ++ [x])).length := by
  rw [keysA_snoc]
  unfold setA insA
  by_cases h : x ∈ keysA l <;> simp [h]
abbrev ISet (w : World) (b : Nat) (l : List Int) : Prop := MapK Tryz.prog 3 eI Value.bool w b (keysA l).length (setA (keysA l))
theorem iset_made (w : World) : ISet (w.alloc (.map #[] 0)) w.heap.size [] := by
  unfold ISet
  rw [show keysA ([] : List Int) = [] from rfl, setA_nil]
  exact MapK.made _ _ _ _ w
theorem iset_ins {w : World} {b : Nat} {l : List Int} {x : Int} (h : MapK Tryz.prog 3 eI Value.bool w b (if (setA (keysA l) x).isSome = true then (keysA l).length else (keysA l).length + 1) (fun y => if y = x then some true else setA (keysA l) y)) : ISet w b (l ++ [x]) := by
  rw [setA_len, setA_ins] at h
  exact h
def singB (a b : Sg) (d : Dic) : Bool := decide (a.length = b.length) && decide (d.map (·.1)).Nodup
theorem oneB_eq (a b : Sg) (d : Dic) : oneB a b d = (dicB a b d && singB a b d) := rfl
set_option maxHeartbeats 2000000 in
theorem tongue_single (va vb vd : Value) (a b : Sg) (d : Dic) (w : World) (ha : SignAt w va a) (hb : SignAt w vb b) (hd : BindsAt w vd d) (hr : ∀ x ∈ d, 0 ≤ x.1 ∧ x.1 ≤ 1000) (hdl : d.length ≤ 1000) :
    Calls Tryz.prog 15 #[va, vb, vd] w fun e w' => e = .returned (.bool (singB a b d)) ∧ Below w.heap.size w w' := by
  obtain ⟨aa, ac, rfl, -, hal, -, -⟩ := ha.open
  obtain ⟨ba, bc, rfl, -, hbl, -, -⟩ := hb.open
  obtain ⟨da, dc, rfl, -, -, -, DC⟩ := hd.open
  have DC := hid DC
  have HR := hid hr
  clear ha hb hd hr
  have hmm := @run_makeMap Tryz.prog
  have hm0 := hid (iset_made w)
  have hb0 := hid (show Below w.heap.size w (w.alloc (.map #[] 0)) from (Below.refl _ _).alloc (Nat.le_refl _) _)
  go_enter Tryz.func15, Tryz.ntmps15
  go_wp2
  clear hmm
  go_loopw [13] (fun kv wr => ∃ k : Nat, k ≤ d.length ∧ kv = .int .i64 k ∧ Below w.heap.size w wr ∧ ISet wr w.heap.size ((d.map (·.1)).take k)) (fun kv _ => d.length - (intOf kv).toNat)
  case atStart => exact ⟨0, by omega, rfl, hb0.out, hm0.out⟩
  case round =>
    clear hm0 hb0
    obtain ⟨k, hk, rfl, hb, hm⟩ := hrel
    have hsz := hb.size
    by_cases hlt : k < d.length
    · obtain ⟨cb, co, u, rfl, c10, c20, i0⟩ := DC.out k hlt
      have hxr := HR.out d[k] (List.getElem_mem hlt)
      have hT : (d.map (·.1)).take (k + 1) = (d.map (·.1)).take k ++ [d[k].1] := by rw [List.take_succ_eq_append_getElem (by simpa using hlt)]; simp
      obtain ⟨x, hx⟩ : ∃ x, d[k].1 = x := ⟨_, rfl⟩
      obtain ⟨ua, uc, rfl, -⟩ := i0.open
      obtain ⟨n, hn⟩ : ∃ n, d[k].2.length = n := ⟨_, rfl⟩
      rw [hx] at c10 hT hxr
      rw [hn] at c20
      have c1' := (hb.cell (World.block_lt_of_cell? _ _ c10)).trans c10
      have c2' := (hb.cell (World.block_lt_of_cell? _ _ c20)).trans c20
      have HT := hid hT
      have HKEY := hid (int_key x (wf_small (by omega) (by omega)))
      have hbA : Below wr.heap.size wr (wr.alloc (.cells #[.int .i64 x, .slice ua n uc] 43)) := (Below.refl _ _).alloc (Nat.le_refl _) _
      have HB := hid (hb.trans (hbA.mono hsz))
      have HM := hid (hm.belowS hbA)
      clear c10 c20 i0 hx hn hT hm hbA hb
      go_wp2_with (at_mapUpdate; refine wpList_update_mapK rfl _ _ _ 65 rfl (int_keyed Tryz.underlying3) eI_inj Tryz.underlying65 rfl HM.out x true rfl rfl HKEY.out ?_; intro w2 hm2 hg2)
      go_roundw
      case rel => exact ⟨k + 1, by omega, by go_num, HB.out.grown hg2 (by have := HB.out.size; omega) (fun q hq => by cases hq; exact Nat.le_refl _), by rw [HT.out]; exact iset_ins hm2⟩
      case measure => simp [intOf]; omega
    · have hkl : k = d.length := by omega
      subst hkl
      rw [List.take_of_length_le (by simp)] at hm
      have hlen := fun ty => hm.run_len Tryz.underlying65 ty
      have HK := hid (keysA_len (d.map (·.1)))
      obtain ⟨n, hn⟩ : ∃ n, (keysA (d.map (·.1))).length = n := ⟨_, rfl⟩
      rw [hn] at hlen
      have HN := hid hn
      clear hm hn
      by_cases h1 : a.length = b.length
      · have q1 : ((a.length : Int) == (b.length : Int)) = true := by simp [h1]
        by_cases h2 : n = d.length
        · have q2 : ((n : Int) == (d.length : Int)) = true := by simp [h2]
          have HF : Hid (singB a b d = true) := hid (by unfold singB; rw [decide_eq_true h1, decide_eq_true (HK.out.2.1 (by rw [HN.out, h2]; simp))]; rfl)
          clear h1 h2
          go_wp2
          go_ret
          exact ⟨ret_bool HF.out.symm, hb⟩
        · have q2 : ((n : Int) == (d.length : Int)) = false := by simp; omega
          have HF : Hid (singB a b d = false) := hid (by
            unfold singB
            rw [decide_eq_false (p := (d.map (·.1)).Nodup) (fun h => h2 (by have := HK.out.2.2 h; rw [HN.out] at this; simpa using this)), Bool.and_false])
          clear h1 h2
          go_wp2
          go_ret
          exact ⟨ret_bool HF.out.symm, hb⟩
      · have q1 : ((a.length : Int) == (b.length : Int)) = false := by simp; omega
        have HF : Hid (singB a b d = false) := hid (by unfold singB; rw [decide_eq_false h1, Bool.false_and])
        clear h1
        go_wp2
        go_ret
        exact ⟨ret_bool HF.out.symm, hb⟩
theorem dic_range {a b : Sg} {d : Dic} (h : dicB a b d = true) : (∀ x ∈ d, 0 ≤ x.1 ∧ x.1 ≤ 1000) ∧ d.length ≤ 1000 := by
  have hd := dicB_ok h
  obtain ⟨b1, b2⟩ := sign_len hd.sb
  obtain ⟨a1, a2⟩ := sign_len hd.sa
  refine ⟨fun x hx => ?_, by have := hd.len; omega⟩
  obtain ⟨i, hi, rfl⟩ := List.getElem_of_mem hx
  have := (hd.way i hi).1
  omega
theorem tongue_OneToOne (va vb vd : Value) (a b : Sg) (d : Dic) (w : World) (ha : SignAt w va a) (hb : SignAt w vb b) (hd : BindsAt w vd d) (ha1 : a.length ≤ 1000) (hb1 : b.length ≤ 1000) :
    Calls Tryz.prog 6 #[va, vb, vd] w fun e w' => e = .returned (.bool (oneB a b d)) ∧ Below w.heap.size w w' := by
  have HV := hid (tongue_Valid va vb vd a b d w ha hb hd ha1 hb1)
  rw [oneB_eq]
  cases h : dicB a b d
  · rw [h] at HV
    clear h
    go_enter Tryz.func6, Tryz.ntmps6
    go_wp2_with fail
    refine HV.out.mono ?_
    rintro e w1 ⟨rfl, hb1⟩
    go_wp2
    go_ret
    exact ⟨rfl, hb1⟩
  · rw [h] at HV
    have HS := hid (fun (X : World) (hX : Below w.heap.size w X) => tongue_single va vb vd a b d X (ha.below hX) (hb.below hX) (hd.below hX) (dic_range h).1 (dic_range h).2)
    clear h ha hb hd
    go_enter Tryz.func6, Tryz.ntmps6
    go_wp2_with fail
    refine HV.out.mono ?_
    rintro e w1 ⟨rfl, hb1⟩
    go_wp2_with fail
    refine (HS.out _ hb1).mono ?_
    rintro e w2 ⟨rfl, hb2⟩
    go_wp2
    go_ret
    exact ⟨ret_bool (by simp), hb1.trans (hb2.mono hb1.size)⟩
end Go.Proofs.YtldgkidojepdlaaGreat
