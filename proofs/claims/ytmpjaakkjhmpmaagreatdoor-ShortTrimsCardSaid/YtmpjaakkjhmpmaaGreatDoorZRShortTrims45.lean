/-
  WHAT IT HOLDS: contract of kept of the reference of layer 7: the steps that stay, moved. Conditions: the arguments read as data; the proof is valid; what stays is made of what stays.
  WHAT IT HOLDS: contracts of trimmed and Trimmed of the reference of layer 7, of Shortest of both sides. Conditions: the arguments read as data.
-/
import Derived.Test.YtmpjaakkjhmpmaaGreatDoorZRShortTrims36
import Derived.Test.YtmpjaakkjhmpmaaGreatDoorZRShortTrims44
import Derived.Test.YtmpjaakkjhmpmaaGreatDoorZRShortTrims37
import Derived.Test.YtmpjaakkjhmpmaaGreatDoorZRShortTrims41
import Derived.Test.YtmpjaakkjhmpmaaGreatDoorZRShortTrims43
namespace Go.Proofs.YtmpjaakkjhmpmaaGreatDoor
open Go Go.RowKit Go.Maps Go.Shelf
attribute [local go_sem] Oper.semAt_some
set_option maxHeartbeats 8000000 in
set_option maxRecDepth 100000 in
theorem ref7_kept (g : Int) (v vby : Value) (sq ns cs : Nat) (p : List St) (b : List Bool) (f : Nat → Nat) (by' : Bool) (w : World) (hv : StepsAt w v p) (hg : proofB g p = true) (hns : p.length ≤ ns) (hns2 : ns ≤ 1000) (hsc : ∀ i, i < p.length → w.cell? ⟨sq, i, none⟩ = some (.bool (stB b i))) (hok : OKR p b f) (hid1 : ∀ i, i < p.length → stB b i = true → f i = i)
    (hby : (by' = false ∧ vby = .slice none 0 0 ∧ ∀ i, f i = i) ∨ (by' = true ∧ ∃ fq nf cf, vby = .slice (some ⟨fq, 0, none⟩) nf cf ∧ p.length ≤ nf ∧ nf ≤ 1000 ∧ ∀ i, i < p.length → w.cell? ⟨fq, i, none⟩ = some (.int .i64 ((f i : Nat) : Int)) ∧ f i ≤ i ∧ stB b (f i) = true)) :
    Calls Tryz.prog 108 #[v, .slice (some ⟨sq, 0, none⟩) ns cs, vby] w fun e w' => ∃ u, e = .returned u ∧ StepsAt w' u (rebL p b f p.length) ∧ Below w.heap.size w w' := by
  have h60 := proof60 hg
  have h1 := proof1 hg
  have q37 := fun (w : World) (a : Option Addr) (n c n' c' : Nat) => run_neq_slice_nil_any (P := Tryz.prog) w _ _ a n c n' c' Tryz.underlying33
  have HSA := hid (fun (i : Nat) (hi : i < p.length) => st_at hg hi)
  have HSC := hid hsc
  have HOK := hid hok
  have HID := hid hid1
  have HBY0 := hid hby
  obtain ⟨pa, pc, rfl, hc, hl, -, HC⟩ := hv.open
  have HC' := hid HC
  obtain ⟨bn, bf, bc, hvb, hbn⟩ : ∃ a n c, vby = .slice a n c ∧ n ≤ 1000 := by
    rcases hby with ⟨-, h, -⟩ | ⟨-, fq, nf, cf, h, -, h2, -⟩
    · exact ⟨_, _, _, h, by omega⟩
    · exact ⟨_, _, _, h, h2⟩
  subst hvb
  clear HC hv hg hsc hok hid1 hby
  go_enter Tryz.func108, Tryz.ntmps108
  go_wp2_with (at_make; refine wpList_make_row rfl _ _ 33 rfl w.heap.size 3 el_int Tryz.underlying33 rfl p.length rfl rfl (by omega) (by omega) (by simp) ?_; intro q w1 hq0 hq1 hown1 hgrow1)
  have HB1 := hid ((Below.refl _ _).grown hgrow1 (by simp) (fun _ h => by cases h) : Below w.heap.size w w1)
  have HO1 := hid hown1
  clear hown1 hgrow1
  go_loopw [8, 9] (fun uo kv wr => ∃ (k : Nat) (T : List Int), k ≤ p.length ∧ kv = .int .i64 k ∧ T.length = p.length ∧ (∀ i, i < k → (stB b i = true ∨ by' = true) → tmA T i = ((posS b (f i) : Nat) : Int)) ∧ wr.ownsRow w.heap.size 3 1 (.slice (some ⟨q, 0, none⟩) p.length p.length) p.length (T.map (Value.int .i64)) ∧ wr.ownsRow w.heap.size 57 3 uo (posS b k) (stC (rebL p b f k)) ∧ Below w.heap.size w wr) (fun _ kv _ => p.length - (intOf kv).toNat)
  case atStart => exact ⟨0, List.replicate p.length 0, by omega, rfl, by simp, fun i h => by omega, by simpa using HO1.out, World.ownsRow_nil _ _ _ _, HB1.out⟩
  case round =>
    clear HO1 HB1
    obtain ⟨k, T, hk, rfl, htl, hinv, hto, hout, hb⟩ := hrel
    have hsz := hb.size
    have HTL := hid htl
    have HINV := hid hinv
    have hpk := posS_le b k
    by_cases hlt : k < p.length
    · have s0 := (hb.cell (World.block_lt_of_cell? _ _ (HSC.out k hlt))).trans (HSC.out k hlt)
      obtain ⟨eg, hx⟩ := HSA.out k hlt
      have hrb : rebL p b f (k + 1) = rebL p b f k ++ (if stB b k = true then [mvS b f (p.getD k st0)] else []) := rfl
      have hps : posS b (k + 1) = posS b k + (if stB b k = true then 1 else 0) := rfl
      have hok := HOK.out k hlt
      have hid2 := HID.out k hlt
      rw [eg] at hrb hok
      cases hs : stB b k
      · rw [hs] at s0 hrb hps
        rw [if_neg (by decide)] at hrb hps
        rw [List.append_nil] at hrb
        have HRB := hid hrb
        have HPS := hid hps
        rcases HBY0.out with ⟨rfl, hvb, -⟩ | ⟨rfl, fq, nf, cf, hvb, hf1, hf2, hf3⟩
        · simp only [Value.slice.injEq] at hvb
          obtain ⟨rfl, rfl, rfl⟩ := hvb
          have HTO := hid hto
          have HOUT := hid hout
          have HB := hid hb
          have HS := hid hs
          clear hto hout hb hrb hps hok hid2 hinv hs hx eg
          go_wp2
          go_roundw
          case rel =>
            refine ⟨k + 1, T, by omega, by go_num, HTL.out, fun i hi h => ?_, HTO.out, by rw [HRB.out, HPS.out]; exact HOUT.out, HB.out⟩
            by_cases e : i = k
            · subst e; rw [HS.out] at h; rcases h with h | h <;> cases h
            · exact HINV.out i (by omega) h
          case measure => simp [intOf]; omega
        · simp only [Value.slice.injEq] at hvb
          obtain ⟨rfl, rfl, rfl⟩ := hvb
          obtain ⟨c0, hle, hsf⟩ := hf3 k hlt
          have hflt : f k < k := by
            by_cases e : f k = k
            · rw [e, hs] at hsf; cases hsf
            · omega
          have c1 := (hb.cell (World.block_lt_of_cell? _ _ c0)).trans c0
          have hff := HID.out (f k) (by omega) hsf
          have hval := hinv (f k) hflt (Or.inr rfl)
          rw [hff] at hval
          have cF := hto.cellAt (f k) (by omega)
          rw [ints7_at (by omega)] at cF
          have e9 : T.getD (f k) 0 = ((posS b (f k) : Nat) : Int) := hval
          rw [e9] at cF
          have cT := hto.cellAt k (by omega)
          rw [ints7_at (by omega)] at cT
          have fT := hto.frozenAt k
          have hst := (hto.stored k (.int .i64 ((posS b (f k) : Nat) : Int))).1
          rw [← List.map_set] at hst
          have hop := ownsRow_setCell_other (a := ⟨q, k, none⟩) hout (owns_ne7 hto hout (by decide) rfl) (.int .i64 ((posS b (f k) : Nat) : Int))
          have HTO := hid hst
          have HOUT := hid hop
          have HB := hid (hb.setCell (p := ⟨q, k, none⟩) hq0 (.int .i64 ((posS b (f k) : Nat) : Int)))
          have HS := hid hs
          obtain ⟨F, hF⟩ : ∃ F, f k = F := ⟨_, rfl⟩
          have HF := hid hF
          rw [hF] at c1 cF HTO HOUT HB hflt
          clear hto hout hb hrb hps hok hid2 hinv hs hx eg hst hop hval e9 hff c0 hle hsf hf3 hF
          go_wp2
          go_roundw
          case rel =>
            refine ⟨k + 1, T.set k ((posS b F : Nat) : Int), by omega, by go_num, by rw [List.length_set]; exact HTL.out, fun i hi h => ?_, HTO.out, by rw [HRB.out, HPS.out]; exact HOUT.out, HB.out⟩
            rw [tmA_set (by rw [HTL.out]; omega)]
            unfold upd7
            by_cases e : i = k
            · subst e; rw [if_pos rfl, HF.out]
            · rw [if_neg e]; exact HINV.out i (by omega) (Or.inr rfl)
          case measure => simp [intOf]; omega
      · rw [hs] at s0 hrb hps
        rw [if_pos rfl] at hrb hps
        have HFK : Hid (f k = k) := hid (hid2 hs)
        have HPO := hid hps
        obtain ⟨xb, xo, rfl, y0, y1, y2⟩ := HC'.out k hlt
        have x0 := (hb.cell (World.block_lt_of_cell? _ _ y0)).trans y0
        have x1 := (hb.cell (World.block_lt_of_cell? _ _ y1)).trans y1
        have x2 := (hb.cell (World.block_lt_of_cell? _ _ y2)).trans y2
        have hqw : q ≠ wr.heap.size := by have h5 : q < wr.heap.size := (hto.lt _ rfl).2; omega
        obtain ⟨x, hxx⟩ : ∃ x, p[k] = x := ⟨_, rfl⟩
        rw [hxx] at x0 x1 x2 hx hrb hok
        clear y0 y1 y2 hxx eg hid2 hps
        rcases hx with ⟨h1, -⟩ | ⟨h1, h2, h3, h4, h5⟩
        · have HST : Hid (rebL p b f (k + 1) = rebL p b f k ++ [x]) := hid (by rw [hrb]; unfold mvS; rw [if_neg (by omega)])
          rw [h1] at x0
          obtain ⟨y, hy⟩ : ∃ y, x.2.1 = y := ⟨_, rfl⟩
          obtain ⟨z, hz⟩ : ∃ z, x.2.2 = z := ⟨_, rfl⟩
          have HXV : Hid (x = (1, y, z)) := hid (by rw [← h1, ← hy, ← hz])
          rw [hy] at x1
          rw [hz] at x2
          rw [HXV.out] at HST
          have HBY := hid (hb.alloc hsz (.cells #[.int .i64 1, .int .i64 y, .int .i64 z] 57))
          have HOY := hid (hout.alloc (.cells #[.int .i64 1, .int .i64 y, .int .i64 z] 57))
          have HTY := hid (hto.alloc (.cells #[.int .i64 1, .int .i64 y, .int .i64 z] 57))
          obtain ⟨d0, d1, d2⟩ := cell3_new7 wr (.int .i64 1) (.int .i64 y) (.int .i64 z) 57
          obtain ⟨oa, oc, rfl⟩ := owns_slice hout
          clear hto hout hb hrb hok hinv hs h1 hy hz
          have cT := HTY.out.cellAt k (by omega)
          rw [ints7_at (by omega)] at cT
          have fT := HTY.out.frozenAt k
          have hst := (HTY.out.stored k (.int .i64 ((posS b k : Nat) : Int))).1
          rw [← List.map_set] at hst
          have hop := ownsRow_setCell_other (a := ⟨q, k, none⟩) HOY.out (owns_ne7 HTY.out HOY.out (by decide) rfl) (.int .i64 ((posS b k : Nat) : Int))
          have hbp : Below w.heap.size w ((wr.alloc (.cells #[.int .i64 1, .int .i64 y, .int .i64 z] 57)).setCell ⟨q, k, none⟩ (.int .i64 ((posS b k : Nat) : Int))) := HBY.out.setCell (p := ⟨q, k, none⟩) hq0 _
          have oth : ∀ (o : Nat) (v : Value), (wr.alloc (.cells #[.int .i64 1, .int .i64 y, .int .i64 z] 57)).cell? ⟨wr.heap.size, o, none⟩ = some v → ((wr.alloc (.cells #[.int .i64 1, .int .i64 y, .int .i64 z] 57)).setCell ⟨q, k, none⟩ (.int .i64 ((posS b k : Nat) : Int))).cell? ⟨wr.heap.size, o, none⟩ = some v := fun o v h => (World.cell?_of_block (a := ⟨wr.heap.size, o, none⟩) (Below.heap_setCell _ _ _ _ (fun e => hqw e.symm))).trans h
          have k0 := oth _ _ d0
          have k1 := oth _ _ d1
          have k2 := oth _ _ d2
          have HT1 := hid (hst.alloc (.cells #[.int .i64 1, .int .i64 y, .int .i64 z] 57))
          have HO1 := hid (hop.alloc (.cells #[.int .i64 1, .int .i64 y, .int .i64 z] 57))
          have HB1 := hid (hbp.alloc hbp.size (.cells #[.int .i64 1, .int .i64 y, .int .i64 z] 57))
          have hsrc := row_one_st ((wr.alloc (.cells #[.int .i64 1, .int .i64 y, .int .i64 z] 57)).setCell ⟨q, k, none⟩ (.int .i64 ((posS b k : Nat) : Int))) (1, y, z) 57
          have hssz : ((wr.alloc (.cells #[.int .i64 1, .int .i64 y, .int .i64 z] 57)).setCell ⟨q, k, none⟩ (.int .i64 ((posS b k : Nat) : Int))).heap.size = wr.heap.size + 1 := by simp
          rw [hssz] at hsrc
          have HSRC := hid hsrc
          clear HOY HTY HBY hst hop hbp oth hsrc hssz
          go_wp2_with (at_builtin; refine wpList_append_row rfl _ _ 25 rfl w.heap.size 57 el_step Tryz.underlying25 rfl (by decide) _ _ _ rfl HO1.out _ 1 (stV (1, y, z)) rfl HSRC.out (by simp [stV, Value.oneCell']) (by omega) (by omega) HB1.out.size ?_; intro v5 w5 hown5 hgrow5 _)
          go_roundw
          case rel =>
            refine ⟨k + 1, T.set k ((posS b k : Nat) : Int), by omega, by go_num, by rw [List.length_set]; exact HTL.out, fun i hi h => ?_, owns_kept7 HT1.out HO1.out (by decide) hgrow5, ?_, HB1.out.grown hgrow5 HB1.out.size (fun q hq => (HO1.out.lt q hq).1)⟩
            · rw [tmA_set (by rw [HTL.out]; omega)]
              unfold upd7
              by_cases e : i = k
              · subst e; rw [if_pos rfl, HFK.out]
              · rw [if_neg e]; exact HINV.out i (by omega) h
            · rw [HST.out, HPO.out, stC_snoc]; exact hown5
          case measure => simp [intOf]; omega
        · obtain ⟨⟨oa1, oa2⟩, ob1, ob2⟩ := hok hs h1
          rw [h1] at x0
          rw [h2] at x1
          rw [h3] at x2
          have hmv : mvS b f x = (2, ((posS b (f (nA x)) : Nat) : Int), ((posS b (f (nB x)) : Nat) : Int)) := by unfold mvS; rw [if_pos h1]
          rw [hmv] at hrb
          have hgd : ∀ i, i < k → stB b (f i) = true → (stB b i = true ∨ by' = true) := fun i _ h => by
            rcases HBY0.out with ⟨-, -, hf⟩ | ⟨hf, -⟩
            · rw [hf i] at h; exact Or.inl h
            · exact Or.inr hf
          have hA := hinv _ h4 (hgd _ h4 oa2)
          have hB := hinv _ h5 (hgd _ h5 ob2)
          obtain ⟨A, hAe⟩ : ∃ A, nA x = A := ⟨_, rfl⟩
          obtain ⟨B, hBe⟩ : ∃ B, nB x = B := ⟨_, rfl⟩
          rw [hAe] at x1 h4 hA hrb
          rw [hBe] at x2 h5 hB hrb
          obtain ⟨a1, ha1⟩ : ∃ a, posS b (f A) = a := ⟨_, rfl⟩
          obtain ⟨b1, hb1⟩ : ∃ a, posS b (f B) = a := ⟨_, rfl⟩
          have la1 : a1 ≤ 60 := by rw [← ha1]; have := posS_le b (f A); rw [hAe] at oa1; omega
          have lb1 : b1 ≤ 60 := by rw [← hb1]; have := posS_le b (f B); rw [hBe] at ob1; omega
          rw [ha1] at hA hrb
          rw [hb1] at hB hrb
          have cA := hto.cellAt A (by omega)
          rw [tms_at (by omega), hA] at cA
          have cB := hto.cellAt B (by omega)
          rw [tms_at (by omega), hB] at cB
          have HST := hid hrb
          have hlt' := (hto.lt _ rfl).2
          have fz : ∀ o : Nat, (wr.alloc (.cells #[.int .i64 2, .int .i64 (A : Int), .int .i64 (B : Int)] 57)).frozen? ⟨wr.heap.size, o, none⟩ = false := fun o => frz_new7 _ _ _ _
          have f1 := fz 1
          have f2 := fz 2
          have HOY := hid (hout.alloc (.cells #[.int .i64 2, .int .i64 (a1 : Int), .int .i64 (b1 : Int)] 57)).drew
          have HTY := hid (hto.alloc (.cells #[.int .i64 2, .int .i64 (a1 : Int), .int .i64 (b1 : Int)] 57)).drew
          have HBYd := hid (below_drewN (hb.alloc hsz (.cells #[.int .i64 2, .int .i64 (a1 : Int), .int .i64 (b1 : Int)] 57)) 1)
          have HDY := hid (cell3_new7 wr (.int .i64 2) (.int .i64 (a1 : Int)) (.int .i64 (b1 : Int)) 57)
          obtain ⟨oa, oc, rfl⟩ := owns_slice hout
          clear hto hout hb hrb hok hinv hs h1 h2 h3 hmv hgd hA hB hAe hBe ha1 hb1 oa1 oa2 ob1 ob2
          go_wp2
          go_region
          obtain ⟨Y, hY⟩ : ∃ Y, (wr.alloc (.cells #[.int .i64 2, .int .i64 (a1 : Int), .int .i64 (b1 : Int)] 57)).drew = Y := ⟨_, rfl⟩
          rw [hY] at HOY HTY ⊢
          have hbY : Below w.heap.size w Y := hY ▸ HBYd.out
          obtain ⟨d0, d1, d2⟩ : Y.cell? ⟨wr.heap.size, 0, none⟩ = some (.int .i64 2) ∧ Y.cell? ⟨wr.heap.size, 1, none⟩ = some (.int .i64 (a1 : Int)) ∧ Y.cell? ⟨wr.heap.size, 2, none⟩ = some (.int .i64 (b1 : Int)) := hY ▸ HDY.out
          have HBY := hid hbY
          clear HBYd hY HDY cA cB x0 x1 x2 hlt' fz f1 f2 hbY s0
          have cT := HTY.out.cellAt k (by omega)
          rw [ints7_at (by omega)] at cT
          have fT := HTY.out.frozenAt k
          have hst := (HTY.out.stored k (.int .i64 ((posS b k : Nat) : Int))).1
          rw [← List.map_set] at hst
          have hop := ownsRow_setCell_other (a := ⟨q, k, none⟩) HOY.out (owns_ne7 HTY.out HOY.out (by decide) rfl) (.int .i64 ((posS b k : Nat) : Int))
          have hbp : Below w.heap.size w (Y.setCell ⟨q, k, none⟩ (.int .i64 ((posS b k : Nat) : Int))) := HBY.out.setCell (p := ⟨q, k, none⟩) hq0 _
          have oth : ∀ (o : Nat) (v : Value), Y.cell? ⟨wr.heap.size, o, none⟩ = some v → (Y.setCell ⟨q, k, none⟩ (.int .i64 ((posS b k : Nat) : Int))).cell? ⟨wr.heap.size, o, none⟩ = some v := fun o v h => (World.cell?_of_block (a := ⟨wr.heap.size, o, none⟩) (Below.heap_setCell _ _ _ _ (fun e => hqw e.symm))).trans h
          have k0 := oth _ _ d0
          have k1 := oth _ _ d1
          have k2 := oth _ _ d2
          have HT1 := hid (hst.alloc (.cells #[.int .i64 2, .int .i64 (a1 : Int), .int .i64 (b1 : Int)] 57))
          have HO1 := hid (hop.alloc (.cells #[.int .i64 2, .int .i64 (a1 : Int), .int .i64 (b1 : Int)] 57))
          have HB1 := hid (hbp.alloc hbp.size (.cells #[.int .i64 2, .int .i64 (a1 : Int), .int .i64 (b1 : Int)] 57))
          have hsrc := row_one_st (Y.setCell ⟨q, k, none⟩ (.int .i64 ((posS b k : Nat) : Int))) (2, (a1 : Int), (b1 : Int)) 57
          have hssz : (Y.setCell ⟨q, k, none⟩ (.int .i64 ((posS b k : Nat) : Int))).heap.size = Y.heap.size := by simp
          rw [hssz] at hsrc
          have HSRC := hid hsrc
          clear HOY HTY HBY hst hop hbp oth hsrc hssz
          go_wp2_with (at_builtin; refine wpList_append_row rfl _ _ 25 rfl w.heap.size 57 el_step Tryz.underlying25 rfl (by decide) _ _ _ rfl HO1.out _ 1 (stV (2, (a1 : Int), (b1 : Int))) rfl HSRC.out (by simp [stV, Value.oneCell']) (by omega) (by omega) HB1.out.size ?_; intro v5 w5 hown5 hgrow5 _)
          go_roundw
          case rel =>
            refine ⟨k + 1, T.set k ((posS b k : Nat) : Int), by omega, by go_num, by rw [List.length_set]; exact HTL.out, fun i hi h => ?_, owns_kept7 HT1.out HO1.out (by decide) hgrow5, ?_, HB1.out.grown hgrow5 HB1.out.size (fun q hq => (HO1.out.lt q hq).1)⟩
            · rw [tmA_set (by rw [HTL.out]; omega)]
              unfold upd7
              by_cases e : i = k
              · subst e; rw [if_pos rfl, HFK.out]
              · rw [if_neg e]; exact HINV.out i (by omega) h
            · rw [HST.out, HPO.out, stC_snoc]; exact hown5
          case measure => simp [intOf]; omega
    · have hkl : k = p.length := by omega
      subst hkl
      have hll := rebL_len p b f p.length
      have HO := hid (show StepsAt wr u8 (rebL p b f p.length) from by
        unfold StepsAt
        rw [hll]
        exact RowK.of_owns hout (by omega))
      obtain ⟨oa, oc, rfl⟩ := owns_slice hout
      have HB := hid hb
      clear hto hout hb hinv hll
      go_wp2
      go_ret
      exact ⟨_, rfl, HO.out, HB.out⟩
end Go.Proofs.YtmpjaakkjhmpmaaGreatDoor
namespace Go.Proofs.YtmpjaakkjhmpmaaGreatDoor
open Go Go.RowKit Go.Maps
set_option maxHeartbeats 4000000 in
set_option maxRecDepth 100000 in
theorem ref7_trimmed (g : Int) (v : Value) (p : List St) (w : World) (hp : StepsAt w v p) (hg : proofB g p = true) :
    Calls Tryz.prog 59 #[v] w fun e w' => ∃ u, e = .returned u ∧ StepsAt w' u (trimL p) ∧ Below w.heap.size w w' := by
  have h60 := proof60 hg
  have h1 := proof1 hg
  have HSA := hid (fun (i : Nat) (hi : i < p.length) => st_at hg hi)
  have HND := hid (show needL p = needF p p.length (need0 p) from rfl)
  have HN0 := hid (show need0 p = (List.replicate p.length false).set (p.length - 1) true from rfl)
  obtain ⟨pa, pc, rfl, hc, hl, -, HC⟩ := hp.open
  have HC' := hid HC
  have HTR := hid (show trimL p = rebL p (needL p) id p.length from rfl)
  obtain ⟨TR, hTR⟩ : ∃ T, trimL p = T := ⟨_, rfl⟩
  rw [hTR] at HTR ⊢
  obtain ⟨nd, hnd⟩ : ∃ nd, needL p = nd := ⟨_, rfl⟩
  obtain ⟨n0, hn0⟩ : ∃ n0, need0 p = n0 := ⟨_, rfl⟩
  rw [hn0] at HND HN0
  obtain ⟨m, hm⟩ : ∃ m, p.length = m + 1 := ⟨p.length - 1, by omega⟩
  have HM := hid hm
  have HKE := hid (fun (X : World) (hX : Below w.heap.size w X) (sq : Nat) (hcl : ∀ i, i < p.length → X.cell? ⟨sq, i, none⟩ = some (.bool (stB (needL p) i))) => (show Calls Tryz.prog 108 #[.slice pa (m + 1) pc, .slice (some ⟨sq, 0, none⟩) (m + 1) (m + 1), .slice none 0 0] X fun e w' => ∃ u, e = .returned u ∧ StepsAt w' u (rebL p (needL p) id (m + 1)) ∧ Below X.heap.size X w' from by
    have h := ref7_kept g (.slice pa p.length pc) (.slice none 0 0) sq p.length p.length p (needL p) id false X (hp.below hX) hg (Nat.le_refl _) (by omega) hcl (ok_need hg) (fun _ _ _ => rfl) (Or.inl ⟨rfl, rfl, fun _ => rfl⟩)
    rw [hm] at h
    exact h))
  rw [hnd] at HND HTR HKE
  rw [hm] at HTR
  simp only [hm, Nat.add_sub_cancel] at HND HN0 hc hl h60 ⊢
  clear hnd hn0 hm hg hp HC h1 hTR
  have hw0 : IntKind.i64.wrap (((m + 1 : Nat) : Int) - 1) = m := by rw [IntWalk.i64_in _ (by omega)]; omega
  have q0 : (((m + 1 : Nat) : Int) - 1) = m := by omega
  go_enter Tryz.func59, Tryz.ntmps59
  go_wp2_with (at_make; refine wpList_make_row rfl _ _ 82 rfl w.heap.size 4 el_bool Tryz.underlying82 rfl (m + 1) rfl rfl (by omega) (by omega) (by simp) ?_; intro q w1 hq0 hq1 hown1 hgrow1; have hc1 := hown1.cellAt m (by omega); have hf1 := hown1.frozenAt m)
  have hb1 : Below w.heap.size w w1 := (Below.refl _ _).grown hgrow1 (by simp) (fun _ h => by cases h)
  have hst1 := (hown1.stored m (.bool true)).1
  have hbs1 : Below w.heap.size w (w1.setCell ⟨q, m, none⟩ (.bool true)) := hb1.setCell (p := ⟨q, m, none⟩) hq0 _
  rw [← List.map_replicate, ← List.map_set, ← HN0.out] at hst1
  have hlen0 : n0.length = m + 1 := by rw [HN0.out]; simp
  have HST := hid hst1
  have HBS := hid hbs1
  obtain ⟨W, hW⟩ : ∃ W, w1.setCell ⟨q, m, none⟩ (.bool true) = W := ⟨_, rfl⟩
  have HW := hid hW
  rw [hW] at HST HBS
  clear hown1 hgrow1 hst1 hbs1 hb1 hc1 hf1 hw0 q0
  (try rw [HW.out])
  clear hW HW
  go_loopw [4] (fun kv wr => ∃ (k : Int) (b : List Bool), -1 ≤ k ∧ k ≤ m ∧ kv = .int .i64 k ∧ b.length = m + 1 ∧ needF p (k + 1).toNat b = nd ∧ wr.ownsRow w.heap.size 4 1 (.slice (some ⟨q, 0, none⟩) (m + 1) (m + 1)) (m + 1) (b.map Value.bool) ∧ Below w.heap.size w wr) (fun kv _ => (intOf kv + 1).toNat)
  case atStart => exact ⟨m, n0, by omega, by omega, rfl, hlen0, by rw [HND.out]; congr 1, HST.out, HBS.out⟩
  case round =>
    clear HST HBS hlen0 HN0 HND
    obtain ⟨k, b, hk0, hk1, rfl, hbl, hnf, hown, hb⟩ := hrel
    by_cases hlt : 0 ≤ k
    case neg =>
      obtain rfl : k = -1 := by omega
      have e : b = nd := hnf
      subst e
      have K := hid (HKE.out wr hb q (fun i hi => by
        have hc := hown.cellAt i (by rw [HM.out] at hi; omega)
        rwa [bools_at (by rw [HM.out] at hi; omega)] at hc))
      have HB := hid hb
      clear hown hb hnf HKE
      go_wp2_with fail
      refine K.out.mono ?_
      rintro e w4 ⟨u4, rfl, hu4, hb4⟩
      have HU := hid hu4
      have HB4 := hid (HB.out.trans (hb4.mono HB.out.size))
      obtain ⟨a4, c4, rfl, -⟩ := hu4.open
      clear hu4 hb4 K
      go_wp2
      go_ret
      exact ⟨_, rfl, by rw [HTR.out]; exact HU.out, HB4.out⟩
    obtain ⟨i, rfl⟩ : ∃ i : Nat, k = i := ⟨k.toNat, by omega⟩
    have him : i < m + 1 := by omega
    have hip : i < p.length := by have := HM.out; omega
    obtain ⟨eg, hx⟩ := HSA.out i hip
    have hnf' : needF p i (mkN p[i] i b) = nd := by rw [← hnf, ← eg]; rfl
    obtain ⟨xb, xo, rfl, y0, y1, y2⟩ := HC'.out i hip
    have x0 := (hb.cell (World.block_lt_of_cell? _ _ y0)).trans y0
    have x1 := (hb.cell (World.block_lt_of_cell? _ _ y1)).trans y1
    have x2 := (hb.cell (World.block_lt_of_cell? _ _ y2)).trans y2
    have HNE := hid (show xb ≠ q from by have h : xb < w.heap.size := World.block_lt_of_cell? _ _ y0; omega)
    obtain ⟨x, hxx⟩ : ∃ x, p[i] = x := ⟨_, rfl⟩
    rw [hxx] at x0 x1 x2 hx hnf'
    have hc1 := hown.cellAt i (by omega)
    rw [bools_at (by omega)] at hc1
    have HNF := hid hnf'
    have HOWN := hid hown
    have HB := hid hb
    have HBLN := hid hbl
    have q1 : IntKind.i64.wrap ((i : Int) - 1) = (i : Int) - 1 := IntWalk.i64_in _ (by omega)
    clear hnf hnf' hown hb hxx eg y0 y1 y2
    have skip : mkN x i b = b → ∃ (k : Int) (b : List Bool), -1 ≤ k ∧ k ≤ (m : Int) ∧ Value.int .i64 ((i : Int) - 1) = .int .i64 k ∧ b.length = m + 1 ∧ needF p (k + 1).toNat b = nd ∧ wr.ownsRow w.heap.size 4 1 (.slice (some ⟨q, 0, none⟩) (m + 1) (m + 1)) (m + 1) (b.map Value.bool) ∧ Below w.heap.size w wr := fun h =>
      ⟨(i : Int) - 1, b, by omega, by omega, rfl, HBLN.out, by rw [show ((i : Int) - 1 + 1).toNat = i by omega, ← HNF.out, h], HOWN.out, HB.out⟩
    have HSK := hid skip
    clear skip
    cases hs : stB b i
    · have HE : Hid (mkN x i b = b) := hid (by unfold mkN; rw [if_neg (fun h => by have h1 : stB b i = true := h.1; rw [hs] at h1; cases h1)])
      rw [hs] at hc1
      clear hx hs
      go_wp2
      go_roundw
      case rel => exact HSK.out HE.out
      case measure => simp [intOf]
    rw [hs] at hc1
    rcases hx with ⟨hx1, -, -⟩ | ⟨hx1, ha, hbb, ha', hb'⟩
    · have HE : Hid (mkN x i b = b) := hid (by unfold mkN; rw [if_neg (fun h => by omega)])
      rw [hx1] at x0
      clear hs hx1
      go_wp2
      go_roundw
      case rel => exact HSK.out HE.out
      case measure => simp [intOf]
    have HE : Hid (mkN x i b = (b.set (nA x) true).set (nB x) true) := hid (by unfold mkN; rw [if_pos ⟨hs, hx1⟩])
    rw [hx1] at x0
    rw [ha] at x1
    rw [hbb] at x2
    obtain ⟨A, hA⟩ : ∃ A, nA x = A := ⟨_, rfl⟩
    obtain ⟨B, hBq⟩ : ∃ B, nB x = B := ⟨_, rfl⟩
    rw [hA] at x1 ha' HE
    rw [hBq] at x2 hb' HE
    clear hA hBq ha hbb hx1 hs
    have hcA := HOWN.out.cellAt A (by omega)
    rw [bools_at (by omega)] at hcA
    have hfA := HOWN.out.frozenAt A
    have hst := (HOWN.out.stored A (.bool true)).1
    have hcB := hst.cellAt B (by omega)
    rw [← List.map_set, bools_at (by rw [List.length_set]; omega)] at hcB
    have hfB := hst.frozenAt B
    have hst2 := (hst.stored B (.bool true)).1
    rw [← List.map_set, ← List.map_set] at hst2
    have HST2 := hid hst2
    have HBS2 := hid (show Below w.heap.size w ((wr.setCell ⟨q, A, none⟩ (.bool true)).setCell ⟨q, B, none⟩ (.bool true)) from (HB.out.setCell (p := ⟨q, A, none⟩) hq0 _).setCell (p := ⟨q, B, none⟩) hq0 _)
    have hxq := World.block_lt_of_cell? _ _ x2
    have HXB := hid (show wr.cell? ⟨xb, xo + i * 3 + 2, none⟩ = some (.int .i64 (B : Int)) from x2)
    have z2 : (wr.setCell ⟨q, A, none⟩ (.bool true)).cell? ⟨xb, xo + i * 3 + 2, none⟩ = some (.int .i64 (B : Int)) := (World.cell?_of_block (a := ⟨xb, xo + i * 3 + 2, none⟩) (Below.heap_setCell _ _ _ _ (fun e => HNE.out e))).trans x2
    clear hst hst2 hxq HXB x2
    go_wp2
    go_roundw
    case rel =>
      refine ⟨(i : Int) - 1, (b.set A true).set B true, by omega, by omega, rfl, by rw [List.length_set, List.length_set]; exact HBLN.out, by rw [show ((i : Int) - 1 + 1).toNat = i by omega, ← HNF.out, HE.out], ?_, ?_⟩
      · first | exact HST2.out | exact owns_below HST2.out (below_self_drewN _ _)
      · first | exact HBS2.out | exact below_drewN HBS2.out _
    case measure => simp [intOf]
end Go.Proofs.YtmpjaakkjhmpmaaGreatDoor
