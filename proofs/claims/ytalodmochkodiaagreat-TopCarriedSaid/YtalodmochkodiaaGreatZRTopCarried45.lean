/-
  WHAT IT HOLDS: the contract of Moved of package carry once more: its entry lies in memory of the call's own. Conditions: the arguments read as data; small signs, small libraries, short names.
-/
import Derived.Test.YtalodmochkodiaaGreatZRTopCarried40
namespace Go.Proofs.YtalodmochkodiaaGreat
open Go Go.RowKit Go.Maps
def EntQO (R : En → Int → Prop) (w : World) (e : Ending) (w' : World) : Prop := ∃ x vS vU vP er, R x er ∧ e = .returned (.tuple #[.agg #[.string x.name, .string x.who, vS, vU, vP], .int .i64 er]) ∧ EntO w' w.heap.size vS vU vP x ∧ Below w.heap.size w w'
theorem EntQO.mk {R : En → Int → Prop} {w : World} {e : Ending} {w' : World} (x : En) (vS vU vP : Value) (er : Int) (h1 : R x er) (h2 : e = .returned (.tuple #[.agg #[.string x.name, .string x.who, vS, vU, vP], .int .i64 er])) (h3 : EntO w' w.heap.size vS vU vP x) (h4 : Below w.heap.size w w') : EntQO R w e w' := ⟨x, vS, vU, vP, er, h1, h2, h3, h4⟩
theorem EntO.zero (w : World) (base : Nat) : EntO w base (.slice none 0 0) (.slice none 0 0) (.slice none 0 0) en0 :=
  ⟨World.ownsRow_nil _ _ _ _, World.ownsRow_nil _ _ _ _, World.ownsRow_nil _ _ _ _, by simp [en0], by simp [en0], by simp [en0], by simp [en0], by simp [en0, ByteArray.size], by simp [en0, ByteArray.size]⟩
theorem EntQO.zero {R : En → Int → Prop} {w w' : World} {er : Int} (h1 : R en0 er) (h4 : Below w.heap.size w w') : EntQO R w (.returned (.tuple #[.agg #[.string ⟨#[]⟩, .string ⟨#[]⟩, .slice none 0 0, .slice none 0 0, .slice none 0 0], .int .i64 er])) w' := ⟨en0, _, _, _, er, h1, rfl, EntO.zero _ _, h4⟩
set_option maxHeartbeats 2000000 in
theorem carry_MovedO (vs vl : Value) (s : Sg) (l : List En) (a n o b : Nm) (w : World) (hs : SignAt w vs s) (hl : EntsAt w vl l) (hs1 : s.length ≤ 1000) (hl1 : l.length ≤ 1000) (ha : a.size ≤ 140737488355328) (hn : n.size ≤ 140737488355328) (ho : o.size ≤ 140737488355328) (hbn : b.size ≤ 140737488355328) :
    Calls Tryz.prog 83 #[vs, vl, .string a, .string n, .string o, .string b] w fun e w' => EntQO (MovR s l a n o b) w e w' := by
  have hC5 := C5.new w (.string ⟨#[]⟩) (.string ⟨#[]⟩) (.slice none 0 0) (.slice none 0 0) (.slice none 0 0) 41
  have hbC : Below w.heap.size w (w.alloc (.cells #[.string ⟨#[]⟩, .string ⟨#[]⟩, .slice none 0 0, .slice none 0 0, .slice none 0 0] 41)) := (Below.refl _ _).alloc (Nat.le_refl _) _
  obtain ⟨W, hW⟩ : ∃ W, w.alloc (.cells #[.string ⟨#[]⟩, .string ⟨#[]⟩, .slice none 0 0, .slice none 0 0, .slice none 0 0] 41) = W := ⟨_, rfl⟩
  have hWz : W.heap.size = w.heap.size + 1 := by rw [← hW]; simp
  rw [hW] at hC5 hbC
  have hlit := txts_lit2 W a n 9 ha hn
  have hb0 : Below W.heap.size W (W.alloc (.cells #[.string a, .string n] 9)) := (Below.refl _ _).alloc (Nat.le_refl _) _
  have hbw := hbC.trans (hb0.mono hbC.size)
  have HFR := hid (carry_fresh vs vl _ s l o b [a, n] _ (hs.below hbw) (hl.below hbw) hlit hs1 hl1 (by simp) ho hbn)
  have HC5 := hid (hC5.below hb0)
  have HB0 := hid hbw
  have HSG := hid hs
  have HW := hid hW
  have HWZ := hid hWz
  clear hlit hb0 hl hs hC5 hbC hW hbw hWz
  go_enter Tryz.func83, Tryz.ntmps83
  go_wp2_with fail
  rw [HW.out]
  rw [← HWZ.out]
  refine HFR.out.mono ?_
  rintro e w1 ⟨u, ts, rfl, hz, hb1⟩
  have hb := HB0.out.trans (hb1.mono HB0.out.size)
  have C1 := HC5.out.below hb1
  obtain ⟨er, he⟩ : ∃ er, frI s l o b [a, n] = er := ⟨_, rfl⟩
  have HE := hid he
  rw [he] at hz ⊢
  clear he
  by_cases h0 : er = 0
  · subst h0
    obtain ⟨hg, hT⟩ := hz rfl
    obtain ⟨p, q, rfl, hp, hq⟩ := givL_two hg
    have HR : Hid (∀ y x e, DetR s p q y → ((y.2 ≠ 0 ∧ x = en0 ∧ e = y.2) ∨ (y.2 = 0 ∧ x = ⟨o, b, y.1, if a = n then [a] else [a, n], if a = n then mvP1 else mvP⟩ ∧ e = 0)) → MovR s l a n o b x e) := hid fun y x e hy hx => Or.inr ⟨HE.out, p, q, y, hp, hq, hy, hx⟩
    obtain ⟨ta, tc, rfl, tcap, -, -, TC⟩ := hT.open
    obtain ⟨tb, to, up, rfl, k0, i0⟩ := TC 0 (by simp)
    obtain ⟨tb', to', uq, he', k1, i1⟩ := TC 1 (by simp)
    obtain ⟨rfl, rfl⟩ : tb = tb' ∧ to = to' := by simpa using he'
    simp only [List.getElem_cons_zero, List.getElem_cons_succ, Nat.add_zero, List.length_cons, List.length_nil, Nat.zero_add, Nat.reduceAdd] at k0 k1 tcap i0 i1 ⊢
    have HDE := hid (fun (j : Nat) => kernel_Detach vs up uq s p q (w1.drewN j) ((HSG.out.below hb).drewN j) (i0.drewN j) (i1.drewN j) hs1)
    obtain ⟨pa, pc, rfl, -⟩ := i0.open
    obtain ⟨qa, qc, rfl, -⟩ := i1.open
    have HB := hid hb
    have hszb := hb.size
    have HC1 := hid C1
    have hRlt : w.heap.size < w1.heap.size := World.block_lt_of_cell? _ _ C1.c0
    clear hz hg hp hq TC he' hT hb1 hb i0 i1 C1 HFR HC5 HW
    go_wp2
    go_region_held3 (fun w' => w'.cell? ⟨tb, to, none⟩ = some (.slice pa p.length pc) ∧ w'.cell? ⟨tb, to + 1, none⟩ = some (.slice qa q.length qc)) (first | exact ⟨by assumption, by assumption⟩ | go_keep) (first
      | (go_at_call 187; refine (HDE.out _).mono ?_; rintro e w4 ⟨y, u, hy, rfl, hown, hb4'⟩; have hb4 : Below w1.heap.size w1 w4 := (below_self_drewN w1 _).trans hb4'; have e0 := (hb4.cell (World.block_lt_of_cell? _ _ k0)).trans k0; have e1 := (hb4.cell (World.block_lt_of_cell? _ _ k1)).trans k1))
    have HO4 : Hid (w4.ownsRow w1.heap.size 3 1 u y.1.length (y.1.map (Value.int .i64))) := hid hown
    have HB4 := hid (HB.out.trans (hb4.mono hszb))
    have C4 := HC1.out.below hb4
    have hsz4 := hb4.size
    have HY60 := hid (det_len hy)
    obtain ⟨y1, y2⟩ := y
    by_cases hy0 : y2 = 0
    · subst hy0
      obtain ⟨ya, yc, rfl⟩ := owns_slice hown
      have hlit4 := txts_lit2 w4 a n 9 ha hn
      have hba4 : Below w4.heap.size w4 (w4.alloc (.cells #[.string a, .string n] 9)) := (Below.refl _ _).alloc (Nat.le_refl _) _
      have HUS := hid (carry_used _ [a, n] _ hlit4 (by simp))
      have HBA := hid hba4
      have HCR := hid C4
      have HMV : Hid (MovR s l a n o b ⟨o, b, y1, if a = n then [a] else [a, n], if a = n then mvP1 else mvP⟩ 0) := hid (HR.out _ _ _ hy (Or.inr ⟨rfl, rfl, rfl⟩))
      clear hy hown hb4 hb4' e0 e1 k0 k1 HDE HR C4 hlit4 hba4
      go_wp2_with fail
      refine HUS.out.mono ?_
      rintro e w5 ⟨us, rfl, o5, hb5'⟩
      have hb5 : Below w4.heap.size w4 w5 := HBA.out.trans (hb5'.mono HBA.out.size)
      rw [usedL_two] at o5
      obtain ⟨ua, uc, rfl⟩ := owns_slice o5
      obtain ⟨U, hU⟩ : ∃ U, (if a = n then [a] else [a, n]) = U := ⟨_, rfl⟩
      rw [hU] at o5 HMV ⊢
      have HO5 := hid o5
      have HZ5 := hid hb5.size
      have HU := hid hU
      clear hb5' o5 hU HUS
      go_wp2_with fail
      refine (carry_cite 0 w5).mono ?_
      rintro e w6 ⟨rfl, hb6⟩
      go_wp2_with fail
      refine (carry_cite 1 w6).mono ?_
      rintro e w7 ⟨rfl, hb7⟩
      go_wp2_with fail
      refine (carry_detach 0 1 w7).mono ?_
      rintro e w8 ⟨rfl, hb8⟩
      have HST : StepsAt (w8.alloc (.cells #[.int .i64 1, .int .i64 0, .int .i64 0, .int .i64 1, .int .i64 1, .int .i64 0, .int .i64 2, .int .i64 0, .int .i64 1] 123)) (.slice (some ⟨w8.heap.size, 0, none⟩) 3 3) mvP := steps_lit (l := mvP) (by decide) rfl
      have HPR := hid (carry_proof _ mvP _ HST (by decide))
      have hb8a : Below w8.heap.size w8 (w8.alloc (.cells #[.int .i64 1, .int .i64 0, .int .i64 0, .int .i64 1, .int .i64 1, .int .i64 0, .int .i64 2, .int .i64 0, .int .i64 1] 123)) := (Below.refl _ _).alloc (Nat.le_refl _) _
      have hb58 : Below w5.heap.size w5 w8 := hb6.trans ((hb7.trans (hb8.mono hb7.size)).mono hb6.size)
      clear HST hb6 hb7 hb8
      go_wp2_with fail
      refine HPR.out.mono ?_
      rintro e w9 ⟨ps, rfl, o9, hb9'⟩
      have hb9 : Below w8.heap.size w8 w9 := hb8a.trans (hb9'.mono hb8a.size)
      have hb59 := hb58.trans (hb9.mono hb58.size)
      have hb49 := hb5.trans (hb59.mono hb5.size)
      have o9 : w9.ownsRow (w8.alloc (.cells #[.int .i64 1, .int .i64 0, .int .i64 0, .int .i64 1, .int .i64 1, .int .i64 0, .int .i64 2, .int .i64 0, .int .i64 1] 123)).heap.size 123 3 ps 3 (stC mvP) := o9
      obtain ⟨qa2, qc2, rfl⟩ := owns_slice o9
      have HZ8 := hid hb58.size
      have HO9 := hid (owns_base (b' := w5.heap.size) o9 (by have := hb8a.size; have := hb58.size; omega))
      have HB49 := hid hb49
      have HB59 := hid hb59
      clear hb9' hb9 hb8a hb58 o9 HPR hb59 hb49 hb5
      have hR9 : w.heap.size < w9.heap.size := by have := HB49.out.size; omega
      have CR9 := HCR.out.below HB49.out
      have CX := hid (C5.new w9 (.string o) (.string b) (.slice ya y1.length yc) (.slice ua U.length uc) (.slice qa2 3 qc2) 41)
      obtain ⟨WX, hWX⟩ : ∃ WX, w9.alloc (.cells #[.string o, .string b, .slice ya y1.length yc, .slice ua U.length uc, .slice qa2 3 qc2] 41) = WX := ⟨_, rfl⟩
      have hb9x : Below w9.heap.size w9 WX := hWX ▸ (Below.refl _ _).alloc (Nat.le_refl _) _
      rw [hWX] at CX
      have CRX := hid (CR9.below hb9x)
      have HCR9 := hid CR9
      have HWX := hid hWX
      have HBX := hid hb9x
      have hXR : w.heap.size ≠ w9.heap.size := by omega
      clear hWX CR9 hb9x HCR
      by_cases han : a = n
      · have q1 : (a.toList == n.toList) = true := by rw [bytes_eq]; simpa using han
        have HA := hid han
        clear han
        go_wp2_with fail
        rw [HWX.out]
        refine (carry_cite 0 WX).mono ?_
        rintro e w10 ⟨rfl, hb10⟩
        go_wp2_with fail
        refine (carry_detach 0 0 w10).mono ?_
        rintro e w11 ⟨rfl, hb11⟩
        have HST : StepsAt (w11.alloc (.cells #[.int .i64 1, .int .i64 0, .int .i64 0, .int .i64 2, .int .i64 0, .int .i64 0] 123)) (.slice (some ⟨w11.heap.size, 0, none⟩) 2 2) mvP1 := steps_lit (l := mvP1) (by decide) rfl
        have HPR := hid (carry_proof _ mvP1 _ HST (by decide))
        have hb11a : Below w11.heap.size w11 (w11.alloc (.cells #[.int .i64 1, .int .i64 0, .int .i64 0, .int .i64 2, .int .i64 0, .int .i64 0] 123)) := (Below.refl _ _).alloc (Nat.le_refl _) _
        have hbX11 : Below WX.heap.size WX w11 := hb10.trans (hb11.mono hb10.size)
        clear HST hb10 hb11
        go_wp2_with fail
        refine HPR.out.mono ?_
        rintro e w12 ⟨ps, rfl, o12, hb12'⟩
        have hb12 : Below w11.heap.size w11 w12 := hb11a.trans (hb12'.mono hb11a.size)
        have hbX12 := hbX11.trans (hb12.mono hbX11.size)
        have o12 : w12.ownsRow (w11.alloc (.cells #[.int .i64 1, .int .i64 0, .int .i64 0, .int .i64 2, .int .i64 0, .int .i64 0] 123)).heap.size 123 3 ps 2 (stC mvP1) := o12
        obtain ⟨qa3, qc3, rfl⟩ := owns_slice o12
        have hzX := HBX.out.size
        have hzX1 : w9.heap.size < WX.heap.size := World.block_lt_of_cell? _ _ CX.out.c0
        have HO12 := hid (owns_base (b' := WX.heap.size) o12 (by have := hb11a.size; have := hbX11.size; omega))
        have CX12 := CX.out.below hbX12
        have CR12 := CRX.out.below hbX12
        have CX13 := hid (CX12.set4 (.slice qa3 2 qc3))
        have HC12 := hid CR12
        have hg13 : ∀ k, k ≠ w9.heap.size → (w12.setCell ⟨w9.heap.size, 4, none⟩ (.slice qa3 2 qc3)).heap[k]? = w12.heap[k]? := fun k hk => Below.heap_setCell _ _ _ _ hk
        have CR13 := hid (CR12.block (hg13 w.heap.size hXR))
        have HG13 := hid hg13
        have HBX12 := hid hbX12
        obtain ⟨d0, d1, d2, d3, d4, y0, y1', y2', y3, y4⟩ := CX12
        obtain ⟨g0, g1, g2, g3, g4, -, -, -, -, -⟩ := CX13.out
        obtain ⟨c0, c1, c2, c3, c4, z0, z1, z2, z3, z4⟩ := CR13.out
        clear hb12' hb12 hb11a hbX11 o12 HPR hbX12 CR12 hg13
        go_wp2
        (try simp only [Exit.inBlock, Exit.then])
        clear c0 c1 c2 c3 c4 z0 z1 z2 z3 z4 d0 d1 d2 d3 d4 y0 y1' y2' y3 y4 g0 g1 g2 g3 g4
        have hR9' := hR9
        have hz12 := HBX12.out.size
        have hz4 := HB49.out.size
        have hz5 := HB59.out.size
        have hz45 := HZ5.out
        have hall : ∀ k, k ≠ w.heap.size → k < w9.heap.size → (set5 (w12.setCell ⟨w9.heap.size, 4, none⟩ (.slice qa3 2 qc3)) w.heap.size (.string o) (.string b) (.slice ya y1.length yc) (.slice ua U.length uc) (.slice qa3 2 qc3)).heap[k]? = w9.heap[k]? := fun k h1 h2 => by
          rw [heap_set5 _ _ _ _ _ _ _ h1, HG13.out k (by omega), HBX12.out.block k (by omega), HBX.out.block k h2]
        have r1 : World.ownsRow (set5 (w12.setCell ⟨w9.heap.size, 4, none⟩ (.slice qa3 2 qc3)) w.heap.size (.string o) (.string b) (.slice ya y1.length yc) (.slice ua U.length uc) (.slice qa3 2 qc3)) w.heap.size 3 1 (.slice ya y1.length yc) y1.length (y1.map (Value.int .i64)) := owns_base (owns_blocks HO4.out fun q h1 h2 _ => by rw [hall q (by omega) (by omega), HB49.out.block q h2]) (by omega)
        have r2 : World.ownsRow (set5 (w12.setCell ⟨w9.heap.size, 4, none⟩ (.slice qa3 2 qc3)) w.heap.size (.string o) (.string b) (.slice ya y1.length yc) (.slice ua U.length uc) (.slice qa3 2 qc3)) w.heap.size 9 1 (.slice ua U.length uc) U.length (U.map Value.string) := owns_base (owns_blocks HO5.out fun q h1 h2 _ => by
          have := HBA.out.size
          rw [hall q (by omega) (by omega), HB59.out.block q h2]) (by have := HBA.out.size; omega)
        have r2n : U.length ≤ 1000 ∧ ∀ x ∈ U, x.size ≤ 140737488355328 := by
          rw [← HU.out, if_pos HA.out]
          refine ⟨by simp, fun x hx => ?_⟩
          simp at hx; rw [hx]; exact ha
        have r3 : World.ownsRow (set5 (w12.setCell ⟨w9.heap.size, 4, none⟩ (.slice qa3 2 qc3)) w.heap.size (.string o) (.string b) (.slice ya y1.length yc) (.slice ua U.length uc) (.slice qa3 2 qc3)) w.heap.size 123 3 (.slice qa3 2 qc3) 2 (stC mvP1) := owns_base (owns_blocks HO12.out fun q h1 h2 _ => by rw [heap_set5 _ _ _ _ _ _ _ (by omega), HG13.out q (by omega)]) (by omega)
        have HMV1 : MovR s l a n o b ⟨o, b, y1, U, mvP1⟩ 0 := by have := HMV.out; rwa [if_pos HA.out] at this
        have hbF : Below w.heap.size w (w12.setCell ⟨w9.heap.size, 4, none⟩ (.slice qa3 2 qc3)) := (((HB4.out.trans (HB49.out.mono (by omega))).trans (HBX.out.mono (by omega))).trans (HBX12.out.mono (by omega))).setCell (p := ⟨w9.heap.size, 4, none⟩) (by show w.heap.size ≤ w9.heap.size; omega) _
        obtain ⟨c0, c1, c2, c3, c4, -, -, -, -, -⟩ := CR13.out.store (.string o) (.string b) (.slice ya y1.length yc) (.slice ua U.length uc) (.slice qa3 2 qc3)
        refine bodyPost_ret (v := .tuple #[.agg #[.string o, .string b, .slice ya y1.length yc, .slice ua U.length uc, .slice qa3 2 qc3], .int .i64 0]) ?_ rfl (EntQO.mk ⟨o, b, y1, U, mvP1⟩ (.slice ya y1.length yc) (.slice ua U.length uc) (.slice qa3 2 qc3) 0 HMV1 rfl ⟨r1, r2, r3, (by have h60 : y1.length ≤ 60 := HY60.out; show y1.length ≤ 1000; omega), r2n.1, (by simp [mvP, mvP1]), r2n.2, ho, hbn⟩ (set5_below hbF (Nat.le_refl _) _ _ _ _ _))
        unfold set5 at c0 c1 c2 c3 c4
        clear r1 r2 r2n r3 hall hbF HMV1
        simp only [results, Tryz.results83]
        go_simp
      · have q1 : (a.toList == n.toList) = false := by rw [bytes_eq]; simpa using han
        have HA := hid han
        clear han
        obtain ⟨c0, c1, c2, c3, c4, z0, z1, z2, z3, z4⟩ := HCR9.out
        go_wp2
        (try simp only [Exit.inBlock, Exit.then])
        clear c0 c1 c2 c3 c4 z0 z1 z2 z3 z4
        have hz4 := HB49.out.size
        have hz5 := HB59.out.size
        have hz45 := HZ5.out
        have hza := HBA.out.size
        have hzs : (set5 w9 w.heap.size (.string o) (.string b) (.slice ya y1.length yc) (.slice ua U.length uc) (.slice qa2 3 qc2)).heap.size = w9.heap.size := by unfold set5; simp
        obtain ⟨WF, hWF⟩ : ∃ WF, (set5 w9 w.heap.size (.string o) (.string b) (.slice ya y1.length yc) (.slice ua U.length uc) (.slice qa2 3 qc2)).alloc (.cells #[.string o, .string b, .slice ya y1.length yc, .slice ua U.length uc, .slice qa2 3 qc2] 41) = WF := ⟨_, rfl⟩
        have hall : ∀ k, k ≠ w.heap.size → k < w9.heap.size → WF.heap[k]? = w9.heap[k]? := fun k h1 h2 => by
          rw [← hWF, Below.heap_alloc _ _ _ (by rw [hzs]; exact h2), heap_set5 _ _ _ _ _ _ _ h1]
        have hb5f := set5_below (HB4.out.trans (HB49.out.mono (by omega))) (Nat.le_refl _) (.string o) (.string b) (.slice ya y1.length yc) (.slice ua U.length uc) (.slice qa2 3 qc2)
        have hbF : Below w.heap.size w WF := hWF ▸ hb5f.alloc (by rw [hzs]; omega) _
        have C5S := (HCR9.out.store (.string o) (.string b) (.slice ya y1.length yc) (.slice ua U.length uc) (.slice qa2 3 qc2)).block (w' := WF) (by rw [← hWF]; exact Below.heap_alloc _ _ _ (by rw [hzs]; omega))
        have r1 : World.ownsRow WF w.heap.size 3 1 (.slice ya y1.length yc) y1.length (y1.map (Value.int .i64)) := owns_base (owns_blocks HO4.out fun q h1 h2 _ => by rw [hall q (by omega) (by omega), HB49.out.block q h2]) (by omega)
        have r2 : World.ownsRow WF w.heap.size 9 1 (.slice ua U.length uc) U.length (U.map Value.string) := owns_base (owns_blocks HO5.out fun q h1 h2 _ => by
          have := HBA.out.size
          rw [hall q (by omega) (by omega), HB59.out.block q h2]) (by have := HBA.out.size; omega)
        have r2n : U.length ≤ 1000 ∧ ∀ x ∈ U, x.size ≤ 140737488355328 := by
          rw [← HU.out, if_neg HA.out]
          refine ⟨by simp, fun x hx => ?_⟩
          simp at hx
          rcases hx with rfl | rfl
          · exact ha
          · exact hn
        have r3 : World.ownsRow WF w.heap.size 123 3 (.slice qa2 3 qc2) 3 (stC mvP) := owns_base (owns_blocks HO9.out fun q h1 h2 _ => hall q (by omega) (by omega)) (by omega)
        have HMV1 : MovR s l a n o b ⟨o, b, y1, U, mvP⟩ 0 := by have := HMV.out; rwa [if_neg HA.out] at this
        obtain ⟨c0, c1, c2, c3, c4, -, -, -, -, -⟩ := C5S
        unfold set5 at hWF
        rw [hWF]
        refine bodyPost_ret (v := .tuple #[.agg #[.string o, .string b, .slice ya y1.length yc, .slice ua U.length uc, .slice qa2 3 qc2], .int .i64 0]) ?_ rfl (EntQO.mk ⟨o, b, y1, U, mvP⟩ (.slice ya y1.length yc) (.slice ua U.length uc) (.slice qa2 3 qc2) 0 HMV1 rfl ⟨r1, r2, r3, (by have h60 : y1.length ≤ 60 := HY60.out; show y1.length ≤ 1000; omega), r2n.1, (by simp [mvP, mvP1]), r2n.2, ho, hbn⟩ hbF)
        clear r1 r2 r2n r3 hall hbF HMV1 hb5f hWF hzs
        simp only [results, Tryz.results83]
        go_simp
    · have HX : Hid (MovR s l a n o b en0 y2) := hid (HR.out _ _ _ hy (Or.inl ⟨hy0, rfl, rfl⟩))
      have n0 : (y2 != 0) = true := by simpa using hy0
      have HC4 := hid C4
      obtain ⟨c0, c1, c2, c3, c4, z0, z1, z2, z3, z4⟩ := C4
      clear hy hown hb4 hb4' e0 e1 k0 k1 HDE HR hy0
      go_wp2
      (try simp only [Exit.inBlock, Exit.then])
      clear c0 c1 c2 c3 c4 z0 z1 z2 z3 z4
      obtain ⟨c0, c1, c2, c3, c4, -, -, -, -, -⟩ := HC4.out.store (.string ⟨#[]⟩) (.string ⟨#[]⟩) (.slice none 0 0) (.slice none 0 0) (.slice none 0 0)
      refine bodyPost_ret (v := .tuple #[.agg #[.string ⟨#[]⟩, .string ⟨#[]⟩, .slice none 0 0, .slice none 0 0, .slice none 0 0], .int .i64 y2]) ?_ rfl (EntQO.zero HX.out (set5_below HB4.out (Nat.le_refl _) _ _ _ _ _))
      unfold set5 at c0 c1 c2 c3 c4
      simp only [results, Tryz.results83]
      go_simp
  · have HX : Hid (MovR s l a n o b en0 er) := hid (Or.inl ⟨by rw [HE.out]; exact h0, rfl, HE.out.symm⟩)
    have n0 : (er != 0) = true := by simpa using h0
    have HC1 := hid C1
    obtain ⟨c0, c1, c2, c3, c4, z0, z1, z2, z3, z4⟩ := C1
    clear hz h0
    go_wp2
    (try simp only [Exit.inBlock, Exit.then])
    clear c0 c1 c2 c3 c4 z0 z1 z2 z3 z4
    obtain ⟨c0, c1, c2, c3, c4, -, -, -, -, -⟩ := HC1.out.store (.string ⟨#[]⟩) (.string ⟨#[]⟩) (.slice none 0 0) (.slice none 0 0) (.slice none 0 0)
    refine bodyPost_ret (v := .tuple #[.agg #[.string ⟨#[]⟩, .string ⟨#[]⟩, .slice none 0 0, .slice none 0 0, .slice none 0 0], .int .i64 er]) ?_ rfl (EntQO.zero HX.out (set5_below hb (Nat.le_refl _) _ _ _ _ _))
    unfold set5 at c0 c1 c2 c3 c4
    simp only [results, Tryz.results83]
    go_simp
end Go.Proofs.YtalodmochkodiaaGreat
