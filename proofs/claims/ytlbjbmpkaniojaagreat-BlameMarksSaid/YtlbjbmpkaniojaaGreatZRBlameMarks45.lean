/-
  WHAT IT HOLDS: contracts of Marks and Blame of the reference of layer 9. Conditions: the argument reads as data; the kinds are those of changes. Printed by wip/gen_mk.py.
-/
import Derived.Deep.RegionLaw
import Derived.BigQuiet
import Derived.Test.YtlbjbmpkaniojaaGreatZRBlameMarks35
import Derived.Test.YtlbjbmpkaniojaaGreatZRBlameMarks40
import Derived.Test.YtlbjbmpkaniojaaGreatZRBlameMarks42
import Derived.Test.YtlbjbmpkaniojaaGreatZRBlameMarks44
namespace Go.Proofs.YtlbjbmpkaniojaaGreat
open Go Go.RowKit Go.Maps
theorem fm_take {o : List Mk} {c : Chg} {j : Nat} (h : j < o.length) : (o.take (j + 1)).filterMap (mk1 c) = (o.take j).filterMap (mk1 c) ++ (mk1 c o[j]).toList := by
  rw [List.take_succ_eq_append_getElem h, List.filterMap_append]
  cases hm : mk1 c o[j] <;> simp [hm]
theorem sets3 (w : World) (g o : Nat) (a b c : Value) : (((w.setCell ⟨g, o, none⟩ a).setCell ⟨g, o + 1, none⟩ b).setCell ⟨g, o + 2, none⟩ c) = w.setCells g o [a, b, c] := rfl
theorem mark_size3 : (Tryz.prog.info? 63).map (·.size) = some 3 := by kernel_rfl
theorem mkC_app (l m : List Mk) : mkC (l ++ m) = mkC l ++ mkC m := by unfold mkC; rw [List.flatMap_append]
theorem mkC_one (l : List Mk) : ∀ u ∈ mkC l, u.oneCell' = true := by
  intro u hu
  obtain ⟨p, -, hp⟩ := List.mem_flatMap.1 hu
  simp [encM] at hp
  rcases hp with rfl | rfl | rfl <;> rfl
/-- the cells of a mark of a growing row. -/
theorem mk_at {w : World} {base g n cap : Nat} {o : List Mk} (h : w.ownsRow base 63 3 (.slice (some ⟨g, 0, none⟩) n cap) n (mkC o)) (hn : n = o.length) {j : Nat} (hj : j < o.length) :
    w.cell? ⟨g, j * 3, none⟩ = some (.string o[j].1) ∧ w.cell? ⟨g, j * 3 + 1, none⟩ = some (.string o[j].2.1) ∧ w.cell? ⟨g, j * 3 + 2, none⟩ = some (.string o[j].2.2) := by
  subst hn
  have key : ∀ r, r < 3 → w.cell? ⟨g, j * 3 + r, none⟩ = (encM o[j])[r]? := fun r hr => by rw [h.cellAt (j * 3 + r) (by omega)]; exact mkC_get o j hj r hr
  exact ⟨key 0 (by omega), key 1 (by omega), key 2 (by omega)⟩
theorem cellB {w w' : World} {p : Addr} {v : Value} (h : w.cell? p = some v) (hb : Below w.heap.size w w') : w'.cell? p = some v := (hb.cell (World.block_lt_of_cell? _ _ h)).trans h
set_option maxHeartbeats 8000000 in
set_option maxRecDepth 100000 in
theorem ref9_Marks (vc : Value) (cs : List Chg) (w : World) (hc : ChsAt w vc cs) (hk : ∀ c ∈ cs, c.kind = 1 ∨ c.kind = 2 ∨ c.kind = 3 ∨ c.kind = 4) (hl1 : cs.length ≤ 1000) :
    Calls Tryz.prog 92 #[vc] w fun e w' => ∃ u, e = .returned u ∧ MksAt w' u (srMk (mkAll cs)) ∧ Below w.heap.size w w' := by
  obtain ⟨ca, cc, rfl, -, hcl, -, ZC⟩ := hc.open
  have HZC := hid ZC
  have HKD := hid hk
  have h00 := hid (World.ownsRow_nil w w.heap.size 63 3)
  clear ZC hc hk
  go_enter Tryz.func92, Tryz.ntmps92
  go_wp2
  go_loopw [3, 4] (fun uo kv wr => ∃ (k m : Nat) (O : List Mk), k ≤ cs.length ∧ kv = .int .i64 k ∧ O = mkAll (cs.take k) ∧ m = O.length ∧ m ≤ k ∧ wr.ownsRow w.heap.size 63 3 uo m (mkC O) ∧ Below w.heap.size w wr) (fun _ kv _ => cs.length - (intOf kv).toNat)
  case atStart => exact ⟨0, 0, [], by omega, rfl, rfl, rfl, by omega, h00.out, Below.refl _ _⟩
  case round =>
    clear h00
    obtain ⟨k, m, O, hk, rfl, hO, hm, hmk, hown, hb⟩ := hrel
    have hsz := hb.size
    by_cases hlt : k < cs.length
    · obtain ⟨cb, co, vS, vU, vP, rfl, z0, z1, z2, z3, z4, -, -, -, -, -⟩ := HZC.out k hlt
      have hkk := HKD.out _ (List.getElem_mem hlt)
      have hst := mkAll_take hlt
      rw [← hO] at hst
      have hml : (mkStep O cs[k]).length ≤ m + 1 := by have := mkStep_len O cs[k]; omega
      obtain ⟨⟨kd, cw, cn, cm, ce⟩, hcx⟩ : ∃ c, cs[k] = c := ⟨_, rfl⟩
      rw [hcx] at z0 z1 z2 z3 z4 hkk hst hml
      dsimp only at z0 z1 z2 z3 z4 hkk
      have HST := hid hst
      have HML := hid hml
      have HMO := hid hm
      have HDK := hid (fun (X : World) (hX : Below w.heap.size w X) => (And.intro (cellB z0 hX) (And.intro (cellB z1 hX) (And.intro (cellB z2 hX) (And.intro (cellB z3 hX) (cellB z4 hX))))))
      obtain ⟨ua, uc, rfl⟩ := owns_slice hown
      have HOWN := hid hown
      have HB := hid hb
      have y0 : (k : Int) < (cs.length : Int) := by omega
      clear z0 z1 z2 z3 z4 hst hml hcx hO hm hown hb
      obtain ⟨wa, hwa⟩ : ∃ wa : World, wa = wr := ⟨_, rfl⟩
      subst hwa
      have h00 := hid (World.ownsRow_nil wa wa.heap.size 63 3)
      go_wp2
      go_loopw [5, 6] (fun un jv wy => ∃ (j n : Nat) (N : List Mk), j ≤ m ∧ jv = .int .i64 j ∧ N = (O.take j).filterMap (mk1 ⟨kd, cw, cn, cm, ce⟩) ∧ n = N.length ∧ n ≤ j ∧ wy.ownsRow wa.heap.size 63 3 un n (mkC N) ∧ Below wa.heap.size wa wy) (fun _ jv _ => m - (intOf jv).toNat)
      case atStart => exact ⟨0, 0, [], by omega, rfl, rfl, rfl, by omega, h00.out, Below.refl _ _⟩
      case round =>
        clear h00
        obtain ⟨j, n, N, hj, rfl, hN, hn, hnj, hown, hb⟩ := hrel
        have hsy := hb.size
        have HBY := hid hb
        have HBW := hid (HB.out.trans (hb.mono hsz))
        by_cases hjm : j < m
        · have hjO : j < O.length := by have := HMO.out; omega
          have htop := owns_below HOWN.out hb
          obtain ⟨g0, cap0, he0, -, -⟩ := owns_some htop (by omega)
          obtain ⟨rfl, -, rfl⟩ := Value.slice.inj he0
          obtain ⟨o0, o1, o2⟩ := mk_at htop HMO.out hjO
          have hft := fm_take (c := ⟨kd, cw, cn, cm, ce⟩) hjO
          rw [← hN] at hft
          obtain ⟨⟨x, f, l⟩, hx⟩ : ∃ x, O[j] = x := ⟨_, rfl⟩
          rw [hx] at o0 o1 o2 hft
          dsimp only at o0 o1 o2
          have HFT := hid hft
          have HNN := hid hn
          obtain ⟨na, nc, rfl⟩ := owns_slice hown
          have HON := hid hown
          have hBX := BX.new wr [.string x, .string f, .string l] 63
          obtain ⟨W, hW⟩ : ∃ W, wr.alloc (.cells #[.string x, .string f, .string l] 63) = W := ⟨_, rfl⟩
          have hW' : wr.alloc (.cells ([.string x, .string f, .string l] : List Value).toArray 63) = W := hW
          rw [hW'] at hBX
          have hbW : Below wr.heap.size wr W := hW ▸ (Below.refl _ _).alloc (Nat.le_refl _) _
          have HBX := hid hBX
          have HWW := hid hW
          have HBR := hid hbW
          have HF := hid (fun (X : World) (hX : Below W.heap.size W X) => (And.intro (HBX.out.below (by simp) hX) (HDK.out X (HBW.out.trans ((HBR.out.trans (hX.mono HBR.out.size)).mono (Nat.le_trans hsz hsy))))))
          have hwW := HBR.out.size
          clear hN hn hx hft hown hb htop he0 hBX hW hW' hbW
          obtain ⟨hbx, d0, d1, d2, d3, d4⟩ := HF.out W (Below.refl _ _)
          have x0 : W.cell? ⟨wr.heap.size, 0, none⟩ = some (.string x) := hbx.c 0 (by simp)
          have x1 : W.cell? ⟨wr.heap.size, 1, none⟩ = some (.string f) := hbx.c 1 (by simp)
          have x2 : W.cell? ⟨wr.heap.size, 2, none⟩ = some (.string l) := hbx.c 2 (by simp)
          clear hbx
          rcases hkk with rfl | rfl | rfl | rfl
          · have HM1 : Hid (mk1 ⟨1, cw, cn, cm, ce⟩ (x, f, l) = some (x, f, l)) := hid (by unfold mk1; simp)
            go_wp2_with (rw [HWW.out])
            go_quiet (fail)
            have hbn := below_self_drewN W nq
            obtain ⟨Wa, hwq⟩ : ∃ X, W.drewN nq = X := ⟨_, rfl⟩
            rw [hwq] at hbn ⊢
            have HBWa := hid (hbn)
            clear hbn hwq d0 d1 d2 d3 d4 x0 x1 x2
            obtain ⟨hbx, d0, d1, d2, d3, d4⟩ := HF.out Wa HBWa.out
            have x0 : Wa.cell? ⟨wr.heap.size, 0, none⟩ = some (.string x) := hbx.c 0 (by simp)
            have x1 : Wa.cell? ⟨wr.heap.size, 1, none⟩ = some (.string f) := hbx.c 1 (by simp)
            have x2 : Wa.cell? ⟨wr.heap.size, 2, none⟩ = some (.string l) := hbx.c 2 (by simp)
            have f0 : Wa.frozen? ⟨wr.heap.size, 0, none⟩ = false := hbx.z 0
            have f2 : Wa.frozen? ⟨wr.heap.size, 2, none⟩ = false := hbx.z 2
            clear hbx
            go_wp2
            go_quiet (fail)
            have hbn := below_self_drewN Wa nq
            obtain ⟨Wb, hwq⟩ : ∃ X, Wa.drewN nq = X := ⟨_, rfl⟩
            rw [hwq] at hbn ⊢
            have HBWb := hid (HBWa.out.trans (hbn.mono HBWa.out.size))
            clear hbn hwq d0 d1 d2 d3 d4 x0 x1 x2
            obtain ⟨hbx, d0, d1, d2, d3, d4⟩ := HF.out Wb HBWb.out
            have x0 : Wb.cell? ⟨wr.heap.size, 0, none⟩ = some (.string x) := hbx.c 0 (by simp)
            have x1 : Wb.cell? ⟨wr.heap.size, 1, none⟩ = some (.string f) := hbx.c 1 (by simp)
            have x2 : Wb.cell? ⟨wr.heap.size, 2, none⟩ = some (.string l) := hbx.c 2 (by simp)
            have f0 : Wb.frozen? ⟨wr.heap.size, 0, none⟩ = false := hbx.z 0
            have f2 : Wb.frozen? ⟨wr.heap.size, 2, none⟩ = false := hbx.z 2
            clear hbx
            go_wp2
            go_quiet (fail)
            have hbn := below_self_drewN Wb nq
            obtain ⟨Wc, hwq⟩ : ∃ X, Wb.drewN nq = X := ⟨_, rfl⟩
            rw [hwq] at hbn ⊢
            have HBWc := hid (HBWb.out.trans (hbn.mono HBWb.out.size))
            clear hbn hwq d0 d1 d2 d3 d4 x0 x1 x2
            obtain ⟨hbx, d0, d1, d2, d3, d4⟩ := HF.out Wc HBWc.out
            have x0 : Wc.cell? ⟨wr.heap.size, 0, none⟩ = some (.string x) := hbx.c 0 (by simp)
            have x1 : Wc.cell? ⟨wr.heap.size, 1, none⟩ = some (.string f) := hbx.c 1 (by simp)
            have x2 : Wc.cell? ⟨wr.heap.size, 2, none⟩ = some (.string l) := hbx.c 2 (by simp)
            have f0 : Wc.frozen? ⟨wr.heap.size, 0, none⟩ = false := hbx.z 0
            have f2 : Wc.frozen? ⟨wr.heap.size, 2, none⟩ = false := hbx.z 2
            clear hbx
            have hbY : Below wr.heap.size wr Wc := HBR.out.trans (HBWc.out.mono HBR.out.size)
            have HBYY := hid hbY
            have hownA := (owns_below HON.out hbY).alloc (.cells #[.string x, .string f, .string l] 63)
            have HROW := hid (row_one_mk Wc (.string x) (.string f) (.string l) 63)
            have hzY : wa.heap.size ≤ Wc.heap.size := Nat.le_trans hsy hbY.size
            clear hbY
            go_wp2_with (at_builtin; (refine wpList_append_lie rfl _ _ 59 rfl wa.heap.size 63 el_mark Tryz.underlying59 rfl (by decide) _ n (mkC N) rfl hownA _ 1 (encM (x, f, l)) rfl HROW.out (fun u hu => by simp [encM] at hu; rcases hu with rfl | rfl | rfl <;> rfl) (by omega) (by omega) (by omega) (by simp; omega) _ rfl ?_; intro g8 cap8 w8 hown8 hgrow8 hat8 hlt8))
            clear x0 x1 x2 d0 d1 d2 d3 d4
            go_roundw
            case rel =>
              have hbA : Below Wc.heap.size Wc (Wc.alloc (.cells #[.string x, .string f, .string l] 63)) := (Below.refl _ _).alloc (Nat.le_refl _) _
              have hb1 := HBY.out.trans ((HBYY.out.trans (hbA.mono HBYY.out.size)).mono hsy)
              refine ⟨j + 1, n + 1, N ++ [(x, f, l)], by omega, by go_num, ?_, by simp [HNN.out], by omega, by rw [mkC_snoc]; simpa using hown8, hb1.grown hgrow8 hb1.size (fun q hq => (HON.out.lt q hq).1)⟩
              rw [HFT.out, HM1.out]; rfl
            case measure => simp [intOf]; omega
          · by_cases he : x = ce.name
            · have HM1 : Hid (mk1 ⟨2, cw, cn, cm, ce⟩ (x, f, l) = some (x, f, cw)) := hid (by unfold mk1; simp [he])
              have t1 : (x.toList == ce.name.toList) = true := by rw [bytes_eq]; simpa using he
              clear he
              go_wp2_with (rw [HWW.out])
              go_quiet (fail)
              have hbn := below_self_drewN W nq
              obtain ⟨Wa, hwq⟩ : ∃ X, W.drewN nq = X := ⟨_, rfl⟩
              rw [hwq] at hbn ⊢
              have HBWa := hid (hbn)
              clear hbn hwq d0 d1 d2 d3 d4 x0 x1 x2
              obtain ⟨hbx, d0, d1, d2, d3, d4⟩ := HF.out Wa HBWa.out
              have x0 : Wa.cell? ⟨wr.heap.size, 0, none⟩ = some (.string x) := hbx.c 0 (by simp)
              have x1 : Wa.cell? ⟨wr.heap.size, 1, none⟩ = some (.string f) := hbx.c 1 (by simp)
              have x2 : Wa.cell? ⟨wr.heap.size, 2, none⟩ = some (.string l) := hbx.c 2 (by simp)
              have f0 : Wa.frozen? ⟨wr.heap.size, 0, none⟩ = false := hbx.z 0
              have f2 : Wa.frozen? ⟨wr.heap.size, 2, none⟩ = false := hbx.z 2
              clear hbx
              go_wp2
              go_quiet (fail)
              have hbn := below_self_drewN Wa nq
              obtain ⟨Wb, hwq⟩ : ∃ X, Wa.drewN nq = X := ⟨_, rfl⟩
              rw [hwq] at hbn ⊢
              have HBWb := hid (HBWa.out.trans (hbn.mono HBWa.out.size))
              clear hbn hwq d0 d1 d2 d3 d4 x0 x1 x2
              obtain ⟨hbx, d0, d1, d2, d3, d4⟩ := HF.out Wb HBWb.out
              have x0 : Wb.cell? ⟨wr.heap.size, 0, none⟩ = some (.string x) := hbx.c 0 (by simp)
              have x1 : Wb.cell? ⟨wr.heap.size, 1, none⟩ = some (.string f) := hbx.c 1 (by simp)
              have x2 : Wb.cell? ⟨wr.heap.size, 2, none⟩ = some (.string l) := hbx.c 2 (by simp)
              have f0 : Wb.frozen? ⟨wr.heap.size, 0, none⟩ = false := hbx.z 0
              have f2 : Wb.frozen? ⟨wr.heap.size, 2, none⟩ = false := hbx.z 2
              clear hbx
              go_wp2
              go_quiet (fail)
              have hbn := below_self_drewN Wb nq
              obtain ⟨Wc, hwq⟩ : ∃ X, Wb.drewN nq = X := ⟨_, rfl⟩
              rw [hwq] at hbn ⊢
              have HBWc := hid (HBWb.out.trans (hbn.mono HBWb.out.size))
              clear hbn hwq d0 d1 d2 d3 d4 x0 x1 x2
              obtain ⟨hbx, d0, d1, d2, d3, d4⟩ := HF.out Wc HBWc.out
              have x0 : Wc.cell? ⟨wr.heap.size, 0, none⟩ = some (.string x) := hbx.c 0 (by simp)
              have x1 : Wc.cell? ⟨wr.heap.size, 1, none⟩ = some (.string f) := hbx.c 1 (by simp)
              have x2 : Wc.cell? ⟨wr.heap.size, 2, none⟩ = some (.string l) := hbx.c 2 (by simp)
              have f0 : Wc.frozen? ⟨wr.heap.size, 0, none⟩ = false := hbx.z 0
              have f2 : Wc.frozen? ⟨wr.heap.size, 2, none⟩ = false := hbx.z 2
              clear hbx
              obtain ⟨Wd, hWd⟩ : ∃ Wd, Wc.setCell ⟨wr.heap.size, 2, none⟩ (.string cw) = Wd := ⟨_, rfl⟩
              have y0 : Wd.cell? ⟨wr.heap.size, 0, none⟩ = some (.string x) := by rw [← hWd]; exact (World.cell?_setCell_other Wc ⟨wr.heap.size, 2, none⟩ ⟨wr.heap.size, 0, none⟩ _ (by simp)).trans x0
              have y1 : Wd.cell? ⟨wr.heap.size, 1, none⟩ = some (.string f) := by rw [← hWd]; exact (World.cell?_setCell_other Wc ⟨wr.heap.size, 2, none⟩ ⟨wr.heap.size, 1, none⟩ _ (by simp)).trans x1
              have y2 : Wd.cell? ⟨wr.heap.size, 2, none⟩ = some (.string cw) := by rw [← hWd]; exact World.cell?_setCell_same' _ _ _ (by rw [x2]; rfl)
              have HBWd := hid (show Below wr.heap.size wr Wd from hWd ▸ (HBR.out.trans (HBWc.out.mono HBR.out.size)).setCell (p := ⟨wr.heap.size, 2, none⟩) (Nat.le_refl _) _)
              have HWd := hid hWd
              have x0 := y0
              have x1 := y1
              have x2 := y2
              clear hWd
              have hbY : Below wr.heap.size wr Wd := HBWd.out
              have HBYY := hid hbY
              have hownA := (owns_below HON.out hbY).alloc (.cells #[.string x, .string f, .string cw] 63)
              have HROW := hid (row_one_mk Wd (.string x) (.string f) (.string cw) 63)
              have hzY : wa.heap.size ≤ Wd.heap.size := Nat.le_trans hsy hbY.size
              clear hbY
              go_wp2_with (first | rw [HWd.out] | at_builtin; (refine wpList_append_lie rfl _ _ 59 rfl wa.heap.size 63 el_mark Tryz.underlying59 rfl (by decide) _ n (mkC N) rfl hownA _ 1 (encM (x, f, cw)) rfl HROW.out (fun u hu => by simp [encM] at hu; rcases hu with rfl | rfl | rfl <;> rfl) (by omega) (by omega) (by omega) (by simp; omega) _ rfl ?_; intro g8 cap8 w8 hown8 hgrow8 hat8 hlt8))
              clear x0 x1 x2 d0 d1 d2 d3 d4
              go_roundw
              case rel =>
                have hbA : Below Wd.heap.size Wd (Wd.alloc (.cells #[.string x, .string f, .string cw] 63)) := (Below.refl _ _).alloc (Nat.le_refl _) _
                have hb1 := HBY.out.trans ((HBYY.out.trans (hbA.mono HBYY.out.size)).mono hsy)
                refine ⟨j + 1, n + 1, N ++ [(x, f, cw)], by omega, by go_num, ?_, by simp [HNN.out], by omega, by rw [mkC_snoc]; simpa using hown8, hb1.grown hgrow8 hb1.size (fun q hq => (HON.out.lt q hq).1)⟩
                rw [HFT.out, HM1.out]; rfl
              case measure => simp [intOf]; omega
            · have HM1 : Hid (mk1 ⟨2, cw, cn, cm, ce⟩ (x, f, l) = some (x, f, l)) := hid (by unfold mk1; simp [he])
              have t1 : (x.toList == ce.name.toList) = false := by rw [bytes_eq]; simpa using he
              clear he
              go_wp2_with (rw [HWW.out])
              go_quiet (fail)
              have hbn := below_self_drewN W nq
              obtain ⟨Wa, hwq⟩ : ∃ X, W.drewN nq = X := ⟨_, rfl⟩
              rw [hwq] at hbn ⊢
              have HBWa := hid (hbn)
              clear hbn hwq d0 d1 d2 d3 d4 x0 x1 x2
              obtain ⟨hbx, d0, d1, d2, d3, d4⟩ := HF.out Wa HBWa.out
              have x0 : Wa.cell? ⟨wr.heap.size, 0, none⟩ = some (.string x) := hbx.c 0 (by simp)
              have x1 : Wa.cell? ⟨wr.heap.size, 1, none⟩ = some (.string f) := hbx.c 1 (by simp)
              have x2 : Wa.cell? ⟨wr.heap.size, 2, none⟩ = some (.string l) := hbx.c 2 (by simp)
              have f0 : Wa.frozen? ⟨wr.heap.size, 0, none⟩ = false := hbx.z 0
              have f2 : Wa.frozen? ⟨wr.heap.size, 2, none⟩ = false := hbx.z 2
              clear hbx
              go_wp2
              go_quiet (fail)
              have hbn := below_self_drewN Wa nq
              obtain ⟨Wb, hwq⟩ : ∃ X, Wa.drewN nq = X := ⟨_, rfl⟩
              rw [hwq] at hbn ⊢
              have HBWb := hid (HBWa.out.trans (hbn.mono HBWa.out.size))
              clear hbn hwq d0 d1 d2 d3 d4 x0 x1 x2
              obtain ⟨hbx, d0, d1, d2, d3, d4⟩ := HF.out Wb HBWb.out
              have x0 : Wb.cell? ⟨wr.heap.size, 0, none⟩ = some (.string x) := hbx.c 0 (by simp)
              have x1 : Wb.cell? ⟨wr.heap.size, 1, none⟩ = some (.string f) := hbx.c 1 (by simp)
              have x2 : Wb.cell? ⟨wr.heap.size, 2, none⟩ = some (.string l) := hbx.c 2 (by simp)
              have f0 : Wb.frozen? ⟨wr.heap.size, 0, none⟩ = false := hbx.z 0
              have f2 : Wb.frozen? ⟨wr.heap.size, 2, none⟩ = false := hbx.z 2
              clear hbx
              go_wp2
              go_quiet (fail)
              have hbn := below_self_drewN Wb nq
              obtain ⟨Wc, hwq⟩ : ∃ X, Wb.drewN nq = X := ⟨_, rfl⟩
              rw [hwq] at hbn ⊢
              have HBWc := hid (HBWb.out.trans (hbn.mono HBWb.out.size))
              clear hbn hwq d0 d1 d2 d3 d4 x0 x1 x2
              obtain ⟨hbx, d0, d1, d2, d3, d4⟩ := HF.out Wc HBWc.out
              have x0 : Wc.cell? ⟨wr.heap.size, 0, none⟩ = some (.string x) := hbx.c 0 (by simp)
              have x1 : Wc.cell? ⟨wr.heap.size, 1, none⟩ = some (.string f) := hbx.c 1 (by simp)
              have x2 : Wc.cell? ⟨wr.heap.size, 2, none⟩ = some (.string l) := hbx.c 2 (by simp)
              have f0 : Wc.frozen? ⟨wr.heap.size, 0, none⟩ = false := hbx.z 0
              have f2 : Wc.frozen? ⟨wr.heap.size, 2, none⟩ = false := hbx.z 2
              clear hbx
              have hbY : Below wr.heap.size wr Wc := HBR.out.trans (HBWc.out.mono HBR.out.size)
              have HBYY := hid hbY
              have hownA := (owns_below HON.out hbY).alloc (.cells #[.string x, .string f, .string l] 63)
              have HROW := hid (row_one_mk Wc (.string x) (.string f) (.string l) 63)
              have hzY : wa.heap.size ≤ Wc.heap.size := Nat.le_trans hsy hbY.size
              clear hbY
              go_wp2_with (at_builtin; (refine wpList_append_lie rfl _ _ 59 rfl wa.heap.size 63 el_mark Tryz.underlying59 rfl (by decide) _ n (mkC N) rfl hownA _ 1 (encM (x, f, l)) rfl HROW.out (fun u hu => by simp [encM] at hu; rcases hu with rfl | rfl | rfl <;> rfl) (by omega) (by omega) (by omega) (by simp; omega) _ rfl ?_; intro g8 cap8 w8 hown8 hgrow8 hat8 hlt8))
              clear x0 x1 x2 d0 d1 d2 d3 d4
              go_roundw
              case rel =>
                have hbA : Below Wc.heap.size Wc (Wc.alloc (.cells #[.string x, .string f, .string l] 63)) := (Below.refl _ _).alloc (Nat.le_refl _) _
                have hb1 := HBY.out.trans ((HBYY.out.trans (hbA.mono HBYY.out.size)).mono hsy)
                refine ⟨j + 1, n + 1, N ++ [(x, f, l)], by omega, by go_num, ?_, by simp [HNN.out], by omega, by rw [mkC_snoc]; simpa using hown8, hb1.grown hgrow8 hb1.size (fun q hq => (HON.out.lt q hq).1)⟩
                rw [HFT.out, HM1.out]; rfl
              case measure => simp [intOf]; omega
          · by_cases he : x = cn
            · have HM1 : Hid (mk1 ⟨3, cw, cn, cm, ce⟩ (x, f, l) = some (cm, f, l)) := hid (by unfold mk1; simp [he])
              have t1 : (x.toList == cn.toList) = true := by rw [bytes_eq]; simpa using he
              clear he
              go_wp2_with (rw [HWW.out])
              go_quiet (fail)
              have hbn := below_self_drewN W nq
              obtain ⟨Wa, hwq⟩ : ∃ X, W.drewN nq = X := ⟨_, rfl⟩
              rw [hwq] at hbn ⊢
              have HBWa := hid (hbn)
              clear hbn hwq d0 d1 d2 d3 d4 x0 x1 x2
              obtain ⟨hbx, d0, d1, d2, d3, d4⟩ := HF.out Wa HBWa.out
              have x0 : Wa.cell? ⟨wr.heap.size, 0, none⟩ = some (.string x) := hbx.c 0 (by simp)
              have x1 : Wa.cell? ⟨wr.heap.size, 1, none⟩ = some (.string f) := hbx.c 1 (by simp)
              have x2 : Wa.cell? ⟨wr.heap.size, 2, none⟩ = some (.string l) := hbx.c 2 (by simp)
              have f0 : Wa.frozen? ⟨wr.heap.size, 0, none⟩ = false := hbx.z 0
              have f2 : Wa.frozen? ⟨wr.heap.size, 2, none⟩ = false := hbx.z 2
              clear hbx
              go_wp2
              go_quiet (fail)
              have hbn := below_self_drewN Wa nq
              obtain ⟨Wb, hwq⟩ : ∃ X, Wa.drewN nq = X := ⟨_, rfl⟩
              rw [hwq] at hbn ⊢
              have HBWb := hid (HBWa.out.trans (hbn.mono HBWa.out.size))
              clear hbn hwq d0 d1 d2 d3 d4 x0 x1 x2
              obtain ⟨hbx, d0, d1, d2, d3, d4⟩ := HF.out Wb HBWb.out
              have x0 : Wb.cell? ⟨wr.heap.size, 0, none⟩ = some (.string x) := hbx.c 0 (by simp)
              have x1 : Wb.cell? ⟨wr.heap.size, 1, none⟩ = some (.string f) := hbx.c 1 (by simp)
              have x2 : Wb.cell? ⟨wr.heap.size, 2, none⟩ = some (.string l) := hbx.c 2 (by simp)
              have f0 : Wb.frozen? ⟨wr.heap.size, 0, none⟩ = false := hbx.z 0
              have f2 : Wb.frozen? ⟨wr.heap.size, 2, none⟩ = false := hbx.z 2
              clear hbx
              obtain ⟨Wd, hWd⟩ : ∃ Wd, Wb.setCell ⟨wr.heap.size, 0, none⟩ (.string cm) = Wd := ⟨_, rfl⟩
              have y1 : Wd.cell? ⟨wr.heap.size, 1, none⟩ = some (.string f) := by rw [← hWd]; exact (World.cell?_setCell_other Wb ⟨wr.heap.size, 0, none⟩ ⟨wr.heap.size, 1, none⟩ _ (by simp)).trans x1
              have y2 : Wd.cell? ⟨wr.heap.size, 2, none⟩ = some (.string l) := by rw [← hWd]; exact (World.cell?_setCell_other Wb ⟨wr.heap.size, 0, none⟩ ⟨wr.heap.size, 2, none⟩ _ (by simp)).trans x2
              have y0 : Wd.cell? ⟨wr.heap.size, 0, none⟩ = some (.string cm) := by rw [← hWd]; exact World.cell?_setCell_same' _ _ _ (by rw [x0]; rfl)
              have HBWd := hid (show Below wr.heap.size wr Wd from hWd ▸ (HBR.out.trans (HBWb.out.mono HBR.out.size)).setCell (p := ⟨wr.heap.size, 0, none⟩) (Nat.le_refl _) _)
              have HWd := hid hWd
              clear hWd
              have hbY : Below wr.heap.size wr Wd := HBWd.out
              have HBYY := hid hbY
              have hownA := (owns_below HON.out hbY).alloc (.cells #[.string cm, .string f, .string l] 63)
              have HROW := hid (row_one_mk Wd (.string cm) (.string f) (.string l) 63)
              have hzY : wa.heap.size ≤ Wd.heap.size := Nat.le_trans hsy hbY.size
              clear hbY
              go_wp2_with (first | rw [HWd.out] | at_builtin; (refine wpList_append_lie rfl _ _ 59 rfl wa.heap.size 63 el_mark Tryz.underlying59 rfl (by decide) _ n (mkC N) rfl hownA _ 1 (encM (cm, f, l)) rfl HROW.out (fun u hu => by simp [encM] at hu; rcases hu with rfl | rfl | rfl <;> rfl) (by omega) (by omega) (by omega) (by simp; omega) _ rfl ?_; intro g8 cap8 w8 hown8 hgrow8 hat8 hlt8))
              clear x0 x1 x2 d0 d1 d2 d3 d4
              go_roundw
              case rel =>
                have hbA : Below Wd.heap.size Wd (Wd.alloc (.cells #[.string cm, .string f, .string l] 63)) := (Below.refl _ _).alloc (Nat.le_refl _) _
                have hb1 := HBY.out.trans ((HBYY.out.trans (hbA.mono HBYY.out.size)).mono hsy)
                refine ⟨j + 1, n + 1, N ++ [(cm, f, l)], by omega, by go_num, ?_, by simp [HNN.out], by omega, by rw [mkC_snoc]; simpa using hown8, hb1.grown hgrow8 hb1.size (fun q hq => (HON.out.lt q hq).1)⟩
                rw [HFT.out, HM1.out]; rfl
              case measure => simp [intOf]; omega
            · have HM1 : Hid (mk1 ⟨3, cw, cn, cm, ce⟩ (x, f, l) = some (x, f, l)) := hid (by unfold mk1; simp [he])
              have t1 : (x.toList == cn.toList) = false := by rw [bytes_eq]; simpa using he
              clear he
              go_wp2_with (rw [HWW.out])
              go_quiet (fail)
              have hbn := below_self_drewN W nq
              obtain ⟨Wa, hwq⟩ : ∃ X, W.drewN nq = X := ⟨_, rfl⟩
              rw [hwq] at hbn ⊢
              have HBWa := hid (hbn)
              clear hbn hwq d0 d1 d2 d3 d4 x0 x1 x2
              obtain ⟨hbx, d0, d1, d2, d3, d4⟩ := HF.out Wa HBWa.out
              have x0 : Wa.cell? ⟨wr.heap.size, 0, none⟩ = some (.string x) := hbx.c 0 (by simp)
              have x1 : Wa.cell? ⟨wr.heap.size, 1, none⟩ = some (.string f) := hbx.c 1 (by simp)
              have x2 : Wa.cell? ⟨wr.heap.size, 2, none⟩ = some (.string l) := hbx.c 2 (by simp)
              have f0 : Wa.frozen? ⟨wr.heap.size, 0, none⟩ = false := hbx.z 0
              have f2 : Wa.frozen? ⟨wr.heap.size, 2, none⟩ = false := hbx.z 2
              clear hbx
              go_wp2
              go_quiet (fail)
              have hbn := below_self_drewN Wa nq
              obtain ⟨Wb, hwq⟩ : ∃ X, Wa.drewN nq = X := ⟨_, rfl⟩
              rw [hwq] at hbn ⊢
              have HBWb := hid (HBWa.out.trans (hbn.mono HBWa.out.size))
              clear hbn hwq d0 d1 d2 d3 d4 x0 x1 x2
              obtain ⟨hbx, d0, d1, d2, d3, d4⟩ := HF.out Wb HBWb.out
              have x0 : Wb.cell? ⟨wr.heap.size, 0, none⟩ = some (.string x) := hbx.c 0 (by simp)
              have x1 : Wb.cell? ⟨wr.heap.size, 1, none⟩ = some (.string f) := hbx.c 1 (by simp)
              have x2 : Wb.cell? ⟨wr.heap.size, 2, none⟩ = some (.string l) := hbx.c 2 (by simp)
              have f0 : Wb.frozen? ⟨wr.heap.size, 0, none⟩ = false := hbx.z 0
              have f2 : Wb.frozen? ⟨wr.heap.size, 2, none⟩ = false := hbx.z 2
              clear hbx
              go_wp2
              go_quiet (fail)
              have hbn := below_self_drewN Wb nq
              obtain ⟨Wc, hwq⟩ : ∃ X, Wb.drewN nq = X := ⟨_, rfl⟩
              rw [hwq] at hbn ⊢
              have HBWc := hid (HBWb.out.trans (hbn.mono HBWb.out.size))
              clear hbn hwq d0 d1 d2 d3 d4 x0 x1 x2
              obtain ⟨hbx, d0, d1, d2, d3, d4⟩ := HF.out Wc HBWc.out
              have x0 : Wc.cell? ⟨wr.heap.size, 0, none⟩ = some (.string x) := hbx.c 0 (by simp)
              have x1 : Wc.cell? ⟨wr.heap.size, 1, none⟩ = some (.string f) := hbx.c 1 (by simp)
              have x2 : Wc.cell? ⟨wr.heap.size, 2, none⟩ = some (.string l) := hbx.c 2 (by simp)
              have f0 : Wc.frozen? ⟨wr.heap.size, 0, none⟩ = false := hbx.z 0
              have f2 : Wc.frozen? ⟨wr.heap.size, 2, none⟩ = false := hbx.z 2
              clear hbx
              have hbY : Below wr.heap.size wr Wc := HBR.out.trans (HBWc.out.mono HBR.out.size)
              have HBYY := hid hbY
              have hownA := (owns_below HON.out hbY).alloc (.cells #[.string x, .string f, .string l] 63)
              have HROW := hid (row_one_mk Wc (.string x) (.string f) (.string l) 63)
              have hzY : wa.heap.size ≤ Wc.heap.size := Nat.le_trans hsy hbY.size
              clear hbY
              go_wp2_with (at_builtin; (refine wpList_append_lie rfl _ _ 59 rfl wa.heap.size 63 el_mark Tryz.underlying59 rfl (by decide) _ n (mkC N) rfl hownA _ 1 (encM (x, f, l)) rfl HROW.out (fun u hu => by simp [encM] at hu; rcases hu with rfl | rfl | rfl <;> rfl) (by omega) (by omega) (by omega) (by simp; omega) _ rfl ?_; intro g8 cap8 w8 hown8 hgrow8 hat8 hlt8))
              clear x0 x1 x2 d0 d1 d2 d3 d4
              go_roundw
              case rel =>
                have hbA : Below Wc.heap.size Wc (Wc.alloc (.cells #[.string x, .string f, .string l] 63)) := (Below.refl _ _).alloc (Nat.le_refl _) _
                have hb1 := HBY.out.trans ((HBYY.out.trans (hbA.mono HBYY.out.size)).mono hsy)
                refine ⟨j + 1, n + 1, N ++ [(x, f, l)], by omega, by go_num, ?_, by simp [HNN.out], by omega, by rw [mkC_snoc]; simpa using hown8, hb1.grown hgrow8 hb1.size (fun q hq => (HON.out.lt q hq).1)⟩
                rw [HFT.out, HM1.out]; rfl
              case measure => simp [intOf]; omega
          · by_cases he : x = cn
            · have HM1 : Hid (mk1 ⟨4, cw, cn, cm, ce⟩ (x, f, l) = none) := hid (by unfold mk1; simp [he])
              have t1 : (x.toList == cn.toList) = true := by rw [bytes_eq]; simpa using he
              clear he
              go_wp2_with (rw [HWW.out])
              go_quiet (fail)
              have hbn := below_self_drewN W nq
              obtain ⟨Wa, hwq⟩ : ∃ X, W.drewN nq = X := ⟨_, rfl⟩
              rw [hwq] at hbn ⊢
              have HBWa := hid (hbn)
              clear hbn hwq d0 d1 d2 d3 d4 x0 x1 x2
              obtain ⟨hbx, d0, d1, d2, d3, d4⟩ := HF.out Wa HBWa.out
              have x0 : Wa.cell? ⟨wr.heap.size, 0, none⟩ = some (.string x) := hbx.c 0 (by simp)
              have x1 : Wa.cell? ⟨wr.heap.size, 1, none⟩ = some (.string f) := hbx.c 1 (by simp)
              have x2 : Wa.cell? ⟨wr.heap.size, 2, none⟩ = some (.string l) := hbx.c 2 (by simp)
              have f0 : Wa.frozen? ⟨wr.heap.size, 0, none⟩ = false := hbx.z 0
              have f2 : Wa.frozen? ⟨wr.heap.size, 2, none⟩ = false := hbx.z 2
              clear hbx
              have HBYY := hid (HBR.out.trans (HBWa.out.mono HBR.out.size))
              clear x0 x1 x2 d0 d1 d2 d3 d4 f0 f2
              go_wp2
              go_roundw
              case rel =>
                refine ⟨j + 1, n, N, by omega, by go_num, ?_, HNN.out, by omega, owns_below HON.out HBYY.out, HBY.out.trans (HBYY.out.mono hsy)⟩
                rw [HFT.out, HM1.out]; simp
              case measure => simp [intOf]; omega
            · have HM1 : Hid (mk1 ⟨4, cw, cn, cm, ce⟩ (x, f, l) = some (x, f, l)) := hid (by unfold mk1; simp [he])
              have t1 : (x.toList == cn.toList) = false := by rw [bytes_eq]; simpa using he
              clear he
              go_wp2_with (rw [HWW.out])
              go_quiet (fail)
              have hbn := below_self_drewN W nq
              obtain ⟨Wa, hwq⟩ : ∃ X, W.drewN nq = X := ⟨_, rfl⟩
              rw [hwq] at hbn ⊢
              have HBWa := hid (hbn)
              clear hbn hwq d0 d1 d2 d3 d4 x0 x1 x2
              obtain ⟨hbx, d0, d1, d2, d3, d4⟩ := HF.out Wa HBWa.out
              have x0 : Wa.cell? ⟨wr.heap.size, 0, none⟩ = some (.string x) := hbx.c 0 (by simp)
              have x1 : Wa.cell? ⟨wr.heap.size, 1, none⟩ = some (.string f) := hbx.c 1 (by simp)
              have x2 : Wa.cell? ⟨wr.heap.size, 2, none⟩ = some (.string l) := hbx.c 2 (by simp)
              have f0 : Wa.frozen? ⟨wr.heap.size, 0, none⟩ = false := hbx.z 0
              have f2 : Wa.frozen? ⟨wr.heap.size, 2, none⟩ = false := hbx.z 2
              clear hbx
              go_wp2
              go_quiet (fail)
              have hbn := below_self_drewN Wa nq
              obtain ⟨Wb, hwq⟩ : ∃ X, Wa.drewN nq = X := ⟨_, rfl⟩
              rw [hwq] at hbn ⊢
              have HBWb := hid (HBWa.out.trans (hbn.mono HBWa.out.size))
              clear hbn hwq d0 d1 d2 d3 d4 x0 x1 x2
              obtain ⟨hbx, d0, d1, d2, d3, d4⟩ := HF.out Wb HBWb.out
              have x0 : Wb.cell? ⟨wr.heap.size, 0, none⟩ = some (.string x) := hbx.c 0 (by simp)
              have x1 : Wb.cell? ⟨wr.heap.size, 1, none⟩ = some (.string f) := hbx.c 1 (by simp)
              have x2 : Wb.cell? ⟨wr.heap.size, 2, none⟩ = some (.string l) := hbx.c 2 (by simp)
              have f0 : Wb.frozen? ⟨wr.heap.size, 0, none⟩ = false := hbx.z 0
              have f2 : Wb.frozen? ⟨wr.heap.size, 2, none⟩ = false := hbx.z 2
              clear hbx
              go_wp2
              go_quiet (fail)
              have hbn := below_self_drewN Wb nq
              obtain ⟨Wc, hwq⟩ : ∃ X, Wb.drewN nq = X := ⟨_, rfl⟩
              rw [hwq] at hbn ⊢
              have HBWc := hid (HBWb.out.trans (hbn.mono HBWb.out.size))
              clear hbn hwq d0 d1 d2 d3 d4 x0 x1 x2
              obtain ⟨hbx, d0, d1, d2, d3, d4⟩ := HF.out Wc HBWc.out
              have x0 : Wc.cell? ⟨wr.heap.size, 0, none⟩ = some (.string x) := hbx.c 0 (by simp)
              have x1 : Wc.cell? ⟨wr.heap.size, 1, none⟩ = some (.string f) := hbx.c 1 (by simp)
              have x2 : Wc.cell? ⟨wr.heap.size, 2, none⟩ = some (.string l) := hbx.c 2 (by simp)
              have f0 : Wc.frozen? ⟨wr.heap.size, 0, none⟩ = false := hbx.z 0
              have f2 : Wc.frozen? ⟨wr.heap.size, 2, none⟩ = false := hbx.z 2
              clear hbx
              have hbY : Below wr.heap.size wr Wc := HBR.out.trans (HBWc.out.mono HBR.out.size)
              have HBYY := hid hbY
              have hownA := (owns_below HON.out hbY).alloc (.cells #[.string x, .string f, .string l] 63)
              have HROW := hid (row_one_mk Wc (.string x) (.string f) (.string l) 63)
              have hzY : wa.heap.size ≤ Wc.heap.size := Nat.le_trans hsy hbY.size
              clear hbY
              go_wp2_with (at_builtin; (refine wpList_append_lie rfl _ _ 59 rfl wa.heap.size 63 el_mark Tryz.underlying59 rfl (by decide) _ n (mkC N) rfl hownA _ 1 (encM (x, f, l)) rfl HROW.out (fun u hu => by simp [encM] at hu; rcases hu with rfl | rfl | rfl <;> rfl) (by omega) (by omega) (by omega) (by simp; omega) _ rfl ?_; intro g8 cap8 w8 hown8 hgrow8 hat8 hlt8))
              clear x0 x1 x2 d0 d1 d2 d3 d4
              go_roundw
              case rel =>
                have hbA : Below Wc.heap.size Wc (Wc.alloc (.cells #[.string x, .string f, .string l] 63)) := (Below.refl _ _).alloc (Nat.le_refl _) _
                have hb1 := HBY.out.trans ((HBYY.out.trans (hbA.mono HBYY.out.size)).mono hsy)
                refine ⟨j + 1, n + 1, N ++ [(x, f, l)], by omega, by go_num, ?_, by simp [HNN.out], by omega, by rw [mkC_snoc]; simpa using hown8, hb1.grown hgrow8 hb1.size (fun q hq => (HON.out.lt q hq).1)⟩
                rw [HFT.out, HM1.out]; rfl
              case measure => simp [intOf]; omega
        · obtain rfl : j = m := by omega
          rw [HMO.out, List.take_of_length_le (Nat.le_refl _)] at hN
          obtain ⟨na, nc, rfl⟩ := owns_slice hown
          have HON := hid hown
          have HNN := hid hn
          have HFN := hid hN
          obtain ⟨d0, d1, d2, d3, d4⟩ := HDK.out wr HBW.out
          have hww := HBW.out.size
          clear hown hN hn hb
          by_cases h1 : kd = 1
          · subst h1
            have HS1 : Hid (mkStep O ⟨1, cw, cn, cm, ce⟩ = N ++ [(ce.name, cw, cw)]) := hid (by unfold mkStep mkAdd; rw [← HFN.out]; rfl)
            have HROW := hid (row_one_mk wr (.string ce.name) (.string cw) (.string cw) 63)
            go_wp2
            go_region_law (first
              | (refine step_append_lie rfl (.tmp 101) (.tmp 119) 59 rfl wa.heap.size 63 el_mark Tryz.underlying59 rfl (by decide) _ n (mkC N) (by go_simp) (HON.out.alloc _) _ 1 (encM (ce.name, cw, cw)) (by go_simp) HROW.out (fun u hu => by simp [encM] at hu; rcases hu with rfl | rfl | rfl <;> rfl) (by omega) (by omega) (by omega) (by simp; omega) _ rfl ?_
                 intro g8 cap8 w8 hown8 hgrow8 hat8 hlt8))
            all_goals
              have hbw := HBW.out
              have hb8 : Below w.heap.size w w8 := Below.grown (by (repeat (first | with_reducible assumption | with_reducible exact Below.refl _ _ | with_reducible exact below_self_drewN _ _ | with_reducible refine Below.drew ?_ | with_reducible refine below_drewN ?_ _ | (with_reducible refine Below.alloc ?_ ?_ _; rotate_left; focus (first | (simp; done) | omega | (simp; omega)))))) hgrow8 (by simp; omega) (fun q hq => Nat.le_trans HB.out.size (HON.out.lt q hq).1)
              clear hbw hgrow8
              go_wp2
              go_roundw
              case rel =>
                refine ⟨k + 1, n + 1, N ++ [(ce.name, cw, cw)], by omega, by go_num, by rw [HST.out, HS1.out], by simp [HNN.out], ?_, ?_, hb8⟩
                · have := HML.out; rw [HS1.out] at this; simp at this; have := HNN.out; omega
                · rw [mkC_snoc]; exact owns_base (by simpa using hown8) hsz
              case measure => simp [intOf]; omega
          · have HS1 : Hid (mkStep O ⟨kd, cw, cn, cm, ce⟩ = N) := hid (by unfold mkStep mkAdd; rw [← HFN.out]; simp [h1])
            have q1 : (kd == 1) = false := by simpa using h1
            clear h1
            go_wp2
            go_roundw
            case rel =>
              refine ⟨k + 1, n, N, by omega, by go_num, by rw [HST.out, HS1.out], HNN.out, ?_, owns_base HON.out hsz, HBW.out⟩
              have := HML.out; rw [HS1.out] at this; omega
            case measure => simp [intOf]; omega
    · have hkl : k = cs.length := by omega
      subst hkl
      rw [List.take_of_length_le (Nat.le_refl _)] at hO
      have HOO := hid hO
      have HMO := hid hm
      obtain ⟨ua, uc, rfl⟩ := owns_slice hown
      have HOWN := hid hown
      have HB := hid hb
      clear hO hm hown hb
      obtain ⟨wa, hwa⟩ : ∃ wa : World, wa = wr := ⟨_, rfl⟩
      subst hwa
      have h00 := hid (World.ownsRow_nil wa wa.heap.size 63 3)
      go_wp2
      go_loopw [8, 9] (fun us iv wy => ∃ (i : Nat) (S : List Mk), i ≤ m ∧ iv = .int .i64 i ∧ S = srMk (O.take i) ∧ S.length = i ∧ wy.ownsRow wa.heap.size 63 3 us i (mkC S) ∧ Below wa.heap.size wa wy) (fun _ iv _ => m - (intOf iv).toNat)
      case atStart => exact ⟨0, [], by omega, rfl, rfl, rfl, h00.out, Below.refl _ _⟩
      case round =>
        clear h00
        obtain ⟨i, S, hi, rfl, hS, hSl, hown, hb⟩ := hrel
        have hsy := hb.size
        by_cases him : i < m
        · have hiO : i < O.length := by have := HMO.out; omega
          have htop := HOWN.out
          obtain ⟨g0, cap0, he0, -, -⟩ := owns_some htop (by omega)
          obtain ⟨rfl, -, rfl⟩ := Value.slice.inj he0
          obtain ⟨o0, o1, o2⟩ := mk_at htop HMO.out hiO
          have hsn := srMk_snoc (O.take i) O[i]
          rw [← List.take_succ_eq_append_getElem hiO, ← hS] at hsn
          obtain ⟨⟨x, f, l⟩, hx⟩ : ∃ x, O[i] = x := ⟨_, rfl⟩
          rw [hx] at o0 o1 o2 hsn
          dsimp only at o0 o1 o2
          have HSN := hid hsn
          have HSL := hid hSl
          obtain ⟨na, nc, rfl⟩ := owns_slice hown
          have HON := hid hown
          have HBY := hid hb
          have O0 := hid o0
          have O1 := hid o1
          have O2 := hid o2
          obtain ⟨wb, hwb⟩ : ∃ wb : World, wb = wr := ⟨_, rfl⟩
          subst hwb
          clear hS hSl hx hsn hown hb he0 htop o0 o1 o2
          go_wp2
          go_loopw [10] (fun av wz => ∃ (j q : Nat), j ≤ i ∧ av = .int .i64 j ∧ wz = wb.drewN q ∧ ∀ t (h : t < S.length), t < j → ltN S[t].1 x) (fun av _ => i - (intOf av).toNat)
          case atStart => exact ⟨0, 0, by omega, rfl, rfl, fun _ _ h => by omega⟩
          case round =>
            obtain ⟨j, q, hj, rfl, hwq, hrel⟩ := hrel
            have HRL := hid hrel
            have HWQ := hid hwq
            have hbq : Below wb.heap.size wb wr := hwq ▸ below_self_drewN _ _
            have HBQ := hid hbq
            have hba := HBY.out.trans (hbq.mono hsy)
            have o0 := cellB O0.out hba
            have o1 := cellB O1.out hba
            have o2 := cellB O2.out hba
            clear hrel hwq hbq hba
            by_cases hgo : ∃ h : j < S.length, ltN S[j].1 x
            · obtain ⟨hjo, hlj⟩ := hgo
              have htop := owns_below HON.out HBQ.out
              obtain ⟨g1, cap1, he1, -, -⟩ := owns_some htop (by have := HSL.out; omega)
              obtain ⟨rfl, -, rfl⟩ := Value.slice.inj he1
              obtain ⟨p0, -, -⟩ := mk_at htop HSL.out.symm hjo
              have q1 := bless S[j].1 x
              rw [decide_eq_true hlj] at q1
              have hjm : j < i := by have := HSL.out; omega
              have HST := hid (fun t (h : t < S.length) (ht : t < j + 1) => (show ltN S[t].1 x from by
                rcases Nat.lt_succ_iff_lt_or_eq.1 ht with h1 | h1
                · exact HRL.out t h h1
                · subst h1; exact hlj))
              obtain ⟨y, hy⟩ : ∃ y, S[j].1 = y := ⟨_, rfl⟩
              rw [hy] at p0 q1
              clear hlj hy he1 htop
              go_wp2
              go_quiet (fail)
              go_wp2
              go_roundw
              case rel => exact ⟨j + 1, _, by omega, by go_num, by rw [HWQ.out, World.drewN_drewN], HST.out⟩
              case measure => simp [intOf]; omega
            · have HIE := hid (inMk_at (l := S) (x := (x, f, l)) (k := j) (by have := HSL.out; omega) (fun t h ht => HRL.out t h ht) (fun h hl => hgo ⟨h, hl⟩))
              by_cases hjm : j < i
              case' pos =>
                have hjo : j < S.length := by have := HSL.out; omega
                have htop := owns_below HON.out HBQ.out
                obtain ⟨g1, cap1, he1, -, -⟩ := owns_some htop (by omega)
                obtain ⟨rfl, -, rfl⟩ := Value.slice.inj he1
                obtain ⟨p0, -, -⟩ := mk_at htop HSL.out.symm hjo
                have q1 := bless S[j].1 x
                rw [decide_eq_false (fun h => hgo ⟨hjo, h⟩)] at q1
                obtain ⟨y, hy⟩ : ∃ y, S[j].1 = y := ⟨_, rfl⟩
                rw [hy] at p0 q1
                clear hy hgo he1 htop
                go_wp2
                go_quiet (fail)
                clear p0
              case' neg =>
                clear hgo
                go_wp2
                go_quiet (fail)
              all_goals
                obtain ⟨wd, hwd⟩ : ∃ wd, wr.drewN nq = wd := ⟨_, rfl⟩
                have hbd : Below wb.heap.size wb wd := hwd ▸ below_drewN HBQ.out _
                rw [hwd]
                have HOD := hid (owns_below HON.out hbd)
                have HBD := hid (HBY.out.trans (hbd.mono hsy))
                have hszd := HBD.out.size
                clear hwd hbd o0 o1 o2
                go_wp2_with (at_builtin; refine wpList_append_lie rfl _ _ 59 rfl wa.heap.size 63 el_mark Tryz.underlying59 rfl (by decide) _ i (mkC S) rfl (HOD.out.alloc _) _ 1 [.string ⟨#[]⟩, .string ⟨#[]⟩, .string ⟨#[]⟩] rfl (row_one_mk _ _ _ _ _) (fun u hu => by simp at hu; subst hu; rfl) (by omega) (by omega) (by omega) (by simp; omega) _ rfl ?_; intro g cap w4 hown4 hgrow4 hat4 hlt4)
                have hB4 := (HBD.out.alloc hszd (.cells #[.string ⟨#[]⟩, .string ⟨#[]⟩, .string ⟨#[]⟩] 63)).grown hgrow4 (by simp; omega) (fun q hq => (HOD.out.lt q hq).1)
                obtain ⟨cur, hcur, htk, hcl, hcc, hcn, hcm, hbg⟩ := own_cellsK hown4
                obtain ⟨CS, hCS⟩ : ∃ CS, mkC (S.drop j) = CS := ⟨_, rfl⟩
                have hSd : mkC S = mkC (S.take j) ++ CS := by rw [← hCS, ← mkC_app, List.take_append_drop]
                have hAl : (mkC (S.take j)).length = j * 3 := by rw [mkC_len, List.length_take]; have := HSL.out; omega
                have hcsl : CS.length = (i - j) * 3 := by rw [← hCS, mkC_len, List.length_drop, HSL.out]
                have HCS := hid hCS
                have HONE := hid (show ∀ v ∈ CS, v.oneCell' = true from fun v hv => mkC_one _ v (hCS ▸ hv))
                have HPS := hid (show ∀ t v, CS[t]? = some v → w4.drew.cell? ((⟨g, j * 3, none⟩ : Addr).add t) = some v from fun t v hv => by
                  have ht := (List.getElem?_eq_some_iff.1 hv).1
                  have := hown4.cellAt (j * 3 + t) (by omega)
                  rw [hSd, List.append_assoc, List.getElem?_append_right (by omega), hAl, Nat.add_sub_cancel_left, List.getElem?_append_left ht, hv] at this
                  have hadd : (⟨g, j * 3, none⟩ : Addr).add t = ⟨g, j * 3 + t, none⟩ := by unfold Addr.add; split <;> simp_all
                  rw [hadd]; exact (World.cell?_of_block (w := w4) rfl).trans this)
                have HHC : Hid (w4.drew.heap[g]? = some (.cells cur.toArray 63 (0, 0))) := hid hcur
                have HB4 : Hid (Below wa.heap.size wa w4.drew) := hid hB4.drew
                have HSD := hid hSd
                have HAL := hid hAl
                have hw1 : IntKind.i64.wrap ((j : Int) + 1) = (j : Int) + 1 := IntWalk.i64_in _ (by omega)
                have hj0 : (0 : Int) ≤ (j : Int) := by omega
                have hj1 : (j : Int) + 1 ≤ (i : Int) + 1 := by omega
                have hj2 : (j : Int) ≤ (i : Int) + 1 := by omega
                have hj3 : (0 : Int) ≤ (j : Int) + 1 := by omega
                have hj4 : ((j : Int) + 1).toNat = j + 1 := by omega
                have hcj : ¬ cap = j := by omega
                clear hCS hown4 hgrow4 hat4 hcur hB4 hSd hAl
                have HN : Hid (CS.length = Nat.min (i + 1 - j) (i - j) * 3) := hid (by rw [hcsl]; congr 1; show _ = min _ _; omega)
                have HP : Hid (0 < CS.length → (if cap = j + 1 then some (⟨g, 0, none⟩ : Addr) else some ⟨g, (j + 1) * 3, none⟩) = some ⟨g, (j + 1) * 3, none⟩ ∧ ∃ ad, some (⟨g, j * 3, none⟩ : Addr) = some ad ∧ ∀ t v, CS[t]? = some v → w4.drew.cell? (ad.add t) = some v) := hid fun h0 => ⟨if_neg (by omega), _, rfl, HPS.out⟩
                have HF : Hid ((j + 1) * 3 + CS.length ≤ cur.length) := hid (by omega)
                go_region_law (refine step_copy_spliceK rfl (.tmp 154) (.tmp 157) 59 59 rfl 63 Tryz.underlying59 3 (by omega) mark_size3 (if cap = j + 1 then some ⟨g, 0, none⟩ else some ⟨g, (j + 1) * 3, none⟩) (some ⟨g, j * 3, none⟩) (i - j) (cap - (j + 1)) (i + 1 - j) (cap - j) ?hd ?hs g ((j + 1) * 3) cur 63 HHC.out CS HN.out HP.out HF.out HONE.out wa.heap.size wa HB4.out hbg ?_; (case hd => go_simp); (case hs => go_simp); intro w5 hg5 hb5 hk5)
                clear HP
                generalize (if cap = j + 1 then some (⟨g, 0, none⟩ : Addr) else some ⟨g, (j + 1) * 3, none⟩) = dpv
                have hlen5 : (splice cur ((j + 1) * 3) CS).length = cur.length := length_splice _ _ _ HF.out
                have hown5 := own_of_cellsK (base := wa.heap.size) (n := i + 1) (k := 3) hg5.out hcn (by rw [hlen5]; exact hcc) hcm hbg
                rw [splice_take htk hcl (by omega)] at hown5
                obtain ⟨hown6, -⟩ := owns_over (encM (x, f, l)) (j * 3) w5 _ hown5
                have hxl : ((mkC S ++ [Value.string ⟨#[]⟩, .string ⟨#[]⟩, .string ⟨#[]⟩])).length = (i + 1) * 3 := by rw [List.length_append, mkC_len, HSL.out]; simp; omega
                rw [ovL_splice _ _ _ (by rw [length_splice _ _ _ (by rw [hxl]; omega), hxl]; simp [encM]; omega), HSD.out, show (j + 1) * 3 = j * 3 + 3 by omega, ins_rowK (k := 3) (mkC (S.take j)) CS [.string ⟨#[]⟩, .string ⟨#[]⟩, .string ⟨#[]⟩] (encM (x, f, l)) HAL.out rfl rfl] at hown6
                have HO6 := hid (show (w5.setCells g (j * 3) (encM (x, f, l))).ownsRow wa.heap.size 63 3 (.slice (some ⟨g, 0, none⟩) (i + 1) cap) (i + 1) (mkC (inMk (x, f, l) S)) from by
                  rw [HIE.out, mkC_app, show mkC ((x, f, l) :: S.drop j) = encM (x, f, l) ++ mkC (S.drop j) from rfl, HCS.out]; exact hown6)
                have HB6 : Hid (Below wa.heap.size wa (w5.setCells g (j * 3) (encM (x, f, l)))) := hid (below_sets hb5 hbg (j * 3) (encM (x, f, l)))
                have o0 := cellB O0.out hb5
                have o1 := cellB O1.out hb5
                have o2 := cellB O2.out hb5
                have f0 := hown5.frozenAt (j * 3)
                have f1 := hown5.frozenAt (j * 3 + 1)
                have f2 := hown5.frozenAt (j * 3 + 2)
                have hex : ∀ t, t < (i + 1) * 3 → ∃ v, w5.cell? ⟨g, t, none⟩ = some v := fun t ht => by
                  have h1 := hown5.cellAt t (by omega)
                  have h2 := hown5.1
                  rw [List.getElem?_eq_getElem (by omega)] at h1
                  exact ⟨_, h1⟩
                obtain ⟨v0, p0⟩ := hex (j * 3) (by omega)
                obtain ⟨v1, p1⟩ := hex (j * 3 + 1) (by omega)
                obtain ⟨v2, p2⟩ := hex (j * 3 + 2) (by omega)
                have HL7 : Hid ((inMk (x, f, l) S).length = i + 1) := hid (by rw [inMk_len, HSL.out])
                clear hown5 hown6 hg5 hb5 hk5 hw1 hj0 hj1 hj2 hj3 hj4 htk hcl hcc hcm hcsl hex hxl hlen5
                go_wp2
                rw [sets3]
                go_roundw
                case rel => exact ⟨i + 1, _, by omega, by go_num, HSN.out.symm, HL7.out, HO6.out, HB6.out⟩
                case measure => simp [intOf]; omega
        · obtain rfl : i = m := by omega
          rw [HMO.out, List.take_of_length_le (Nat.le_refl _)] at hS
          obtain ⟨na, nc, rfl⟩ := owns_slice hown
          have hmks : MksAt wr (.slice na i nc) S := by unfold MksAt; rw [hSl]; exact RowK.of_owns hown (by omega)
          have HE := hid hmks
          have HBY := hid (HB.out.trans (hb.mono hsz))
          have HSS := hid hS
          clear hown hb hmks hS
          go_wp2
          go_ret
          rw [← HOO.out, ← HSS.out]
          exact ⟨_, rfl, HE.out, HBY.out⟩
theorem ask_nil (s : Sg) (cs : List Chg) : askL s [] cs = lstL s cs := by
  unfold askL
  by_cases h : edB s [] = true
  · rw [if_pos h]
  · rw [if_neg h]
    have hs : signB s = false := by
      cases e : signB s with
      | false => rfl
      | true => exact absurd (edB_nil e) h
    unfold lstL
    rw [hs]; rfl
theorem played_whole (s : Sg) (cs : List Chg) : (playedL s [] cs).1 = (wholeL s cs).1 ∧ (playedL s [] cs).2.2 = (wholeL s cs).2 := by
  unfold playedL wholeL
  rw [ask_nil]
  split <;> exact ⟨rfl, rfl⟩
theorem blameL_w (s : Sg) (cs : List Chg) : blameL s cs = if (wholeL s cs).2 = 0 then (srMk (mkAll cs), 0) else ([], (wholeL s cs).2) := by
  by_cases h : lstL s cs = 0
  · by_cases h2 : (playL [] cs 0).2.2 = 0
    · rw [blameL_3 h h2, if_pos (by unfold wholeL; rw [if_pos h]; exact h2)]
    · have e : (wholeL s cs).2 = (playL [] cs 0).2.2 := by unfold wholeL; rw [if_pos h]
      rw [blameL_2 h h2, if_neg (by rw [e]; exact h2), e]
  · have e : (wholeL s cs).2 = lstL s cs := by unfold wholeL; rw [if_neg h]
    rw [blameL_1 h, if_neg (by rw [e]; exact h), e]
set_option maxHeartbeats 1000000 in
theorem ref9_Blame (vs vc : Value) (s : Sg) (cs : List Chg) (w : World) (hs : SignAt w vs s) (hc : ChsAt w vc cs) (hs1 : s.length ≤ 1000) :
    Calls Tryz.prog 38 #[vs, vc] w fun e w' => ∃ u, e = .returned (.tuple #[u, .int .i64 (blameL s cs).2]) ∧ MksAt w' u (blameL s cs).1 ∧ Below w.heap.size w w' := by
  have HW := hid (ref9_Played vs (.slice none 0 0) vc s [] cs w hs (EntsAt.nil _) hc hs1 (by simp))
  have HC := hid hc
  obtain ⟨ca, cc, rfl, -⟩ := hc.open
  clear hc hs
  simp only [(played_whole s cs).2] at HW
  by_cases h : (wholeL s cs).2 = 0
  · have h3 := whole_ok h
    have HF : Hid (blameL s cs = (srMk (mkAll cs), 0)) := hid (by rw [blameL_w, if_pos h])
    have HM := hid (fun (X : World) (hX : Below w.heap.size w X) => ref9_Marks _ cs X (HC.out.below hX) (fun c hc => (chgB_iff.1 ((lstL_ok.1 h3.1).2.1 c hc)).kinds) (by have := (lstL_ok.1 h3.1).2.2; omega))
    rw [h] at HW
    clear h h3
    go_enter Tryz.func38, Tryz.ntmps38
    go_wp2_with fail
    refine HW.out.mono ?_
    rintro e w1 ⟨u, rfl, hu, hb1⟩
    obtain ⟨xa, xc, rfl, -⟩ := hu.open
    have HM1 := hid (HM.out w1 hb1)
    have HB1 := hid hb1
    clear hb1 hu
    go_wp2_with fail
    refine HM1.out.mono ?_
    rintro e w2 ⟨u2, rfl, hu2, hb2⟩
    have HU := hid hu2
    have HB2 := hid (HB1.out.trans (hb2.mono HB1.out.size))
    obtain ⟨ra, rc, rfl, -⟩ := hu2.open
    clear hu2 hb2
    go_wp2
    go_ret2
    exact ⟨_, by rw [HF.out]; rfl, by rw [HF.out]; exact HU.out, HB2.out⟩
  · have HF : Hid (blameL s cs = ([], (wholeL s cs).2)) := hid (by rw [blameL_w, if_neg h])
    have n2 : ((wholeL s cs).2 != 0) = true := by simpa using h
    obtain ⟨er, her⟩ : ∃ er, (wholeL s cs).2 = er := ⟨_, rfl⟩
    rw [her] at HF n2 HW
    clear h her
    go_enter Tryz.func38, Tryz.ntmps38
    go_wp2_with fail
    refine HW.out.mono ?_
    rintro e w1 ⟨u, rfl, hu, hb1⟩
    obtain ⟨xa, xc, rfl, -⟩ := hu.open
    clear hu
    go_wp2
    go_ret2
    exact ⟨_, by rw [HF.out]; rfl, by rw [HF.out]; exact MksAt.nil _, hb1⟩
end Go.Proofs.YtlbjbmpkaniojaaGreat
