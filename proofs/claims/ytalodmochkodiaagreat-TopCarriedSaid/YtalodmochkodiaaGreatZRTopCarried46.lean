/-
  WHAT IT HOLDS: the walk of the law TopCarried: it returns true. Conditions: the arguments read as data.
-/
import Derived.Test.YtalodmochkodiaaGreatZRTopCarried43
import Derived.Test.YtalodmochkodiaaGreatZRTopCarried44
import Derived.Test.YtalodmochkodiaaGreatZRTopCarried36
import Derived.Test.YtalodmochkodiaaGreatZRTopCarried42
import Derived.Test.YtalodmochkodiaaGreatZRTopCarried45
namespace Go.Proofs.YtalodmochkodiaaGreat
open Go Go.RowKit Go.Maps
theorem EntAt.slicesT {w : World} {vS vU vP : Value} {x : En} (h : EntAt w vS vU vP x) : ∃ a1 k1 a2 k2 a3 k3, vS = .slice a1 x.says.length k1 ∧ vU = .slice a2 x.uses.length k2 ∧ vP = .slice a3 x.proof.length k3 := by
  obtain ⟨a1, k1, h1, -⟩ := h.s.open
  obtain ⟨a2, k2, h2, -⟩ := h.u.open
  obtain ⟨a3, k3, h3, -⟩ := h.p.open
  exact ⟨a1, k1, a2, k2, a3, k3, h1, h2, h3⟩
theorem ents_one {w : World} {x : En} {vS vU vP : Value} {T : TypeId} (h : EntAt w vS vU vP x) : EntsAt (w.alloc (.cells #[.string x.name, .string x.who, vS, vU, vP] T)) (.slice (some ⟨w.heap.size, 0, none⟩) 1 1) [x] := by
  refine ents_lit (l := [x]) (vs := [(vS, vU, vP)]) rfl rfl (by simp) fun j h1 h2 => ?_
  match j, h1 with
  | 0, _ => exact h
set_option maxHeartbeats 8000000 in
set_option maxRecDepth 100000 in
theorem walk_TopCarried (va vb vd vl : Value) (a b : Sg) (d : Dic) (l : List En) (f n o u : Nm) (w : World) (ha : SignAt w va a) (hb : SignAt w vb b) (hd : BindsAt w vd d) (hl : EntsAt w vl l) (hf : f.size ≤ 140737488355328) (hn : n.size ≤ 140737488355328) (ho : o.size ≤ 140737488355328) (hu : u.size ≤ 140737488355328) :
    Calls Tryz.prog 14 #[va, vb, vd, vl, .string f, .string n, .string o, .string u] w fun e w' => e = .returned (.bool true) ∧ Below w.heap.size w w' := by
  have HSA := hid ha
  have HSB := hid hb
  have HSD := hid hd
  have HLL := hid hl
  have HAW := hid (fun X => top_awake8 X)
  obtain ⟨bp, bc, rfl, -, hbl, -⟩ := hb.open
  obtain ⟨dp, dc, rfl, -, hdl, -⟩ := hd.open
  clear ha hb hd hl
  go_enter Tryz.func14, Tryz.ntmps14
  go_wp2_with fail
  refine (top_heavy6 va vl a l w HSA.out HLL.out).mono ?_
  rintro e w2 ⟨z, rfl, hz, hb2⟩
  cases z
  case true =>
    clear hz
    go_wp2_with fail
    refine (HAW.out _).mono ?_
    rintro e w9 ⟨rfl, hb9⟩
    go_wp2
    go_ret
    exact ⟨rfl, (hb2).trans (hb9.mono (hb2).size)⟩
  obtain ⟨ha20, hl10, hlib⟩ := hz rfl
  clear hz
  have HLIB := hid hlib
  have HA1 := hid (show a.length ≤ 1000 by omega)
  have HL1 := hid (show l.length ≤ 1000 by omega)
  clear hlib ha20 hl10
  by_cases e0 : (b.length : Int) > 20
  · go_wp2_with fail
    refine (HAW.out _).mono ?_
    rintro e w9 ⟨rfl, hb9⟩
    go_wp2
    go_ret
    exact ⟨rfl, (hb2).trans (hb9.mono (hb2).size)⟩
  by_cases e1 : (d.length : Int) > 20
  · go_wp2_with fail
    refine (HAW.out _).mono ?_
    rintro e w9 ⟨rfl, hb9⟩
    go_wp2
    go_ret
    exact ⟨rfl, (hb2).trans (hb9.mono (hb2).size)⟩
  by_cases e2 : (f.size : Int) > 100
  · go_wp2_with fail
    refine (HAW.out _).mono ?_
    rintro e w9 ⟨rfl, hb9⟩
    go_wp2
    go_ret
    exact ⟨rfl, (hb2).trans (hb9.mono (hb2).size)⟩
  by_cases e3 : (n.size : Int) > 100
  · go_wp2_with fail
    refine (HAW.out _).mono ?_
    rintro e w9 ⟨rfl, hb9⟩
    go_wp2
    go_ret
    exact ⟨rfl, (hb2).trans (hb9.mono (hb2).size)⟩
  by_cases e4 : (o.size : Int) > 100
  · go_wp2_with fail
    refine (HAW.out _).mono ?_
    rintro e w9 ⟨rfl, hb9⟩
    go_wp2
    go_ret
    exact ⟨rfl, (hb2).trans (hb9.mono (hb2).size)⟩
  by_cases e5 : (u.size : Int) > 100
  · go_wp2_with fail
    refine (HAW.out _).mono ?_
    rintro e w9 ⟨rfl, hb9⟩
    go_wp2
    go_ret
    exact ⟨rfl, (hb2).trans (hb9.mono (hb2).size)⟩
  have f0 : decide ((20 : Int) < (b.length : Int)) = false := decide_eq_false (by omega)
  have f1 : decide ((20 : Int) < (d.length : Int)) = false := decide_eq_false (by omega)
  have f2 : decide ((100 : Int) < (f.size : Int)) = false := decide_eq_false (by omega)
  have f3 : decide ((100 : Int) < (n.size : Int)) = false := decide_eq_false (by omega)
  have f4 : decide ((100 : Int) < (o.size : Int)) = false := decide_eq_false (by omega)
  have f5 : decide ((100 : Int) < (u.size : Int)) = false := decide_eq_false (by omega)
  have HB1 := hid (show b.length ≤ 1000 by omega)
  have HB2 := hid hb2
  clear hb2
  have HV := hid (ref3_Valid _ _ _ a b d w2 (HSA.out.below HB2.out) (HSB.out.below HB2.out) (HSD.out.below HB2.out) HA1.out HB1.out)
  cases hv : dicB a b d
  · rw [hv] at HV
    clear hv
    go_wp2_with fail
    refine HV.out.mono ?_
    rintro e w3 ⟨rfl, hb3'⟩
    have hb3 := HB2.out.trans (hb3'.mono HB2.out.size)
    clear hb3'
    go_wp2_with fail
    refine (HAW.out _).mono ?_
    rintro e w9 ⟨rfl, hb9⟩
    go_wp2
    go_ret
    exact ⟨rfl, (hb3).trans (hb9.mono (hb3).size)⟩
  rw [hv] at HV
  have HDV := hid hv
  clear hv
  go_wp2_with fail
  refine HV.out.mono ?_
  rintro e w3 ⟨rfl, hb3'⟩
  have HB3 := hid (HB2.out.trans (hb3'.mono HB2.out.size))
  clear hb3' HV
  have HO := hid (ref3_OneToOne _ _ _ a b d w3 (HSA.out.below HB3.out) (HSB.out.below HB3.out) (HSD.out.below HB3.out) HA1.out HB1.out)
  cases hv : oneB a b d
  · rw [hv] at HO
    clear hv
    go_wp2_with fail
    refine HO.out.mono ?_
    rintro e w4 ⟨rfl, hb4'⟩
    have hb4 := HB3.out.trans (hb4'.mono HB3.out.size)
    clear hb4'
    go_wp2_with fail
    refine (HAW.out _).mono ?_
    rintro e w9 ⟨rfl, hb9⟩
    go_wp2
    go_ret
    exact ⟨rfl, (hb4).trans (hb9.mono (hb4).size)⟩
  rw [hv] at HO
  have HONE := hid hv
  clear hv e0 e1 e2 e3 e4 e5 f0 f1 f2 f3 f4 f5
  go_wp2_with fail
  refine HO.out.mono ?_
  rintro e w4 ⟨rfl, hb4'⟩
  have HB4 := hid (HB3.out.trans (hb4'.mono HB3.out.size))
  clear hb4' HO
  go_wp2_with fail
  refine (carry_Carried _ _ _ _ a b d l w4 (HSA.out.below HB4.out) (HSB.out.below HB4.out) (HSD.out.below HB4.out) (HLL.out.below HB4.out) HA1.out HB1.out HL1.out HDV.out HLIB.out).mono ?_
  rintro e w5 ⟨vm, rfl, hM, hb5⟩
  have HM := hid hM
  have HB5 := hid (HB4.out.trans (hb5.mono HB4.out.size))
  clear hM hb5
  go_wp2_with fail
  refine (carry_Chain _ _ a l f n o u w5 (HSA.out.below HB5.out) (HLL.out.below HB5.out) HA1.out HL1.out hf hn ho hu).mono ?_
  rintro e w6 ⟨x, vS, vU, vP, r1, hm1, rfl, hE1, hb6⟩
  obtain ⟨a1, k1, a2, k2, a3, k3, rfl, rfl, rfl⟩ := hE1.slicesT
  have hC6 := C5.new w6 (.string x.name) (.string x.who) (.slice a1 x.says.length k1) (.slice a2 x.uses.length k2) (.slice a3 x.proof.length k3) 41
  obtain ⟨W6, hW6⟩ : ∃ W6, w6.alloc (.cells #[.string x.name, .string x.who, .slice a1 x.says.length k1, .slice a2 x.uses.length k2, .slice a3 x.proof.length k3] 41) = W6 := ⟨_, rfl⟩
  have hb66 : Below w6.heap.size w6 W6 := hW6 ▸ (Below.refl _ _).alloc (Nat.le_refl _) _
  rw [hW6] at hC6
  have HW6 := hid hW6
  have HC6 := hid hC6
  have HE6 := hid (hE1.below hb66)
  have HBS6 := hid (hb6.trans (hb66.mono hb6.size))
  have HBW6 := hid (HB5.out.trans (HBS6.out.mono HB5.out.size))
  have HZ6 := hid (show w6.heap.size < W6.heap.size by rw [← hW6]; simp)
  have HZ5 := hid hb6.size
  clear hb6 hb66 hE1 hC6 hW6
  go_wp2_with fail
  rw [HW6.out]
  refine (carry_Chain _ _ b (l.map (carE a d)) f n o u W6 (HSB.out.below HBW6.out) (HM.out.below HBS6.out) HB1.out (by rw [List.length_map]; exact HL1.out) hf hn ho hu).mono ?_
  rintro e w7 ⟨y, uS, uU, uP, r2, hm2, rfl, hE2, hb7⟩
  obtain ⟨rfl, hyx⟩ := chaR_car HONE.out HLIB.out hm1 hm2
  obtain ⟨b1, j1, b2, j2, b3, j3, rfl, rfl, rfl⟩ := hE2.slicesT
  have hC7 := C5.new w7 (.string y.name) (.string y.who) (.slice b1 y.says.length j1) (.slice b2 y.uses.length j2) (.slice b3 y.proof.length j3) 41
  obtain ⟨W7, hW7⟩ : ∃ W7, w7.alloc (.cells #[.string y.name, .string y.who, .slice b1 y.says.length j1, .slice b2 y.uses.length j2, .slice b3 y.proof.length j3] 41) = W7 := ⟨_, rfl⟩
  have hb77 : Below w7.heap.size w7 W7 := hW7 ▸ (Below.refl _ _).alloc (Nat.le_refl _) _
  rw [hW7] at hC7
  have n2 : (r1 != r1) = false := by simp
  have HZ7 := hid (show W7.heap.size = w7.heap.size + 1 by rw [← hW7]; simp)
  have HYX := hid hyx
  have HW7 := hid hW7
  have HC7 := hid hC7
  have HX7 := hid ((HC6.out.below hb7).below hb77)
  have HE7 := hid (hE2.below hb77)
  have HEX7 := hid ((HE6.out.below hb7).below hb77)
  have HBS7 := hid (HBS6.out.trans ((hb7.trans (hb77.mono hb7.size)).mono HBS6.out.size))
  have HBW7 := hid (HBW6.out.trans ((hb7.trans (hb77.mono hb7.size)).mono HBW6.out.size))
  have HNE := hid (show w6.heap.size < w7.heap.size by have := HZ6.out; have := hb7.size; omega)
  clear hb7 hb77 hE2 hC7 hW7 hm1 hm2 hyx HC6 HE6
  by_cases h0 : r1 = 0
  case' pos =>
    subst h0
    obtain ⟨hy2, hl2⟩ := HYX.out rfl
    have HY2 := hid hy2
    obtain ⟨x0, x1, x2, x3, x4, -, -, -, -, -⟩ := HX7.out
    have hone := ents_one (T := 41) HEX7.out
    have hb70 : Below W7.heap.size W7 (W7.alloc (.cells #[.string x.name, .string x.who, .slice a1 x.says.length k1, .slice a2 x.uses.length k2, .slice a3 x.proof.length k3] 41)) := (Below.refl _ _).alloc (Nat.le_refl _) _
    have HB70 := hid (HBW7.out.trans (hb70.mono HBW7.out.size))
    rw [HZ7.out] at hone
    have HCD := hid (carry_Carried _ _ _ _ a b d [x] _ (HSA.out.below HB70.out) (HSB.out.below HB70.out) (HSD.out.below HB70.out) hone HA1.out HB1.out (by simp) HDV.out hl2)
    have HB77 := hid hb70
    rw [← HW7.out] at x0 x1 x2 x3 x4
    clear hone hb70 hy2 hl2
    go_wp2_with fail
    rw [HW7.out]
    refine HCD.out.mono ?_
    rintro e w8 ⟨vz, rfl, hZ, hb8⟩
    have hbz := HB77.out.trans (hb8.mono HB77.out.size)
    obtain ⟨y0, y1, y2, y3, y4, -, -, -, -, -⟩ := HC7.out.below hbz
    have hEy := HE7.out.below hbz
    obtain ⟨zp, zc, rfl, -, -, -, ZC⟩ := hZ.open
    obtain ⟨gb, gp, zS, zU, zP, rfl, q0, q1, q2, q3, q4, he⟩ := ZC 0 (by simp)
    simp only [List.map_cons, List.map_nil, List.getElem_cons_zero, List.length_cons, List.length_nil, Nat.zero_add, Nat.zero_mul, Nat.add_zero] at q0 q1 q2 q3 q4 he
    obtain ⟨a4, k4, a5, k5, a6, k6, rfl, rfl, rfl⟩ := he.slicesT
    rw [← HY2.out] at q0 q1 q2 q3 q4 he
    have HSE := hid (fun (X : World) (hX : Below w8.heap.size w8 X) => ref6_SameEntry _ _ _ _ _ _ y y X (he.below hX) (hEy.below hX))
    rw [decide_eq_true (rfl : y = y)] at HSE
    have HBZ := hid (HB70.out.trans (hb8.mono HB70.out.size))
    have HBS8 := hid (HBS7.out.trans (hbz.mono HBS7.out.size))
    have HX8 := hid (HX7.out.below hbz)
    have HY8 := hid (HC7.out.below hbz)
    have hsz8 := hbz.size
    rw [show (List.map (carE a d) [x]).length = 1 from rfl]
    clear hEy he ZC hZ hbz hb8
    go_wp2
    go_region_held3 (fun w' => w'.cell? ⟨gb, gp, none⟩ = some (.string y.name) ∧ w'.cell? ⟨gb, gp + 1, none⟩ = some (.string y.who) ∧ w'.cell? ⟨gb, gp + 2, none⟩ = some (.slice a4 y.says.length k4) ∧ w'.cell? ⟨gb, gp + 3, none⟩ = some (.slice a5 y.uses.length k5) ∧ w'.cell? ⟨gb, gp + 4, none⟩ = some (.slice a6 y.proof.length k6) ∧
        w'.cell? ⟨w7.heap.size, 0, none⟩ = some (.string y.name) ∧ w'.cell? ⟨w7.heap.size, 1, none⟩ = some (.string y.who) ∧ w'.cell? ⟨w7.heap.size, 2, none⟩ = some (.slice b1 y.says.length j1) ∧ w'.cell? ⟨w7.heap.size, 3, none⟩ = some (.slice b2 y.uses.length j2) ∧ w'.cell? ⟨w7.heap.size, 4, none⟩ = some (.slice b3 y.proof.length j3))
      (first | exact ⟨by assumption, by assumption, by assumption, by assumption, by assumption, by assumption, by assumption, by assumption, by assumption, by assumption⟩ | go_keep)
      (first
      | (go_at_call 72; (with_reducible refine (HSE.out _ (Below.refl _ _)).mono ?_); rintro e wz ⟨rfl, hbz⟩; have hbr : Below w8.heap.size w8 wz := hbz; have p0 := (hbr.cell (World.block_lt_of_cell? _ _ q0)).trans q0; have s0 := (hbr.cell (World.block_lt_of_cell? _ _ y0)).trans y0; have p1 := (hbr.cell (World.block_lt_of_cell? _ _ q1)).trans q1; have s1 := (hbr.cell (World.block_lt_of_cell? _ _ y1)).trans y1; have p2 := (hbr.cell (World.block_lt_of_cell? _ _ q2)).trans q2; have s2 := (hbr.cell (World.block_lt_of_cell? _ _ y2)).trans y2; have p3 := (hbr.cell (World.block_lt_of_cell? _ _ q3)).trans q3; have s3 := (hbr.cell (World.block_lt_of_cell? _ _ y3)).trans y3; have p4 := (hbr.cell (World.block_lt_of_cell? _ _ q4)).trans q4; have s4 := (hbr.cell (World.block_lt_of_cell? _ _ y4)).trans y4)
      | (go_at_call 72; (with_reducible refine (HSE.out _ (Below.drew (Below.refl _ _))).mono ?_); rintro e wz ⟨rfl, hbz⟩; have hbr : Below w8.heap.size w8 wz := (below_self_drew _).trans hbz; have p0 := (hbr.cell (World.block_lt_of_cell? _ _ q0)).trans q0; have s0 := (hbr.cell (World.block_lt_of_cell? _ _ y0)).trans y0; have p1 := (hbr.cell (World.block_lt_of_cell? _ _ q1)).trans q1; have s1 := (hbr.cell (World.block_lt_of_cell? _ _ y1)).trans y1; have p2 := (hbr.cell (World.block_lt_of_cell? _ _ q2)).trans q2; have s2 := (hbr.cell (World.block_lt_of_cell? _ _ y2)).trans y2; have p3 := (hbr.cell (World.block_lt_of_cell? _ _ q3)).trans q3; have s3 := (hbr.cell (World.block_lt_of_cell? _ _ y3)).trans y3; have p4 := (hbr.cell (World.block_lt_of_cell? _ _ q4)).trans q4; have s4 := (hbr.cell (World.block_lt_of_cell? _ _ y4)).trans y4))
    have HXZ := hid (HX8.out.below hbr)
    have HYZ := hid (HY8.out.below hbr)
    have HBSZ := hid (HBS8.out.trans (hbr.mono HBS8.out.size))
    have HBWZ := hid (HBZ.out.trans (hbr.mono HBZ.out.size))
    clear p0 p1 p2 p3 p4 s0 s1 s2 s3 s4 q0 q1 q2 q3 q4 y0 y1 y2 y3 y4 x0 x1 x2 x3 x4 hbr hbz HSE HX8 HY8 HBS8 HBZ
    clear HX7 HC7 HE7 HEX7 HBS7 HBW7 HB70 HB77 HCD HY2 HYX HW7 HZ7 HW6 HZ6
    go_wp2_with fail
  case' neg =>
    have n0 : (r1 == 0) = false := by simpa using h0
    clear h0
    have HXZ := hid HX7.out
    have HYZ := hid HC7.out
    have HBSZ := hid HBS7.out
    have HBWZ := hid HBW7.out
    clear HX7 HC7 HE7 HEX7 HBS7 HBW7 HYX HZ7 HW6 HZ6
    go_wp2_with fail
    rw [HW7.out]
    clear HW7
  all_goals
    refine (carry_MovedO va vl a l f n o u _ (HSA.out.below HBWZ.out) (HLL.out.below HBWZ.out) HA1.out HL1.out hf hn ho hu).mono ?_
    rintro e w10 ⟨x', vS', vU', vP', r3, hm3, rfl, hE3, hb10⟩
    obtain ⟨a1', k1', a2', k2', a3', k3', rfl, rfl, rfl⟩ := hE3.ent.slicesT
    have hX10 := HXZ.out.below hb10
    have hY10 := HYZ.out.below hb10
    have hbs10 := HBSZ.out.trans (hb10.mono HBSZ.out.size)
    have hbw10 := HBWZ.out.trans (hb10.mono HBWZ.out.size)
    have hlz : w7.heap.size < _ := World.block_lt_of_cell? _ _ HYZ.out.c0
    have hlx : w6.heap.size < w7.heap.size := HNE.out
    have hl5 : w5.heap.size ≤ w6.heap.size := HZ5.out
    have hlw : w.heap.size ≤ w5.heap.size := HB5.out.size
    have hXa := hX10.store (.string x'.name) (.string x'.who) (.slice a1' x'.says.length k1') (.slice a2' x'.uses.length k2') (.slice a3' x'.proof.length k3')
    have hYa := hY10.block (heap_set5 w10 w6.heap.size (.string x'.name) (.string x'.who) (.slice a1' x'.says.length k1') (.slice a2' x'.uses.length k2') (.slice a3' x'.proof.length k3') (k := w7.heap.size) (by omega))
    have hEa := (hE3.blocks (W' := set5 w10 w6.heap.size (.string x'.name) (.string x'.who) (.slice a1' x'.says.length k1') (.slice a2' x'.uses.length k2') (.slice a3' x'.proof.length k3')) (Nat.le_refl _) fun q h1 h2 => heap_set5 _ _ _ _ _ _ _ (by omega)).ent
    have hbsa := set5_below hbs10 hl5 (.string x'.name) (.string x'.who) (.slice a1' x'.says.length k1') (.slice a2' x'.uses.length k2') (.slice a3' x'.proof.length k3')
    have hbwa := set5_below hbw10 (Nat.le_trans hlw hl5) (.string x'.name) (.string x'.who) (.slice a1' x'.says.length k1') (.slice a2' x'.uses.length k2') (.slice a3' x'.proof.length k3')
    obtain ⟨Wa, hWa⟩ : ∃ Wa, set5 w10 w6.heap.size (.string x'.name) (.string x'.who) (.slice a1' x'.says.length k1') (.slice a2' x'.uses.length k2') (.slice a3' x'.proof.length k3') = Wa := ⟨_, rfl⟩
    rw [hWa] at hXa hYa hEa hbsa hbwa
    have hEO : ∀ W, Below Wa.heap.size Wa W → ∀ y0 y1 y2 y3 y4, EntAt (set5 W w7.heap.size y0 y1 y2 y3 y4) (.slice a1' x'.says.length k1') (.slice a2' x'.uses.length k2') (.slice a3' x'.proof.length k3') x' := fun W hW y0 y1 y2 y3 y4 => (hE3.blocks (W' := set5 W w7.heap.size y0 y1 y2 y3 y4) (Nat.le_refl _) fun q h1 h2 => (heap_set5 _ _ _ _ _ _ _ (by omega)).trans ((hW.block q (by rw [← hWa]; unfold set5; simpa using h2)).trans (by rw [← hWa]; exact heap_set5 w10 w6.heap.size _ _ _ _ _ (by omega)))).ent
    have HXA := hid hXa
    have HYA := hid hYa
    have HEA := hid hEa
    have HEO := hid hEO
    have HBSA := hid hbsa
    have HBWA := hid hbwa
    have HM3 := hid hm3
    unfold set5 at hWa
    have HWA := hid hWa
    have HLX := hid hlx
    have HL5 := hid hl5
    have HLW := hid hlw
    obtain ⟨c0, c1, c2, c3, c4, z0, z1, z2, z3, z4⟩ := hX10
    clear hY10 hbs10 hbw10 hE3 hm3 hb10 HXZ HYZ HBSZ HBWZ hXa hYa hEa hbsa hbwa hEO hWa hlz hlx hl5 hlw
    go_wp2_with fail
    rw [HWA.out]
    clear HWA c0 c1 c2 c3 c4 z0 z1 z2 z3 z4
    refine (carry_MovedO _ vm b (l.map (carE a d)) f n o u Wa (HSB.out.below HBWA.out) (HM.out.below HBSA.out) HB1.out (by rw [List.length_map]; exact HL1.out) hf hn ho hu).mono ?_
    rintro e w11 ⟨y', uS', uU', uP', r4, hm4, rfl, hE4, hb11⟩
    obtain ⟨rfl, hyx'⟩ := movR_car HONE.out HLIB.out HM3.out hm4
    obtain ⟨b1', j1', b2', j2', b3', j3', rfl, rfl, rfl⟩ := hE4.ent.slicesT
    have hlz : w7.heap.size < Wa.heap.size := World.block_lt_of_cell? _ _ HYA.out.c0
    have hX11 := HXA.out.below hb11
    have hY11 := HYA.out.below hb11
    have hEx11 := HEA.out.below hb11
    have hbw11 := HBWA.out.trans (hb11.mono HBWA.out.size)
    have hYb := hY11.store (.string y'.name) (.string y'.who) (.slice b1' y'.says.length j1') (.slice b2' y'.uses.length j2') (.slice b3' y'.proof.length j3')
    have hXb := hX11.block (heap_set5 w11 w7.heap.size (.string y'.name) (.string y'.who) (.slice b1' y'.says.length j1') (.slice b2' y'.uses.length j2') (.slice b3' y'.proof.length j3') (k := w6.heap.size) (by have := HLX.out; omega))
    have hEy := (hE4.blocks (W' := set5 w11 w7.heap.size (.string y'.name) (.string y'.who) (.slice b1' y'.says.length j1') (.slice b2' y'.uses.length j2') (.slice b3' y'.proof.length j3')) (Nat.le_refl _) fun q h1 h2 => heap_set5 _ _ _ _ _ _ _ (by omega)).ent
    have hEx := HEO.out w11 hb11 (.string y'.name) (.string y'.who) (.slice b1' y'.says.length j1') (.slice b2' y'.uses.length j2') (.slice b3' y'.proof.length j3')
    have hbwb := set5_below hbw11 (b := w7.heap.size) (by have := HLX.out; have := HL5.out; have := HLW.out; omega) (.string y'.name) (.string y'.who) (.slice b1' y'.says.length j1') (.slice b2' y'.uses.length j2') (.slice b3' y'.proof.length j3')
    obtain ⟨Wb, hWb⟩ : ∃ Wb, set5 w11 w7.heap.size (.string y'.name) (.string y'.who) (.slice b1' y'.says.length j1') (.slice b2' y'.uses.length j2') (.slice b3' y'.proof.length j3') = Wb := ⟨_, rfl⟩
    rw [hWb] at hXb hYb hEy hEx hbwb
    have HXB := hid hXb
    have HYB := hid hYb
    have HEYB := hid hEy
    have HEXB := hid hEx
    have HBWB := hid hbwb
    have HYX := hid hyx'
    unfold set5 at hWb
    have HWB := hid hWb
    have n2 : (r3 != r3) = false := by simp
    obtain ⟨c0, c1, c2, c3, c4, z0, z1, z2, z3, z4⟩ := hY11
    obtain ⟨d0, d1, d2, d3, d4, -, -, -, -, -⟩ := hXb
    clear hm4 hX11 hEx11 hbw11 hYb hEy hEx hbwb hyx' hE4 hb11 HXA HYA HEA HBSA HBWA HM3 hWb hlz HEO
    by_cases h0 : r3 = 0
    case neg =>
      have n0 : (r3 == 0) = false := by simpa using h0
      clear h0
      go_wp2_with fail
      rw [HWB.out]
      refine (HAW.out Wb).mono ?_
      rintro e w12 ⟨rfl, hb12⟩
      go_wp2
      go_ret
      exact ⟨rfl, HBWB.out.trans (hb12.mono HBWB.out.size)⟩
    case pos =>
      subst h0
      obtain ⟨hy2, hl2⟩ := HYX.out rfl
      have HY2 := hid hy2
      have hone := ents_one (T := 41) HEXB.out
      have hb70 : Below Wb.heap.size Wb (Wb.alloc (.cells #[.string x'.name, .string x'.who, .slice a1' x'.says.length k1', .slice a2' x'.uses.length k2', .slice a3' x'.proof.length k3'] 41)) := (Below.refl _ _).alloc (Nat.le_refl _) _
      have HB70 := hid (HBWB.out.trans (hb70.mono HBWB.out.size))
      have HCD := hid (carry_Carried _ _ _ _ a b d [x'] _ (HSA.out.below HB70.out) (HSB.out.below HB70.out) (HSD.out.below HB70.out) hone HA1.out HB1.out (by simp) HDV.out hl2)
      have HB77 := hid hb70
      clear hone hb70 hy2 hl2
      go_wp2_with (rw [HWB.out])
      refine HCD.out.mono ?_
      rintro e w12 ⟨vz, rfl, hZ, hb12⟩
      have hbz := HB77.out.trans (hb12.mono HB77.out.size)
      obtain ⟨y0, y1, y2, y3, y4, -, -, -, -, -⟩ := HYB.out.below hbz
      have hEy := HEYB.out.below hbz
      obtain ⟨zp, zc, rfl, -, -, -, ZC⟩ := hZ.open
      obtain ⟨gb, gp, zS, zU, zP, rfl, q0, q1, q2, q3, q4, he⟩ := ZC 0 (by simp)
      simp only [List.map_cons, List.map_nil, List.getElem_cons_zero, List.length_cons, List.length_nil, Nat.zero_add, Nat.zero_mul, Nat.add_zero] at q0 q1 q2 q3 q4 he
      obtain ⟨a4, k4, a5, k5, a6, k6, rfl, rfl, rfl⟩ := he.slicesT
      rw [← HY2.out] at q0 q1 q2 q3 q4 he
      have HSE := hid (fun (X : World) (hX : Below w12.heap.size w12 X) => ref6_SameEntry _ _ _ _ _ _ y' y' X (he.below hX) (hEy.below hX))
      rw [decide_eq_true (rfl : y' = y')] at HSE
      have HBZ := hid (HB70.out.trans (hb12.mono HB70.out.size))
      rw [show (List.map (carE a d) [x']).length = 1 from rfl]
      clear hEy he ZC hZ hbz hb12 c0 c1 c2 c3 c4 z0 z1 z2 z3 z4 d0 d1 d2 d3 d4
      go_wp2
      go_region_held3 (fun w' => w'.cell? ⟨gb, gp, none⟩ = some (.string y'.name) ∧ w'.cell? ⟨gb, gp + 1, none⟩ = some (.string y'.who) ∧ w'.cell? ⟨gb, gp + 2, none⟩ = some (.slice a4 y'.says.length k4) ∧ w'.cell? ⟨gb, gp + 3, none⟩ = some (.slice a5 y'.uses.length k5) ∧ w'.cell? ⟨gb, gp + 4, none⟩ = some (.slice a6 y'.proof.length k6) ∧
          w'.cell? ⟨w7.heap.size, 0, none⟩ = some (.string y'.name) ∧ w'.cell? ⟨w7.heap.size, 1, none⟩ = some (.string y'.who) ∧ w'.cell? ⟨w7.heap.size, 2, none⟩ = some (.slice b1' y'.says.length j1') ∧ w'.cell? ⟨w7.heap.size, 3, none⟩ = some (.slice b2' y'.uses.length j2') ∧ w'.cell? ⟨w7.heap.size, 4, none⟩ = some (.slice b3' y'.proof.length j3'))
        (first | exact ⟨by assumption, by assumption, by assumption, by assumption, by assumption, by assumption, by assumption, by assumption, by assumption, by assumption⟩ | go_keep)
        (first
        | (go_at_call 72; (with_reducible refine (HSE.out _ (Below.refl _ _)).mono ?_); rintro e wz ⟨rfl, hbz⟩; have hbr : Below w12.heap.size w12 wz := hbz; have p0 := (hbr.cell (World.block_lt_of_cell? _ _ q0)).trans q0; have s0 := (hbr.cell (World.block_lt_of_cell? _ _ y0)).trans y0; have p1 := (hbr.cell (World.block_lt_of_cell? _ _ q1)).trans q1; have s1 := (hbr.cell (World.block_lt_of_cell? _ _ y1)).trans y1; have p2 := (hbr.cell (World.block_lt_of_cell? _ _ q2)).trans q2; have s2 := (hbr.cell (World.block_lt_of_cell? _ _ y2)).trans y2; have p3 := (hbr.cell (World.block_lt_of_cell? _ _ q3)).trans q3; have s3 := (hbr.cell (World.block_lt_of_cell? _ _ y3)).trans y3; have p4 := (hbr.cell (World.block_lt_of_cell? _ _ q4)).trans q4; have s4 := (hbr.cell (World.block_lt_of_cell? _ _ y4)).trans y4)
        | (go_at_call 72; (with_reducible refine (HSE.out _ (Below.drew (Below.refl _ _))).mono ?_); rintro e wz ⟨rfl, hbz⟩; have hbr : Below w12.heap.size w12 wz := (below_self_drew _).trans hbz; have p0 := (hbr.cell (World.block_lt_of_cell? _ _ q0)).trans q0; have s0 := (hbr.cell (World.block_lt_of_cell? _ _ y0)).trans y0; have p1 := (hbr.cell (World.block_lt_of_cell? _ _ q1)).trans q1; have s1 := (hbr.cell (World.block_lt_of_cell? _ _ y1)).trans y1; have p2 := (hbr.cell (World.block_lt_of_cell? _ _ q2)).trans q2; have s2 := (hbr.cell (World.block_lt_of_cell? _ _ y2)).trans y2; have p3 := (hbr.cell (World.block_lt_of_cell? _ _ q3)).trans q3; have s3 := (hbr.cell (World.block_lt_of_cell? _ _ y3)).trans y3; have p4 := (hbr.cell (World.block_lt_of_cell? _ _ q4)).trans q4; have s4 := (hbr.cell (World.block_lt_of_cell? _ _ y4)).trans y4))
      have HBWZ2 := hid (HBZ.out.trans (hbr.mono HBZ.out.size))
      clear p0 p1 p2 p3 p4 s0 s1 s2 s3 s4 q0 q1 q2 q3 q4 y0 y1 y2 y3 y4 hbr hbz HSE
      go_wp2_with fail
      refine (HAW.out _).mono ?_
      rintro e w13 ⟨rfl, hb13⟩
      go_wp2
      go_ret
      exact ⟨rfl, HBWZ2.out.trans (hb13.mono HBWZ2.out.size)⟩
end Go.Proofs.YtalodmochkodiaaGreat
