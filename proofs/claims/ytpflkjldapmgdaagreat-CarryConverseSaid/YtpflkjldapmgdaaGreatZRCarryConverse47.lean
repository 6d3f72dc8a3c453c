/-
  WHAT IT HOLDS: the walk of the law CarryConverse: it returns true. Conditions: the arguments read as data.
-/
import Derived.ChangeKeysEq
import Derived.Laws.StructEq
import Derived.Test.YtpflkjldapmgdaaGreatZRCarryConverse46
import Derived.Test.YtpflkjldapmgdaaGreatZRCarryConverse33
import Derived.Test.YtpflkjldapmgdaaGreatZRCarryConverse20
namespace Go.Proofs.YtpflkjldapmgdaaGreat
open Go Go.RowKit Go.Maps
theorem PrsAt.open {w : World} {v : Value} {L : List N2} (h : PrsAt w v L) : ∃ a cap, v = .slice a L.length cap ∧ L.length ≤ cap ∧ L.length ≤ 140737488355328 ∧ ∀ j (h : j < L.length), ∃ b o, a = some ⟨b, o, none⟩ ∧ w.cell? ⟨b, o + j * 2, none⟩ = some (.string L[j].1) ∧ w.cell? ⟨b, o + j * 2 + 1, none⟩ = some (.string L[j].2) := by
  obtain ⟨h1, a, cap, h2, h3, h4, h5, h6⟩ := h
  refine ⟨a, cap, h2, h3, by omega, fun j hj => ?_⟩
  obtain ⟨g0, g1⟩ := pC_get L j hj
  obtain ⟨b, o, e0, q0⟩ := h6 _ _ g0
  obtain ⟨b', o', e1, q1⟩ := h6 _ _ g1
  rw [e0] at e1
  cases e1
  exact ⟨b, o, e0, q0, by rw [Nat.add_assoc]; exact q1⟩
/-- what the law's end asks, where the statement says "if". -/
theorem conv_end {s : Sg} {t : List Int} (h : termB s t = true) (h0 : t.head? = some 0) :
    convR s (convL s t) = (convL s (convL s t), 0) ∧ eqvR s t (convL s t) = (true, 0) ∧ canB s (convL s (convL s t)) = true ∧ alikeB s (convL s (convL s t)) t = true := by
  obtain ⟨c1, c2, c3, c4, c5⟩ := conv_facts h h0
  obtain ⟨d1, d2, -, -, -⟩ := conv_facts c1 c3
  refine ⟨convR_0 c1 c3, ?_, ?_, ?_⟩
  · rw [eqvR_0 h c1, decide_eq_true h0]
    unfold alikeB
    rw [c1]
    simp
  · unfold canB
    rw [d1]
    simpa using d2
  · unfold alikeB
    rw [d1, h]
    simpa using c4
/-- two pairs of names are compared. -/
theorem run_equal_pr (a b c d : Nm) (w : World) : (Op.equalIn 10000 52 (.agg #[.string a, .string b]) (.agg #[.string c, .string d])).run Tryz.prog w = .ok ((a.toList == c.toList) && (b.toList == d.toList)) w := by
  have hp : Tryz.prog.plainKey 9 = true := by kernel_rfl
  have hs : Tryz.prog.cellsOf 9 = 1 := by kernel_rfl
  obtain ⟨i, hi⟩ : ∃ i, Tryz.prog.info? 9 = some i := by
    cases h : Tryz.prog.info? 9 with
    | some i => exact ⟨i, rfl⟩
    | none => have := str_size1; rw [h] at this; cases this
  have q0 : ∀ (X : World) (x y : Nm), (part 9 #[.string x, .string y] 0).run Tryz.prog X = .ok (.string x) X := fun X x y => run_part_plain X hp rfl
  have q1 : ∀ (X : World) (x y : Nm), (part 9 #[.string x, .string y] 1).run Tryz.prog X = .ok (.string y) X := fun X x y => run_part_plain X hp rfl
  have q2 : ∀ (X : World) (x y : Nm), (Op.equalIn 9999 9 (.string x) (.string y)).run Tryz.prog X = .ok (x.toList == y.toList) X := fun X x y => run_equalIn_string X 9998 9 x y Tryz.underlying9
  rw [run_equalIn_array w 9999 _ _ Tryz.underlying52 hi, hs]
  show (Op.eqItems 9999 9 1 _ _ [0, 1]).run Tryz.prog w = _
  simp only [Op.eqItems, Sem.run_bind, Nat.zero_mul, Nat.one_mul, q0, q2, Result.andThen_ok]
  cases h1 : (a.toList == c.toList) <;> cases h2 : (b.toList == d.toList) <;> simp [h2, q1, q2]
theorem conv_ok {s : Sg} {t c : List Int} (h : convR s t = (c, 0)) : termB s t = true ∧ t.head? = some 0 ∧ c = convL s t := by
  cases g : termB s t
  · rw [convR_1 g] at h; cases h
  · by_cases h0 : t.head? = some 0
    · rw [convR_0 g h0] at h
      cases h
      exact ⟨rfl, h0, rfl⟩
    · rw [convR_10 g h0] at h; cases h
set_option maxHeartbeats 8000000 in
set_option maxRecDepth 100000 in
theorem walk_CarryConverse (vs vt vu vl : Value) (s : Sg) (t u : List Int) (l : List En) (w : World) (hs : SignAt w vs s) (ht : Ints w vt t) (hu : Ints w vu u) (hl : EntsAt w vl l) :
    Calls Tryz.prog 5 #[vs, vt, vu, vl] w fun e w' => e = .returned (.bool true) ∧ Below w.heap.size w w' := by
  have HSG := hid hs
  have HLL := hid hl
  have HTT := hid ht
  have HUU := hid hu
  obtain ⟨ta, tc, rfl, -⟩ := ht.open
  obtain ⟨ua, uc, rfl, -⟩ := hu.open
  clear hs hl ht hu
  go_enter Tryz.func5, Tryz.ntmps5
  go_wp2_with fail
  refine (law8_awake w).mono ?_
  rintro e w1 ⟨rfl, hb1⟩
  go_wp2_with fail
  refine (law8_heavy vs vl s l w1 (HSG.out.below hb1) (HLL.out.below hb1)).mono ?_
  rintro e w2 ⟨z, rfl, hz, hb2'⟩
  have hb2 := hb1.trans (hb2'.mono hb1.size)
  clear hb1 hb2'
  cases z
  case true =>
    clear hz
    go_wp2
    go_ret
    exact ⟨rfl, hb2⟩
  obtain ⟨hs20, hl100⟩ := hz rfl
  clear hz
  by_cases e1 : (t.length : Int) > 100
  · go_wp2
    go_ret
    exact ⟨rfl, hb2⟩
  by_cases e2 : (u.length : Int) > 100
  · go_wp2
    go_ret
    exact ⟨rfl, hb2⟩
  have HS1 := hid (show s.length ≤ 1000 by omega)
  have HL1 := hid (show l.length ≤ 1000 by omega)
  clear hs20 hl100
  have HB2 := hid hb2
  clear hb2
  go_wp2_with fail
  refine (carry_Converse vs _ s t w2 (HSG.out.below HB2.out) (HTT.out.below HB2.out) HS1.out).mono ?_
  rintro e w3 ⟨ua', rfl, hi1, hb3⟩
  have HB3 := hid (HB2.out.trans (hb3.mono HB2.out.size))
  clear hb3
  obtain ⟨c, er, hc⟩ : ∃ c er, convR s t = (c, er) := ⟨_, _, rfl⟩
  have HC := hid hc
  rw [hc] at hi1
  simp only [hc]
  simp only at hi1
  clear hc
  go_wp2_with fail
  refine (ref8_Converse vs _ s t w3 (HSG.out.below HB3.out) (HTT.out.below HB3.out)).mono ?_
  rintro e w4 ⟨ub', rfl, hi2, hb4⟩
  have HI1 := hid (hi1.below hb4)
  have HB4 := hid (HB3.out.trans (hb4.mono HB3.out.size))
  rw [HC.out] at hi2
  simp only [HC.out]
  simp only at hi2
  have HI2 := hid hi2
  clear hb4 hi1 hi2
  go_wp2_with fail
  refine (carry_Equivalence vs _ _ s t u w4 (HSG.out.below HB4.out) (HTT.out.below HB4.out) (HUU.out.below HB4.out) HS1.out).mono ?_
  rintro e w5 ⟨rfl, hb5⟩
  have HB5 := hid (HB4.out.trans (hb5.mono HB4.out.size))
  have HI1a := hid (HI1.out.below hb5)
  have HI2a := hid (HI2.out.below hb5)
  obtain ⟨z5, r5, h5⟩ : ∃ z5 r5, eqvR s t u = (z5, r5) := ⟨_, _, rfl⟩
  have H5 := hid h5
  simp only [h5]
  clear hb5 h5 HI1 HI2
  go_wp2_with fail
  refine (ref8_Equivalence vs _ _ s t u w5 (HSG.out.below HB5.out) (HTT.out.below HB5.out) (HUU.out.below HB5.out)).mono ?_
  rintro e w6 ⟨rfl, hb6⟩
  have HB6 := hid (HB5.out.trans (hb6.mono HB5.out.size))
  have HI1b := hid (HI1a.out.below hb6)
  have HI2b := hid (HI2a.out.below hb6)
  simp only [H5.out]
  clear hb6 HI1a HI2a
  go_wp2_with fail
  refine (carry_Equivalences vs vl s l w6 (HSG.out.below HB6.out) (HLL.out.below HB6.out) HS1.out HL1.out).mono ?_
  rintro e w7 ⟨u7, L, r7, hq7, rfl, hp7, hb7⟩
  have HB7 := hid (HB6.out.trans (hb7.mono HB6.out.size))
  have HI1c := hid (HI1b.out.below hb7)
  have HI2c := hid (HI2b.out.below hb7)
  clear hb7 HI1b HI2b
  go_wp2_with fail
  refine (ref8_Equivalences vs vl s l w7 (HSG.out.below HB7.out) (HLL.out.below HB7.out) HS1.out HL1.out).mono ?_
  rintro e w8 ⟨u8, L', r8, hq8, rfl, hp8, hb8⟩
  obtain ⟨rfl, rfl⟩ := hq7.unique hq8
  have HB8 := hid (HB7.out.trans (hb8.mono HB7.out.size))
  have HI1d := hid (HI1c.out.below hb8)
  have HI2d := hid (HI2c.out.below hb8)
  have hp7' := hp7.below hb8
  obtain ⟨pa, pc, rfl, -, pl, PC⟩ := hp7'.open
  obtain ⟨qa, qc, rfl, -, -, QC⟩ := hp8.open
  have HPC := hid PC
  have HQC := hid QC
  have HT1 := hid (ref6_SameTerm ua' ub' c c w8 HI1d.out HI2d.out)
  rw [decide_eq_true (rfl : c = c)] at HT1
  have n1 : (er != er) = false := by simp
  have n2 : (r7 != r7) = false := by simp
  have n3 : (r5 != r5) = false := by simp
  have n4 : (z5 != z5) = false := by simp
  have n5 : ((L.length : Int) != (L.length : Int)) = false := by simp
  clear hb8 hq7 hq8 hp7 hp7' hp8 PC QC HI1c HI2c
  go_wp2_with fail
  refine HT1.out.mono ?_
  rintro e w9 ⟨rfl, n9, hw9⟩
  have hb9 : Below w8.heap.size w8 w9 := hw9 ▸ below_self_drewN _ _
  have HB9 := hid (HB8.out.trans (hb9.mono HB8.out.size))
  have HW9 := hid hw9
  have HI9 := hid (HI1d.out.below hb9)
  have H89 := hid hb9
  clear hw9 hb9 HT1
  go_wp2
  go_loopw [21] (fun kv wr => ∃ k q : Nat, k ≤ L.length ∧ kv = .int .i64 k ∧ wr = w9.drewN q) (fun kv _ => L.length - (intOf kv).toNat)
  case atStart => exact ⟨0, 0, by omega, rfl, rfl⟩
  case round =>
    obtain ⟨k, q, hk, rfl, rfl⟩ := hrel
    by_cases hlt : k < L.length
    · obtain ⟨b, o, rfl, c0, c1⟩ := HPC.out k hlt
      obtain ⟨b', o', rfl, d0, d1⟩ := HQC.out k hlt
      have c0 := (H89.out.cell (World.block_lt_of_cell? _ _ c0)).trans c0
      have c1 := (H89.out.cell (World.block_lt_of_cell? _ _ c1)).trans c1
      have d0 := (H89.out.cell (World.block_lt_of_cell? _ _ d0)).trans d0
      have d1 := (H89.out.cell (World.block_lt_of_cell? _ _ d1)).trans d1
      obtain ⟨x, hx⟩ : ∃ x, L[k].1 = x := ⟨_, rfl⟩
      obtain ⟨y, hy⟩ : ∃ y, L[k].2 = y := ⟨_, rfl⟩
      rw [hx] at c0 d0
      rw [hy] at c1 d1
      have y0 : (0 : Int) ≤ (k : Int) := by omega
      have y1 : (k : Int) < (L.length : Int) := by omega
      have qe : ∀ X : World, (Op.equalIn 10000 52 (.agg #[.string x, .string y]) (.agg #[.string x, .string y])).run Tryz.prog X = .ok true X := fun X => by rw [run_equal_pr]; simp
      clear hx hy
      go_wp2
      go_quiet (fail)
      go_wp2
      go_roundw
      case rel => exact ⟨k + 1, _, by omega, by go_num, (by first | rfl | exact World.drewN_drewN _ _ _)⟩
      case measure => simp [intOf]; omega
    · obtain ⟨W, hW⟩ : ∃ W, w9.drewN q = W := ⟨_, rfl⟩
      have HBW : Hid (Below w.heap.size w W) := hid (hW ▸ below_drewN HB9.out q)
      have HIW : Hid (Ints W ua' c) := hid (hW ▸ HI9.out.drewN q)
      rw [hW]
      clear hW
      by_cases h0 : er = 0
      case neg =>
        have n0 : (er != 0) = true := by simpa using h0
        clear h0
        go_wp2
        go_ret
        exact ⟨rfl, HBW.out⟩
      subst h0
      obtain ⟨g1, g2, rfl⟩ := conv_ok HC.out
      obtain ⟨k1, k2, k3, k4⟩ := conv_end g1 g2
      obtain ⟨c, hc⟩ : ∃ c, convL s t = c := ⟨_, rfl⟩
      rw [hc] at k1 k2 k3 k4 HIW
      obtain ⟨d, hd⟩ : ∃ d, convL s c = d := ⟨_, rfl⟩
      rw [hd] at k1 k3 k4
      have K1 := hid k1
      have K2 := hid k2
      have K3 := hid k3
      have K4 := hid k4
      obtain ⟨xa, xc, rfl, -⟩ := HIW.out.open
      have HCV := hid (carry_Converse vs _ s c W (HSG.out.below HBW.out) HIW.out HS1.out)
      rw [k1] at HCV
      dsimp only at HCV
      clear g1 g2 k1 k2 k3 k4 hc hd
      go_wp2_with fail
      refine HCV.out.mono ?_
      rintro e wa ⟨ud, rfl, hid1, hba⟩
      have HBA := hid (HBW.out.trans (hba.mono HBW.out.size))
      have HDA := hid hid1
      have HEV := hid (carry_Equivalence vs _ _ s t c wa (HSG.out.below HBA.out) (HTT.out.below HBA.out) (HIW.out.below hba) HS1.out)
      rw [K2.out] at HEV
      dsimp only at HEV
      obtain ⟨da, dc, rfl, -⟩ := hid1.open
      clear hid1 hba HCV
      go_wp2_with fail
      refine HEV.out.mono ?_
      rintro e wb ⟨rfl, hbb⟩
      have HBB := hid (HBA.out.trans (hbb.mono HBA.out.size))
      have HDB := hid (HDA.out.below hbb)
      have HIC := hid (ref1_IsCanonical vs _ s d wb (HSG.out.below HBB.out) HDB.out)
      rw [K3.out] at HIC
      clear hbb HEV
      go_wp2_with fail
      refine HIC.out.mono ?_
      rintro e wd ⟨rfl, hbd⟩
      have HBD := hid (HBB.out.trans (hbd.mono HBB.out.size))
      have HAL := hid (ref1_Alike vs _ _ s d t wd (HSG.out.below HBD.out) (HDB.out.below hbd) (HTT.out.below HBD.out))
      rw [K4.out] at HAL
      clear hbd HIC
      go_wp2_with fail
      refine HAL.out.mono ?_
      rintro e we ⟨rfl, hbe⟩
      go_wp2
      go_ret
      exact ⟨rfl, HBD.out.trans (hbe.mono HBD.out.size)⟩
end Go.Proofs.YtpflkjldapmgdaaGreat
