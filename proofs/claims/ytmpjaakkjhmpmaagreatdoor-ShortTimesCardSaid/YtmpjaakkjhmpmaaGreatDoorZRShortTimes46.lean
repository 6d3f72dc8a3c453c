/-
  WHAT IT HOLDS: contracts of Best of both sides and of Times of the reference of layer 7. Conditions: the arguments read as data.
  WHAT IT HOLDS: the walk of the law ShortTimes: it returns true. Conditions: the arguments read as data; the library's table of powers of ten stands as it is written.
-/
import Derived.BigQuiet
import Derived.Test.YtmpjaakkjhmpmaaGreatDoorZRShortTimes45
import Derived.Test.YtmpjaakkjhmpmaaGreatDoorZRShortTimes44
import Derived.Test.YtmpjaakkjhmpmaaGreatDoorZRShortTimes43
namespace Go.Proofs.YtmpjaakkjhmpmaaGreatDoor
open Go Go.RowKit Go.Maps
theorem savR_err (u c : Int) : (savR u c).2 = 0 ∨ (savR u c).2 = 4 := by
  unfold savR
  split
  · exact Or.inl rfl
  · split
    · exact Or.inr rfl
    · exact Or.inl rfl
def svS (p : List St) (k : Nat) : Int × Int := savR (tmA (timL p) k) (cntA p k)
/-- the best step of the first k, and its saving. -/
def bstF (p : List St) : Nat → Int × Int
  | 0 => (-1, 0)
  | k + 1 => if (bstF p k).2 < (svS p k).1 then ((k : Int), (svS p k).1) else bstF p k
def bstE (p : List St) : Bool := (List.range p.length).any fun k => decide ((svS p k).2 ≠ 0)
def bstV (g : Int) (p : List St) : Int × Int := if vldB g p = true then (if bstE p = true then (0, 4) else if (bstF p p.length).1 < 0 then (0, 8) else ((bstF p p.length).1, 0)) else (0, 1)
theorem bstE_yes {p : List St} {k : Nat} (hk : k < p.length) (h : (svS p k).2 ≠ 0) : bstE p = true := by
  unfold bstE
  rw [List.any_eq_true]
  exact ⟨k, List.mem_range.2 hk, decide_eq_true h⟩
theorem bstE_no {p : List St} (h : ∀ j, j < p.length → (svS p j).2 = 0) : bstE p = false := by
  unfold bstE
  rw [List.any_eq_false]
  intro k hk
  simp [h k (List.mem_range.1 hk)]
def BstQ (g : Int) (p : List St) (w : World) (e : Ending) (w' : World) : Prop := e = .returned (.tuple #[.int .i64 (bstV g p).1, .int .i64 (bstV g p).2]) ∧ Below w.heap.size w w'
set_option maxHeartbeats 4000000 in
set_option maxRecDepth 100000 in
theorem short_Best (g : Int) (v : Value) (p : List St) (w : World) (hv : StepsAt w v p) :
    Calls Tryz.prog 38 #[.int .i64 g, v] w fun e w' => BstQ g p w e w' := by
  have HV := hid (short_valid g v p w hv)
  have HP := hid hv
  obtain ⟨pa, pc, rfl, -⟩ := hv.open
  clear hv
  unfold BstQ
  obtain ⟨R, hR⟩ : ∃ R, bstV g p = R := ⟨_, rfl⟩
  rw [hR]
  unfold bstV at hR
  cases hb : vldB g p
  · rw [vldE_1 hb] at HV
    rw [hb] at hR
    obtain rfl : (0, 1) = R := hR
    clear hb HP
    go_enter Tryz.func38, Tryz.ntmps38
    go_wp2_with fail
    refine HV.out.mono ?_
    rintro e w1 ⟨rfl, hb1⟩
    go_wp2
    go_ret2
    exact ⟨rfl, hb1⟩
  rw [vldE_0 hb] at HV
  rw [if_pos hb] at hR
  have HR := hid hR
  have hp : proofB g p = true := by unfold vldB at hb; rw [Bool.and_eq_true] at hb; exact hb.2
  have h60 := proof60 hp
  have HS := hid (fun (k : Nat) (hk : k < p.length) (X : World) (hX : Below w.heap.size w X) => short_saving g (.slice pa p.length pc) p k X (HP.out.below hX) hp hk)
  clear hb HP hp hR
  go_enter Tryz.func38, Tryz.ntmps38
  go_wp2_with fail
  refine HV.out.mono ?_
  rintro e w1 ⟨rfl, hb1⟩
  have HB1 := hid hb1
  clear hb1 HV
  go_wp2
  go_loopw [7, 8, 20] (fun bv mv kv wr => ∃ k : Nat, k ≤ p.length ∧ kv = .int .i64 k ∧ bv = .int .i64 (bstF p k).1 ∧ mv = .int .i64 (bstF p k).2 ∧ (∀ j, j < k → (svS p j).2 = 0) ∧ Below w.heap.size w wr) (fun _ _ kv _ => p.length - (intOf kv).toNat)
  case atStart => exact ⟨0, by omega, rfl, rfl, rfl, fun j h => by omega, HB1.out⟩
  case round =>
    obtain ⟨k, hk, rfl, rfl, rfl, hall, hb⟩ := hrel
    have HALL := hid hall
    have HB := hid hb
    by_cases hlt : k < p.length
    · have K := hid (HS.out k hlt wr hb)
      have hf : bstF p (k + 1) = if (bstF p k).2 < (svS p k).1 then ((k : Int), (svS p k).1) else bstF p k := rfl
      have herr := savR_err (tmA (timL p) k) (cntA p k)
      have hey := bstE_yes (p := p) hlt
      have hsv : savR (tmA (timL p) k) (cntA p k) = svS p k := rfl
      rw [hsv] at K herr
      obtain ⟨S, hS⟩ : ∃ S, svS p k = S := ⟨_, rfl⟩
      obtain ⟨F, hF⟩ : ∃ F, bstF p k = F := ⟨_, rfl⟩
      have HSE := hid hS
      rw [hS] at K herr hf hey
      rw [hF] at hf ⊢
      obtain ⟨s1, s2⟩ := S
      obtain ⟨f1, f2⟩ := F
      dsimp only at K herr hf hey ⊢
      have HF := hid hf
      have HEY := hid hey
      clear hall hb hS hF hsv hf hey
      rcases herr with rfl | rfl
      · by_cases hgt : f2 < s1
        · have HF2 : Hid (bstF p (k + 1) = ((k : Int), s1)) := hid (by rw [HF.out, if_pos hgt])
          have q1 : s1 > f2 := hgt
          clear hgt
          go_wp2_with fail
          refine K.out.mono ?_
          rintro e w2 ⟨rfl, hb2⟩
          have HB2 := hid (HB.out.trans (hb2.mono HB.out.size))
          clear hb2 K
          go_wp2
          go_roundw
          case rel =>
            refine ⟨k + 1, by omega, by go_num, by rw [HF2.out], by rw [HF2.out], fun j hj => ?_, HB2.out⟩
            by_cases e : j = k
            · subst e; rw [HSE.out]
            · exact HALL.out j (by omega)
          case measure => simp [intOf]; omega
        · have HF2 : Hid (bstF p (k + 1) = (f1, f2)) := hid (by rw [HF.out, if_neg hgt])
          have q1 : ¬ s1 > f2 := hgt
          clear hgt
          go_wp2_with fail
          refine K.out.mono ?_
          rintro e w2 ⟨rfl, hb2⟩
          have HB2 := hid (HB.out.trans (hb2.mono HB.out.size))
          clear hb2 K
          go_wp2
          go_roundw
          case rel =>
            refine ⟨k + 1, by omega, by go_num, by rw [HF2.out], by rw [HF2.out], fun j hj => ?_, HB2.out⟩
            by_cases e : j = k
            · subst e; rw [HSE.out]
            · exact HALL.out j (by omega)
          case measure => simp [intOf]; omega
      · have hr : R = (0, 4) := by rw [← HR.out, if_pos (HEY.out (by decide))]
        subst hr
        go_wp2_with fail
        refine K.out.mono ?_
        rintro e w2 ⟨rfl, hb2⟩
        have HB2 := hid (HB.out.trans (hb2.mono HB.out.size))
        clear hb2 K
        go_wp2
        go_ret2
        exact ⟨rfl, HB2.out⟩
    · have hkl : k = p.length := by omega
      subst hkl
      have hno := bstE_no hall
      have hR2 := HR.out
      rw [hno, if_neg (by decide)] at hR2
      obtain ⟨F, hF⟩ : ∃ F, bstF p p.length = F := ⟨_, rfl⟩
      rw [hF] at hR2 ⊢
      obtain ⟨f1, f2⟩ := F
      dsimp only at hR2 ⊢
      clear hall hb hno hF HALL
      by_cases h0 : f1 < 0
      · rw [if_pos h0] at hR2
        subst hR2
        clear HR HS
        go_wp2
        go_ret2
        exact ⟨rfl, HB.out⟩
      · rw [if_neg h0] at hR2
        subst hR2
        clear HR HS
        go_wp2
        go_ret2
        exact ⟨rfl, HB.out⟩
set_option maxHeartbeats 4000000 in
set_option maxRecDepth 100000 in
theorem ref7_Best (g : Int) (v : Value) (p : List St) (w : World) (hv : StepsAt w v p) :
    Calls Tryz.prog 39 #[.int .i64 g, v] w fun e w' => BstQ g p w e w' := by
  have HV := hid (ref7_valid g v p w hv)
  have HP := hid hv
  obtain ⟨pa, pc, rfl, -⟩ := hv.open
  clear hv
  unfold BstQ
  obtain ⟨R, hR⟩ : ∃ R, bstV g p = R := ⟨_, rfl⟩
  rw [hR]
  unfold bstV at hR
  cases hb : vldB g p
  · rw [hb] at HV
    rw [hb] at hR
    obtain rfl : (0, 1) = R := hR
    clear hb HP
    go_enter Tryz.func39, Tryz.ntmps39
    go_wp2_with fail
    refine HV.out.mono ?_
    rintro e w1 ⟨rfl, hb1⟩
    go_wp2
    go_ret2
    exact ⟨rfl, hb1⟩
  rw [hb] at HV
  rw [if_pos hb] at hR
  have HR := hid hR
  have hp : proofB g p = true := by unfold vldB at hb; rw [Bool.and_eq_true] at hb; exact hb.2
  have h60 := proof60 hp
  have h1 := proof1 hp
  have HTS := hid (fun (k : Nat) (hk : k < p.length) => tim_small (back_of hp) h60 h1 k hk)
  have HCS := hid (fun (k : Nat) (hk : k < p.length) => cnt_small (back_of hp) h60 hk)
  have HT := hid (fun (X : World) (hX : Below w.heap.size w X) => ref7_times g (.slice pa p.length pc) p X (HP.out.below hX) hp)
  have HC := hid (fun (X : World) (hX : Below w.heap.size w X) => ref7_counts g (.slice pa p.length pc) p X (HP.out.below hX) hp)
  have HTL := hid (timL_len p)
  have HCL := hid (cntL_len p p.length)
  clear hb HP hp hR
  go_enter Tryz.func39, Tryz.ntmps39
  go_wp2_with fail
  refine HV.out.mono ?_
  rintro e w1 ⟨rfl, hb1⟩
  have HB1 := hid hb1
  have K1 := hid (HT.out w1 hb1)
  clear hb1 HV HT
  go_wp2_with fail
  refine K1.out.mono ?_
  rintro e w2 ⟨q, rfl, hq0, hown2, hb2⟩
  have HB2 := hid (HB1.out.trans (hb2.mono HB1.out.size))
  have HO2 := hid hown2
  have K2 := hid (HC.out w2 HB2.out)
  clear hown2 hb2 HC K1
  go_wp2_with fail
  refine K2.out.mono ?_
  rintro e w3 ⟨q2, cc, rfl, hq2, hown3, hb3⟩
  have HB3 := hid (HB2.out.trans (hb3.mono HB2.out.size))
  have HCELL := hid (fun (k : Nat) (hk : k < p.length) => (show w3.cell? ⟨q, k, none⟩ = some (.int .i64 (tmA (timL p) k)) ∧ w3.cell? ⟨q2, k, none⟩ = some (.int .i64 (cntA p k)) by
    have c1 := HO2.out.cellAt k (by omega)
    rw [tms_at (by rw [HTL.out]; exact hk)] at c1
    have c2 := hown3.cellAt k (by omega)
    rw [tms_at (by rw [HCL.out]; exact hk)] at c2
    have e : tmA (cntL p p.length) k = cntA p k := cntL_at p hk
    rw [e] at c2
    exact ⟨(hb3.cell (World.block_lt_of_cell? _ _ c1)).trans c1, c2⟩))
  clear hown3 hb3 K2 HO2
  go_wp2
  go_loopw [8, 9, 10] (fun bv mv kv wr => ∃ k : Nat, k ≤ p.length ∧ kv = .int .i64 k ∧ bv = .int .i64 (bstF p k).1 ∧ mv = .int .i64 (bstF p k).2 ∧ (∀ j, j < k → (svS p j).2 = 0) ∧ Below w3.heap.size w3 wr) (fun _ _ kv _ => p.length - (intOf kv).toNat)
  case atStart => exact ⟨0, by omega, rfl, rfl, rfl, fun j h => by omega, Below.refl _ _⟩
  case round =>
    obtain ⟨k, hk, rfl, rfl, rfl, hall, hb⟩ := hrel
    have HALL := hid hall
    have HB := hid hb
    by_cases hlt : k < p.length
    · obtain ⟨c10, c20⟩ := HCELL.out k hlt
      have c1 := (hb.cell (World.block_lt_of_cell? _ _ c10)).trans c10
      have c2 := (hb.cell (World.block_lt_of_cell? _ _ c20)).trans c20
      have hu := HTS.out k hlt
      have hc := HCS.out k hlt
      have hf : bstF p (k + 1) = if (bstF p k).2 < (svS p k).1 then ((k : Int), (svS p k).1) else bstF p k := rfl
      have herr := savR_err (tmA (timL p) k) (cntA p k)
      have hey := bstE_yes (p := p) hlt
      have hsv : savR (tmA (timL p) k) (cntA p k) = svS p k := rfl
      obtain ⟨u, hue⟩ : ∃ u, tmA (timL p) k = u := ⟨_, rfl⟩
      obtain ⟨c, hce⟩ : ∃ c, cntA p k = c := ⟨_, rfl⟩
      rw [hue] at c1 hu herr hsv
      rw [hce] at c2 hc herr hsv
      have HSA := fun (X : World) => hid (show Calls Tryz.prog 82 #[.int .i64 u, .int .i64 c] X fun e w' => e = .returned (.tuple #[.int .i64 (svS p k).1, .int .i64 (svS p k).2]) ∧ w' = X from hsv ▸ (ref7_saving u c X hu ⟨hc.1, hc.2⟩).mono fun _ _ h => ⟨h.1, h.2.symm⟩)
      rw [hsv] at herr
      obtain ⟨S, hS⟩ : ∃ S, svS p k = S := ⟨_, rfl⟩
      obtain ⟨F, hF⟩ : ∃ F, bstF p k = F := ⟨_, rfl⟩
      have HSE := hid hS
      simp only [hS] at HSA
      rw [hS] at herr hf hey
      rw [hF] at hf ⊢
      obtain ⟨s1, s2⟩ := S
      obtain ⟨f1, f2⟩ := F
      dsimp only at HSA herr hf hey ⊢
      have HF := hid hf
      have HEY := hid hey
      clear hall hS hF hsv hf hey hue hce hu hc hb c10 c20
      go_wp2
      go_quiet ((go_at_call 82; exact Calls.quiet_of_same (HSA _).out))
      have HBN := hid (show Below w3.heap.size w3 (wr.drewN nq) from below_drewN HB.out nq)
      obtain ⟨W, hW⟩ : ∃ W, wr.drewN nq = W := ⟨_, rfl⟩
      rw [hW] at HBN ⊢
      clear hW HSA c1 c2
      rcases herr with rfl | rfl
      · by_cases hgt : f2 < s1
        · have HF2 : Hid (bstF p (k + 1) = ((k : Int), s1)) := hid (by rw [HF.out, if_pos hgt])
          have q1 : s1 > f2 := hgt
          clear hgt
          go_wp2
          go_roundw
          case rel =>
            refine ⟨k + 1, by omega, by go_num, by rw [HF2.out], by rw [HF2.out], fun j hj => ?_, HBN.out⟩
            by_cases e : j = k
            · subst e; rw [HSE.out]
            · exact HALL.out j (by omega)
          case measure => simp [intOf]; omega
        · have HF2 : Hid (bstF p (k + 1) = (f1, f2)) := hid (by rw [HF.out, if_neg hgt])
          have q1 : ¬ s1 > f2 := hgt
          clear hgt
          go_wp2
          go_roundw
          case rel =>
            refine ⟨k + 1, by omega, by go_num, by rw [HF2.out], by rw [HF2.out], fun j hj => ?_, HBN.out⟩
            by_cases e : j = k
            · subst e; rw [HSE.out]
            · exact HALL.out j (by omega)
          case measure => simp [intOf]; omega
      · have hr : R = (0, 4) := by rw [← HR.out, if_pos (HEY.out (by decide))]
        subst hr
        have HBF := hid (HB3.out.trans (HBN.out.mono HB3.out.size))
        go_wp2
        go_ret2
        exact ⟨rfl, HBF.out⟩
    · have hkl : k = p.length := by omega
      subst hkl
      have hno := bstE_no hall
      have hR2 := HR.out
      rw [hno, if_neg (by decide)] at hR2
      obtain ⟨F, hF⟩ : ∃ F, bstF p p.length = F := ⟨_, rfl⟩
      rw [hF] at hR2 ⊢
      obtain ⟨f1, f2⟩ := F
      dsimp only at hR2 ⊢
      have HBF := hid (HB3.out.trans (hb.mono HB3.out.size))
      clear hall hb hno hF HALL
      by_cases h0 : f1 < 0
      · rw [if_pos h0] at hR2
        subst hR2
        clear HR
        go_wp2
        go_ret2
        exact ⟨rfl, HBF.out⟩
      · rw [if_neg h0] at hR2
        subst hR2
        clear HR
        go_wp2
        go_ret2
        exact ⟨rfl, HBF.out⟩
set_option maxHeartbeats 2000000 in
theorem ref7_Times (g : Int) (v : Value) (p : List St) (w : World) (hv : StepsAt w v p) :
    Calls Tryz.prog 35 #[.int .i64 g, v] w fun e w' => TimesQ g p w e w' := by
  have HV := hid (ref7_valid g v p w hv)
  have HP := hid hv
  obtain ⟨pa, pc, rfl, -⟩ := hv.open
  clear hv
  unfold TimesQ
  cases hb : vldB g p
  · have hE2 : timE g p = 1 := by unfold timE; rw [hb]; rfl
    rw [hb] at HV
    rw [hE2]
    clear hb HP hE2
    go_enter Tryz.func35, Tryz.ntmps35
    go_wp2_with fail
    refine HV.out.mono ?_
    rintro e w1 ⟨rfl, hb1⟩
    go_wp2
    go_ret2
    exact ⟨_, rfl, ints_nil7 _, hb1⟩
  have hp : proofB g p = true := by unfold vldB at hb; rw [Bool.and_eq_true] at hb; exact hb.2
  have hE2 : timE g p = if 1000000000000000 < Lib.maxOf (timL p) then 4 else 0 := by unfold timE; rw [hb]; rfl
  have h60 := proof60 hp
  have h1 := proof1 hp
  have hlen := timL_len p
  have hmx := maxOf_lt (l := timL p) (M := 1000000000000000) (by intro e; rw [e] at hlen; simp at hlen; omega)
  have HT := hid (fun (X : World) (hX : Below w.heap.size w X) => ref7_times g (.slice pa p.length pc) p X (HP.out.below hX) hp)
  rw [hb] at HV
  obtain ⟨E, hE⟩ : ∃ E, timE g p = E := ⟨_, rfl⟩
  rw [hE] at hE2 ⊢
  have HE := hid hE2
  have HMX := hid hmx
  clear hb HP hE2 hp hE hmx
  go_enter Tryz.func35, Tryz.ntmps35
  go_wp2_with fail
  refine HV.out.mono ?_
  rintro e w1 ⟨rfl, hb1⟩
  have HB1 := hid hb1
  have K := hid (HT.out w1 hb1)
  clear hb1 HT HV
  go_wp2_with fail
  refine K.out.mono ?_
  rintro e w2 ⟨q, rfl, hq, hown, hb2⟩
  have HB2 := hid (HB1.out.trans (hb2.mono HB1.out.size))
  have HCELL := hid (fun (k : Nat) (hk : k < p.length) => (show w2.cell? ⟨q, k, none⟩ = some (.int .i64 (tmA (timL p) k)) by
    have c1 := hown.cellAt k (by omega)
    rwa [tms_at (by rw [hlen]; exact hk)] at c1))
  rw [← hlen] at hown
  have HO := hid (Ints.of_owns hown (by omega))
  rw [hlen] at HO
  have HLN := hid hlen
  clear hown hb2 hlen K
  go_wp2
  go_loopw [7] (fun kv wr => ∃ k : Nat, k ≤ p.length ∧ kv = .int .i64 k ∧ (∀ j, j < k → tmA (timL p) j ≤ 1000000000000000) ∧ wr = w2) (fun kv _ => p.length - (intOf kv).toNat)
  case atStart => exact ⟨0, by omega, rfl, fun j h => by omega, rfl⟩
  case round =>
    obtain ⟨k, hk, rfl, hall, rfl⟩ := hrel
    have HALL := hid hall
    by_cases hlt : k < p.length
    · have c1 := HCELL.out k hlt
      obtain ⟨u, hu⟩ : ∃ u, tmA (timL p) k = u := ⟨_, rfl⟩
      rw [hu] at c1
      have HU := hid hu
      clear hall hu
      by_cases hgt : 1000000000000000 < u
      · obtain rfl : E = 4 := by
          rw [HE.out, if_pos (HMX.out.2 ⟨u, ?_, hgt⟩)]
          rw [← HU.out]
          unfold tmA
          rw [List.getD_eq_getElem?_getD, List.getElem?_eq_getElem (by rw [HLN.out]; exact hlt)]
          exact List.getElem_mem _
        have q1 : u > 1000000000000000 := hgt
        clear hgt HE
        go_wp2
        go_ret2
        exact ⟨_, rfl, ints_nil7 _, HB2.out⟩
      · have q1 : ¬ u > 1000000000000000 := hgt
        clear hgt
        go_wp2
        go_roundw
        case rel =>
          refine ⟨k + 1, by omega, by go_num, fun j hj => ?_, by first | rfl | trivial⟩
          by_cases e : j = k
          · subst e; rw [HU.out]; omega
          · exact HALL.out j (by omega)
        case measure => simp [intOf]; omega
    · have hkl : k = p.length := by omega
      subst hkl
      obtain rfl : E = 0 := by
        rw [HE.out, if_neg (fun h => ?_)]
        obtain ⟨x, hx, hxM⟩ := HMX.out.1 h
        obtain ⟨i, hi, rfl⟩ := List.getElem_of_mem hx
        have := hall i (by rw [← HLN.out]; exact hi)
        unfold tmA at this
        rw [List.getD_eq_getElem?_getD, List.getElem?_eq_getElem hi] at this
        simp only [Option.getD_some] at this
        omega
      clear hall HE HALL
      go_wp2
      go_ret2
      exact ⟨_, rfl, HO.out, HB2.out⟩
end Go.Proofs.YtmpjaakkjhmpmaaGreatDoor
namespace Go.Proofs.YtmpjaakkjhmpmaaGreatDoor
open Go Go.RowKit Go.Maps
theorem sav_use {g : Int} {p : List St} {i n : Int} (h : savV g p i = (n, 0)) (hn : n ≠ 0) : ∃ k : Nat, i = k ∧ k < p.length ∧ proofB g p = true ∧ 2 ≤ tmA (timL p) k ∧ (p.getD k st0).1 = 2 := by
  unfold savV at h
  cases hv : vldB g p with
  | false => rw [hv] at h; simp at h
  | true =>
    have hp : proofB g p = true := by unfold vldB at hv; rw [Bool.and_eq_true] at hv; exact hv.2
    rw [hv, if_pos rfl] at h
    split at h
    · simp at h
    · rename_i hr
      have h60 := proof60 hp
      have h1 := proof1 hp
      refine ⟨i.toNat, by omega, by omega, hp, ?_⟩
      have hu := tim_small (back_of hp) h60 h1 i.toNat (by omega)
      have hc := cnt_small (back_of hp) h60 (i := i.toNat) (by omega)
      unfold savR at h
      split at h
      · simp at h; exact absurd h.symm hn
      · rename_i hu0
        split at h
        · simp at h
        · simp only [Prod.mk.injEq, and_true] at h
          have hu1 : tmA (timL p) i.toNat ≠ 1 := fun e => hn (by rw [← h, e]; simp)
          have hc1 : cntA p i.toNat ≠ 1 := fun e => hn (by rw [← h, e]; simp)
          refine ⟨by omega, ?_⟩
          by_cases h2 : (p.getD i.toNat st0).1 = 2
          · exact h2
          · exact absurd (cntA_cite h2) hc1
theorem timE_0 {g : Int} {p : List St} (h : timE g p = 0) : vldB g p = true ∧ ∀ k, k < p.length → tmA (timL p) k ≤ 1000000000000000 := by
  unfold timE at h
  cases hv : vldB g p with
  | false => rw [hv] at h; simp at h
  | true =>
    rw [hv, if_pos rfl] at h
    split at h
    · cases h
    · rename_i hm
      refine ⟨rfl, fun k hk => ?_⟩
      have hlen := timL_len p
      have hne : timL p ≠ [] := by intro e; rw [e] at hlen; simp at hlen; omega
      by_cases hb : 1000000000000000 < tmA (timL p) k
      · exfalso
        apply hm
        refine (maxOf_lt hne).2 ⟨_, ?_, hb⟩
        unfold tmA
        rw [List.getD_eq_getElem?_getD, List.getElem?_eq_getElem (by rw [hlen]; exact hk)]
        exact List.getElem_mem _
      · omega
set_option maxHeartbeats 8000000 in
set_option maxRecDepth 100000 in
theorem walk_ShortTimes (vp : Value) (g : Int) (p : List St) (i : Int) (w : World) (hp : StepsAt w vp p) (htab : Tab w) :
    Calls Tryz.prog 7 #[.int .i64 g, vp, .int .i64 i] w fun e w' => e = .returned (.bool true) ∧ Below w.heap.size w w' := by
  have HP := hid hp
  have HAW := hid (law7_awake w htab)
  obtain ⟨pa, pc, rfl, -, hpl, -, PC⟩ := hp.open
  have PC' := hid PC
  clear hp htab PC
  obtain ⟨E, hE⟩ : ∃ E, timE g p = E := ⟨_, rfl⟩
  obtain ⟨L, hL⟩ : ∃ L, (if E = 0 then timL p else []) = L := ⟨_, rfl⟩
  obtain ⟨S, hS⟩ : ∃ S, savV g p i = S := ⟨_, rfl⟩
  obtain ⟨B, hB⟩ : ∃ B, bstV g p = B := ⟨_, rfl⟩
  obtain ⟨s1, s2⟩ := S
  obtain ⟨b1, b2⟩ := B
  have HE := hid hE
  have HL := hid hL
  have HS := hid hS
  have HBV := hid hB
  clear hE hL hS hB
  go_enter Tryz.func7, Tryz.ntmps7
  go_wp2_with fail
  refine HAW.out.mono ?_
  rintro e w1 ⟨rfl, hb1⟩
  have HB1 := hid hb1
  clear hb1 HAW
  by_cases hbig : 100 < p.length
  · have q1 : (p.length : Int) > 100 := by omega
    go_wp2
    go_ret
    exact ⟨rfl, HB1.out⟩
  have q1 : ¬ (p.length : Int) > 100 := by omega
  have T1 := hid (short_Times g _ p w1 (HP.out.below HB1.out))
  unfold TimesQ at T1
  rw [HE.out, HL.out] at T1
  go_wp2_with fail
  refine T1.out.mono ?_
  rintro e w2 ⟨u1, rfl, hi1, hb2⟩
  have HB2 := hid (HB1.out.trans (hb2.mono HB1.out.size))
  have HI1 := hid hi1
  have T2 := hid (ref7_Times g _ p w2 (HP.out.below HB2.out))
  unfold TimesQ at T2
  rw [HE.out, HL.out] at T2
  obtain ⟨a1, c1, rfl, -⟩ := hi1.open
  clear hi1 hb2 T1
  go_wp2_with fail
  refine T2.out.mono ?_
  rintro e w3 ⟨u2, rfl, hi2, hb3⟩
  have HB3 := hid (HB2.out.trans (hb3.mono HB2.out.size))
  have HI13 := hid (HI1.out.below hb3)
  have HI2 := hid hi2
  have S1 := hid (short_Saving g _ p i w3 (HP.out.below HB3.out))
  unfold SavQ at S1
  rw [HS.out] at S1
  obtain ⟨a2, c2, rfl, -⟩ := hi2.open
  clear hi2 hb3 T2 HI1
  go_wp2_with fail
  refine S1.out.mono ?_
  rintro e w4 ⟨rfl, hb4⟩
  have HB34 := hid hb4
  have HB4 := hid (HB3.out.trans (hb4.mono HB3.out.size))
  have S2 := hid (ref7_Saving g _ p i w4 (HP.out.below HB4.out))
  unfold SavQ at S2
  rw [HS.out] at S2
  clear hb4 S1
  go_wp2_with fail
  refine S2.out.mono ?_
  rintro e w5 ⟨rfl, hb5⟩
  have HB35 := hid (HB34.out.trans (hb5.mono HB34.out.size))
  have HB5 := hid (HB4.out.trans (hb5.mono HB4.out.size))
  have R1 := hid (short_Best g _ p w5 (HP.out.below HB5.out))
  unfold BstQ at R1
  rw [HBV.out] at R1
  clear hb5 S2 HB34
  go_wp2_with fail
  refine R1.out.mono ?_
  rintro e w6 ⟨rfl, hb6⟩
  have HB36 := hid (HB35.out.trans (hb6.mono HB35.out.size))
  have HB6 := hid (HB5.out.trans (hb6.mono HB5.out.size))
  have R2 := hid (ref7_Best g _ p w6 (HP.out.below HB6.out))
  unfold BstQ at R2
  rw [HBV.out] at R2
  clear hb6 R1 HB35
  go_wp2_with fail
  refine R2.out.mono ?_
  rintro e w7 ⟨rfl, hb7⟩
  have HB37 := hid (HB36.out.trans (hb7.mono HB36.out.size))
  have HB7 := hid (HB6.out.trans (hb7.mono HB6.out.size))
  have HI17 := hid (HI13.out.below HB37.out)
  have SI := hid (ref6_SameInts _ _ L L w7 HI17.out (HI2.out.below HB37.out))
  rw [decide_eq_true (rfl : L = L)] at SI
  clear hb7 R2 HB36 HI13 HI2
  have cE : (E != E) = false := by simp
  have cs1 : (s1 != s1) = false := by simp
  have cs2 : (s2 != s2) = false := by simp
  have cb1 : (b1 != b1) = false := by simp
  have cb2 : (b2 != b2) = false := by simp
  dsimp only
  go_wp2_with fail
  refine SI.out.mono ?_
  rintro e w8 ⟨rfl, n8, hw8⟩
  have hb78 : Below w7.heap.size w7 w8 := hw8 ▸ below_self_drewN _ _
  have HB78 := hid hb78
  have HB8 := hid (HB7.out.trans (hb78.mono HB7.out.size))
  have HI18 := hid (HI17.out.below hb78)
  clear hw8 hb78 SI HI17
  by_cases hE0 : E = 0
  case neg =>
    have n0 : (E != 0) = true := by simpa using hE0
    clear hE0
    go_wp2
    go_ret
    exact ⟨rfl, HB8.out⟩
  subst hE0
  obtain ⟨hv, hmx⟩ := timE_0 HE.out
  have hll := HL.out
  rw [if_pos rfl] at hll
  subst hll
  have hpv : proofB g p = true := by unfold vldB at hv; rw [Bool.and_eq_true] at hv; exact hv.2
  have hg0 : 0 ≤ g ∧ g ≤ 60 := by unfold vldB at hv; rw [Bool.and_eq_true] at hv; exact inB_true.1 hv.1
  have h60 := proof60 hpv
  have h1 := proof1 hpv
  have htl := timL_len p
  obtain ⟨ta, tc, te, -, -, -, TC⟩ := HI18.out.open
  simp only [Value.slice.injEq] at te
  obtain ⟨rfl, -, rfl⟩ := te
  have HTC := hid (fun (k : Nat) (hk : k < p.length) => (show ∃ b o, a1 = some ⟨b, o, none⟩ ∧ w8.cell? ⟨b, o + k, none⟩ = some (.int .i64 (tmA (timL p) k)) by
    obtain ⟨b, o, e1, e2⟩ := TC k (by omega)
    refine ⟨b, o, e1, ?_⟩
    rw [e2]
    unfold tmA
    rw [List.getD_eq_getElem?_getD, List.getElem?_eq_getElem (by omega)]; rfl))
  have HPK := hid (fun (k : Nat) (hk : k < p.length) => (show ∃ b o, pa = some ⟨b, o, none⟩ ∧ w8.cell? ⟨b, o + k * 3, none⟩ = some (.int .i64 (p.getD k st0).1) by
    obtain ⟨b, o, e1, e2, -, -⟩ := PC'.out k hk
    refine ⟨b, o, e1, ?_⟩
    rw [(HB8.out.cell (World.block_lt_of_cell? _ _ e2)).trans e2, (st_at hpv hk).1]))
  have HKD := hid (fun (k : Nat) (hk : k < p.length) => (show (p.getD k st0).1 = 1 ∨ (p.getD k st0).1 = 2 by
    obtain ⟨e, h⟩ := st_at hpv hk
    rw [e]
    rcases h with ⟨h, -⟩ | ⟨h, -⟩
    · exact Or.inl h
    · exact Or.inr h))
  have HKC := hid (fun (X : World) (hX : Below w8.heap.size w8 X) => kernel_Count g (.slice pa p.length pc) p X ((HP.out.below HB8.out).below hX) hg0 hpv)
  have HLAW := hid (times_law (back_of hpv) h60 h1)
  have HNN := hid (fun k => (times_inv (back_of hpv) h60 h1).nn k)
  have HMX := hid hmx
  rw [htl]
  clear TC hv hmx hpv hg0 htl HE
  -- the saving is of a step that comes more than once, and detaches
  have hmid : (∃ k : Nat, i = k ∧ k < p.length ∧ s2 = 0 ∧ s1 ≠ 0 ∧ 2 ≤ tmA (timL p) k ∧ (p.getD k st0).1 = 2) ∨ (s2 = 0 ∧ s1 = 0) ∨ s2 ≠ 0 := by
    by_cases h2 : s2 = 0
    · by_cases h3 : s1 = 0
      · exact Or.inr (Or.inl ⟨h2, h3⟩)
      · subst h2
        obtain ⟨k, e1, e2, -, e3, e4⟩ := sav_use HS.out h3
        exact Or.inl ⟨k, e1, e2, rfl, h3, e3, e4⟩
    · exact Or.inr (Or.inr h2)
  rcases hmid with ⟨k, rfl, hk, rfl, hs1, hu, hkind⟩ | ⟨rfl, rfl⟩ | hs2
  case' inl =>
    obtain ⟨tb, to, e1, tcell⟩ := HTC.out k hk
    cases e1
    obtain ⟨pb, po, e2, pcell⟩ := HPK.out k hk
    cases e2
    rw [hkind] at pcell
    obtain ⟨u, hue⟩ : ∃ u, tmA (timL p) k = u := ⟨_, rfl⟩
    rw [hue] at tcell hu
    have n0 : (s1 != 0) = true := by simpa using hs1
    have q2 : ¬ u < 2 := by omega
    clear hkind hue hs1 hu HS HBV
    go_wp2_with fail
    clear tcell pcell n0 q2
  case' inr.inl =>
    clear HS HBV
    go_wp2_with fail
  case' inr.inr =>
    have n0 : (s2 == 0) = false := by simpa using hs2
    clear hs2 HS HBV
    go_wp2_with fail
    clear n0
  all_goals
    refine (HKC.out w8 (Below.refl _ _)).mono ?_
    rintro e w9 ⟨n, er, rfl, hn, hb9⟩
    have HN := hid hn
    have HB89 := hid hb9
    have HB9 := hid (HB8.out.trans (hb9.mono HB8.out.size))
    clear hn hb9
    dsimp only
    go_wp2
    go_loopw [21, 22] (fun sv kv wr => ∃ k : Nat, k ≤ p.length ∧ kv = .int .i64 k ∧ sv = .int .i64 (csum p (tmA (timL p)) k) ∧ 0 ≤ csum p (tmA (timL p)) k ∧ csum p (tmA (timL p)) k ≤ (k : Int) * 1000000000000000 ∧ wr = w9) (fun _ kv _ => p.length - (intOf kv).toNat)
    case atStart => exact ⟨0, by omega, rfl, rfl, by simp [csum], by simp [csum], rfl⟩
    case round =>
      obtain ⟨k', hk', rfl, rfl, hs0, hs1', rfl⟩ := hrel
      have hcs : csum p (tmA (timL p)) (k' + 1) = csum p (tmA (timL p)) k' + (if (p.getD k' st0).1 = 2 then 0 else tmA (timL p) k') := rfl
      by_cases hlt : k' < p.length
      · obtain ⟨tb', to', e1, tcell⟩ := HTC.out k' hlt
        cases e1
        obtain ⟨pb', po', e2, pcell⟩ := HPK.out k' hlt
        cases e2
        have tcell' := (HB89.out.cell (World.block_lt_of_cell? _ _ tcell)).trans tcell
        have pcell' := (HB89.out.cell (World.block_lt_of_cell? _ _ pcell)).trans pcell
        have hnn := HNN.out k'
        have hmx := HMX.out k' hlt
        have hkd := HKD.out k' hlt
        obtain ⟨u', hue⟩ : ∃ u, tmA (timL p) k' = u := ⟨_, rfl⟩
        rw [hue] at tcell' hnn hmx hcs
        obtain ⟨s, hse⟩ : ∃ s, csum p (tmA (timL p)) k' = s := ⟨_, rfl⟩
        rw [hse] at hs0 hs1' hcs ⊢
        clear tcell pcell hue hse
        rcases hkd with hkd | hkd
        · rw [hkd] at pcell'
          rw [if_neg (by omega)] at hcs
          have HCS := hid hcs
          have q3 : IntKind.i64.wrap (s + u') = s + u' := IntWalk.i64_in _ (by omega)
          clear hkd hcs
          go_wp2
          go_roundw
          case rel => exact ⟨k' + 1, by omega, by go_num, by rw [HCS.out], by rw [HCS.out]; omega, by rw [HCS.out]; push_cast; omega, by first | rfl | trivial⟩
          case measure => simp [intOf]; omega
        · rw [hkd] at pcell'
          rw [if_pos hkd] at hcs
          have HCS := hid hcs
          clear hkd hcs tcell'
          go_wp2
          go_roundw
          case rel => exact ⟨k' + 1, by omega, by go_num, by rw [HCS.out]; simp, by rw [HCS.out]; omega, by rw [HCS.out]; push_cast; omega, by first | rfl | trivial⟩
          case measure => simp [intOf]; omega
      · have hkl : k' = p.length := by omega
        subst hkl
        have hlaw := HLAW.out
        obtain ⟨s, hse⟩ : ∃ s, csum p (tmA (timL p)) p.length = s := ⟨_, rfl⟩
        rw [hse] at hs0 hs1' hlaw ⊢
        clear hse hcs
        by_cases her : er = 0
        · subst her
          obtain ⟨rfl, hn1⟩ := HN.out rfl
          obtain ⟨c, hc⟩ : ∃ c, cntA p (p.length - 1) = c := ⟨_, rfl⟩
          rw [hc] at hlaw hn1 ⊢
          have q4 : IntKind.i64.wrap (c + 1) = c + 1 := IntWalk.i64_in _ (by omega)
          have q5 : (c + 1).tdiv 2 = s := by rw [← hlaw]; exact Int.mul_tdiv_cancel_left s (by decide)
          have q6 : IntKind.i64.wrap s = s := IntWalk.i64_in _ (by omega)
          have q7 : (s == s) = true := by simp
          clear hlaw hc HN HTC HPK HKC
          go_wp2
          go_ret
          exact ⟨rfl, HB9.out⟩
        · have n1 : (er != 0) = true := by simpa using her
          clear her hlaw HN HTC HPK HKC
          go_wp2
          go_ret
          exact ⟨rfl, HB9.out⟩
end Go.Proofs.YtmpjaakkjhmpmaaGreatDoor
