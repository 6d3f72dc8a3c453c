/-
  WHAT IT HOLDS: contracts of saving, Saving, Best and Times of both sides. Conditions: the arguments read as data.
-/
import Derived.Deep.RegionWith
import Derived.Test.YtmpjaakkjhmpmaaGreatDoorZRShortTimes35
import Derived.Test.YtmpjaakkjhmpmaaGreatDoorZRShortTimes34
import Derived.Test.YtmpjaakkjhmpmaaGreatDoorZRShortTimes43
namespace Go.Proofs.YtmpjaakkjhmpmaaGreatDoor
open Go Go.RowKit Go.Maps
def MC : Int := 1000000000000000
def savR (u c : Int) : Int × Int := if u = 0 then (0, 0) else if MC < u ∨ MC < c ∨ (1 < u ∧ 1 < c ∧ MC / (c - 1) < u - 1) then (0, 4) else ((u - 1) * (c - 1), 0)
theorem sav_mul {u c : Int} (h1 : 1 ≤ u) (h2 : 1 < c) (h : ¬ MC / (c - 1) < u - 1) : 0 ≤ (u - 1) * (c - 1) ∧ (u - 1) * (c - 1) ≤ MC := by
  have h3 : (u - 1) * (c - 1) ≤ MC := (Int.le_ediv_iff_mul_le (by omega)).1 (by omega)
  exact ⟨Int.mul_nonneg (by omega) (by omega), h3⟩
theorem quo7 {d : Int} (h : 0 < d) : (1000000000000000 : Int).tdiv d = MC / d := by
  unfold MC
  exact Int.tdiv_eq_ediv_of_nonneg (by omega)
theorem quo_in {d : Int} (h : 0 < d) : 0 ≤ MC / d ∧ MC / d ≤ MC := ⟨Int.ediv_nonneg (by unfold MC; omega) (by omega), Int.ediv_le_self _ (by unfold MC; omega)⟩
set_option maxHeartbeats 1000000 in
theorem ref7_saving (u c : Int) (w : World) (hu : 0 ≤ u ∧ u ≤ 1152921504606846976) (hc : 1 ≤ c ∧ c ≤ 1152921504606846976) :
    Calls Tryz.prog 82 #[.int .i64 u, .int .i64 c] w fun e w' => e = .returned (.tuple #[.int .i64 (savR u c).1, .int .i64 (savR u c).2]) ∧ w = w' := by
  obtain ⟨hu0, hu1⟩ := hu
  obtain ⟨hc0, hc1⟩ := hc
  have HS := hid (show savR u c = if u = 0 then (0, 0) else if MC < u ∨ MC < c ∨ (1 < u ∧ 1 < c ∧ MC / (c - 1) < u - 1) then (0, 4) else ((u - 1) * (c - 1), 0) from rfl)
  obtain ⟨R, hR⟩ : ∃ R, savR u c = R := ⟨_, rfl⟩
  rw [hR] at HS ⊢
  clear hR
  have hM : MC = 1000000000000000 := rfl
  by_cases h0 : u = 0
  · have hr : R = (0, 0) := by rw [HS.out, if_pos h0]
    subst hr; subst h0
    clear HS hM
    go_enter Tryz.func82, Tryz.ntmps82
    go_wp2
    go_ret2
    exact ⟨rfl, rfl⟩
  have c0 : (u == 0) = false := by rw [beq_eq_false_iff_ne]; exact h0
  have w1 : IntKind.i64.wrap (u - 1) = u - 1 := IntWalk.i64_in _ (by omega)
  have w2 : IntKind.i64.wrap (c - 1) = c - 1 := IntWalk.i64_in _ (by omega)
  by_cases h1 : MC < u
  · have hr : R = (0, 4) := by rw [HS.out, if_neg h0, if_pos (Or.inl h1)]
    subst hr
    have q1 : u > 1000000000000000 := by omega
    clear HS h0 h1 hM
    go_enter Tryz.func82, Tryz.ntmps82
    go_wp2
    go_ret2
    exact ⟨rfl, rfl⟩
  have q1 : ¬ u > 1000000000000000 := by omega
  by_cases h2 : MC < c
  · have hr : R = (0, 4) := by rw [HS.out, if_neg h0, if_pos (Or.inr (Or.inl h2))]
    subst hr
    have q2 : c > 1000000000000000 := by omega
    clear HS h0 h1 h2 hM
    go_enter Tryz.func82, Tryz.ntmps82
    go_wp2
    go_ret2
    exact ⟨rfl, rfl⟩
  have q2 : ¬ c > 1000000000000000 := by omega
  by_cases h3 : 1 < c
  · have hq := quo7 (d := c - 1) (by omega)
    have hqi := quo_in (d := c - 1) (by omega)
    have hmul := fun h => sav_mul (u := u) (by omega) h3 h
    have HS2 := hid (show R = if MC / (c - 1) < u - 1 then (0, 4) else ((u - 1) * (c - 1), 0) by
      rw [HS.out, if_neg h0]
      by_cases h4 : MC / (c - 1) < u - 1
      · rw [if_pos (Or.inr (Or.inr ⟨by omega, h3, h4⟩)), if_pos h4]
      · rw [if_neg (by rintro (h | h | ⟨-, -, h⟩) <;> first | exact h1 h | exact h2 h | exact h4 h), if_neg h4])
    obtain ⟨D, hD⟩ : ∃ D, MC / (c - 1) = D := ⟨_, rfl⟩
    rw [hD] at hq hqi hmul HS2
    have d0 : ¬ c - 1 = 0 := by omega
    have d1 : (c - 1 == 0) = false := by rw [beq_eq_false_iff_ne]; exact d0
    have w4 : IntKind.i64.wrap D = D := IntWalk.i64_in _ (by omega)
    clear hD
    by_cases h4 : D < u - 1
    · have hr : R = (0, 4) := by rw [HS2.out, if_pos h4]
      subst hr
      have q4 : u - 1 > D := h4
      clear HS HS2 hmul h0 h1 h2 hM hqi
      go_enter Tryz.func82, Tryz.ntmps82
      go_wp2
      go_ret2
      exact ⟨rfl, rfl⟩
    · have hr : R = ((u - 1) * (c - 1), 0) := by rw [HS2.out, if_neg h4]
      subst hr
      obtain ⟨m1, m2⟩ := hmul h4
      have q4 : ¬ u - 1 > D := h4
      have w5 : IntKind.i64.wrap ((u - 1) * (c - 1)) = (u - 1) * (c - 1) := IntWalk.i64_in _ (by omega)
      clear HS HS2 hmul h0 h1 h2 hM hqi
      go_enter Tryz.func82, Tryz.ntmps82
      go_wp2
      go_ret2
      exact ⟨rfl, rfl⟩
  · have hc1' : c = 1 := by omega
    subst hc1'
    have hr : R = (0, 0) := by
      rw [HS.out, if_neg h0, if_neg (by rintro (h | h | ⟨-, h, -⟩) <;> omega)]
      simp
    subst hr
    have w3 : IntKind.i64.wrap ((u - 1) * (1 - 1)) = 0 := by rw [show (u - 1) * (1 - 1) = 0 by simp]; rfl
    clear HS h0 h1 h2 h3 hM
    go_enter Tryz.func82, Tryz.ntmps82
    go_wp2
    go_ret2
    exact ⟨rfl, rfl⟩
theorem tim_small {p : List St} (hp : backP p) (h60 : p.length ≤ 60) (h1 : 1 ≤ p.length) (i : Nat) (hi : i < p.length) : 0 ≤ tmA (timL p) i ∧ tmA (timL p) i ≤ 1152921504606846976 :=
  ⟨(times_inv hp h60 h1).nn i, (times_inv hp h60 h1).ub i⟩
set_option maxHeartbeats 4000000 in
set_option maxRecDepth 100000 in
theorem short_saving (g : Int) (v : Value) (p : List St) (i : Nat) (w : World) (hv : StepsAt w v p) (hg : proofB g p = true) (hi : i < p.length) :
    Calls Tryz.prog 81 #[v, .int .i64 (i : Int)] w fun e w' => e = .returned (.tuple #[.int .i64 (savR (tmA (timL p) i) (cntA p i)).1, .int .i64 (savR (tmA (timL p) i) (cntA p i)).2]) ∧ Below w.heap.size w w' := by
  have h60 := proof60 hg
  have h1 := proof1 hg
  obtain ⟨hu0, hu1⟩ := tim_small (back_of hg) h60 h1 i hi
  obtain ⟨hc0, hc1⟩ := cnt_small (back_of hg) h60 hi
  have HT := hid (fun (X : World) (hX : Below w.heap.size w X) => short_times g v p X (hv.below hX) hg)
  have HC := hid (fun (X : World) (hX : Below w.heap.size w X) => short_counts g v p X (hv.below hX) hg)
  obtain ⟨pa, pc, rfl, -⟩ := hv.open
  have HTL := hid (timL_len p)
  have HCL := hid (cntL_len p p.length)
  have HCA := hid (show tmA (cntL p p.length) i = cntA p i from cntL_at p hi)
  obtain ⟨u, hu⟩ : ∃ u, tmA (timL p) i = u := ⟨_, rfl⟩
  obtain ⟨c, hc⟩ : ∃ c, cntA p i = c := ⟨_, rfl⟩
  have HU := hid hu
  rw [hu] at hu0 hu1 ⊢
  rw [hc] at hc0 hc1 HCA ⊢
  have HS := hid (show savR u c = if u = 0 then (0, 0) else if MC < u ∨ MC < c ∨ (1 < u ∧ 1 < c ∧ MC / (c - 1) < u - 1) then (0, 4) else ((u - 1) * (c - 1), 0) from rfl)
  obtain ⟨R, hR⟩ : ∃ R, savR u c = R := ⟨_, rfl⟩
  rw [hR] at HS ⊢
  clear hR hu hc hv hg h1
  have hbd : Below w.heap.size w w.drew := below_self_drewN w 1
  have K1 := hid (HT.out w.drew hbd)
  have HBD := hid hbd
  clear hbd HT
  go_enter Tryz.func81, Tryz.ntmps81
  go_wp2
  go_region_with (first
    | (go_at_call 79; refine K1.out.mono ?_; rintro e w1 ⟨q, rfl, hq0, hown1, hb1⟩; have HB1 := hid (HBD.out.trans (hb1.mono HBD.out.size)); have c1 := hown1.cellAt i (by omega); rw [tms_at (by rw [HTL.out]; exact hi), HU.out] at c1; have K2 := hid (HC.out w1 HB1.out); clear hown1 hb1)
    | (go_at_call 118; refine K2.out.mono ?_; rintro e w2 ⟨q2, cc, rfl, hq2, hown2, hb2⟩; have HB2 := hid (HB1.out.trans (hb2.mono HB1.out.size)); have c2 := hown2.cellAt i (by omega); rw [tms_at (by rw [HCL.out]; exact hi), HCA.out] at c2; have c3 := (hb2.cell (World.block_lt_of_cell? _ _ c1)).trans c1; clear hown2 hb2))
  all_goals
    clear c1 c2 c3 K1 K2 HC HBD HB1
    have hM : MC = 1000000000000000 := rfl
    by_cases h0 : u = 0
    · have hr : R = (0, 0) := by rw [HS.out, if_pos h0]
      subst hr; subst h0
      clear HS hM HU HCA
      go_wp2
      go_ret2
      exact ⟨rfl, HB2.out⟩
    have c0 : (u == 0) = false := by rw [beq_eq_false_iff_ne]; exact h0
    have w1 : IntKind.i64.wrap (u - 1) = u - 1 := IntWalk.i64_in _ (by omega)
    have w2 : IntKind.i64.wrap (c - 1) = c - 1 := IntWalk.i64_in _ (by omega)
    by_cases h1 : MC < u
    · have hr : R = (0, 4) := by rw [HS.out, if_neg h0, if_pos (Or.inl h1)]
      subst hr
      have q1 : u > 1000000000000000 := by omega
      clear HS h0 h1 hM HU HCA
      go_wp2
      go_ret2
      exact ⟨rfl, HB2.out⟩
    have q1 : ¬ u > 1000000000000000 := by omega
    by_cases h2 : MC < c
    · have hr : R = (0, 4) := by rw [HS.out, if_neg h0, if_pos (Or.inr (Or.inl h2))]
      subst hr
      have q2 : c > 1000000000000000 := by omega
      clear HS h0 h1 h2 hM HU HCA
      go_wp2
      go_ret2
      exact ⟨rfl, HB2.out⟩
    have q2 : ¬ c > 1000000000000000 := by omega
    by_cases h6 : 1 < u
    · by_cases h3 : 1 < c
      · have hq := quo7 (d := c - 1) (by omega)
        have hqi := quo_in (d := c - 1) (by omega)
        have hmul := fun h => sav_mul (u := u) (by omega) h3 h
        have HS2 := hid (show R = if MC / (c - 1) < u - 1 then (0, 4) else ((u - 1) * (c - 1), 0) by
          rw [HS.out, if_neg h0]
          by_cases h4 : MC / (c - 1) < u - 1
          · rw [if_pos (Or.inr (Or.inr ⟨by omega, h3, h4⟩)), if_pos h4]
          · rw [if_neg (by rintro (h | h | ⟨-, -, h⟩) <;> first | exact h1 h | exact h2 h | exact h4 h), if_neg h4])
        obtain ⟨D, hD⟩ : ∃ D, MC / (c - 1) = D := ⟨_, rfl⟩
        rw [hD] at hq hqi hmul HS2
        have d0 : ¬ c - 1 = 0 := by omega
        have d1 : (c - 1 == 0) = false := by rw [beq_eq_false_iff_ne]; exact d0
        have w4 : IntKind.i64.wrap D = D := IntWalk.i64_in _ (by omega)
        clear hD
        by_cases h4 : D < u - 1
        · have hr : R = (0, 4) := by rw [HS2.out, if_pos h4]
          subst hr
          have q4 : u - 1 > D := h4
          clear HS HS2 hmul h0 h1 h2 hM hqi HU HCA
          go_wp2
          go_ret2
          exact ⟨rfl, HB2.out⟩
        · have hr : R = ((u - 1) * (c - 1), 0) := by rw [HS2.out, if_neg h4]
          subst hr
          obtain ⟨m1, m2⟩ := hmul h4
          have q4 : ¬ u - 1 > D := h4
          have w5 : IntKind.i64.wrap ((u - 1) * (c - 1)) = (u - 1) * (c - 1) := IntWalk.i64_in _ (by omega)
          clear HS HS2 hmul h0 h1 h2 hM hqi HU HCA
          go_wp2
          go_ret2
          exact ⟨rfl, HB2.out⟩
      · have hc1' : c = 1 := by omega
        subst hc1'
        have hr : R = (0, 0) := by
          rw [HS.out, if_neg h0, if_neg (by rintro (h | h | ⟨-, h, -⟩) <;> omega)]
          simp
        subst hr
        have w3 : IntKind.i64.wrap ((u - 1) * (1 - 1)) = 0 := by rw [show (u - 1) * (1 - 1) = 0 by simp]; rfl
        clear HS h0 h1 h2 h3 hM HU HCA
        go_wp2
        go_ret2
        exact ⟨rfl, HB2.out⟩
    · have hu1' : u = 1 := by omega
      subst hu1'
      have hr : R = (0, 0) := by
        rw [HS.out, if_neg h0, if_neg (by rintro (h | h | ⟨h, -, -⟩) <;> omega)]
        simp
      subst hr
      have w3 : IntKind.i64.wrap ((1 - 1) * (c - 1)) = 0 := by simp; rfl
      clear HS h0 h1 h2 h6 hM HU HCA
      go_wp2
      go_ret2
      exact ⟨rfl, HB2.out⟩
/-- the saving of a step, and the error. -/
def savV (g : Int) (p : List St) (i : Int) : Int × Int := if vldB g p = true then (if i < 0 ∨ (p.length : Int) ≤ i then (0, 7) else savR (tmA (timL p) i.toNat) (cntA p i.toNat)) else (0, 1)
def SavQ (g : Int) (p : List St) (i : Int) (w : World) (e : Ending) (w' : World) : Prop := e = .returned (.tuple #[.int .i64 (savV g p i).1, .int .i64 (savV g p i).2]) ∧ Below w.heap.size w w'
set_option maxHeartbeats 2000000 in
theorem short_Saving (g : Int) (v : Value) (p : List St) (i : Int) (w : World) (hv : StepsAt w v p) :
    Calls Tryz.prog 36 #[.int .i64 g, v, .int .i64 i] w fun e w' => SavQ g p i w e w' := by
  have HV := hid (short_valid g v p w hv)
  have HP := hid hv
  obtain ⟨pa, pc, rfl, -⟩ := hv.open
  clear hv
  unfold SavQ
  obtain ⟨R, hR⟩ : ∃ R, savV g p i = R := ⟨_, rfl⟩
  rw [hR]
  unfold savV at hR
  cases hb : vldB g p
  · rw [vldE_1 hb] at HV
    rw [hb] at hR
    obtain rfl : (0, 1) = R := hR
    clear hb HP
    go_enter Tryz.func36, Tryz.ntmps36
    go_wp2_with fail
    refine HV.out.mono ?_
    rintro e w1 ⟨rfl, hb1⟩
    go_wp2
    go_ret2
    exact ⟨rfl, hb1⟩
  rw [vldE_0 hb] at HV
  rw [if_pos hb] at hR
  have hp : proofB g p = true := by unfold vldB at hb; rw [Bool.and_eq_true] at hb; exact hb.2
  by_cases hi0 : i < 0
  · rw [if_pos (Or.inl hi0)] at hR
    subst hR
    clear hb HP hp
    go_enter Tryz.func36, Tryz.ntmps36
    go_wp2_with fail
    refine HV.out.mono ?_
    rintro e w1 ⟨rfl, hb1⟩
    go_wp2
    go_ret2
    exact ⟨rfl, hb1⟩
  by_cases hi1 : (p.length : Int) ≤ i
  · rw [if_pos (Or.inr hi1)] at hR
    subst hR
    clear hb HP hp
    go_enter Tryz.func36, Tryz.ntmps36
    go_wp2_with fail
    refine HV.out.mono ?_
    rintro e w1 ⟨rfl, hb1⟩
    go_wp2
    go_ret2
    exact ⟨rfl, hb1⟩
  rw [if_neg (fun h => h.elim hi0 hi1)] at hR
  obtain ⟨k, rfl⟩ : ∃ k : Nat, i = k := ⟨i.toNat, by omega⟩
  rw [Int.toNat_natCast] at hR
  have hk : k < p.length := by omega
  have HS := hid (fun (X : World) (hX : Below w.heap.size w X) => short_saving g (.slice pa p.length pc) p k X (HP.out.below hX) hp hk)
  rw [hR] at HS
  clear hb HP hp hR
  go_enter Tryz.func36, Tryz.ntmps36
  go_wp2_with fail
  refine HV.out.mono ?_
  rintro e w1 ⟨rfl, hb1⟩
  have HB1 := hid hb1
  have K := hid (HS.out w1 hb1)
  clear hb1 HS
  go_wp2_with fail
  refine K.out.mono ?_
  rintro e w2 ⟨rfl, hb2⟩
  have HB2 := hid (HB1.out.trans (hb2.mono HB1.out.size))
  clear hb2 K
  go_wp2
  go_ret2
  exact ⟨rfl, HB2.out⟩
set_option maxHeartbeats 2000000 in
theorem ref7_Saving (g : Int) (v : Value) (p : List St) (i : Int) (w : World) (hv : StepsAt w v p) :
    Calls Tryz.prog 37 #[.int .i64 g, v, .int .i64 i] w fun e w' => SavQ g p i w e w' := by
  have HV := hid (ref7_valid g v p w hv)
  have HP := hid hv
  obtain ⟨pa, pc, rfl, -⟩ := hv.open
  clear hv
  unfold SavQ
  obtain ⟨R, hR⟩ : ∃ R, savV g p i = R := ⟨_, rfl⟩
  rw [hR]
  unfold savV at hR
  cases hb : vldB g p
  · rw [hb] at HV
    rw [hb] at hR
    obtain rfl : (0, 1) = R := hR
    clear hb HP
    go_enter Tryz.func37, Tryz.ntmps37
    go_wp2_with fail
    refine HV.out.mono ?_
    rintro e w1 ⟨rfl, hb1⟩
    go_wp2
    go_ret2
    exact ⟨rfl, hb1⟩
  rw [hb] at HV
  rw [if_pos hb] at hR
  have hp : proofB g p = true := by unfold vldB at hb; rw [Bool.and_eq_true] at hb; exact hb.2
  by_cases hi0 : i < 0
  · rw [if_pos (Or.inl hi0)] at hR
    subst hR
    clear hb HP hp
    go_enter Tryz.func37, Tryz.ntmps37
    go_wp2_with fail
    refine HV.out.mono ?_
    rintro e w1 ⟨rfl, hb1⟩
    go_wp2
    go_ret2
    exact ⟨rfl, hb1⟩
  by_cases hi1 : (p.length : Int) ≤ i
  · rw [if_pos (Or.inr hi1)] at hR
    subst hR
    clear hb HP hp
    go_enter Tryz.func37, Tryz.ntmps37
    go_wp2_with fail
    refine HV.out.mono ?_
    rintro e w1 ⟨rfl, hb1⟩
    go_wp2
    go_ret2
    exact ⟨rfl, hb1⟩
  rw [if_neg (fun h => h.elim hi0 hi1)] at hR
  obtain ⟨k, rfl⟩ : ∃ k : Nat, i = k := ⟨i.toNat, by omega⟩
  rw [Int.toNat_natCast] at hR
  have hk : k < p.length := by omega
  have h60 := proof60 hp
  have h1 := proof1 hp
  have hu := tim_small (back_of hp) h60 h1 k hk
  have hc := cnt_small (back_of hp) h60 hk
  have HT := hid (fun (X : World) (hX : Below w.heap.size w X) => ref7_times g (.slice pa p.length pc) p X (HP.out.below hX) hp)
  have HC := hid (fun (X : World) (hX : Below w.heap.size w X) => ref7_counts g (.slice pa p.length pc) p X (HP.out.below hX) hp)
  have HTL := hid (timL_len p)
  have HCL := hid (cntL_len p p.length)
  have HCA := hid (show tmA (cntL p p.length) k = cntA p k from cntL_at p hk)
  obtain ⟨u, hue⟩ : ∃ u, tmA (timL p) k = u := ⟨_, rfl⟩
  obtain ⟨c, hce⟩ : ∃ c, cntA p k = c := ⟨_, rfl⟩
  have HU := hid hue
  rw [hue] at hu hR
  rw [hce] at hc hR HCA
  have HSA := hid (fun (X : World) => ref7_saving u c X hu ⟨hc.1, hc.2⟩)
  rw [hR] at HSA
  clear hb HP hp hR hue hce h1 hu hc
  go_enter Tryz.func37, Tryz.ntmps37
  go_wp2_with fail
  refine HV.out.mono ?_
  rintro e w0 ⟨rfl, hb0⟩
  have hbd : Below w.heap.size w w0.drew := below_drewN hb0 1
  have K1 := hid (HT.out w0.drew hbd)
  have HBD := hid hbd
  clear hbd HT hb0
  go_wp2
  go_region_with (first
    | (go_at_call 74; refine K1.out.mono ?_; rintro e w1 ⟨q, rfl, hq0, hown1, hb1⟩; have HB1 := hid (HBD.out.trans (hb1.mono HBD.out.size)); have c1 := hown1.cellAt k (by omega); rw [tms_at (by rw [HTL.out]; exact hk), HU.out] at c1; have K2 := hid (HC.out w1 HB1.out); clear hown1 hb1)
    | (go_at_call 83; refine K2.out.mono ?_; rintro e w2 ⟨q2, cc, rfl, hq2, hown2, hb2⟩; have HB2 := hid (HB1.out.trans (hb2.mono HB1.out.size)); have c2 := hown2.cellAt k (by omega); rw [tms_at (by rw [HCL.out]; exact hk), HCA.out] at c2; have c3 := (hb2.cell (World.block_lt_of_cell? _ _ c1)).trans c1; clear hown2 hb2)
    | (go_at_call 82; refine (HSA.out _).mono ?_; rintro e w3 ⟨rfl, rfl⟩))
  all_goals
    go_wp2
    go_ret2
    exact ⟨rfl, HB2.out⟩
end Go.Proofs.YtmpjaakkjhmpmaaGreatDoor
