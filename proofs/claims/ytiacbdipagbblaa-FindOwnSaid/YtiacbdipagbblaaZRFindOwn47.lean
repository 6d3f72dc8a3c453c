/-
  WHAT IT HOLDS: the walk of the law FindOwn.
-/
import Derived.Test.YtiacbdipagbblaaZRFindOwn35
import Derived.Test.YtiacbdipagbblaaZRFindOwn36
import Derived.Test.YtiacbdipagbblaaZRFindOwn46
namespace Go.Proofs.Ytiacbdipagbblaa
open Go Go.RowKit Go.Maps
theorem alikeB_self {s : Sg} {t : List Int} (h : termB s t = true) : alikeB s t t = true := by unfold alikeB; rw [h]; simp
set_option maxHeartbeats 4000000 in
set_option maxRecDepth 100000 in
theorem walk_FindOwn (vs vl : Value) (s : Sg) (l : List (List Int)) (at_ : Int) (w : World) (hs : SignAt w vs s) (hl : Terms w vl l) :
    Calls Try.prog 11 #[vs, vl, .int .i64 at_] w fun e w' => e = .returned (.bool true) ∧ Below w.heap.size w w' := by
  have HF := hid (law5_Few vs vl s l 40 w hs hl)
  have HS := hid hs
  have HL := hid hl
  obtain ⟨la, lc, rfl, hlc, hl2, -⟩ := hl.open
  clear hs hl
  cases hf : (decide ((l.length : Int) ≤ 40) && smallB s l)
  · rw [hf] at HF
    clear hf
    go_enter Try.func11, Try.ntmps11
    go_wp2_with fail
    refine HF.out.mono ?_
    rintro e w1 ⟨rfl, rfl⟩
    go_wp2_with fail
    refine (law5_awake _).mono ?_
    rintro e w2 ⟨rfl, hb3⟩
    go_wp2
    go_ret
    exact ⟨rfl, hb3⟩
  · have hsm : s.length ≤ 40 ∧ l.length ≤ 40 := by
      simp only [Bool.and_eq_true, decide_eq_true_eq, smallB] at hf
      omega
    rw [hf] at HF
    clear hf
    obtain ⟨hs40, hl40⟩ := hsm
    obtain ⟨n, hnn⟩ : ∃ n, l.length = n := ⟨_, rfl⟩
    have HNN := hid hnn
    simp only [hnn] at hlc hl2 hl40 HF ⊢
    clear hnn
    by_cases hn0 : n = 0
    · subst hn0
      go_enter Try.func11, Try.ntmps11
      go_wp2_with fail
      refine HF.out.mono ?_
      rintro e w1 ⟨rfl, rfl⟩
      go_wp2_with fail
      refine (law5_awake _).mono ?_
      rintro e w2 ⟨rfl, hb3⟩
      go_wp2
      go_ret
      exact ⟨rfl, hb3⟩
    · have hn : 0 < n := by omega
      obtain ⟨r, k, hr1, hr2, hr3, hr4, hr5, hr6, hr7, hk⟩ := rot_num at_ hn
      have z1 : (n : Int) ≠ 0 := by omega
      have z2 : (n : Int) ≤ 40 := by omega
      have hkl : k < l.length := by rw [HNN.out]; exact hk
      obtain ⟨a9, c9, he9, -, -, -, HC⟩ := HL.out.open
      have he9' := Value.slice.inj he9
      obtain ⟨rfl, -, rfl⟩ := he9'
      obtain ⟨bb, bo, x, rfl, hcx, hix⟩ := HC k hkl
      obtain ⟨q, hq⟩ : ∃ q, l[k] = q := ⟨_, rfl⟩
      rw [hq] at hix
      obtain ⟨xa, xc, rfl, -⟩ := hix.open
      have HX := hid hix
      have HQ := hid hq
      have y0 : (0 : Int) ≤ (k : Int) := by omega
      have y1 : (k : Int) < (n : Int) := by omega
      have HAL := hid (fun (X : World) (hX : Below w.heap.size w X) => find_Alike vs _ _ s l q (fun t => alikeB s t q) (fun _ => rfl) X (HS.out.below hX) (HL.out.below hX) (HX.out.below hX) (by omega) (by rw [HNN.out]; omega))
      have HSO := hid (fun (X : World) (hX : Below w.heap.size w X) => find_Sorted vs _ s l X (HS.out.below hX) (HL.out.below hX) (by omega))
      have HCN := hid (fun (X : World) (hX : Below w.heap.size w X) => term_Canonical vs _ s q X (HS.out.below hX) (HX.out.below hX) (by omega))
      rw [HNN.out] at HAL HSO
      clear HC he9 hix hq hn0
      cases hsh : shelfB s l
      · have HR := hid (sortR_1 hsh)
        have HR2 : Hid (searchB s l q (l.map (fun t => alikeB s t q)) = ([], 1)) := hid (by unfold searchB; rw [hsh]; rfl)
        simp only [HR.out, HR2.out] at HAL HSO
        have e1 : ((1 : Int) != 1) = false := by decide
        have e2 : ((1 : Int) != 0) = true := by decide
        clear hsh
        go_enter Try.func11, Try.ntmps11
        go_wp2_with fail
        refine HF.out.mono ?_
        rintro e w1 ⟨rfl, rfl⟩
        go_wp2_with fail
        refine (HAL.out w (Below.refl _ _)).mono ?_
        rintro e w1 ⟨u1, rfl, -, hb1⟩
        have HB1 := hid hb1
        clear hb1
        go_wp2_with fail
        refine (HSO.out _ HB1.out).mono ?_
        rintro e w2 ⟨u2, rfl, -, hb2⟩
        have HB2 := hid (HB1.out.trans (hb2.mono HB1.out.size))
        clear hb2
        go_wp2_with fail
        refine (law5_awake _).mono ?_
        rintro e w3 ⟨rfl, hb3⟩
        have HB3 := hid (HB2.out.trans (hb3.mono HB2.out.size))
        clear hb3
        go_wp2
        go_ret
        exact ⟨rfl, HB3.out⟩
      · have HR := hid (sortR_0 hsh)
        obtain ⟨g1, g2, g3, g4, g5, g6⟩ := shelfB_facts hsh
        have hqt : termB s q = true := by rw [← HQ.out]; exact List.all_eq_true.1 g4 _ (List.getElem_mem hkl)
        have HR2 : Hid (searchB s l q (l.map (fun t => alikeB s t q)) = (chosenL 0 (l.map (fun t => alikeB s t q)), 0)) := hid (by unfold searchB; rw [hsh, hqt]; rfl)
        simp only [HR.out, HR2.out] at HAL HSO
        have HHAS : Hid (decide ((k : Int) ∈ chosenL 0 (l.map (fun t => alikeB s t q))) = true) := hid (by rw [chosenL_dec (f := fun t => alikeB s t q) hkl, HQ.out]; exact alikeB_self hqt)
        have HIN : Hid (canonL q ∈ sortedL (l.map canonL)) := hid (by rw [sortedL_mem]; exact List.mem_map.2 ⟨q, by rw [← HQ.out]; exact List.getElem_mem hkl, rfl⟩)
        have hll := chosenL_le (l.map (fun t => alikeB s t q)) 0
        rw [List.length_map, HNN.out] at hll
        have hsl := sorted_len (l.map canonL) []
        rw [List.length_map, HNN.out] at hsl
        obtain ⟨A, hA⟩ : ∃ A, chosenL 0 (l.map (fun t => alikeB s t q)) = A := ⟨_, rfl⟩
        obtain ⟨S, hS⟩ : ∃ S, sortedL (l.map canonL) = S := ⟨_, rfl⟩
        simp only [hA] at HAL HHAS hll
        simp only [hS] at HSO HIN
        have hsl2 : S.length ≤ n := by rw [← hS]; show (List.foldl withL [] (l.map canonL)).length ≤ n; simpa using hsl
        have hcl : (canonL q).length ≤ 60 := by rw [canonL_len]; exact (termB_facts hqt).2.2.2
        have HQT := hid hqt
        have e1 : ((0 : Int) != 0) = false := by decide
        have e2 : ((0 : Int) == 0) = true := by decide
        clear hsh hA hS hqt hsl g1 g2 g3 g4 g5 g6
        go_enter Try.func11, Try.ntmps11
        go_wp2_with fail
        refine HF.out.mono ?_
        rintro e w1 ⟨rfl, rfl⟩
        go_wp2_with fail
        refine (HAL.out w (Below.refl _ _)).mono ?_
        rintro e w1 ⟨u1, rfl, ho1, hb1⟩
        have HB1 := hid hb1
        have HI1 := hid (Ints.of_owns ho1 (by omega))
        clear ho1 hb1
        go_wp2_with fail
        refine (HSO.out _ HB1.out).mono ?_
        rintro e w2 ⟨u2, rfl, ht2, hb2⟩
        have HB2 := hid (HB1.out.trans (hb2.mono HB1.out.size))
        have HI2 := hid (HI1.out.below hb2)
        have HT2 := hid ht2
        have hcx2 := (HB2.out.cell (World.block_lt_of_cell? _ _ hcx)).trans hcx
        clear ht2 hb2
        go_wp2_with fail
        refine (HCN.out _ HB2.out).mono ?_
        rintro e w3 ⟨hb3, ⟨hf, -⟩ | ⟨-, u3, rfl, ho3⟩⟩
        · rw [HQT.out] at hf; cases hf
        have HB3 := hid (HB2.out.trans (hb3.mono HB2.out.size))
        have HI3 := hid (HI2.out.below hb3)
        have HT3 := hid (HT2.out.below hb3)
        have HC3 := hid (Ints.of_owns ho3 (by omega))
        obtain ⟨sa, sc, hse, -⟩ := HT3.out.open
        subst hse
        clear ho3 hb3
        go_wp2
        go_loopw [13, 14] (fun bv nv wr => ∃ m : Nat, m ≤ S.length ∧ nv = .int .i64 m ∧ bv = .bool (decide (canonL q ∈ S.take m)) ∧ Below w3.heap.size w3 wr) (fun _ nv _ => S.length - (intOf nv).toNat)
        case atStart => exact ⟨0, by omega, rfl, by simp, Below.refl _ _⟩
        case round =>
          obtain ⟨m, hm, rfl, rfl, hb⟩ := hrel
          have HB := hid hb
          by_cases hlt : m < S.length
          · obtain ⟨a8, c8, he8, -, -, -, HC⟩ := (HT3.out.below hb).open
            obtain ⟨rfl, -, rfl⟩ := Value.slice.inj he8
            obtain ⟨b8, o8, z, rfl, hcz, hiz⟩ := HC m hlt
            obtain ⟨za, zc, rfl, -⟩ := hiz.open
            have HSM := hid (ref1_Same _ _ _ _ wr hiz (HC3.out.below hb))
            have x0 : (0 : Int) ≤ (m : Int) := by omega
            have x1 : (m : Int) < (S.length : Int) := by omega
            have HST : Hid (decide (canonL q ∈ S.take (m + 1)) = (decide (canonL q ∈ S.take m) || decide (S[m] = canonL q))) := hid (by
              rw [List.take_succ_eq_append_getElem hlt, Bool.eq_iff_iff]
              simp only [List.mem_append, List.mem_singleton, Bool.or_eq_true, decide_eq_true_eq]
              exact or_congr Iff.rfl eq_comm)
            clear HC he8 hiz hb
            cases hd : decide (canonL q ∈ S.take m)
            · rw [hd] at HST
              have hbw : (false || decide (S[m] = canonL q)) = decide (S[m] = canonL q) := Bool.false_or _
              rw [hbw] at HST
              clear hbw hd
              obtain ⟨y, hy⟩ : ∃ y, decide (S[m] = canonL q) = y := ⟨_, rfl⟩
              rw [hy] at HSM HST
              clear hy
              go_wp2_with fail
              refine HSM.out.mono ?_
              rintro e w4 ⟨rfl, n4, hw4⟩
              have HB4 := hid (HB.out.trans ((show Below wr.heap.size wr w4 by rw [hw4]; exact below_self_drewN _ _).mono HB.out.size))
              clear hw4
              go_wp2
              go_roundw
              case rel => exact ⟨m + 1, by omega, by go_num, by rw [HST.out], HB4.out⟩
              case measure => simp [intOf]; omega
            · rw [hd] at HST
              clear hd
              go_wp2
              go_roundw
              case rel => exact ⟨m + 1, by omega, by go_num, by rw [HST.out]; rfl, HB.out⟩
              case measure => simp [intOf]; omega
          · have hml : m = S.length := by omega
            have hd : decide (canonL q ∈ S.take m) = true := by rw [List.take_of_length_le (by omega)]; exact decide_eq_true HIN.out
            rw [hd]
            have HH := hid (ref1_Has u1 A k wr (HI3.out.below hb))
            rw [HHAS.out] at HH
            have hbw := HB3.out.trans (hb.mono HB3.out.size)
            have HBW := hid hbw
            clear hd hb hbw
            go_wp2_with fail
            refine HH.out.mono ?_
            rintro e w5 ⟨rfl, rfl⟩
            go_wp2_with fail
            refine (law5_awake _).mono ?_
            rintro e w6 ⟨rfl, hb6⟩
            have HB6 := hid (HBW.out.trans (hb6.mono HBW.out.size))
            clear hb6
            go_wp2
            go_ret
            exact ⟨rfl, HB6.out⟩
end Go.Proofs.Ytiacbdipagbblaa
