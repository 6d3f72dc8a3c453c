/-
  WHAT IT HOLDS: the walk of the law FindPermuted.
-/
import Derived.Deep.RegionLaw
import Derived.Test.YtiacbdipagbblaaZRFindPermuted6
import Derived.Test.YtiacbdipagbblaaZRFindPermuted8
import Derived.Test.YtiacbdipagbblaaZRFindPermuted41
import Derived.Test.YtiacbdipagbblaaZRFindPermuted42
import Derived.Test.YtiacbdipagbblaaZRFindPermuted34
import Derived.Test.YtiacbdipagbblaaZRFindPermuted29
namespace Go.Proofs.Ytiacbdipagbblaa
open Go Go.RowKit Go.Maps
theorem terms_nilP (w : World) : Terms w (.slice none 0 0) [] := ⟨[], ⟨by simp, none, 0, rfl, Nat.le_refl _, by simp, fun _ => rfl, by simp⟩, rfl, by simp⟩
theorem find_GroupsQ (vs vl : Value) (s : Sg) (l : List (List Int)) (w : World) (hs : SignAt w vs s) (hv : Terms w vl l) (hs1 : s.length ≤ 1000) (hl1 : l.length ≤ 1000) :
    Calls Try.prog 18 #[vs, vl] w fun e w' => ∃ u, e = .returned (.tuple #[u, .int .i64 (grpQ canonL (shelfB s l) l).2]) ∧ Terms w' u (grpQ canonL (shelfB s l) l).1 ∧ Below w.heap.size w w' := by
  refine (find_Groups vs vl s l w hs hv hs1 hl1).mono ?_
  rintro e w' ⟨hb, ⟨h1, rfl⟩ | ⟨h1, u, vs', rfl, hN⟩⟩
  · rw [h1]
    exact ⟨_, rfl, terms_nilP _, hb⟩
  · rw [h1]
    have hg := fun g (hg : g ∈ (grpQ canonL true l).1) => grpQ_range hg
    have hl := grpQ_len canonL true l
    exact ⟨_, rfl, hN.terms (by show (grpQ canonL true l).1.length ≤ _; omega) (fun g h => by have := (hg g h).1; omega), hb⟩
theorem shelfB_rot {s : Sg} {l : List (List Int)} {k : Nat} : shelfB s (l.drop k ++ l.take k) = shelfB s l := by
  have hp := rotL_perm l k
  have e : allB s (l.drop k ++ l.take k) = allB s l := by
    unfold allB
    rw [Bool.eq_iff_iff, List.all_eq_true, List.all_eq_true]
    exact ⟨fun h x hx => h x (hp.mem_iff.2 hx), fun h x hx => h x (hp.mem_iff.1 hx)⟩
  unfold shelfB
  rw [e, hp.length_eq]
set_option maxHeartbeats 4000000 in
set_option maxRecDepth 100000 in
theorem walk_FindPermuted (vs vl : Value) (s : Sg) (l : List (List Int)) (at_ : Int) (w : World) (hs : SignAt w vs s) (hl : Terms w vl l) :
    Calls Try.prog 4 #[vs, vl, .int .i64 at_] w fun e w' => e = .returned (.bool true) ∧ Below w.heap.size w w' := by
  have HF := hid (law5_Few vs vl s l 40 w hs hl)
  have HS := hid hs
  have HL := hid hl
  obtain ⟨vvs, hTV⟩ := hl
  obtain ⟨la, cap, hle, hlc, hl2, hnone, -⟩ := HL.out.open
  have HTV := hid hTV
  have HW := hid (fun (X : World) (hX : Below w.heap.size w X) => chainL hX (law5_awake X))
  clear hs hTV
  have hws := Below.refl w.heap.size w
  have HB := hid hws
  clear hws
  subst hle
  cases hf : (decide ((l.length : Int) ≤ 40) && smallB s l)
  · rw [hf] at HF
    clear hf
    go_enter Try.func4, Try.ntmps4
    go_wp2_with fail
    refine HF.out.mono ?_
    rintro e w1 ⟨rfl, rfl⟩
    go_wp2_with fail
    refine (HW.out _ HB.out).mono ?_
    rintro e w2 ⟨rfl, hb3⟩
    go_wp2
    go_ret
    exact ⟨rfl, hb3⟩
  · have hsm : s.length ≤ 40 ∧ l.length ≤ 40 := by
      simp only [Bool.and_eq_true, decide_eq_true_eq, smallB] at hf
      omega
    rw [hf] at HF
    clear hf
    obtain ⟨hs40, hl40⟩ := hsm
    obtain ⟨n, hnn⟩ : ∃ n, l.length = n := ⟨_, rfl⟩
    have HNN := hid hnn
    simp only [hnn] at hlc hl2 hl40 HF ⊢
    clear hnn
    by_cases hn0 : n = 0
    · subst hn0
      go_enter Try.func4, Try.ntmps4
      go_wp2_with fail
      refine HF.out.mono ?_
      rintro e w1 ⟨rfl, rfl⟩
      go_wp2_with fail
      refine (HW.out _ HB.out).mono ?_
      rintro e w2 ⟨rfl, hb3⟩
      go_wp2
      go_ret
      exact ⟨rfl, hb3⟩
    · have hn : 0 < n := by omega
      obtain ⟨r, k, hr1, hr2, hr3, hr4, hr5, hr6, hr7, hk⟩ := rot_num at_ hn
      have z1 : (n : Int) ≠ 0 := by omega
      have z2 : (n : Int) ≤ 40 := by omega
      have HG := hid (fun (X : World) (hX : Below w.heap.size w X) (u : Value) (m : List (List Int)) (hm : m.length ≤ 1000) (hu : Terms X u m) => find_GroupsQ vs u s m X (HS.out.below hX) hu (by omega) hm)
      have HROT := hid (grpQ_rot (f := canonL) (ok := shelfB s l) (l := l) (k := k) (by rw [HNN.out]; exact hk))
      have HRA := hid (fun g (hg : g ∈ (grpQ canonL (shelfB s l) l).1) => grpQ_range hg)
      have HRB := hid (fun g (hg : g ∈ (grpQ canonL (shelfB s l) (l.drop k ++ l.take k)).1) => grpQ_range hg)
      have hga := grpQ_len canonL (shelfB s l) l
      have hgb := grpQ_len canonL (shelfB s l) (l.drop k ++ l.take k)
      rw [(rotL_perm l k).length_eq] at hgb
      rw [HNN.out] at hga hgb
      have HGL := hid (HG.out w HB.out _ l (by rw [HNN.out]; omega) HL.out)
      rw [HNN.out] at HROT HRA HGL
      have HRB2 : Hid (∀ g ∈ (grpQ canonL (shelfB s l) (l.drop k ++ l.take k)).1, g.length ≤ n ∧ ∀ y ∈ g, 0 ≤ y ∧ y < n) := hid (fun g hg => by
        have := HRB.out g hg
        rw [(rotL_perm l k).length_eq, HNN.out] at this
        exact this)
      obtain ⟨ga, hgae⟩ : ∃ ga, grpQ canonL (shelfB s l) l = ga := ⟨_, rfl⟩
      obtain ⟨gb, hgbe⟩ : ∃ gb, grpQ canonL (shelfB s l) (l.drop k ++ l.take k) = gb := ⟨_, rfl⟩
      have HGBE := hid hgbe
      simp only [hgae] at HROT HRA HGL hga
      simp only [hgbe] at HROT HRB2 hgb
      obtain ⟨ga, ea⟩ := ga
      obtain ⟨gb, eb⟩ := gb
      obtain rfl : ea = eb := HROT.out.1
      have hL := HROT.out.2.1
      have HLIES := hid HROT.out.2.2
      simp only at hL HRA HRB2 HLIES hga hgb
      obtain ⟨L, hLa⟩ : ∃ L, ga.length = L := ⟨_, rfl⟩
      have hLb : gb.length = L := by rw [← hL, hLa]
      rw [hLa] at hga HLIES
      rw [hLb] at HLIES
      have HLA := hid hLa
      have HLB := hid hLb
      have e1 : (ea != ea) = false := by simp
      have e2 : ((L : Int) != (L : Int)) = false := by simp
      clear HROT HRB hgae hgbe hL hgb hLa hLb hn0
      go_enter Try.func4, Try.ntmps4
      go_wp2_with fail
      refine HF.out.mono ?_
      rintro e w1 ⟨rfl, rfl⟩
      go_wp2_with fail
      refine HGL.out.mono ?_
      rintro e w6 ⟨u1, rfl, hu1, hb1⟩
      have HB6 := hid (HB.out.trans (hb1.mono HB.out.size))
      have HU1 := hid hu1
      clear hu1 hb1
      obtain ⟨⟨b, o, spot⟩, rfl⟩ : ∃ ad, la = some ad := by
        cases la with
        | none => have := hnone rfl; omega
        | some ad => exact ⟨ad, rfl⟩
      have hV := HTV.out.1
      have hvl : vvs.length = n := by rw [HTV.out.2.1]; exact HNN.out
      have hspot : spot = none := by
        obtain ⟨a, c, e1, -, -, -, e2⟩ := hV.open
        obtain ⟨b', o', e3, -⟩ := e2 0 (by omega)
        simp only [Value.slice.injEq] at e1
        rw [← e1.1] at e3
        cases e3; rfl
      subst hspot
      have hR : RowK w (.slice (some ⟨b, o, none⟩) n cap) 1 n vvs := by
        have := hV
        unfold Vals at this
        rw [hvl, HNN.out] at this
        exact this
      have H1 := HTV.out.one
      have HR1 := hid (fun (X : World) (hX : Below w.heap.size w X) => (hR.fromK (k := k) (by omega)).below hX)
      have HR2 := hid (fun (X : World) (hX : Below w.heap.size w X) => (hR.upToK (k := k) (by omega)).below hX)
      have HO1 : Hid (∀ u ∈ vvs.drop k, u.oneCell' = true) := hid (fun u hu => H1 u (List.mem_of_mem_drop hu))
      have HO2 : Hid (∀ u ∈ vvs.take k, u.oneCell' = true) := hid (fun u hu => H1 u (List.mem_of_mem_take hu))
      have hbA : Below w6.heap.size w6 (w6.alloc (.cells #[] 37)).drew := ((Below.refl _ _).alloc (Nat.le_refl _) _).drew
      have HBA := hid (HB6.out.trans (hbA.mono HB6.out.size))
      have HBA0 := hid hbA
      have hownA := World.ownsRow_lit (base := w6.heap.size) (e := 37) (size := 1) w6 #[] 0 (Nat.le_refl _) (by simp [maxLen]) rfl
      have HOWNA := hid (owns_below hownA ((below_self_drewN _ 1)))
      have HNN0 : Hid (l.length = 0 + (n - k) + k) := hid (by rw [HNN.out]; omega)
      have q1 : 0 + (n - k) ≤ 140737488355328 := by omega
      have q2 : (0 + (n - k)) * 24 ≤ 140737488355328 := by omega
      have q3 : w6.heap.size ≤ (w6.alloc (.cells #[] 37)).drew.heap.size := by simp
      have q4 : 0 + (n - k) + k ≤ 140737488355328 := by omega
      have q5 : (0 + (n - k) + k) * 24 ≤ 140737488355328 := by omega
      have hkc : k < cap := by omega
      have hkc0 : ¬ cap = k := by omega
      have hkc1 : k ≤ cap := by omega
      have hkn1 : k ≤ n := by omega
      have y0 : (0 : Int) ≤ (k : Int) := by omega
      have y1 : (k : Int) ≤ (n : Int) := by omega
      have y2 : (k : Int) ≤ (cap : Int) := by omega
      clear hR H1 hbA hownA hV hvl HGL
      go_wp2
      go_region_law (first
        | (refine step_append_row rfl (.tmp 45) (.tmp 48) 24 rfl w6.heap.size 37 el_term Try.underlying24 rfl (by decide) _ _ _ rfl HOWNA.out _ (n - k) (vvs.drop k) rfl (HR1.out _ HBA.out) HO1.out q1 q2 q3 ?_
           intro v8 w8 hown8 hgrow8
           have hb8 : Below w6.heap.size w6 w8 := HBA0.out.grown hgrow8 q3 (fun q hq => (HOWNA.out.lt q hq).1)
           have hsz8 := hb8.size)
        | (refine step_append_row rfl (.tmp 49) (.tmp 52) 24 rfl w6.heap.size 37 el_term Try.underlying24 rfl (by decide) _ _ _ rfl hown8 _ k (vvs.take k) rfl (HR2.out _ (HB6.out.trans (hb8.mono HB6.out.size))) HO2.out q4 q5 hsz8 ?_
           intro v9 w9 hown9 hgrow9
           have hb9 : Below w6.heap.size w6 w9 := hb8.grown hgrow9 hb8.size (fun q hq => (hown8.lt q hq).1)
           have ho9 : w9.ownsRow w6.heap.size 37 1 v9 (0 + (n - k) + k) (vvs.drop k ++ vvs.take k) := by rw [← List.nil_append (vvs.drop k)]; exact hown9
           have HT9 : Hid (Terms w9 v9 (l.drop k ++ l.take k)) := hid ⟨_, TermsV.rot HTV.out (HB6.out.trans (hb9.mono HB6.out.size)) (HNN0.out.symm) ho9 (by rw [HNN.out]; omega)⟩
           have HB9 := hid (HB6.out.trans (hb9.mono HB6.out.size))
           have HB69 := hid hb9
           have hGG := HG.out w9 HB9.out v9 (l.drop k ++ l.take k) (by rw [(rotL_perm l k).length_eq, HNN.out]; omega) HT9.out
           rw [shelfB_rot, HGBE.out] at hGG
           have HGG := hid hGG
           clear hown8 hgrow8 hown9 hgrow9 hb8 hb9 ho9 hGG)
        | (go_simp; go_at_call 18; refine HGG.out.mono ?_; rintro e wa ⟨u2, rfl, hua, hba⟩))
      have HBa := hid (HB9.out.trans (hba.mono HB9.out.size))
      have hT1 := (HU1.out.below HB69.out).below hba
      obtain ⟨aa, ca, rfl, -, -, -, HCA⟩ := hT1.open
      obtain ⟨ab, cb, rfl, -, -, -, HCB⟩ := hua.open
      have HCA := hid HCA
      have HCB := hid HCB
      simp only [HLA.out, HLB.out]
      clear hT1 hua hba q1 q2 q3 q4 q5 HT9 HGG HBA HBA0 HOWNA HR1 HR2 hkc hkc0 hkc1
      go_wp2
      go_loopw [13] (fun kv wr => ∃ i q : Nat, i ≤ L ∧ kv = .int .i64 i ∧ wr = wa.drewN q) (fun kv _ => L - (intOf kv).toNat)
      case atStart => exact ⟨0, 0, by omega, rfl, rfl⟩
      case round =>
        obtain ⟨i, q, hi, rfl, rfl⟩ := hrel
        by_cases hlti : i < L
        · have hiB : i < gb.length := by rw [HLB.out]; exact hlti
          obtain ⟨bi, oi, xi, rfl, ci, ixi⟩ := HCB.out i hiB
          have hri := HRB2.out gb[i] (List.getElem_mem hiB)
          have HRI := hid hri.2
          obtain ⟨GI, hGI⟩ : ∃ GI, gb[i] = GI := ⟨_, rfl⟩
          have HGI := hid hGI
          rw [hGI] at ixi hri HRI
          obtain ⟨xa, xc, rfl, hg1, hg2, -, HXI⟩ := ixi.open
          have HXI := hid HXI
          have hl40 := hri.1
          obtain ⟨li, hli⟩ : ∃ li, GI.length = li := ⟨_, rfl⟩
          have HLI := hid hli
          rw [hli] at hg1 hg2 hl40 ci
          have HLJ := hid (HLIES.out i hlti)
          clear ixi hri hGI hli
          go_wp2
          go_loopw [14, 15] (fun sv kv wr => ∃ j q : Nat, j ≤ L ∧ kv = .int .i64 j ∧ sv = .bool ((List.range j).any (liesB ga gb k n i)) ∧ wr = wa.drewN q) (fun _ kv _ => L - (intOf kv).toNat)
          case atStart => exact ⟨0, q, by omega, rfl, rfl, rfl⟩
          case round =>
            obtain ⟨j, q2, hj, rfl, rfl, rfl⟩ := hrel
            obtain ⟨sj, hsj⟩ : ∃ sj, (List.range j).any (liesB ga gb k n i) = sj := ⟨_, rfl⟩
            rw [hsj]
            have HSJ := hid hsj
            clear hsj
            by_cases hltj : j < L
            · have hjA : j < ga.length := by rw [HLA.out]; exact hltj
              obtain ⟨bj, oj, xj, rfl, cj, ixj⟩ := HCA.out j hjA
              have hrj := HRA.out ga[j] (List.getElem_mem hjA)
              obtain ⟨GJ, hGJ⟩ : ∃ GJ, ga[j] = GJ := ⟨_, rfl⟩
              have HGJ := hid hGJ
              rw [hGJ] at ixj hrj
              have IXJ := hid ixj
              obtain ⟨ya, yc, rfl, hh1, hh2, -, -⟩ := ixj.open
              have hl41 := hrj.1
              have hz0 := liesM_zero (k := k) (n := n) hiB hjA
              rw [HGI.out, hGJ, HLI.out] at hz0
              obtain ⟨lj, hlj⟩ : ∃ lj, GJ.length = lj := ⟨_, rfl⟩
              have HLJ2 := hid hlj
              rw [hlj] at hh1 hh2 hl41 cj hz0
              obtain ⟨c0, hc0⟩ : ∃ c0, ((lj : Int) == (li : Int)) = c0 := ⟨_, rfl⟩
              rw [hc0] at hz0
              have HZ0 := hid hz0
              have HSUC := hid (fun m hm => liesM_succ (k := k) (n := n) (m := m) hiB hjA hm)
              have HALL := hid (liesM_all (a := ga) (k := k) (n := n) (j := j) hiB)
              have HJS : Hid ((List.range (j + 1)).any (liesB ga gb k n i) = (sj || liesB ga gb k n i j)) := hid (by rw [List.range_succ, List.any_append, HSJ.out]; simp)
              have y3 : (0 : Int) ≤ (i : Int) := by omega
              have y4 : (i : Int) < (L : Int) := by omega
              have y5 : (0 : Int) ≤ (j : Int) := by omega
              have y6 : (j : Int) < (L : Int) := by omega
              clear ixj hrj hGJ hlj hz0
              go_wp2
              go_quiet (fail)
              go_wp2
              go_loopw [16, 17] (fun lv kv wr => ∃ m q : Nat, m ≤ li ∧ kv = .int .i64 m ∧ lv = .bool (liesM ga gb k n i j m) ∧ wr = wa.drewN q) (fun _ kv _ => li - (intOf kv).toNat)
              case atStart => exact ⟨0, _, by omega, rfl, by rw [HZ0.out], (by first | rfl | exact World.drewN_drewN _ _ _)⟩
              case round =>
                clear hc0
                obtain ⟨m, q3, hm, rfl, rfl, rfl⟩ := hrel
                by_cases hltm : m < li
                · have hmI : m < GI.length := by rw [HLI.out]; exact hltm
                  have hsu := HSUC.out m (by rw [HGI.out]; exact hmI)
                  have hxr := HRI.out GI[m] (List.getElem_mem hmI)
                  obtain ⟨b2, o2, rfl, cm⟩ := HXI.out m hmI
                  have hgm : gb[i][m]'(by rw [HGI.out]; exact hmI) = GI[m] := by simp only [HGI.out]
                  obtain ⟨xn, hxn⟩ := Int.eq_ofNat_of_zero_le hxr.1
                  rw [hgm, hxn, HGJ.out] at hsu
                  rw [hxn] at cm hxr
                  obtain ⟨yy, hyy⟩ : ∃ yy : Nat, ((xn : Int) + (k : Int)) % (n : Int) = (yy : Int) := Int.eq_ofNat_of_zero_le (Int.emod_nonneg _ (by omega))
                  rw [hyy] at hsu
                  have hyt : ((xn : Int) + (k : Int)).tmod (n : Int) = (yy : Int) := by rw [Int.tmod_eq_emod_of_nonneg (by omega)]; exact hyy
                  obtain ⟨d, hd⟩ : ∃ d, decide ((yy : Int) ∈ GJ) = d := ⟨_, rfl⟩
                  rw [hd] at hsu
                  have HSU := hid hsu
                  have HHAS := hid (fun (X : World) (hX : Below wa.heap.size wa X) => ref1_Has _ GJ yy X (IXJ.out.below hX))
                  simp only [hd, HLJ2.out] at HHAS
                  have hxb := hxr.2
                  have y7 : (0 : Int) ≤ (m : Int) := by omega
                  have y8 : (m : Int) < (li : Int) := by omega
                  have hwr : IntKind.i64.wrap ((xn : Int) + (k : Int)) = (xn : Int) + (k : Int) := IntWalk.i64_in _ ⟨by omega, by omega⟩
                  have hyl : (yy : Int) < (n : Int) := by rw [← hyy]; exact Int.emod_lt_of_pos _ (by omega)
                  have hwy : IntKind.i64.wrap (yy : Int) = (yy : Int) := IntWalk.i64_in _ ⟨by omega, by omega⟩
                  have hn0e : ((n : Int) == 0) = false := by simpa using z1
                  have hpos : (0 : Int) ≤ (xn : Int) + (k : Int) := by omega
                  clear hsu hxr hgm hxn hd
                  cases hc : liesM ga gb k n i j m
                  · rw [hc] at HSU
                    have HC := hid hc
                    clear hc
                    go_wp2
                    go_quiet (fail)
                    go_wp2
                    go_roundw
                    case rel => exact ⟨m + 1, _, by omega, by go_num, by rw [HSU.out]; rfl, (by first | rfl | exact World.drewN_drewN _ _ _)⟩
                    case measure => simp [intOf]; omega
                  · rw [hc] at HSU
                    have HC := hid hc
                    clear hc
                    go_wp2
                    go_quiet ((go_at_call 19; exact (HHAS.out _ (below_self_drewN wa _)).mono (by rintro e w' ⟨h1, h2⟩; exact ⟨h1, _, h2.symm⟩)))
                    go_wp2
                    go_roundw
                    case rel => exact ⟨m + 1, _, by omega, by go_num, by rw [HSU.out]; rfl, (by first | rfl | exact World.drewN_drewN _ _ _)⟩
                    case measure => simp [intOf]; omega
                · obtain rfl : li = m := by omega
                  have hle : liesM ga gb k n i j li = liesB ga gb k n i j := by
                    have := HALL.out
                    rw [HGI.out, HLI.out] at this
                    exact this
                  rw [hle]
                  obtain ⟨c1, hc1⟩ : ∃ c1, liesB ga gb k n i j = c1 := ⟨_, rfl⟩
                  rw [hc1]
                  have HC1 := hid hc1
                  clear hle hc1
                  cases sj
                  · go_wp2
                    go_roundw
                    case rel => exact ⟨j + 1, _, by omega, by go_num, by rw [HJS.out, HC1.out]; rfl, (by first | rfl | exact World.drewN_drewN _ _ _)⟩
                    case measure => simp [intOf]; omega
                  · go_wp2
                    go_roundw
                    case rel => exact ⟨j + 1, _, by omega, by go_num, by rw [HJS.out, HC1.out]; rfl, (by first | rfl | exact World.drewN_drewN _ _ _)⟩
                    case measure => simp [intOf]; omega
            · obtain rfl : L = j := by omega
              obtain rfl : sj = true := by
                rw [← HSJ.out, List.any_eq_true]
                obtain ⟨j, h1, h2⟩ := HLJ.out
                exact ⟨j, by simpa using h1, h2⟩
              go_wp2
              go_roundw
              case rel => exact ⟨i + 1, _, by omega, by go_num, rfl⟩
              case measure => simp [intOf]; omega
        · obtain rfl : L = i := by omega
          have HBq := hid (below_drewN HBa.out q)
          go_wp2_with fail
          refine (HW.out _ HBq.out).mono ?_
          rintro e wc ⟨rfl, hbc⟩
          go_wp2
          go_ret
          exact ⟨rfl, hbc⟩
end Go.Proofs.Ytiacbdipagbblaa
