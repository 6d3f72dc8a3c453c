/-
  WHAT IT HOLDS: contracts of slices.Index at ints, of Unused and Dropped of package short. Conditions: the arguments read as data.
  WHAT IT HOLDS: contract of Moved of package kernel where it moves a proof. Conditions: the arguments read as data; the proof is valid; the new givens are in range.
-/
import Derived.Test.YtmpjaakkjhmpmaaGreatDoorZRShortDrops35
import Derived.Test.YtmpjaakkjhmpmaaGreatDoorZRShortDrops43
import Derived.Test.YtmpjaakkjhmpmaaGreatDoorZRShortDrops36
namespace Go.Proofs.YtmpjaakkjhmpmaaGreatDoor
open Go Go.RowKit Go.Maps
theorem sl_IndexN (v : Value) (l : List Nat) (x : Nat) (w : World) (hv : Ints w v (natO l)) (hx : x ∈ l) (hn : l.length ≤ 1000) :
    Calls Tryz.prog 69 #[v, .int .i64 (x : Int)] w fun e w' => e = .returned (.int .i64 (ixN l x : Int)) ∧ w = w' := by
  obtain ⟨a, cap, rfl, h1, hl, h3, HC⟩ := hv.open
  have HC' := hid HC
  have HMX := hid hx
  have hll := natO_len l
  rw [hll]
  clear HC hv h3 hx
  go_enter Tryz.func69, Tryz.ntmps69
  go_wp2
  go_loop [8] (fun i => ∃ k : Nat, k ≤ l.length ∧ i = .int .i64 k ∧ ∀ j, j < k → l.getD j 0 ≠ x) (fun i => l.length - (intOf i).toNat)
  case atStart => exact ⟨0, by omega, rfl, fun j h => by omega⟩
  case round =>
    obtain ⟨k, hk, rfl, hrel⟩ := hrel
    have HR := hid hrel
    clear hrel
    by_cases hlt : k < l.length
    · obtain ⟨b, o, rfl, hcell⟩ := HC'.out k (by omega)
      obtain ⟨y, hy⟩ : ∃ y, l.getD k 0 = y := ⟨_, rfl⟩
      have e1 : (natO l)[k]'(by omega) = (y : Int) := by
        unfold natO
        rw [List.getElem_map, ← hy, List.getD_eq_getElem?_getD, List.getElem?_eq_getElem hlt]; rfl
      rw [e1] at hcell
      have HY := hid hy
      clear hy e1
      by_cases h2 : x = y
      · have c1 : ((x : Int) == (y : Int)) = true := by rw [h2]; simp
        have HE : Hid (ixN l x = k) := hid (ixN_eq hlt (by rw [HY.out, h2]) HR.out)
        clear h2
        go_wp2
        go_ret
        exact ⟨by rw [HE.out]; rfl, rfl⟩
      · have c1 : ((x : Int) == (y : Int)) = false := by rw [beq_eq_false_iff_ne]; omega
        have HN : Hid (y ≠ x) := hid (fun h => h2 h.symm)
        clear h2
        go_wp2
        go_round
        case rel =>
          refine ⟨k + 1, by omega, by go_num, fun j hj => ?_⟩
          by_cases hjk : j = k
          · subst hjk; rw [HY.out]; exact HN.out
          · exact HR.out j (by omega)
        case measure => simp [intOf]; omega
    · exfalso
      obtain ⟨i, hi, e⟩ := List.getElem_of_mem HMX.out
      refine HR.out i (by omega) ?_
      rw [List.getD_eq_getElem?_getD, List.getElem?_eq_getElem hi]
      exact e
def UnuQ (g : Int) (p : List St) (w : World) (e : Ending) (w' : World) : Prop := ∃ u, e = .returned (.tuple #[u, .int .i64 (vldE g p)]) ∧ Ints w' u (if vldB g p = true then natO (unusedG g.toNat p) else []) ∧ Below w.heap.size w w'
theorem vldB_nat {g : Int} {p : List St} (h : vldB g p = true) : ∃ n : Nat, g = n ∧ n ≤ 60 ∧ proofB n p = true := by
  unfold vldB at h
  rw [Bool.and_eq_true] at h
  have h1 := inB_true.1 h.1
  refine ⟨g.toNat, by omega, by omega, ?_⟩
  have e : ((g.toNat : Nat) : Int) = g := by omega
  rw [e]; exact h.2
theorem vldE_0 {g : Int} {p : List St} (h : vldB g p = true) : vldE g p = 0 := by unfold vldE; rw [h]; rfl
theorem vldE_1 {g : Int} {p : List St} (h : vldB g p = false) : vldE g p = 1 := by unfold vldE; rw [h]; rfl
theorem unusedG_len {g : Nat} {p : List St} : (unusedG g p).length ≤ g := by have := used_unused g p; omega
set_option maxHeartbeats 2000000 in
theorem short_Unused (g : Int) (v : Value) (p : List St) (w : World) (hv : StepsAt w v p) :
    Calls Tryz.prog 25 #[.int .i64 g, v] w fun e w' => UnuQ g p w e w' := by
  have HV := hid (short_valid g v p w hv)
  have HP := hid hv
  obtain ⟨pa, pc, rfl, -⟩ := hv.open
  clear hv
  unfold UnuQ
  cases hb : vldB g p
  · rw [vldE_1 hb] at HV ⊢
    clear hb HP
    go_enter Tryz.func25, Tryz.ntmps25
    go_wp2_with fail
    refine HV.out.mono ?_
    rintro e w1 ⟨rfl, hb1⟩
    go_wp2
    go_ret2
    exact ⟨_, rfl, ints_nil7 _, hb1⟩
  rw [vldE_0 hb] at HV ⊢
  obtain ⟨n, rfl, hn60, hp⟩ := vldB_nat hb
  rw [Int.toNat_natCast]
  have HS := hid (fun (X : World) (hX : Below w.heap.size w X) => short_split n (.slice pa p.length pc) p X (HP.out.below hX) hp hn60)
  have HL := hid (unusedG_len (g := n) (p := p))
  clear hb HP hp
  go_enter Tryz.func25, Tryz.ntmps25
  go_wp2_with fail
  refine HV.out.mono ?_
  rintro e w1 ⟨rfl, hb1⟩
  have HB1 := hid hb1
  have K := hid (HS.out w1 hb1)
  clear hb1
  go_wp2_with fail
  refine K.out.mono ?_
  rintro e w2 ⟨u1, u2, rfl, ho1, ho2, hb2⟩
  have HB2 := hid (HB1.out.trans (hb2.mono HB1.out.size))
  have HI := hid (show Ints w2 u1 (natO (unusedG n p)) from Ints.of_owns (by rw [natO_len]; exact ho1) (by rw [natO_len]; have := HL.out; omega))
  obtain ⟨a1, c1, rfl⟩ := owns_slice ho1
  obtain ⟨a2, c2, rfl⟩ := owns_slice ho2
  clear ho1 ho2 hb2
  go_wp2
  go_ret2
  exact ⟨_, rfl, HI.out, HB2.out⟩
def DrpQ (g : Int) (p : List St) (w : World) (e : Ending) (w' : World) : Prop := ∃ u v, e = .returned (.tuple #[u, v, .int .i64 (vldE g p)]) ∧ StepsAt w' u (if vldB g p = true then drpP g.toNat p else []) ∧ Ints w' v (if vldB g p = true then natO (usedG g.toNat p) else []) ∧ Below w.heap.size w w'
set_option maxHeartbeats 4000000 in
set_option maxRecDepth 100000 in
theorem short_Dropped (g : Int) (v : Value) (p : List St) (w : World) (hv : StepsAt w v p) :
    Calls Tryz.prog 27 #[.int .i64 g, v] w fun e w' => DrpQ g p w e w' := by
  have HV := hid (short_valid g v p w hv)
  have HP := hid hv
  obtain ⟨pa, pc, rfl, -⟩ := hv.open
  clear hv
  unfold DrpQ
  cases hb : vldB g p
  · rw [vldE_1 hb] at HV ⊢
    clear hb HP
    go_enter Tryz.func27, Tryz.ntmps27
    go_wp2_with fail
    refine HV.out.mono ?_
    rintro e w1 ⟨rfl, hb1⟩
    go_wp2
    go_ret3
    exact ⟨_, _, rfl, StepsAt.nil _, ints_nil7 _, hb1⟩
  rw [vldE_0 hb] at HV ⊢
  obtain ⟨n, rfl, hn60, hp⟩ := vldB_nat hb
  rw [Int.toNat_natCast]
  have h60 := proof60 hp
  have h1 := proof1 hp
  have HS := hid (fun (X : World) (hX : Below w.heap.size w X) => short_split n (.slice pa p.length pc) p X (HP.out.below hX) hp hn60)
  have HU := hid (usedG_len (g := n) (p := p))
  have HCI := hid (fun (k : Nat) (hk : k < p.length) (h : p[k].1 = 1) => cit_in hp hk h)
  have HDP : Hid (drpP n p = p.map (drpS (usedG n p))) := hid rfl
  clear hb hp
  go_enter Tryz.func27, Tryz.ntmps27
  go_wp2_with fail
  refine HV.out.mono ?_
  rintro e w1 ⟨rfl, hb1⟩
  have HB1 := hid hb1
  have K := hid (HS.out w1 hb1)
  clear hb1
  go_wp2_with fail
  refine K.out.mono ?_
  rintro e w2 ⟨u1, u2, rfl, ho1, ho2, hb2⟩
  have HB2 := hid (HB1.out.trans (hb2.mono HB1.out.size))
  have HI := hid (show Ints w2 u2 (natO (usedG n p)) from Ints.of_owns (by rw [natO_len]; exact ho2) (by rw [natO_len]; have := HU.out; omega))
  obtain ⟨a1, c1, rfl⟩ := owns_slice ho1
  obtain ⟨a2, c2, rfl⟩ := owns_slice ho2
  have HCL := hid (sl_Clone_steps (.slice pa p.length pc) p.length (stC p) w2 (HP.out.below HB2.out) (stC_one p) (by omega))
  clear ho1 ho2 hb2
  go_wp2_with fail
  refine HCL.out.mono ?_
  rintro e w3 ⟨u3, rfl, hown3, hb3⟩
  obtain ⟨c, cap, rfl⟩ : ∃ c cap, u3 = .slice (some ⟨c, 0, none⟩) p.length cap := by
    rcases hown3.2 with ⟨rfl, h⟩ | ⟨c, cap, cur, rfl, -⟩
    · omega
    · exact ⟨c, cap, rfl⟩
  have hc0 : w2.heap.size ≤ c := (hown3.lt c rfl).1
  have HO3 := hid hown3
  have HB3 := hid hb3
  clear hown3 hb3 HCL
  go_wp2
  go_loopw [29] (fun kv wr => ∃ k : Nat, k ≤ p.length ∧ kv = .int .i64 k ∧ wr.ownsRow w2.heap.size 57 3 (.slice (some ⟨c, 0, none⟩) p.length cap) p.length (stC (mpL (drpS (usedG n p)) p k)) ∧ Below w2.heap.size w2 wr) (fun kv _ => p.length - (intOf kv).toNat)
  case atStart => exact ⟨0, by omega, rfl, by rw [mpL_0]; exact HO3.out, HB3.out⟩
  case round =>
    clear HO3 HB3
    obtain ⟨k, hk, rfl, hown, hb⟩ := hrel
    have hsz := hb.size
    by_cases hlt : k < p.length
    · have hml := mpL_len (drpS (usedG n p)) p k
      have hat := mpL_at (drpS (usedG n p)) p hlt (by rw [hml]; exact hlt)
      obtain ⟨g0, g1, g2⟩ := stC_get (mpL (drpS (usedG n p)) p k) k (by rw [hml]; exact hlt)
      rw [hat] at g0 g1 g2
      have x0 := hown.cellAt (k * 3) (by omega)
      have x1 := hown.cellAt (k * 3 + 1) (by omega)
      have x2 := hown.cellAt (k * 3 + 2) (by omega)
      rw [g0] at x0
      rw [g1] at x1
      rw [g2] at x2
      have hsame := mpL_same (drpS (usedG n p)) p hlt
      have hsucc := mpL_succ (drpS (usedG n p)) p hlt
      have hset := fun a => stC_setA (mpL (drpS (usedG n p)) p k) a k p[k] (by rw [List.getElem?_eq_getElem (by rw [hml]; exact hlt), hat])
      have hci := HCI.out k hlt
      obtain ⟨x, hxx⟩ : ∃ x, p[k] = x := ⟨_, rfl⟩
      rw [hxx] at x0 x1 x2 hsame hsucc hset hci
      clear g0 g1 g2 hat hml hxx
      obtain ⟨L, hL⟩ : ∃ L, mpL (drpS (usedG n p)) p k = L := ⟨_, rfl⟩
      rw [hL] at hown hsame hsucc hset
      clear hL
      by_cases h2 : x.1 = 1
      · obtain ⟨hm, hA⟩ := hci h2
        obtain ⟨A, hAe⟩ : ∃ A, nA x = A := ⟨_, rfl⟩
        rw [hAe] at hm hA
        have hdr : drpS (usedG n p) x = (x.1, (ixN (usedG n p) A : Int), x.2.2) := by unfold drpS; rw [if_pos h2, hAe, h2]
        rw [hdr] at hsucc
        have HL := hid hsucc
        rw [h2] at x0
        rw [hA] at x1
        obtain ⟨z, hz⟩ : ∃ z, x.2.2 = z := ⟨_, rfl⟩
        rw [hz] at x2
        have HIX := hid (fun (X : World) (hX : Below w2.heap.size w2 X) => sl_IndexN _ (usedG n p) A X (HI.out.below hX) hm (by have := HU.out; omega))
        have hbA : Below wr.heap.size wr (wr.alloc (.cells #[.int .i64 1, .int .i64 (A : Int), .int .i64 z] 57)) := (Below.refl _ _).alloc (Nat.le_refl _) _
        have hbX := hb.alloc hsz (.cells #[.int .i64 1, .int .i64 (A : Int), .int .i64 z] 57)
        have hoX := hown.alloc (.cells #[.int .i64 1, .int .i64 (A : Int), .int .i64 z] 57)
        have HIX2 := hid (HIX.out _ hbX)
        have hc1 := (hbA.cell (World.block_lt_of_cell? _ _ x1)).trans x1
        have hf1 := hoX.frozenAt (k * 3 + 1)
        have hst := (hoX.stored (k * 3 + 1) (.int .i64 (ixN (usedG n p) A : Int))).1
        rw [hset, ← HL.out] at hst
        have HST := hid hst
        have HBX := hid (hbX.setCell (p := ⟨c, k * 3 + 1, none⟩) hc0 (.int .i64 (ixN (usedG n p) A : Int)))
        clear hm hA hAe hdr hsucc hsame hset hz h2 hbX hoX hst hown hb hci hbA HIX
        go_wp2_with fail
        refine HIX2.out.mono ?_
        rintro e w5 ⟨rfl, rfl⟩
        obtain ⟨I, hI⟩ : ∃ I, (ixN (usedG n p) A : Int) = I := ⟨_, rfl⟩
        rw [hI] at HST HBX
        simp only [hI]
        clear hI HIX2
        go_wp2
        go_roundw
        case rel => exact ⟨k + 1, by omega, by go_num, HST.out, HBX.out⟩
        case measure => simp [intOf]; omega
      · have hdr : drpS (usedG n p) x = x := by unfold drpS; rw [if_neg h2]
        have HL := hid (hsame hdr)
        have c1 : (x.1 == 1) = false := by rw [beq_eq_false_iff_ne]; exact h2
        obtain ⟨κ, hκ⟩ : ∃ κ, x.1 = κ := ⟨_, rfl⟩
        obtain ⟨y, hy⟩ : ∃ y, x.2.1 = y := ⟨_, rfl⟩
        obtain ⟨z, hz⟩ : ∃ z, x.2.2 = z := ⟨_, rfl⟩
        rw [hκ] at x0 c1
        rw [hy] at x1
        rw [hz] at x2
        have HOX := hid (hown.alloc (.cells #[.int .i64 κ, .int .i64 y, .int .i64 z] 57))
        have HBX := hid (hb.alloc hsz (.cells #[.int .i64 κ, .int .i64 y, .int .i64 z] 57))
        clear hdr hsucc hsame hset hz hy hκ h2 hown hb hci
        go_wp2
        go_roundw
        case rel => exact ⟨k + 1, by omega, by go_num, by rw [HL.out]; exact HOX.out, HBX.out⟩
        case measure => simp [intOf]; omega
    · have hkl : k = p.length := by omega
      subst hkl
      rw [mpL_all, ← HDP.out] at hown
      have hdl : (drpP n p).length = p.length := by rw [HDP.out, List.length_map]
      have HO := hid (show StepsAt wr (.slice (some ⟨c, 0, none⟩) p.length cap) (drpP n p) from by
        have h := RowK.of_owns hown (by omega)
        unfold StepsAt
        rw [hdl]
        exact h)
      have HIw := hid (HI.out.below hb)
      have HBw := hid (HB2.out.trans (hb.mono HB2.out.size))
      clear hown hb hdl
      go_wp2
      go_ret3
      exact ⟨_, _, rfl, HO.out, HIw.out, HBw.out⟩
end Go.Proofs.YtmpjaakkjhmpmaaGreatDoor
namespace Go.Proofs.YtmpjaakkjhmpmaaGreatDoor
open Go Go.RowKit Go.Maps
theorem kernel_Moved1 (n cnt : Int) (b : Nat) (X : World) (hc : X.cell? ⟨b, 0, none⟩ = some (.int .i64 cnt)) (h1 : 0 ≤ cnt ∧ cnt ≤ 1000) :
    Calls Tryz.prog 73 #[.int .i64 n, .pointer (some ⟨b, 0, none⟩)] X fun e X' => e = .returned (.bool (!inB n 0 (cnt - 1))) ∧ Below X.heap.size X X' := by
  have HW := hid (kernel_within n 0 (cnt - 1) X)
  have y1 : IntKind.i64.wrap (cnt - 1) = cnt - 1 := IntWalk.i64_in _ (by omega)
  obtain ⟨z, hz⟩ : ∃ z, inB n 0 (cnt - 1) = z := ⟨_, rfl⟩
  rw [hz] at HW ⊢
  clear hz
  go_enter Tryz.func73, Tryz.ntmps73
  go_wp2_with fail
  refine HW.out.mono ?_
  rintro e X1 ⟨rfl, rfl⟩
  cases z
  all_goals
    go_wp2
    go_ret
    exact ⟨rfl, Below.refl _ _⟩
set_option maxHeartbeats 4000000 in
set_option maxRecDepth 100000 in
theorem kernel_Moved_ok (g : Nat) (vp vt : Value) (p : List St) (t : List Nat) (cnt : Nat) (w : World) (hp : StepsAt w vp p) (ht : Ints w vt (natO t)) (hv : proofB g p = true) (hg : g ≤ 60) (hl : t.length = g) (hc : cnt ≤ 60) (hall : ∀ n ∈ t, n < cnt) :
    Calls Tryz.prog 30 #[.int .i64 (g : Int), vp, vt, .int .i64 (cnt : Int)] w fun e w' => ∃ u, e = .returned (.tuple #[u, .int .i64 0]) ∧ StepsAt w' u (p.map (movS7 t)) ∧ Below w.heap.size w w' := by
  have HP := hid hp
  have HT := hid ht
  have h60 := proof60 hv
  have h1 := proof1 hv
  have HSA := hid (fun (k : Nat) (hk : k < p.length) => (st_at hv hk).2)
  have k0 := cell_new1 w (.int .i64 (cnt : Int)) 3
  obtain ⟨W, hW⟩ : ∃ W, w.alloc (.cells #[.int .i64 (cnt : Int)] 3) = W := ⟨_, rfl⟩
  have b0 : Below w.heap.size w W := hW ▸ (Below.refl _ _).alloc (Nat.le_refl _) _
  rw [hW] at k0
  have HV := hid (kernel_ValidProof g vp p W ⟨by omega, by omega⟩ (hp.below b0))
  rw [hv] at HV
  have HB0 := hid b0
  have HW := hid hW
  have HK0 := hid k0
  have hnl := natO_len t
  have HANY : Hid ((List.range t.length).any (fun i => !inB ((natO t).getD i 0) 0 ((cnt : Int) - 1)) = false) := hid (by
    rw [List.any_eq_false]
    intro i hi
    have hil : i < t.length := by simpa using hi
    have e : (natO t).getD i 0 = ((t.getD i 0 : Nat) : Int) := by
      unfold natO
      rw [List.getD_eq_getElem?_getD, List.getElem?_map, List.getD_eq_getElem?_getD, List.getElem?_eq_getElem hil]; rfl
    have hm : t.getD i 0 ∈ t := by rw [List.getD_eq_getElem?_getD, List.getElem?_eq_getElem hil]; exact List.getElem_mem hil
    have := hall _ hm
    rw [e, inB_true.2 (by omega)]; simp)
  have HCF := hid (fun (X : World) (hX : Below W.heap.size W X) => sl_ContainsFunc_ints 73 #[.pointer (some ⟨w.heap.size, 0, none⟩)] (enters_of Tryz.func73 (by kernel_rfl) rfl) vt (natO t).length _ X ((ht.below b0).below hX) (fun i => !inB ((natO t).getD i 0) 0 ((cnt : Int) - 1)) (by
    intro i x Y hx hbY
    have hil : i < (natO t).length := by simpa using (List.getElem?_eq_some_iff.1 hx).1
    obtain rfl : x = .int .i64 ((natO t).getD i 0) := by
      rw [List.getElem?_map, List.getElem?_eq_getElem hil] at hx
      rw [List.getD_eq_getElem?_getD, List.getElem?_eq_getElem hil]
      simpa using hx.symm
    have kX := (hX.cell (World.block_lt_of_cell? _ _ k0)).trans k0
    exact kernel_Moved1 _ _ _ Y ((hbY.cell (World.block_lt_of_cell? _ _ kX)).trans kX) (by omega)))
  rw [hnl, HANY.out] at HCF
  have HAL := hid hall
  obtain ⟨pa, pc, rfl, -⟩ := hp.open
  obtain ⟨ta, tc, rfl, -, -, -, TC⟩ := ht.open
  have TC' := hid TC
  have HTL := hid hl
  rw [hnl, hl] at HCF
  rw [hnl, hl]
  clear hp ht hv hW k0 b0 hall TC hl
  have e60 : ((60 : Int)) = 60 := rfl
  have HWI := hid (fun (X : World) => kernel_within (cnt : Int) 0 60 X)
  rw [inB_true.2 (show (0 : Int) ≤ (cnt : Int) ∧ (cnt : Int) ≤ 60 by omega)] at HWI
  go_enter Tryz.func30, Tryz.ntmps30
  go_wp2_with (rw [HW.out])
  refine HV.out.mono ?_
  rintro e w1 ⟨rfl, hb1⟩
  have kx := (hb1.cell (World.block_lt_of_cell? _ _ HK0.out)).trans HK0.out
  have c1 : ((g : Int) != (g : Int)) = false := by simp
  have HB1 := hid hb1
  have K := hid (HCF.out w1 hb1)
  clear hb1 HV
  go_wp2_with fail
  refine (HWI.out w1).mono ?_
  rintro e w2 ⟨rfl, rfl⟩
  go_wp2_with fail
  refine K.out.mono ?_
  rintro e w3 ⟨rfl, hb3⟩
  have HB3 := hid (HB1.out.trans (hb3.mono HB1.out.size))
  have HB3w := hid (HB0.out.trans (HB3.out.mono HB0.out.size))
  have HCL := hid (sl_Clone_steps (.slice pa p.length pc) p.length (stC p) w3 (HP.out.below HB3w.out) (stC_one p) (by omega))
  clear hb3 K HWI HCF kx HB1
  go_wp2_with fail
  refine HCL.out.mono ?_
  rintro e w4 ⟨u4, rfl, hown4, hb4⟩
  obtain ⟨c, cap, rfl⟩ : ∃ c cap, u4 = .slice (some ⟨c, 0, none⟩) p.length cap := by
    rcases hown4.2 with ⟨rfl, h⟩ | ⟨c, cap, cur, rfl, -⟩
    · omega
    · exact ⟨c, cap, rfl⟩
  have hc0 : w3.heap.size ≤ c := (hown4.lt c rfl).1
  have HO4 := hid hown4
  have HB4 := hid hb4
  clear hown4 hb4 HCL
  go_wp2
  go_loopw [36] (fun kv wr => ∃ k : Nat, k ≤ p.length ∧ kv = .int .i64 k ∧ wr.ownsRow w3.heap.size 57 3 (.slice (some ⟨c, 0, none⟩) p.length cap) p.length (stC (mpL (movS7 t) p k)) ∧ Below w3.heap.size w3 wr) (fun kv _ => p.length - (intOf kv).toNat)
  case atStart => exact ⟨0, by omega, rfl, by rw [mpL_0]; exact HO4.out, HB4.out⟩
  case round =>
    clear HO4 HB4
    obtain ⟨k, hk, rfl, hown, hb⟩ := hrel
    have hsz := hb.size
    by_cases hlt : k < p.length
    · have hml := mpL_len (movS7 t) p k
      obtain ⟨g0, g1, g2⟩ := stC_get (mpL (movS7 t) p k) k (by rw [hml]; exact hlt)
      rw [mpL_at (movS7 t) p hlt (by rw [hml]; exact hlt)] at g0 g1 g2
      have x0 := hown.cellAt (k * 3) (by omega)
      have x1 := hown.cellAt (k * 3 + 1) (by omega)
      have x2 := hown.cellAt (k * 3 + 2) (by omega)
      rw [g0] at x0
      rw [g1] at x1
      rw [g2] at x2
      have hsame := mpL_same (movS7 t) p hlt
      have hsucc := mpL_succ (movS7 t) p hlt
      have hset := fun a => stC_setA (mpL (movS7 t) p k) a k p[k] (mpL_get (movS7 t) p hlt)
      have hsa := HSA.out k hlt
      obtain ⟨x, hxx⟩ : ∃ x, p[k] = x := ⟨_, rfl⟩
      rw [hxx] at x0 x1 x2 hsame hsucc hset hsa
      clear g0 g1 g2 hml hxx
      obtain ⟨L, hL⟩ : ∃ L, mpL (movS7 t) p k = L := ⟨_, rfl⟩
      rw [hL] at hown hsame hsucc hset
      clear hL
      rcases hsa with ⟨h2, h3, h4⟩ | ⟨h2, -⟩
      · have hA : x.2.1 = (nA x : Int) := by unfold nA; omega
        obtain ⟨A, hAe⟩ : ∃ A, nA x = A := ⟨_, rfl⟩
        rw [hAe] at hA
        have hdr : movS7 t x = (x.1, (t.getD A 0 : Int), x.2.2) := by unfold movS7; rw [if_pos h2, hAe, h2]
        rw [hdr] at hsucc
        have HL := hid hsucc
        rw [h2] at x0
        rw [hA] at x1
        obtain ⟨z, hz⟩ : ∃ z, x.2.2 = z := ⟨_, rfl⟩
        rw [hz] at x2
        have hAg : A < g := by omega
        obtain ⟨tb, to, rfl, tcell⟩ := TC'.out A (by rw [natO_len, HTL.out]; exact hAg)
        have e1 : (natO t)[A]'(by rw [natO_len, HTL.out]; exact hAg) = ((t.getD A 0 : Nat) : Int) := by
          unfold natO
          rw [List.getElem_map, List.getD_eq_getElem?_getD, List.getElem?_eq_getElem (by rw [HTL.out]; exact hAg)]; rfl
        rw [e1] at tcell
        obtain ⟨I, hI⟩ : ∃ I : Int, ((t.getD A 0 : Nat) : Int) = I := ⟨_, rfl⟩
        rw [hI] at tcell HL
        have hbA : Below wr.heap.size wr (wr.alloc (.cells #[.int .i64 1, .int .i64 (A : Int), .int .i64 z] 57)) := (Below.refl _ _).alloc (Nat.le_refl _) _
        have hbX := hb.alloc hsz (.cells #[.int .i64 1, .int .i64 (A : Int), .int .i64 z] 57)
        have hoX := hown.alloc (.cells #[.int .i64 1, .int .i64 (A : Int), .int .i64 z] 57)
        have ht3 := (HB3w.out.cell (World.block_lt_of_cell? _ _ tcell)).trans tcell
        have htr := (hbX.cell (World.block_lt_of_cell? _ _ ht3)).trans ht3
        have hc1 := (hbA.cell (World.block_lt_of_cell? _ _ x1)).trans x1
        have hf1 := hoX.frozenAt (k * 3 + 1)
        have hst := (hoX.stored (k * 3 + 1) (.int .i64 I)).1
        rw [hset, ← HL.out] at hst
        have HST := hid hst
        have HBX := hid (hbX.setCell (p := ⟨c, k * 3 + 1, none⟩) hc0 (.int .i64 I))
        clear hA hAe hdr hsucc hsame hset hz h2 h3 h4 hbX hoX hst hown hb hbA hI e1 tcell ht3
        go_wp2
        go_roundw
        case rel => exact ⟨k + 1, by omega, by go_num, HST.out, HBX.out⟩
        case measure => simp [intOf]; omega
      · have hdr : movS7 t x = x := by unfold movS7; rw [if_neg (by omega)]
        have HL := hid (hsame hdr)
        rw [h2] at x0
        obtain ⟨y, hy⟩ : ∃ y, x.2.1 = y := ⟨_, rfl⟩
        obtain ⟨z, hz⟩ : ∃ z, x.2.2 = z := ⟨_, rfl⟩
        rw [hy] at x1
        rw [hz] at x2
        have HOX := hid (hown.alloc (.cells #[.int .i64 2, .int .i64 y, .int .i64 z] 57))
        have HBX := hid (hb.alloc hsz (.cells #[.int .i64 2, .int .i64 y, .int .i64 z] 57))
        clear hdr hsucc hsame hset hz hy h2 hown hb
        go_wp2
        go_roundw
        case rel => exact ⟨k + 1, by omega, by go_num, by rw [HL.out]; exact HOX.out, HBX.out⟩
        case measure => simp [intOf]; omega
    · have hkl : k = p.length := by omega
      subst hkl
      rw [mpL_all] at hown
      have hdl : (p.map (movS7 t)).length = p.length := by rw [List.length_map]
      have HO := hid (show StepsAt wr (.slice (some ⟨c, 0, none⟩) p.length cap) (p.map (movS7 t)) from by
        have h := RowK.of_owns hown (by omega)
        unfold StepsAt
        rw [hdl]
        exact h)
      have HBw := hid (HB3w.out.trans (hb.mono HB3w.out.size))
      clear hown hb hdl
      go_wp2
      go_ret2
      exact ⟨_, rfl, HO.out, HBw.out⟩
end Go.Proofs.YtmpjaakkjhmpmaaGreatDoor
