/-
  WHAT IT HOLDS: contract of merged of package blame. Conditions: the arguments read as data; editions. Printed by wip/gen_mgw.py.
-/
import Derived.Test.YtlbjbmpkaniojaaGreatZRBlameMerges38
namespace Go.Proofs.YtlbjbmpkaniojaaGreat
open Go Go.RowKit Go.Maps
def MrgQ (l1 : List En) (l2 : List Nm) (w : World) (e : Ending) (w' : World) : Prop := ∃ u1 u2, e = .returned (.tuple #[u1, u2]) ∧ EntsAt w' u1 l1 ∧ TxtsAt w' u2 l2 ∧ Below w.heap.size w w'
set_option maxHeartbeats 16000000 in
set_option maxRecDepth 100000 in
theorem blame_merged (v0 v1 v2 : Value) (s : Sg) (base a b : List En) (w : World) (h0 : EntsAt w v0 base) (h1 : EntsAt w v1 a) (h2 : EntsAt w v2 b) (e0 : edB s base = true) (e1 : edB s a = true) (e2 : edB s b = true) :
    Calls Tryz.prog 103 #[v0, v1, v2] w fun e w' => MrgQ (outB base a b (mrgN base a b)) (badM base a b) w e w' := by
  obtain ⟨vs0, h0⟩ := h0
  obtain ⟨vs1, h1⟩ := h1
  obtain ⟨vs2, h2⟩ := h2
  obtain ⟨L0, A0⟩ := edB_iff.1 e0
  obtain ⟨L1, A1⟩ := edB_iff.1 e1
  obtain ⟨L2, A2⟩ := edB_iff.1 e2
  have HK0 := hid (fun n => map_look h0 A0.nd n)
  have HK1 := hid (fun n => map_look h1 A1.nd n)
  have HK2 := hid (fun n => map_look h2 A2.nd n)
  have HO0 := hid (blame_of v0 vs0 base w h0)
  have HO1 := hid (fun (X : World) (hX : Below w.heap.size w X) => blame_of v1 vs1 a X (h1.below hX))
  have HO2 := hid (fun (X : World) (hX : Below w.heap.size w X) => blame_of v2 vs2 b X (h2.below hX))
  have HV := hid (And.intro h0 (And.intro h1 h2))
  obtain ⟨p0, c0, rfl, -⟩ := h0.open5
  obtain ⟨p1, c1, rfl, -⟩ := h1.open5
  obtain ⟨p2, c2, rfl, -⟩ := h2.open5
  have HL := hid (And.intro L0 (And.intro L1 L2))
  have hl0 := L0.len
  have hl1 := L1.len
  have hl2 := L2.len
  clear h0 h1 h2 L0 L1 L2 A0 A1 A2 e0 e1 e2
  go_enter Tryz.func103, Tryz.ntmps103
  go_wp2_with fail
  refine HO0.out.mono ?_
  rintro e wA ⟨rfl, ⟨n0, hM0⟩, hbA⟩
  have HMA := hid hM0
  have HBA := hid hbA
  have HOA := hid (HO1.out wA hbA)
  clear hM0 hbA HO0 HO1
  go_wp2_with fail
  refine HOA.out.mono ?_
  rintro e wB ⟨rfl, ⟨n1, hM1⟩, hbB⟩
  have HMA := hid (HMA.out.belowS hbB)
  have HMB := hid hM1
  have HBB := hid (HBA.out.trans (hbB.mono HBA.out.size))
  have HOB := hid (HO2.out wB HBB.out)
  clear hM1 hbB HOA HO2
  go_wp2_with fail
  refine HOB.out.mono ?_
  rintro e wC ⟨rfl, ⟨n2, hM2⟩, hbC⟩
  have HMA := hid (HMA.out.belowS hbC)
  have HMB := hid (HMB.out.belowS hbC)
  have HMC := hid hM2
  have HBC := hid (HBB.out.trans (hbC.mono HBB.out.size))
  clear hM2 hbC HOB
  obtain ⟨X, hX⟩ : ∃ X, wC.alloc (.cells #[.slice p0 base.length c0, .slice p1 a.length c1, .slice p2 b.length c2] 24) = X := ⟨_, rfl⟩
  have hbX : Below wC.heap.size wC X := hX ▸ (Below.refl _ _).alloc (Nat.le_refl _) _
  have HBX := hid (HBC.out.trans (hbX.mono HBC.out.size))
  have hrow : RowK X (.slice (some ⟨wC.heap.size, 0, none⟩) 3 3) 1 3 [.slice p0 base.length c0, .slice p1 a.length c1, .slice p2 b.length c2] := hX ▸ row_three wC _ _ _ _
  have hxs : ∀ x ∈ ([(.slice p0 base.length c0, vs0, base), (.slice p1 a.length c1, vs1, a), (.slice p2 b.length c2, vs2, b)] : ELs), EntsV X x.1 x.2.1 x.2.2 := fun x hx => by
    simp only [List.mem_cons, List.not_mem_nil, or_false] at hx
    rcases hx with rfl | rfl | rfl
    · exact HV.out.1.below HBX.out
    · exact HV.out.2.1.below HBX.out
    · exact HV.out.2.2.below HBX.out
  obtain ⟨xs, hxs0⟩ : ∃ xs, ([(.slice p0 base.length c0, vs0, base), (.slice p1 a.length c1, vs1, a), (.slice p2 b.length c2, vs2, b)] : ELs) = xs := ⟨_, rfl⟩
  have hrow2 : RowK X (.slice (some ⟨wC.heap.size, 0, none⟩) 3 3) 1 xs.length (xs.map Prod.fst) := by rw [← hxs0]; exact hrow
  have hflE : flE xs = (base ++ a) ++ b := by rw [← hxs0]; simp [flE]
  have hfl : (flE xs).length = base.length + a.length + b.length := by rw [hflE, List.length_append, List.length_append]
  rw [hxs0] at hxs
  have HCT := hid (sl_ConcatE _ xs X hrow2 hxs (by omega))
  have HXS := hid hxs
  have HFE := hid hflE
  have HFL := hid hfl
  have HFV := hid (fl_len (xs := xs) fun x hx => (hxs x hx).2.1)
  have HMA := hid (HMA.out.belowS hbX)
  have HMB := hid (HMB.out.belowS hbX)
  have HMC := hid (HMC.out.belowS hbX)
  have HX := hid hX
  clear hX hbX hrow hrow2 hxs hxs0 hflE hfl
  go_wp2_with fail
  rw [HX.out]
  refine HCT.out.mono ?_
  rintro e wD ⟨u, rfl, hown, hbD⟩
  have hEV : EntsV wD u (flV xs) (flE xs) := ⟨RowK.of_owns hown (by have := HFL.out; omega), HFV.out, fun j h1 h2 => (cat_ents HXS.out j h1 h2).below hbD⟩
  have HMA := hid (HMA.out.belowS hbD)
  have HMB := hid (HMB.out.belowS hbD)
  have HMC := hid (HMC.out.belowS hbD)
  have HBD := hid (HBX.out.trans (hbD.mono HBX.out.size))
  have HEV := hid hEV
  have hLlen : (flE xs).length ≤ 180 := by have := HFL.out; omega
  obtain ⟨L, hL⟩ : ∃ L, flE xs = L := ⟨_, rfl⟩
  rw [hL] at HEV hLlen HFE
  obtain ⟨ua, uc, rfl, -, -, ZL⟩ := HEV.out.open5
  have HZL := hid ZL
  have h00 := hid (World.ownsRow_nil wD wD.heap.size 9 1)
  have HSZ := hid (fun (j : Nat) (hj : j < L.length) => (show L[j].name.size ≤ 140737488355328 from by
    obtain ⟨_, _, _, _, _, _, _, _, -, -, -, -, -, -, -, he⟩ := HZL.out j hj
    exact he.n1))
  clear hown hbD hEV hL ZL HCT HXS HFV HX
  go_wp2
  go_loopw [12, 33] (fun un kv wr => ∃ k : Nat, k ≤ L.length ∧ kv = .int .i64 k ∧ wr.ownsRow wD.heap.size 9 1 un k (((L.take k).map En.name).map Value.string) ∧ Below wD.heap.size wD wr) (fun _ kv _ => L.length - (intOf kv).toNat)
  case atStart => exact ⟨0, by omega, rfl, by simpa using h00.out, Below.refl _ _⟩
  case round =>
    clear h00
    obtain ⟨k, hk, rfl, hown, hb⟩ := hrel
    have hsz := hb.size
    obtain ⟨na, nc, rfl⟩ := owns_slice hown
    by_cases hlt : k < L.length
    · obtain ⟨bb, oo, a1, k1, a2, k2, a3, k3, rfl, -, z0, z1, z2, z3, z4, he⟩ := HZL.out k hlt
      have x0 := celB z0 hb
      have x1 := celB z1 hb
      have x2 := celB z2 hb
      have x3 := celB z3 hb
      have x4 := celB z4 hb
      have HTK := hid (show ((L.take (k + 1)).map En.name).map Value.string = ((L.take k).map En.name).map Value.string ++ [.string L[k].name] from by rw [List.take_succ_eq_append_getElem hlt, List.map_append, List.map_append]; rfl)
      obtain ⟨x, hx⟩ : ∃ x, L[k] = x := ⟨_, rfl⟩
      rw [hx] at x0 x1 x2 x3 x4 HTK
      obtain ⟨NS, hNS⟩ : ∃ NS, ((L.take k).map En.name).map Value.string = NS := ⟨_, rfl⟩
      rw [hNS] at HTK hown
      have hBX := BX.new wr [.string x.name, .string x.who, .slice a1 x.says.length k1, .slice a2 x.uses.length k2, .slice a3 x.proof.length k3] 41
      obtain ⟨W, hW⟩ : ∃ W, wr.alloc (.cells #[.string x.name, .string x.who, .slice a1 x.says.length k1, .slice a2 x.uses.length k2, .slice a3 x.proof.length k3] 41) = W := ⟨_, rfl⟩
      have hW' : wr.alloc (.cells ([.string x.name, .string x.who, .slice a1 x.says.length k1, .slice a2 x.uses.length k2, .slice a3 x.proof.length k3] : List Value).toArray 41) = W := hW
      rw [hW'] at hBX
      have hbW : Below wr.heap.size wr W := hW ▸ (Below.refl _ _).alloc (Nat.le_refl _) _
      have y0 : W.cell? ⟨wr.heap.size, 0, none⟩ = some (.string x.name) := hBX.c 0 (by simp)
      have hRA := (owns_below hown hbW).alloc (.cells #[.string x.name] 9)
      have HBL := hid (show Below W.heap.size W (W.alloc (.cells #[.string x.name] 9)) from (Below.refl _ _).alloc (Nat.le_refl _) _)
      have HBW := hid (hb.trans (hbW.mono hsz))
      have HHW := hid hW
      have HOWN := hid hown
      have hzW : wD.heap.size ≤ W.heap.size := Nat.le_trans hsz hbW.size
      clear z0 z1 z2 z3 z4 he hx hNS hBX hW hW' hbW hown hb
      go_wp2_with (first | rw [HHW.out] | (at_builtin; refine wpList_append_lie rfl _ _ 38 rfl wD.heap.size 9 el_str Tryz.underlying38 rfl (by decide) _ k NS rfl hRA _ 1 [.string x.name] rfl (row_one_new _ _ _) (oneCell_one rfl) (by omega) (by omega) (by omega) (by simp; omega) _ rfl ?_; intro g8 cap8 w8 hown8 hgrow8 hat8 hlt8))
      go_roundw
      case rel =>
        refine ⟨k + 1, by omega, by go_num, by rw [HTK.out]; exact hown8, (HBW.out.trans (HBL.out.mono HBW.out.size)).grown hgrow8 (Nat.le_trans HBW.out.size HBL.out.size) (fun q hq => (HOWN.out.lt q hq).1)⟩
      case measure => simp [intOf]; omega
    · have hkl : k = L.length := by omega
      subst hkl
      rw [List.take_of_length_le (Nat.le_refl _)] at hown
      obtain ⟨NM, hNM⟩ : ∃ NM, L.map En.name = NM := ⟨_, rfl⟩
      have hnl : NM.length = L.length := by rw [← hNM]; simp
      rw [hNM, ← hnl] at hown
      have hMN : srtN NM = mrgN base a b := by rw [← hNM, HFE.out]; rfl
      have HNMS := hid (show ∀ x ∈ NM, x.size ≤ 140737488355328 from fun x hx => by
        rw [← hNM] at hx
        obtain ⟨y, hy, rfl⟩ := List.mem_map.1 hx
        obtain ⟨j, hj, rfl⟩ := List.getElem_of_mem hy
        exact HSZ.out j hj)
      have HSO := hid (sl_SortN wD.heap.size _ NM wr hown (by omega))
      have HOWN := hid hown
      have HLT := hid hown.lt
      have HMN := hid hMN
      have HBR := hid hb
      rw [← hnl]
      have hlA := HMA.out.lt
      have hlB := HMB.out.lt
      have hlC := HMC.out.lt
      have hmnl : (mrgN base a b).length ≤ 200 := by
        rw [← hMN]
        have := srtN_len NM
        omega
      have hnb : NM.length ≤ 200 := by omega
      clear hown hNM hb HSZ HZL HEV HFE HFL hnl
      go_wp2_with fail
      refine HSO.out.mono ?_
      rintro e wE ⟨rfl, hownE, hkE⟩
      obtain ⟨hpm, hsd⟩ := srtS_facts NM
      have hslen : (srtS NM).length = NM.length := hpm.length_eq
      rw [← hslen] at hownE
      have HCP := hid (sl_CompactN wD.heap.size _ (srtS NM) wE hownE (by omega))
      rw [cp_srt hpm hsd, HMN.out, hslen] at HCP
      have hbE : Below wD.heap.size wD wE := HBR.out.trans (hkE.below HBR.out.size (fun k h => (HLT.out k h).1))
      have HBE := hid hbE
      have HLE := hid hownE.lt
      obtain ⟨M, hM⟩ : ∃ M, mrgN base a b = M := ⟨_, rfl⟩
      have HNM2 := hid (show ∀ x ∈ M, x.size ≤ 140737488355328 from fun x hx => HNMS.out x ((srtN_asc NM).2 x |>.1 (by rw [HMN.out, hM]; exact hx)))
      rw [hM] at HCP hmnl
      have HMM := hid hM
      rw [hslen] at HLE
      clear hownE hkE hpm hsd hslen hbE hM HNMS HMN HSO HOWN HLT HBR
      go_wp2_with fail
      refine HCP.out.mono ?_
      rintro e wF ⟨u2, rfl, hownF, hkF⟩
      have hbF : Below wD.heap.size wD wF := HBE.out.trans (hkF.below HBE.out.size (fun k h => (HLE.out k h).1))
      obtain ⟨ma, mc, rfl⟩ := owns_slice hownF
      have HBWF := hid (HBD.out.trans (hbF.mono HBD.out.size))
      have HMA := hid (fun (X : World) (hX : Below wF.heap.size wF X) => (HMA.out.belowS hbF).belowS hX)
      have HMB := hid (fun (X : World) (hX : Below wF.heap.size wF X) => (HMB.out.belowS hbF).belowS hX)
      have HMC := hid (fun (X : World) (hX : Below wF.heap.size wF X) => (HMC.out.belowS hbF).belowS hX)
      have HMR := hid hownF
      have h00 := hid (EnW.nil wF wF.heap.size)
      have h01 := hid (World.ownsRow_nil wF wF.heap.size 9 1)
      clear hownF hkF hbF HCP HLE HBE HBD hlA hlB hlC
      go_wp2
      go_loopw [6, 7, 48] (fun ul uc kv wr => ∃ (k m nb : Nat) (O : List En) (vso : List V3) (Bd : List Nm), k ≤ M.length ∧ kv = .int .i64 k ∧ O = outB base a b (M.take k) ∧ O.length = m ∧ m ≤ k ∧ Bd = (M.take k).filter (bdN base a b) ∧ Bd.length = nb ∧ nb ≤ k ∧ EnW wr wF.heap.size ul vso O ∧ AvB uc.ownBlock ul vso ∧ wr.ownsRow wF.heap.size 9 1 uc nb (Bd.map Value.string) ∧ Below wF.heap.size wF wr) (fun _ _ kv _ => M.length - (intOf kv).toNat)
      case atStart => exact ⟨0, 0, 0, [], [], [], by omega, rfl, rfl, rfl, by omega, rfl, rfl, by omega, h00.out, AvB.nil _, h01.out, Below.refl _ _⟩
      case round =>
        clear h00 h01
        obtain ⟨k, m, nb, O, vso, Bd, hk, rfl, hO, hOl, hmk, hBd, hBl, hnk, hE, hav, hbd, hb⟩ := hrel
        have hszr := hb.size
        obtain ⟨ul, hul⟩ : ∃ ul : Value, ul = u6 := ⟨_, rfl⟩
        obtain ⟨uc, huc⟩ : ∃ uc : Value, uc = u7 := ⟨_, rfl⟩
        subst hul huc
        have HOWN := hid hE
        have HAV := hid hav
        have HBDW := hid hbd
        have HBFR := hid hb
        have HOL := hid hOl
        have HBL := hid hBl
        by_cases hlt : k < M.length
        · have hrow := owns_below HMR.out hb
          obtain ⟨g0, cap0, he0, -, -⟩ := owns_some hrow (by omega)
          cases he0
          have cn := hrow.cellAt k (by omega)
          rw [List.getElem?_map, List.getElem?_eq_getElem hlt] at cn
          simp only [Option.map_some] at cn
          have HOT := hid (outB_take (base := base) (a := a) (b := b) hlt)
          have HBT := hid (bad_take (base := base) (a := a) (b := b) hlt)
          rw [← hO] at HOT
          rw [← hBd] at HBT
          have hnsz := HNM2.out _ (List.getElem_mem hlt)
          obtain ⟨n, hn⟩ : ∃ n, M[k] = n := ⟨_, rfl⟩
          rw [hn] at cn HOT HBT hnsz
          have HNK := hid (str_key hnsz)
          obtain ⟨xp1, xk1, xp2, xk2, xp3, xk3, hLX, heX⟩ := HK0.out n
          obtain ⟨yp1, yk1, yp2, yk2, yp3, yk3, hLY, heY⟩ := HK1.out n
          obtain ⟨zp1, zk1, zp2, zk2, zp3, zk3, hLZ, heZ⟩ := HK2.out n
          have hSMY : (lkE a n).name ≠ em → EnSm (lkE a n) := fun h => by
            rcases lkE_cases a n with ⟨g, -⟩ | ⟨g, -⟩
            · exact ent_sm (entryB_iff.2 (HL.out.2.1.ents _ g))
            · rw [g] at h; exact absurd rfl h
          have hSMZ : (lkE b n).name ≠ em → EnSm (lkE b n) := fun h => by
            rcases lkE_cases b n with ⟨g, -⟩ | ⟨g, -⟩
            · exact ent_sm (entryB_iff.2 (HL.out.2.2.ents _ g))
            · rw [g] at h; exact absurd rfl h
          have hPK : pkN base a b n = pkE (lkE base n) (lkE a n) (lkE b n) := rfl
          have hPC : bdN base a b n = pkC (lkE base n) (lkE a n) (lkE b n) := rfl
          have HKN := hid (show keepN base a b n = !decide ((pkN base a b n).name = em) from rfl)
          obtain ⟨x, hx⟩ : ∃ x, lkE base n = x := ⟨_, rfl⟩
          obtain ⟨y, hy⟩ : ∃ y, lkE a n = y := ⟨_, rfl⟩
          obtain ⟨z, hz⟩ : ∃ z, lkE b n = z := ⟨_, rfl⟩
          rw [hx] at hLX heX hPK hPC
          rw [hy] at hLY heY hPK hPC hSMY
          rw [hz] at hLZ heZ hPK hPC hSMZ
          have HLX := hid hLX
          have HLY := hid hLY
          have HLZ := hid hLZ
          have HEX := hid heX
          have HEY := hid heY
          have HEZ := hid heZ
          have HSMY := hid hSMY
          have HSMZ := hid hSMZ
          have HPK := hid hPK
          have HPC0 := hid hPC
          have hBX := BX.new wr [.string z.name, .string z.who, .slice zp1 z.says.length zk1, .slice zp2 z.uses.length zk2, .slice zp3 z.proof.length zk3] 41
          obtain ⟨W, hW⟩ : ∃ W, wr.alloc (.cells #[.string z.name, .string z.who, .slice zp1 z.says.length zk1, .slice zp2 z.uses.length zk2, .slice zp3 z.proof.length zk3] 41) = W := ⟨_, rfl⟩
          have hW' : wr.alloc (.cells ([.string z.name, .string z.who, .slice zp1 z.says.length zk1, .slice zp2 z.uses.length zk2, .slice zp3 z.proof.length zk3] : List Value).toArray 41) = W := hW
          rw [hW'] at hBX
          have hbW : Below wr.heap.size wr W := hW ▸ (Below.refl _ _).alloc (Nat.le_refl _) _
          have HBXW := hid hBX
          have HBRW := hid hbW
          have HWW := hid hW
          have HFW := hid (hb.trans (hbW.mono hszr))
          have HGW := hid (HBWF.out.trans (HFW.out.mono HBWF.out.size))
          have HS1 := hid (blame_Same _ _ _ _ _ _ y z W (heY.below HGW.out) (heZ.below HGW.out))
          have hFR := HBFR.out
          have hFW := HFW.out
          clear hrow hn hnsz hx hy hz hLX hLY hLZ heX heY heZ hSMY hSMZ hPK hPC hBX hW hW' hbW hO hOl hBd hBl hE hav hbd hb
          obtain ⟨b1, hb1⟩ : ∃ b1, decide (y = z) = b1 := ⟨_, rfl⟩
          rw [hb1] at HS1
          have HB1 := hid hb1
          clear hb1
          go_wp2_with (first | rw [HWW.out] | (at_lookup; refine wpList_lookup_mapK rfl _ _ 155 false rfl (string_keyed Tryz.underlying9) ek_string_inj Tryz.underlying155 (zero_entE _) rfl (HMC.out wr hFR) n rfl HNK.out (.agg #[.string z.name, .string z.who, .slice zp1 z.says.length zk1, .slice zp2 z.uses.length zk2, .slice zp3 z.proof.length zk3]) HLZ.out ?_) | (at_lookup; refine wpList_lookup_mapK rfl _ _ 155 false rfl (string_keyed Tryz.underlying9) ek_string_inj Tryz.underlying155 (zero_entE _) rfl (HMB.out W hFW) n rfl HNK.out (.agg #[.string y.name, .string y.who, .slice yp1 y.says.length yk1, .slice yp2 y.uses.length yk2, .slice yp3 y.proof.length yk3]) HLY.out ?_) | (at_lookup; refine wpList_lookup_mapK rfl _ _ 155 false rfl (string_keyed Tryz.underlying9) ek_string_inj Tryz.underlying155 (zero_entE _) rfl (HMC.out W hFW) n rfl HNK.out (.agg #[.string z.name, .string z.who, .slice zp1 z.says.length zk1, .slice zp2 z.uses.length zk2, .slice zp3 z.proof.length zk3]) HLZ.out ?_))
          refine HS1.out.mono ?_
          rintro e w5 ⟨rfl, hb5⟩
          have HR5 := hid (HBRW.out.trans (hb5.mono HBRW.out.size))
          have HX5 := hid (HBXW.out.below (by simp) hb5)
          clear hFR hFW hb5
          cases b1
          case true =>
            have HPC : Hid (bdN base a b n = false) := hid (by rw [HPC0.out]; unfold pkC; rw [HB1.out]; rfl)
            have HPV : Hid (pkN base a b n = z) := hid (by rw [HPK.out]; unfold pkE; rw [if_pos (of_decide_eq_true HB1.out)]; exact of_decide_eq_true HB1.out)
            have HBQ := HR5
            have HBXQ := HX5
            have hbq := HBQ.out
            have HBWQ := hid (HBFR.out.trans (hbq.mono hszr))
            have q0 : w5.cell? ⟨wr.heap.size, 0, none⟩ = some (.string z.name) := HBXQ.out.c 0 (by simp)
            have q1 : w5.cell? ⟨wr.heap.size, 1, none⟩ = some (.string z.who) := HBXQ.out.c 1 (by simp)
            have q2 : w5.cell? ⟨wr.heap.size, 2, none⟩ = some (.slice zp1 z.says.length zk1) := HBXQ.out.c 2 (by simp)
            have q3 : w5.cell? ⟨wr.heap.size, 3, none⟩ = some (.slice zp2 z.uses.length zk2) := HBXQ.out.c 3 (by simp)
            have q4 : w5.cell? ⟨wr.heap.size, 4, none⟩ = some (.slice zp3 z.proof.length zk3) := HBXQ.out.c 4 (by simp)
            have HOK := hid (HOWN.out.below hbq)
            have HBDQ := hid (owns_below HBDW.out hbq)
            by_cases hem : z.name = em
            case pos =>
              obtain ⟨t1, t2, t3⟩ := str_em hem
              have t4 : (z.name.toList != []) = false := by rw [t2]; rfl
              have HST1 : Hid (outB base a b (M.take (k + 1)) = O ∧ (M.take (k + 1)).filter (bdN base a b) = Bd) := hid (by
                rw [HOT.out, HBT.out, HPC.out, HKN.out, HPV.out]; simp [hem])
              clear hem hbq
              go_wp2
              go_roundw
              case rel => exact ⟨k + 1, m, nb, O, vso, Bd, by omega, by go_num, HST1.out.1.symm, HOL.out, by omega, HST1.out.2.symm, HBL.out, by omega, HOK.out, HAV.out, HBDQ.out, HBWQ.out⟩
              case measure => simp [intOf]; omega
            case neg =>
              obtain ⟨t1, t2, t3⟩ := str_ne hem
              have t4 : (z.name.toList != []) = true := by simpa using t2
              have HST1 : Hid (outB base a b (M.take (k + 1)) = O ++ [z] ∧ (M.take (k + 1)).filter (bdN base a b) = Bd) := hid (by
                rw [HOT.out, HBT.out, HPC.out, HKN.out, HPV.out]; simp [hem])
              have hsm := HSMZ.out hem
              have HCP := hid (blame_copied (.slice zp1 z.says.length zk1) (.slice zp2 z.uses.length zk2) (.slice zp3 z.proof.length zk3) z w5 (HEZ.out.below (HBWF.out.trans (HBWQ.out.mono HBWF.out.size))) hsm.1 hsm.2.1 hsm.2.2.1 hsm.2.2.2)
              have HE := HOK
              have HB := HBWQ
              have HLEN := HOL
              obtain ⟨la, lc, rfl⟩ : ∃ a c, ul = .slice a m c := HOL.out ▸ HOK.out.slice
              clear hem hbq
              go_wp2_with fail
              refine HCP.out.mono ?_; rintro e w9 ⟨v, rfl, ⟨vS, vU, vP, rfl, hO⟩, hb2⟩; obtain ⟨a1, k1, rfl⟩ := owns_slice hO.s; obtain ⟨a2, k2, rfl⟩ := owns_slice hO.u; obtain ⟨a3, k3, rfl⟩ := owns_slice hO.p; have HE2 := hid (HE.out.below hb2); have HBR2 := hid hb2; have HO2 := hid hO; have HB2 := hid (HB.out.trans (hb2.mono HB.out.size)); have HU := hid HE.out.top.lt; have hown2 := HE2.out.top; rw [HLEN.out] at hown2; have hownA := hown2.alloc (.cells #[.string z.name, .string z.who, .slice a1 z.says.length k1, .slice a2 z.uses.length k2, .slice a3 z.proof.length k3] 41); have HROW := hid (row_one_ent w9 (.string z.name) (.string z.who) (.slice a1 z.says.length k1) (.slice a2 z.uses.length k2) (.slice a3 z.proof.length k3) 41); have hwz := HB2.out.size; clear hO hb2 hown2
              go_wp2_with (at_builtin; go_loud (refine wpList_append_lie rfl _ _ 24 rfl wF.heap.size 41 el_ent Tryz.underlying24 rfl (by decide) _ (m) (ensC O vso) rfl hownA _ 1 (enC z (.slice a1 z.says.length k1, .slice a2 z.uses.length k2, .slice a3 z.proof.length k3)) rfl HROW.out (enC_one _ _ _ _ _ _ _ _ _ _) (by omega) (by omega) (by omega) (by simp; omega) _ rfl ?_; intro g cap w4 hown4 hgrow4 hat4 hlt4; have hB4 := (HB2.out.alloc HB2.out.size (.cells #[.string z.name, .string z.who, .slice a1 z.says.length k1, .slice a2 z.uses.length k2, .slice a3 z.proof.length k3] 41)).grown hgrow4 (by simp; omega) (fun q hq => (HU.out q hq).1)))
              go_roundw
              case rel =>
                have hba : Below w9.heap.size w9 (w9.alloc (.cells #[.string z.name, .string z.who, .slice a1 z.says.length k1, .slice a2 z.uses.length k2, .slice a3 z.proof.length k3] 41)) := (Below.refl _ _).alloc (Nat.le_refl _) _; have hE4 := HE.out.push (w1 := w9.alloc _) (HBR2.out.trans (hba.mono HBR2.out.size)) (HO2.out.blocks (Nat.le_refl _) fun q _ hq => hba.block q hq) HB.out.size HLEN.out.symm hown4 hgrow4
                have hxq : ∀ q, uc.ownBlock = some q → q < w5.heap.size := fun q hq => (HBDQ.out.lt q hq).2
                have hw9 := HBR2.out.size
                have hav4 := HAV.out.push (g := g) (n := m + 1) (c := cap) (v := (.slice a1 z.says.length k1, .slice a2 z.uses.length k2, .slice a3 z.proof.length k3)) hat4 hxq (by simp; omega) (fun q hq => (by
                  rcases hq with hq | hq | hq
                  · exact (HO2.out.s.lt q hq).1
                  · exact (HO2.out.u.lt q hq).1
                  · exact (HO2.out.p.lt q hq).1))
                have hbd4 : w4.ownsRow wF.heap.size 9 1 uc nb (Bd.map Value.string) := owns_blocks (owns_below HBDQ.out (HBR2.out.trans ((show Below w9.heap.size w9 (w9.alloc (.cells #[.string z.name, .string z.who, .slice a1 z.says.length k1, .slice a2 z.uses.length k2, .slice a3 z.proof.length k3] 41)) from (Below.refl _ _).alloc (Nat.le_refl _) _).mono HBR2.out.size))) fun q _ h2 h3 => hgrow4.block q h2 (fun e => HAV.out.1 q e.symm h3.symm)
                exact ⟨k + 1, m + 1, nb, O ++ [z], vso ++ [(.slice a1 z.says.length k1, .slice a2 z.uses.length k2, .slice a3 z.proof.length k3)], Bd, by omega, by go_num, HST1.out.1.symm, by simp [HOL.out], by omega, HST1.out.2.symm, HBL.out, by omega, hE4, hav4, hbd4, hB4⟩
              case measure => simp [intOf]; omega
          case false =>
            have hF5 := HBFR.out.trans (HR5.out.mono hszr)
            have HF5 := hid hF5
            have HG5 := hid (HBWF.out.trans (hF5.mono HBWF.out.size))
            have HS2 := hid (blame_Same _ _ _ _ _ _ y x w5 (HEY.out.below HG5.out) (HEX.out.below HG5.out))
            obtain ⟨b2, hb2⟩ : ∃ b2, decide (y = x) = b2 := ⟨_, rfl⟩
            rw [hb2] at HS2
            have HB2 := hid hb2
            clear hb2
            go_wp2_with (first | (at_lookup; refine wpList_lookup_mapK rfl _ _ 155 false rfl (string_keyed Tryz.underlying9) ek_string_inj Tryz.underlying155 (zero_entE _) rfl (HMB.out w5 hF5) n rfl HNK.out (.agg #[.string y.name, .string y.who, .slice yp1 y.says.length yk1, .slice yp2 y.uses.length yk2, .slice yp3 y.proof.length yk3]) HLY.out ?_) | (at_lookup; refine wpList_lookup_mapK rfl _ _ 155 false rfl (string_keyed Tryz.underlying9) ek_string_inj Tryz.underlying155 (zero_entE _) rfl (HMA.out w5 hF5) n rfl HNK.out (.agg #[.string x.name, .string x.who, .slice xp1 x.says.length xk1, .slice xp2 x.uses.length xk2, .slice xp3 x.proof.length xk3]) HLX.out ?_))
            refine HS2.out.mono ?_
            rintro e w6 ⟨rfl, hb6⟩
            have HR6 := hid (HR5.out.trans (hb6.mono HR5.out.size))
            have HX6 := hid (HX5.out.below (by simp) hb6)
            clear hF5 hb6
            cases b2
            case true =>
              have hyz : ¬ y = z := of_decide_eq_false HB1.out
              have hxy : x = y := (of_decide_eq_true HB2.out).symm
              have HPC : Hid (bdN base a b n = false) := hid (by rw [HPC0.out]; unfold pkC; simp [hxy])
              have HPV : Hid (pkN base a b n = z) := hid (by rw [HPK.out]; unfold pkE; rw [if_neg hyz, if_pos hxy])
              have HBQ := HR6
              have HBXQ := HX6
              clear hyz hxy
              have hbq := HBQ.out
              have HBWQ := hid (HBFR.out.trans (hbq.mono hszr))
              have q0 : w6.cell? ⟨wr.heap.size, 0, none⟩ = some (.string z.name) := HBXQ.out.c 0 (by simp)
              have q1 : w6.cell? ⟨wr.heap.size, 1, none⟩ = some (.string z.who) := HBXQ.out.c 1 (by simp)
              have q2 : w6.cell? ⟨wr.heap.size, 2, none⟩ = some (.slice zp1 z.says.length zk1) := HBXQ.out.c 2 (by simp)
              have q3 : w6.cell? ⟨wr.heap.size, 3, none⟩ = some (.slice zp2 z.uses.length zk2) := HBXQ.out.c 3 (by simp)
              have q4 : w6.cell? ⟨wr.heap.size, 4, none⟩ = some (.slice zp3 z.proof.length zk3) := HBXQ.out.c 4 (by simp)
              have HOK := hid (HOWN.out.below hbq)
              have HBDQ := hid (owns_below HBDW.out hbq)
              by_cases hem : z.name = em
              case pos =>
                obtain ⟨t1, t2, t3⟩ := str_em hem
                have t4 : (z.name.toList != []) = false := by rw [t2]; rfl
                have HST1 : Hid (outB base a b (M.take (k + 1)) = O ∧ (M.take (k + 1)).filter (bdN base a b) = Bd) := hid (by
                  rw [HOT.out, HBT.out, HPC.out, HKN.out, HPV.out]; simp [hem])
                clear hem hbq
                go_wp2
                go_roundw
                case rel => exact ⟨k + 1, m, nb, O, vso, Bd, by omega, by go_num, HST1.out.1.symm, HOL.out, by omega, HST1.out.2.symm, HBL.out, by omega, HOK.out, HAV.out, HBDQ.out, HBWQ.out⟩
                case measure => simp [intOf]; omega
              case neg =>
                obtain ⟨t1, t2, t3⟩ := str_ne hem
                have t4 : (z.name.toList != []) = true := by simpa using t2
                have HST1 : Hid (outB base a b (M.take (k + 1)) = O ++ [z] ∧ (M.take (k + 1)).filter (bdN base a b) = Bd) := hid (by
                  rw [HOT.out, HBT.out, HPC.out, HKN.out, HPV.out]; simp [hem])
                have hsm := HSMZ.out hem
                have HCP := hid (blame_copied (.slice zp1 z.says.length zk1) (.slice zp2 z.uses.length zk2) (.slice zp3 z.proof.length zk3) z w6 (HEZ.out.below (HBWF.out.trans (HBWQ.out.mono HBWF.out.size))) hsm.1 hsm.2.1 hsm.2.2.1 hsm.2.2.2)
                have HE := HOK
                have HB := HBWQ
                have HLEN := HOL
                obtain ⟨la, lc, rfl⟩ : ∃ a c, ul = .slice a m c := HOL.out ▸ HOK.out.slice
                clear hem hbq
                go_wp2_with fail
                refine HCP.out.mono ?_; rintro e w9 ⟨v, rfl, ⟨vS, vU, vP, rfl, hO⟩, hb2⟩; obtain ⟨a1, k1, rfl⟩ := owns_slice hO.s; obtain ⟨a2, k2, rfl⟩ := owns_slice hO.u; obtain ⟨a3, k3, rfl⟩ := owns_slice hO.p; have HE2 := hid (HE.out.below hb2); have HBR2 := hid hb2; have HO2 := hid hO; have HB2 := hid (HB.out.trans (hb2.mono HB.out.size)); have HU := hid HE.out.top.lt; have hown2 := HE2.out.top; rw [HLEN.out] at hown2; have hownA := hown2.alloc (.cells #[.string z.name, .string z.who, .slice a1 z.says.length k1, .slice a2 z.uses.length k2, .slice a3 z.proof.length k3] 41); have HROW := hid (row_one_ent w9 (.string z.name) (.string z.who) (.slice a1 z.says.length k1) (.slice a2 z.uses.length k2) (.slice a3 z.proof.length k3) 41); have hwz := HB2.out.size; clear hO hb2 hown2
                go_wp2_with (at_builtin; go_loud (refine wpList_append_lie rfl _ _ 24 rfl wF.heap.size 41 el_ent Tryz.underlying24 rfl (by decide) _ (m) (ensC O vso) rfl hownA _ 1 (enC z (.slice a1 z.says.length k1, .slice a2 z.uses.length k2, .slice a3 z.proof.length k3)) rfl HROW.out (enC_one _ _ _ _ _ _ _ _ _ _) (by omega) (by omega) (by omega) (by simp; omega) _ rfl ?_; intro g cap w4 hown4 hgrow4 hat4 hlt4; have hB4 := (HB2.out.alloc HB2.out.size (.cells #[.string z.name, .string z.who, .slice a1 z.says.length k1, .slice a2 z.uses.length k2, .slice a3 z.proof.length k3] 41)).grown hgrow4 (by simp; omega) (fun q hq => (HU.out q hq).1)))
                go_roundw
                case rel =>
                  have hba : Below w9.heap.size w9 (w9.alloc (.cells #[.string z.name, .string z.who, .slice a1 z.says.length k1, .slice a2 z.uses.length k2, .slice a3 z.proof.length k3] 41)) := (Below.refl _ _).alloc (Nat.le_refl _) _; have hE4 := HE.out.push (w1 := w9.alloc _) (HBR2.out.trans (hba.mono HBR2.out.size)) (HO2.out.blocks (Nat.le_refl _) fun q _ hq => hba.block q hq) HB.out.size HLEN.out.symm hown4 hgrow4
                  have hxq : ∀ q, uc.ownBlock = some q → q < w6.heap.size := fun q hq => (HBDQ.out.lt q hq).2
                  have hw9 := HBR2.out.size
                  have hav4 := HAV.out.push (g := g) (n := m + 1) (c := cap) (v := (.slice a1 z.says.length k1, .slice a2 z.uses.length k2, .slice a3 z.proof.length k3)) hat4 hxq (by simp; omega) (fun q hq => (by
                    rcases hq with hq | hq | hq
                    · exact (HO2.out.s.lt q hq).1
                    · exact (HO2.out.u.lt q hq).1
                    · exact (HO2.out.p.lt q hq).1))
                  have hbd4 : w4.ownsRow wF.heap.size 9 1 uc nb (Bd.map Value.string) := owns_blocks (owns_below HBDQ.out (HBR2.out.trans ((show Below w9.heap.size w9 (w9.alloc (.cells #[.string z.name, .string z.who, .slice a1 z.says.length k1, .slice a2 z.uses.length k2, .slice a3 z.proof.length k3] 41)) from (Below.refl _ _).alloc (Nat.le_refl _) _).mono HBR2.out.size))) fun q _ h2 h3 => hgrow4.block q h2 (fun e => HAV.out.1 q e.symm h3.symm)
                  exact ⟨k + 1, m + 1, nb, O ++ [z], vso ++ [(.slice a1 z.says.length k1, .slice a2 z.uses.length k2, .slice a3 z.proof.length k3)], Bd, by omega, by go_num, HST1.out.1.symm, by simp [HOL.out], by omega, HST1.out.2.symm, HBL.out, by omega, hE4, hav4, hbd4, hB4⟩
                case measure => simp [intOf]; omega
            case false =>
              have hF6 := HBFR.out.trans (HR6.out.mono hszr)
              have HF6 := hid hF6
              have HG6 := hid (HBWF.out.trans (hF6.mono HBWF.out.size))
              have HS3 := hid (blame_Same _ _ _ _ _ _ z x w6 (HEZ.out.below HG6.out) (HEX.out.below HG6.out))
              obtain ⟨b3, hb3⟩ : ∃ b3, decide (z = x) = b3 := ⟨_, rfl⟩
              rw [hb3] at HS3
              have HB3 := hid hb3
              clear hb3
              go_wp2_with (first | (at_lookup; refine wpList_lookup_mapK rfl _ _ 155 false rfl (string_keyed Tryz.underlying9) ek_string_inj Tryz.underlying155 (zero_entE _) rfl (HMC.out w6 hF6) n rfl HNK.out (.agg #[.string z.name, .string z.who, .slice zp1 z.says.length zk1, .slice zp2 z.uses.length zk2, .slice zp3 z.proof.length zk3]) HLZ.out ?_) | (at_lookup; refine wpList_lookup_mapK rfl _ _ 155 false rfl (string_keyed Tryz.underlying9) ek_string_inj Tryz.underlying155 (zero_entE _) rfl (HMA.out w6 hF6) n rfl HNK.out (.agg #[.string x.name, .string x.who, .slice xp1 x.says.length xk1, .slice xp2 x.uses.length xk2, .slice xp3 x.proof.length xk3]) HLX.out ?_))
              refine HS3.out.mono ?_
              rintro e w7 ⟨rfl, hb7⟩
              have HR7 := hid (HR6.out.trans (hb7.mono HR6.out.size))
              have HX7 := hid (HX6.out.below (by simp) hb7)
              clear hF6 hb7
              cases b3
              case true =>
                have hyz : ¬ y = z := of_decide_eq_false HB1.out
                have hxy : ¬ x = y := fun e => of_decide_eq_false HB2.out e.symm
                have hxz : x = z := (of_decide_eq_true HB3.out).symm
                have HPC : Hid (bdN base a b n = false) := hid (by rw [HPC0.out]; unfold pkC; simp [hxz])
                have HPV : Hid (pkN base a b n = y) := hid (by rw [HPK.out]; unfold pkE; rw [if_neg hyz, if_neg hxy])
                have hF7 := HBFR.out.trans (HR7.out.mono hszr)
                obtain ⟨W8, hW8⟩ : ∃ W8, w7.setCells wr.heap.size 0 [.string y.name, .string y.who, .slice yp1 y.says.length yk1, .slice yp2 y.uses.length yk2, .slice yp3 y.proof.length yk3] = W8 := ⟨_, rfl⟩
                have hX8 := BX.sets [.string y.name, .string y.who, .slice yp1 y.says.length yk1, .slice yp2 y.uses.length yk2, .slice yp3 y.proof.length yk3] 0 HX7.out (by simp)
                rw [hW8] at hX8
                have HBXQ : Hid (BX W8 wr.heap.size [.string y.name, .string y.who, .slice yp1 y.says.length yk1, .slice yp2 y.uses.length yk2, .slice yp3 y.proof.length yk3]) := hid hX8
                have HBQ : Hid (Below wr.heap.size wr W8) := hid (hW8 ▸ blw_setsM HR7.out (Nat.le_refl _) 0 _)
                have HW8 := hid hW8
                have r0 : w7.cell? ⟨wr.heap.size, 0, none⟩ = some (.string z.name) := HX7.out.c 0 (by simp)
                have r1 : w7.cell? ⟨wr.heap.size, 1, none⟩ = some (.string z.who) := HX7.out.c 1 (by simp)
                have r2 : w7.cell? ⟨wr.heap.size, 2, none⟩ = some (.slice zp1 z.says.length zk1) := HX7.out.c 2 (by simp)
                have r3 : w7.cell? ⟨wr.heap.size, 3, none⟩ = some (.slice zp2 z.uses.length zk2) := HX7.out.c 3 (by simp)
                have r4 : w7.cell? ⟨wr.heap.size, 4, none⟩ = some (.slice zp3 z.proof.length zk3) := HX7.out.c 4 (by simp)
                have f0 := HX7.out.z 0
                have f1 := HX7.out.z 1
                have f2 := HX7.out.z 2
                have f3 := HX7.out.z 3
                have f4 := HX7.out.z 4
                have hsets : ((((w7.setCell ⟨wr.heap.size, 0, none⟩ (.string y.name)).setCell ⟨wr.heap.size, 1, none⟩ (.string y.who)).setCell ⟨wr.heap.size, 2, none⟩ (.slice yp1 y.says.length yk1)).setCell ⟨wr.heap.size, 3, none⟩ (.slice yp2 y.uses.length yk2)).setCell ⟨wr.heap.size, 4, none⟩ (.slice yp3 y.proof.length yk3) = W8 := hW8
                have HSETS := hid hsets
                clear hyz hxy hxz hW8 hX8 hsets
                have hbq := HBQ.out
                have HBWQ := hid (HBFR.out.trans (hbq.mono hszr))
                have q0 : W8.cell? ⟨wr.heap.size, 0, none⟩ = some (.string y.name) := HBXQ.out.c 0 (by simp)
                have q1 : W8.cell? ⟨wr.heap.size, 1, none⟩ = some (.string y.who) := HBXQ.out.c 1 (by simp)
                have q2 : W8.cell? ⟨wr.heap.size, 2, none⟩ = some (.slice yp1 y.says.length yk1) := HBXQ.out.c 2 (by simp)
                have q3 : W8.cell? ⟨wr.heap.size, 3, none⟩ = some (.slice yp2 y.uses.length yk2) := HBXQ.out.c 3 (by simp)
                have q4 : W8.cell? ⟨wr.heap.size, 4, none⟩ = some (.slice yp3 y.proof.length yk3) := HBXQ.out.c 4 (by simp)
                have HOK := hid (HOWN.out.below hbq)
                have HBDQ := hid (owns_below HBDW.out hbq)
                by_cases hem : y.name = em
                case pos =>
                  obtain ⟨t1, t2, t3⟩ := str_em hem
                  have t4 : (y.name.toList != []) = false := by rw [t2]; rfl
                  have HST1 : Hid (outB base a b (M.take (k + 1)) = O ∧ (M.take (k + 1)).filter (bdN base a b) = Bd) := hid (by
                    rw [HOT.out, HBT.out, HPC.out, HKN.out, HPV.out]; simp [hem])
                  clear hem hbq
                  go_wp2_with (first | rw [HSETS.out] | (at_lookup; refine wpList_lookup_mapK rfl _ _ 155 false rfl (string_keyed Tryz.underlying9) ek_string_inj Tryz.underlying155 (zero_entE _) rfl (HMB.out w7 hF7) n rfl HNK.out (.agg #[.string y.name, .string y.who, .slice yp1 y.says.length yk1, .slice yp2 y.uses.length yk2, .slice yp3 y.proof.length yk3]) HLY.out ?_))
                  go_roundw
                  case rel => exact ⟨k + 1, m, nb, O, vso, Bd, by omega, by go_num, HST1.out.1.symm, HOL.out, by omega, HST1.out.2.symm, HBL.out, by omega, HOK.out, HAV.out, HBDQ.out, HBWQ.out⟩
                  case measure => simp [intOf]; omega
                case neg =>
                  obtain ⟨t1, t2, t3⟩ := str_ne hem
                  have t4 : (y.name.toList != []) = true := by simpa using t2
                  have HST1 : Hid (outB base a b (M.take (k + 1)) = O ++ [y] ∧ (M.take (k + 1)).filter (bdN base a b) = Bd) := hid (by
                    rw [HOT.out, HBT.out, HPC.out, HKN.out, HPV.out]; simp [hem])
                  have hsm := HSMY.out hem
                  have HCP := hid (blame_copied (.slice yp1 y.says.length yk1) (.slice yp2 y.uses.length yk2) (.slice yp3 y.proof.length yk3) y W8 (HEY.out.below (HBWF.out.trans (HBWQ.out.mono HBWF.out.size))) hsm.1 hsm.2.1 hsm.2.2.1 hsm.2.2.2)
                  have HE := HOK
                  have HB := HBWQ
                  have HLEN := HOL
                  obtain ⟨la, lc, rfl⟩ : ∃ a c, ul = .slice a m c := HOL.out ▸ HOK.out.slice
                  clear hem hbq
                  go_wp2_with (first | rw [HSETS.out] | (at_lookup; refine wpList_lookup_mapK rfl _ _ 155 false rfl (string_keyed Tryz.underlying9) ek_string_inj Tryz.underlying155 (zero_entE _) rfl (HMB.out w7 hF7) n rfl HNK.out (.agg #[.string y.name, .string y.who, .slice yp1 y.says.length yk1, .slice yp2 y.uses.length yk2, .slice yp3 y.proof.length yk3]) HLY.out ?_))
                  refine HCP.out.mono ?_; rintro e w9 ⟨v, rfl, ⟨vS, vU, vP, rfl, hO⟩, hb2⟩; obtain ⟨a1, k1, rfl⟩ := owns_slice hO.s; obtain ⟨a2, k2, rfl⟩ := owns_slice hO.u; obtain ⟨a3, k3, rfl⟩ := owns_slice hO.p; have HE2 := hid (HE.out.below hb2); have HBR2 := hid hb2; have HO2 := hid hO; have HB2 := hid (HB.out.trans (hb2.mono HB.out.size)); have HU := hid HE.out.top.lt; have hown2 := HE2.out.top; rw [HLEN.out] at hown2; have hownA := hown2.alloc (.cells #[.string y.name, .string y.who, .slice a1 y.says.length k1, .slice a2 y.uses.length k2, .slice a3 y.proof.length k3] 41); have HROW := hid (row_one_ent w9 (.string y.name) (.string y.who) (.slice a1 y.says.length k1) (.slice a2 y.uses.length k2) (.slice a3 y.proof.length k3) 41); have hwz := HB2.out.size; clear hO hb2 hown2
                  go_wp2_with (at_builtin; go_loud (refine wpList_append_lie rfl _ _ 24 rfl wF.heap.size 41 el_ent Tryz.underlying24 rfl (by decide) _ (m) (ensC O vso) rfl hownA _ 1 (enC y (.slice a1 y.says.length k1, .slice a2 y.uses.length k2, .slice a3 y.proof.length k3)) rfl HROW.out (enC_one _ _ _ _ _ _ _ _ _ _) (by omega) (by omega) (by omega) (by simp; omega) _ rfl ?_; intro g cap w4 hown4 hgrow4 hat4 hlt4; have hB4 := (HB2.out.alloc HB2.out.size (.cells #[.string y.name, .string y.who, .slice a1 y.says.length k1, .slice a2 y.uses.length k2, .slice a3 y.proof.length k3] 41)).grown hgrow4 (by simp; omega) (fun q hq => (HU.out q hq).1)))
                  go_roundw
                  case rel =>
                    have hba : Below w9.heap.size w9 (w9.alloc (.cells #[.string y.name, .string y.who, .slice a1 y.says.length k1, .slice a2 y.uses.length k2, .slice a3 y.proof.length k3] 41)) := (Below.refl _ _).alloc (Nat.le_refl _) _; have hE4 := HE.out.push (w1 := w9.alloc _) (HBR2.out.trans (hba.mono HBR2.out.size)) (HO2.out.blocks (Nat.le_refl _) fun q _ hq => hba.block q hq) HB.out.size HLEN.out.symm hown4 hgrow4
                    have hxq : ∀ q, uc.ownBlock = some q → q < W8.heap.size := fun q hq => (HBDQ.out.lt q hq).2
                    have hw9 := HBR2.out.size
                    have hav4 := HAV.out.push (g := g) (n := m + 1) (c := cap) (v := (.slice a1 y.says.length k1, .slice a2 y.uses.length k2, .slice a3 y.proof.length k3)) hat4 hxq (by simp; omega) (fun q hq => (by
                      rcases hq with hq | hq | hq
                      · exact (HO2.out.s.lt q hq).1
                      · exact (HO2.out.u.lt q hq).1
                      · exact (HO2.out.p.lt q hq).1))
                    have hbd4 : w4.ownsRow wF.heap.size 9 1 uc nb (Bd.map Value.string) := owns_blocks (owns_below HBDQ.out (HBR2.out.trans ((show Below w9.heap.size w9 (w9.alloc (.cells #[.string y.name, .string y.who, .slice a1 y.says.length k1, .slice a2 y.uses.length k2, .slice a3 y.proof.length k3] 41)) from (Below.refl _ _).alloc (Nat.le_refl _) _).mono HBR2.out.size))) fun q _ h2 h3 => hgrow4.block q h2 (fun e => HAV.out.1 q e.symm h3.symm)
                    exact ⟨k + 1, m + 1, nb, O ++ [y], vso ++ [(.slice a1 y.says.length k1, .slice a2 y.uses.length k2, .slice a3 y.proof.length k3)], Bd, by omega, by go_num, HST1.out.1.symm, by simp [HOL.out], by omega, HST1.out.2.symm, HBL.out, by omega, hE4, hav4, hbd4, hB4⟩
                  case measure => simp [intOf]; omega
              case false =>
                have hbd1 : bdN base a b n = true := by
                  rw [HPC0.out]
                  unfold pkC
                  rw [HB1.out, show decide (x = y) = false from decide_eq_false fun e => of_decide_eq_false HB2.out e.symm, show decide (x = z) = false from decide_eq_false fun e => of_decide_eq_false HB3.out e.symm]; rfl
                have HST1 : Hid (outB base a b (M.take (k + 1)) = O ∧ (M.take (k + 1)).filter (bdN base a b) = Bd ++ [n]) := hid (by
                  rw [HOT.out, HBT.out, hbd1]; simp)
                have hb7 := HR7.out
                have hOK := HOWN.out.below hb7
                have hBDQ := owns_below HBDW.out hb7
                have HOK := hid hOK
                have HBDQ := hid hBDQ
                have HFA := hid (HBFR.out.trans (hb7.mono hszr))
                obtain ⟨ca, cc, rfl⟩ := owns_slice HBDW.out
                have hRA := hBDQ.alloc (.cells #[.string n] 9)
                have HBLT := hid (show Below w7.heap.size w7 (w7.alloc (.cells #[.string n] 9)) from (Below.refl _ _).alloc (Nat.le_refl _) _)
                have hzF : wF.heap.size ≤ w7.heap.size := HFA.out.size
                clear hbd1 hb7 hOK hBDQ
                go_wp2_with (at_builtin; refine wpList_append_lie rfl _ _ 38 rfl wF.heap.size 9 el_str Tryz.underlying38 rfl (by decide) _ nb (Bd.map Value.string) rfl hRA _ 1 [.string n] rfl (row_one_new _ _ _) (oneCell_one rfl) (by omega) (by omega) (by omega) (by simp; omega) _ rfl ?_; intro g8 cap8 w8 hown8 hgrow8 hat8 hlt8)
                go_roundw
                case rel =>
                  have hEA := HOK.out.below HBLT.out
                  have hE8 := hEA.off HAV.out (W' := w8) (fun q hq hne => hgrow8.block q hq hne)
                  have hav8 := AvB.fresh hEA HAV.out (g := g8) (by simp) hat8
                  exact ⟨k + 1, m, nb + 1, O, vso, Bd ++ [n], by omega, by go_num, HST1.out.1.symm, HOL.out, by omega, HST1.out.2.symm, by simp [HBL.out], by omega, hE8, hav8, by simpa using hown8, (HFA.out.trans (HBLT.out.mono HFA.out.size)).grown hgrow8 (Nat.le_trans HFA.out.size HBLT.out.size) (fun q hq => (HBDQ.out.lt q hq).1)⟩
                case measure => simp [intOf]; omega
        · have hkl : k = M.length := by omega
          subst hkl
          rw [List.take_of_length_le (Nat.le_refl _)] at hO hBd
          obtain ⟨la, lc, rfl⟩ := hE.slice
          obtain ⟨ca, cc, rfl⟩ := owns_slice hbd
          have hEN := hE.ents (by omega)
          have hTX : TxtsAt wr (.slice ca nb cc) Bd := ⟨by rw [← hBl] at hbd ⊢; exact RowK.of_owns hbd (by omega), fun x hx => HNM2.out x (by rw [hBd] at hx; exact (List.mem_filter.1 hx).1)⟩
          have HEN := hid hEN
          have HTX := hid hTX
          have HBW := hid (HBWF.out.trans (hb.mono HBWF.out.size))
          have HOO := hid hO
          have HBB := hid hBd
          clear hE hav hbd hb hEN hTX hO hBd
          go_wp2
          go_ret2
          unfold MrgQ badM
          rw [HMM.out, ← HOO.out, ← HBB.out]
          exact ⟨_, _, rfl, HEN.out, HTX.out, HBW.out⟩
end Go.Proofs.YtlbjbmpkaniojaaGreat
