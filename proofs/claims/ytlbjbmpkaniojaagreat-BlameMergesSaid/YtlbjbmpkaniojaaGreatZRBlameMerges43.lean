/-
  WHAT IT HOLDS: contract of merge of the reference of layer 9. Conditions: the arguments read as data; editions. Printed by wip/gen_mgr.py.
-/
import Derived.Test.YtlbjbmpkaniojaaGreatZRBlameMerges42
import Derived.Test.YtlbjbmpkaniojaaGreatZRBlameMerges39
namespace Go.Proofs.YtlbjbmpkaniojaaGreat
open Go Go.RowKit Go.Maps
theorem lkE_flag {s : Sg} {l : List En} (h : LibOK s l) (n : Nm) : (idxN l n).isSome = !decide ((lkE l n).name = em) := by
  have h1 := lkE_name h n
  cases e : idxN l n with
  | none =>
    have : lkE l n = en0 := by unfold lkE; rw [e]
    rw [this]; rfl
  | some i =>
    obtain ⟨hi, hin⟩ := idxN_some e
    have h3 := h1.2 ⟨_, List.getElem_mem hi, hin⟩
    simp [h3]
theorem ents_nmM {w : World} {v : Value} {vs : List V3} {l : List En} (h : EntsV w v vs l) : ∀ x ∈ l, x.name.size ≤ 140737488355328 := fun x hx => by
  obtain ⟨j, hj, rfl⟩ := List.getElem_of_mem hx
  exact (h.2.2 j hj (by have := h.2.1; omega)).n1
set_option maxHeartbeats 16000000 in
set_option maxRecDepth 100000 in
theorem ref9_merge (v0 v1 v2 : Value) (s : Sg) (base a b : List En) (w : World) (h0 : EntsAt w v0 base) (h1 : EntsAt w v1 a) (h2 : EntsAt w v2 b) (e0 : edB s base = true) (e1 : edB s a = true) (e2 : edB s b = true) :
    Calls Tryz.prog 105 #[v0, v1, v2] w fun e w' => MrgQ (outR base a b (mrgN base a b)) (badM base a b) w e w' := by
  obtain ⟨L0, A0⟩ := edB_iff.1 e0
  obtain ⟨L1, A1⟩ := edB_iff.1 e1
  obtain ⟨L2, A2⟩ := edB_iff.1 e2
  have HEN0 := hid (fun (X : World) (hX : Below w.heap.size w X) (n : Nm) => ref9_entry v0 base n w X h0 hX)
  have HEN1 := hid (fun (X : World) (hX : Below w.heap.size w X) (n : Nm) => ref9_entry v1 a n w X h1 hX)
  have HEN2 := hid (fun (X : World) (hX : Below w.heap.size w X) (n : Nm) => ref9_entry v2 b n w X h2 hX)
  have HF0 := hid (fun n => lkE_flag L0 n)
  have HF1 := hid (fun n => lkE_flag L1 n)
  have HF2 := hid (fun n => lkE_flag L2 n)
  obtain ⟨vs0, h0⟩ := h0
  obtain ⟨vs1, h1⟩ := h1
  obtain ⟨vs2, h2⟩ := h2
  have HV := hid (And.intro h0 (And.intro h1 h2))
  obtain ⟨p0, c0, rfl, -⟩ := h0.open5
  obtain ⟨p1, c1, rfl, -⟩ := h1.open5
  obtain ⟨p2, c2, rfl, -⟩ := h2.open5
  have HL := hid (And.intro L0 (And.intro L1 L2))
  have hl0 := L0.len
  have hl1 := L1.len
  have hl2 := L2.len
  obtain ⟨X, hX⟩ : ∃ X, w.alloc (.cells #[.slice p0 base.length c0, .slice p1 a.length c1, .slice p2 b.length c2] 24) = X := ⟨_, rfl⟩
  have hbX : Below w.heap.size w X := hX ▸ (Below.refl _ _).alloc (Nat.le_refl _) _
  have HBX := hid hbX
  have hrow : RowK X (.slice (some ⟨w.heap.size, 0, none⟩) 3 3) 1 3 [.slice p0 base.length c0, .slice p1 a.length c1, .slice p2 b.length c2] := hX ▸ row_three w _ _ _ _
  have hxs : ∀ x ∈ ([(.slice p0 base.length c0, vs0, base), (.slice p1 a.length c1, vs1, a), (.slice p2 b.length c2, vs2, b)] : ELs), EntsV X x.1 x.2.1 x.2.2 := fun x hx => by
    simp only [List.mem_cons, List.not_mem_nil, or_false] at hx
    rcases hx with rfl | rfl | rfl
    · exact HV.out.1.below HBX.out
    · exact HV.out.2.1.below HBX.out
    · exact HV.out.2.2.below HBX.out
  obtain ⟨xs, hxs0⟩ : ∃ xs, ([(.slice p0 base.length c0, vs0, base), (.slice p1 a.length c1, vs1, a), (.slice p2 b.length c2, vs2, b)] : ELs) = xs := ⟨_, rfl⟩
  have hrow2 : RowK X (.slice (some ⟨w.heap.size, 0, none⟩) 3 3) 1 xs.length (xs.map Prod.fst) := by rw [← hxs0]; exact hrow
  have hflE : flE xs = (base ++ a) ++ b := by rw [← hxs0]; simp [flE]
  have hfl : (flE xs).length ≤ 180 := by rw [hflE, List.length_append, List.length_append]; omega
  have hxl : xs.length ≤ 3 ∧ 3 ≤ xs.length := by rw [← hxs0]; exact ⟨Nat.le_refl _, Nat.le_refl _⟩
  rw [hxs0] at hxs
  obtain ⟨-, ra, rc, e', -, -, -, hC⟩ := hrow2
  simp only [Value.slice.injEq] at e'
  obtain ⟨rfl, -, rfl⟩ := e'
  have HC' := hid (fun (k : Nat) (h : k < xs.length) => hC k xs[k].1 (by rw [List.getElem?_map, List.getElem?_eq_getElem h]; rfl))
  have HXS := hid hxs
  have HFE := hid hflE
  have HLE := hid (flE_le xs)
  have HX := hid hX
  have h00 := hid (World.ownsRow_nil X X.heap.size 9 1)
  obtain ⟨hx3, hx4⟩ := hxl
  clear h0 h1 h2 L0 L1 L2 A0 A1 A2 e0 e1 e2 hX hbX hrow hxs hxs0 hflE hC
  go_enter Tryz.func105, Tryz.ntmps105
  go_wp2
  rw [HX.out]
  go_loopw [8, 26] (fun un kv wr => ∃ k : Nat, k ≤ 3 ∧ kv = .int .i64 k ∧ wr.ownsRow X.heap.size 9 1 un (flE (xs.take k)).length (((flE (xs.take k)).map En.name).map Value.string) ∧ Below X.heap.size X wr) (fun _ kv _ => 3 - (intOf kv).toNat)
  case atStart => exact ⟨0, by omega, rfl, by simpa [flE] using h00.out, Below.refl _ _⟩
  case round =>
    clear h00
    obtain ⟨k, hk, rfl, hown, hb⟩ := hrel
    by_cases hlt : k < 3
    · obtain ⟨t, xa, xc, hnE, c3, ZT⟩ : ∃ (t : List En) (xa : Option Addr) (xc : Nat), flE (xs.take (k + 1)) = flE (xs.take k) ++ t ∧ X.cell? ⟨w.heap.size, k, none⟩ = some (.slice xa t.length xc) ∧ ∀ j (hj : j < t.length), ∃ b o, xa = some ⟨b, o, none⟩ ∧ X.cell? ⟨b, o + j * 5, none⟩ = some (.string t[j].name) := by
        obtain ⟨b0, o0, e2, c3⟩ := HC'.out k (by omega)
        simp only [Option.some.injEq, Addr.mk.injEq] at e2
        obtain ⟨rfl, rfl, -⟩ := e2
        obtain ⟨xa, xc, he, -, -, ZT⟩ := (HXS.out _ (List.getElem_mem (show k < xs.length by omega))).open5
        rw [he, Nat.zero_add] at c3
        refine ⟨_, xa, xc, flE_next (by omega), c3, fun j hj => ?_⟩
        obtain ⟨b, o, a1, k1, a2, k2, a3, k3, ea, -, z0, -⟩ := ZT j hj
        exact ⟨b, o, ea, z0⟩
      have hbd := HLE.out (k + 1)
      have hnl := congrArg List.length hnE
      rw [List.length_append] at hnl
      have c4 := celB c3 hb
      obtain ⟨T, hT⟩ : ∃ T, flE (xs.take k) = T := ⟨_, rfl⟩
      rw [hT] at hown hnE hnl
      obtain ⟨m, hm⟩ : ∃ m, T.length = m := ⟨_, rfl⟩
      rw [hm] at hown hnl
      have hmt : m + t.length ≤ 180 := by omega
      have HNX := hid (And.intro hnE hnl)
      have HZT := hid ZT
      have HOWN := hid hown
      have HB := hid hb
      obtain ⟨na, nc, rfl⟩ := owns_slice hown
      have q0 : decide ((k : Int) < 3) = true := decide_eq_true (by omega)
      clear hbd hnl hnE c3 hT hm ZT hown hb
      go_wp2
      go_loopw [8, 11] (fun un iv wr => ∃ j : Nat, j ≤ t.length ∧ iv = .int .i64 j ∧ wr.ownsRow X.heap.size 9 1 un (m + j) (((T ++ t.take j).map En.name).map Value.string) ∧ Below X.heap.size X wr) (fun _ iv _ => t.length - (intOf iv).toNat)
      case atStart => exact ⟨0, by omega, rfl, by simpa using HOWN.out, HB.out⟩
      case round =>
        clear c4
        obtain ⟨j, hj, rfl, hown, hb⟩ := hrel
        have hsz := hb.size
        obtain ⟨na, nc, rfl⟩ := owns_slice hown
        by_cases hlt2 : j < t.length
        · obtain ⟨bb, oo, rfl, z0⟩ := HZT.out j hlt2
          have x0 := celB z0 hb
          have HTK := hid (show ((T ++ t.take (j + 1)).map En.name).map Value.string = ((T ++ t.take j).map En.name).map Value.string ++ [.string t[j].name] from by rw [List.take_succ_eq_append_getElem hlt2, ← List.append_assoc, List.map_append, List.map_append]; rfl)
          obtain ⟨x, hx⟩ : ∃ x, t[j].name = x := ⟨_, rfl⟩
          rw [hx] at x0 HTK
          obtain ⟨NS, hNS⟩ : ∃ NS, ((T ++ t.take j).map En.name).map Value.string = NS := ⟨_, rfl⟩
          rw [hNS] at HTK hown
          have hRA := hown.alloc (.cells #[.string x] 9)
          have HBL := hid (show Below wr.heap.size wr (wr.alloc (.cells #[.string x] 9)) from (Below.refl _ _).alloc (Nat.le_refl _) _)
          have HBW := hid hb
          have HOWN := hid hown
          clear z0 hx hNS hown hb
          go_wp2_with (at_builtin; refine wpList_append_lie rfl _ _ 38 rfl X.heap.size 9 el_str Tryz.underlying38 rfl (by decide) _ (m + j) NS rfl hRA _ 1 [.string x] rfl (row_one_new _ _ _) (oneCell_one rfl) (by omega) (by omega) (by omega) (by simp; omega) _ rfl ?_; intro g8 cap8 w8 hown8 hgrow8 hat8 hlt8)
          go_roundw
          case rel => exact ⟨j + 1, by omega, by go_num, by rw [HTK.out]; exact hown8, (HBW.out.trans (HBL.out.mono HBW.out.size)).grown hgrow8 (Nat.le_trans HBW.out.size HBL.out.size) (fun q hq => (HOWN.out.lt q hq).1)⟩
          case measure => simp [intOf]; omega
        · have hjl : j = t.length := by omega
          subst hjl
          rw [List.take_of_length_le (Nat.le_refl _)] at hown
          have HOW2 := hid hown
          have HB2 := hid hb
          clear hown hb
          go_wp2
          go_roundw
          case rel => exact ⟨k + 1, by omega, by go_num, by rw [HNX.out.2, HNX.out.1]; exact HOW2.out, HB2.out⟩
          case measure => simp [intOf]; omega
    · obtain rfl : k = 3 := by omega
      rw [List.take_of_length_le (by omega)] at hown
      obtain ⟨L, hL⟩ : ∃ L, flE xs = L := ⟨_, rfl⟩
      rw [hL] at hown hfl HFE
      obtain ⟨NM, hNM⟩ : ∃ NM, L.map En.name = NM := ⟨_, rfl⟩
      have hnl : NM.length = L.length := by rw [← hNM]; simp
      rw [hNM, ← hnl] at hown
      have hMN : srtN NM = mrgN base a b := by rw [← hNM, HFE.out]; rfl
      have hnb : NM.length ≤ 200 := by omega
      have hNMS : ∀ x ∈ NM, x.size ≤ 140737488355328 := fun x hx => by
        rw [← hNM] at hx
        obtain ⟨y, hy, rfl⟩ := List.mem_map.1 hx
        rw [HFE.out] at hy
        rcases List.mem_append.1 hy with hy | hy
        · rcases List.mem_append.1 hy with hy | hy
          · exact ents_nmM HV.out.1 _ hy
          · exact ents_nmM HV.out.2.1 _ hy
        · exact ents_nmM HV.out.2.2 _ hy
      obtain ⟨na, nc, rfl⟩ := owns_slice hown
      have HSO := hid (ref6_Sorted _ NM wr ⟨RowK.of_owns hown (by omega), hNMS⟩ (by omega))
      have hmnl : (mrgN base a b).length ≤ 200 := by
        rw [← hMN]
        have := srtN_len NM
        omega
      have HNMS := hid (show ∀ x ∈ mrgN base a b, x.size ≤ 140737488355328 from fun x hx => hNMS x ((srtN_asc NM).2 x |>.1 (by rw [hMN]; exact hx)))
      rw [hMN] at HSO
      obtain ⟨M, hM⟩ : ∃ M, mrgN base a b = M := ⟨_, rfl⟩
      rw [hM] at HSO hmnl HNMS
      have HMM := hid hM
      have HBR := hid (HBX.out.trans (hb.mono HBX.out.size))
      clear hown hb hL hNM hnl hMN hNMS hM hfl HFE HXS HC' HLE hx3 hx4
      go_wp2_with fail
      refine HSO.out.mono ?_
      rintro e wF ⟨u2, rfl, hownF, hbF⟩
      obtain ⟨ma, mc, rfl⟩ := owns_slice hownF
      have HBWF := hid (HBR.out.trans (hbF.mono HBR.out.size))
      have HMR := hid hownF
      have h00 := hid (EnW.nil wF wF.heap.size)
      have h01 := hid (World.ownsRow_nil wF wF.heap.size 9 1)
      clear hownF hbF HSO HBR HBX HX
      go_wp2
      go_loopw [12, 13, 14] (fun ul uc kv wr => ∃ (k m nb : Nat) (O : List En) (vso : List V3) (Bd : List Nm), k ≤ M.length ∧ kv = .int .i64 k ∧ O = outR base a b (M.take k) ∧ O.length = m ∧ m ≤ k ∧ Bd = (M.take k).filter (bdN base a b) ∧ Bd.length = nb ∧ nb ≤ k ∧ EnW wr wF.heap.size ul vso O ∧ AvB uc.ownBlock ul vso ∧ wr.ownsRow wF.heap.size 9 1 uc nb (Bd.map Value.string) ∧ Below wF.heap.size wF wr) (fun _ _ kv _ => M.length - (intOf kv).toNat)
      case atStart => exact ⟨0, 0, 0, [], [], [], by omega, rfl, rfl, rfl, by omega, rfl, rfl, by omega, h00.out, AvB.nil _, h01.out, Below.refl _ _⟩
      case round =>
        clear h00 h01
        obtain ⟨k, m, nb, O, vso, Bd, hk, rfl, hO, hOl, hmk, hBd, hBl, hnk, hE, hav, hbd, hb⟩ := hrel
        have hszr := hb.size
        obtain ⟨ul, hul⟩ : ∃ ul : Value, ul = u12 := ⟨_, rfl⟩
        obtain ⟨uc, huc⟩ : ∃ uc : Value, uc = u13 := ⟨_, rfl⟩
        subst hul huc
        have HOWN := hid hE
        have HAV := hid hav
        have HBDW := hid hbd
        have HBFR := hid hb
        have HOL := hid hOl
        have HBL := hid hBl
        by_cases hlt : k < M.length
        · have hrow := owns_below HMR.out hb
          obtain ⟨g0, cap0, he0, -, -⟩ := owns_some hrow (by omega)
          cases he0
          have cn := hrow.cellAt k (by omega)
          rw [List.getElem?_map, List.getElem?_eq_getElem hlt] at cn
          simp only [Option.map_some] at cn
          have HOT := hid (outR_take (base := base) (a := a) (b := b) hlt)
          have HBT := hid (bad_take (base := base) (a := a) (b := b) hlt)
          rw [← hO] at HOT
          rw [← hBd] at HBT
          obtain ⟨n, hn⟩ : ∃ n, M[k] = n := ⟨_, rfl⟩
          rw [hn] at cn HOT HBT
          have HCN := hid (fun (Y : World) (hY : Below wr.heap.size wr Y) => celB cn hY)
          have HGR := hid (HBWF.out.trans (hb.mono HBWF.out.size))
          have hQ0 := HEN0.out wr HGR.out n
          have hQ1 := fun (Y : World) (hY : Below wr.heap.size wr Y) => HEN1.out Y (HGR.out.trans (hY.mono HGR.out.size)) n
          have hQ2 := fun (Y : World) (hY : Below wr.heap.size wr Y) => HEN2.out Y (HGR.out.trans (hY.mono HGR.out.size)) n
          have hF0 := HF0.out n
          have hF1 := HF1.out n
          have hF2 := HF2.out n
          have hSMY : (lkE a n).name ≠ em → EnSm (lkE a n) := fun h => by
            rcases lkE_cases a n with ⟨g, -⟩ | ⟨g, -⟩
            · exact ent_sm (entryB_iff.2 (HL.out.2.1.ents _ g))
            · rw [g] at h; exact absurd rfl h
          have hSMZ : (lkE b n).name ≠ em → EnSm (lkE b n) := fun h => by
            rcases lkE_cases b n with ⟨g, -⟩ | ⟨g, -⟩
            · exact ent_sm (entryB_iff.2 (HL.out.2.2.ents _ g))
            · rw [g] at h; exact absurd rfl h
          have hPK : pkN base a b n = pkE (lkE base n) (lkE a n) (lkE b n) := rfl
          have hPC : bdN base a b n = pkC (lkE base n) (lkE a n) (lkE b n) := rfl
          have HKN := hid (show keepN base a b n = !decide ((pkN base a b n).name = em) from rfl)
          unfold LkQ at hQ0 hQ1 hQ2
          obtain ⟨x, hx⟩ : ∃ x, lkE base n = x := ⟨_, rfl⟩
          obtain ⟨y, hy⟩ : ∃ y, lkE a n = y := ⟨_, rfl⟩
          obtain ⟨z, hz⟩ : ∃ z, lkE b n = z := ⟨_, rfl⟩
          rw [hx] at hPK hPC hF0
          rw [hy] at hPK hPC hSMY hF1
          rw [hz] at hPK hPC hSMZ hF2
          simp only [hx] at hQ0
          simp only [hy] at hQ1
          simp only [hz] at hQ2
          have HQ0 := hid hQ0
          have HQ1 := hid hQ1
          have HQ2 := hid hQ2
          have HSMY := hid hSMY
          have HSMZ := hid hSMZ
          have HPK := hid hPK
          have HPC0 := hid hPC
          have HFX := hid hF0
          have HFY := hid hF1
          have HFZ := hid hF2
          clear hrow hn hx hy hz hQ0 hQ1 hQ2 hSMY hSMZ hPK hPC hF0 hF1 hF2 hO hOl hBd hBl hE hav hbd hb
          go_wp2_with fail
          refine HQ0.out.mono ?_
          rintro e w5 ⟨xp1, xk1, xp2, xk2, xp3, xk3, c, rfl, hc, heX, hb5⟩
          rw [HFX.out] at hc
          have HFLX := hid hc
          have hBX := BX.new w5 [.string x.name, .string x.who, .slice xp1 x.says.length xk1, .slice xp2 x.uses.length xk2, .slice xp3 x.proof.length xk3] 41
          obtain ⟨W5, hW⟩ : ∃ W, w5.alloc (.cells #[.string x.name, .string x.who, .slice xp1 x.says.length xk1, .slice xp2 x.uses.length xk2, .slice xp3 x.proof.length xk3] 41) = W := ⟨_, rfl⟩
          have hW' : w5.alloc (.cells ([.string x.name, .string x.who, .slice xp1 x.says.length xk1, .slice xp2 x.uses.length xk2, .slice xp3 x.proof.length xk3] : List Value).toArray 41) = W5 := hW
          rw [hW'] at hBX
          have hbW : Below w5.heap.size w5 W5 := hW ▸ (Below.refl _ _).alloc (Nat.le_refl _) _
          have HBBX := hid hBX
          have HENX := hid heX
          have HW5 := hid hW
          have HSW5 := hid (hb5.trans (hbW.mono hb5.size))
          have HR5 := hid (HSW5.out)
          clear hc heX hBX hW hW' hbW hb5
          have HQ5 := hid (HQ1.out W5 HR5.out)
          clear cn HQ0 HQ1
          have cn : (w5.alloc (.cells #[.string x.name, .string x.who, .slice xp1 x.says.length xk1, .slice xp2 x.uses.length xk2, .slice xp3 x.proof.length xk3] 41)).cell? ⟨g0, k, none⟩ = some (.string n) := by rw [HW5.out]; exact HCN.out W5 HR5.out
          go_wp2_with fail
          rw [HW5.out]
          refine HQ5.out.mono ?_
          rintro e w6 ⟨yp1, yk1, yp2, yk2, yp3, yk3, d, rfl, hd, heY, hb6⟩
          have HZ6A := hid (Nat.le_trans HR5.out.size hb6.size)
          rw [HFY.out] at hd
          have HFLY := hid hd
          have hBX := BX.new w6 [.string y.name, .string y.who, .slice yp1 y.says.length yk1, .slice yp2 y.uses.length yk2, .slice yp3 y.proof.length yk3] 41
          obtain ⟨W6, hW⟩ : ∃ W, w6.alloc (.cells #[.string y.name, .string y.who, .slice yp1 y.says.length yk1, .slice yp2 y.uses.length yk2, .slice yp3 y.proof.length yk3] 41) = W := ⟨_, rfl⟩
          have hW' : w6.alloc (.cells ([.string y.name, .string y.who, .slice yp1 y.says.length yk1, .slice yp2 y.uses.length yk2, .slice yp3 y.proof.length yk3] : List Value).toArray 41) = W6 := hW
          rw [hW'] at hBX
          have hbW : Below w6.heap.size w6 W6 := hW ▸ (Below.refl _ _).alloc (Nat.le_refl _) _
          have HBBY := hid hBX
          have HENY := hid heY
          have HW6 := hid hW
          have HSW6 := hid (hb6.trans (hbW.mono hb6.size))
          have HR6 := hid (HR5.out.trans (HSW6.out.mono HR5.out.size))
          clear hd heY hBX hW hW' hbW hb6
          have HQ6 := hid (HQ2.out W6 HR6.out)
          clear cn HQ5 HQ2 HW5
          have cn : (w6.alloc (.cells #[.string y.name, .string y.who, .slice yp1 y.says.length yk1, .slice yp2 y.uses.length yk2, .slice yp3 y.proof.length yk3] 41)).cell? ⟨g0, k, none⟩ = some (.string n) := by rw [HW6.out]; exact HCN.out W6 HR6.out
          go_wp2_with fail
          rw [HW6.out]
          refine HQ6.out.mono ?_
          rintro e w7 ⟨zp1, zk1, zp2, zk2, zp3, zk3, f, rfl, hf, heZ, hb7⟩
          rw [HFZ.out] at hf
          have HFLZ := hid hf
          have hBX := BX.new w7 [.string z.name, .string z.who, .slice zp1 z.says.length zk1, .slice zp2 z.uses.length zk2, .slice zp3 z.proof.length zk3] 41
          obtain ⟨W7, hW⟩ : ∃ W, w7.alloc (.cells #[.string z.name, .string z.who, .slice zp1 z.says.length zk1, .slice zp2 z.uses.length zk2, .slice zp3 z.proof.length zk3] 41) = W := ⟨_, rfl⟩
          have hW' : w7.alloc (.cells ([.string z.name, .string z.who, .slice zp1 z.says.length zk1, .slice zp2 z.uses.length zk2, .slice zp3 z.proof.length zk3] : List Value).toArray 41) = W7 := hW
          rw [hW'] at hBX
          have hbW : Below w7.heap.size w7 W7 := hW ▸ (Below.refl _ _).alloc (Nat.le_refl _) _
          have HBBZ := hid hBX
          have HENZ := hid heZ
          have HW7 := hid hW
          have HSW7 := hid (hb7.trans (hbW.mono hb7.size))
          have HR7 := hid (HR6.out.trans (HSW7.out.mono HR6.out.size))
          clear hf heZ hBX hW hW' hbW hb7
          clear cn HQ6
          have HXB := hid ((HBBX.out.below (by simp) HSW6.out).below (by simp) HSW7.out)
          have HYB := hid (HBBY.out.below (by simp) HSW7.out)
          have HZB := HBBZ
          have HRc := HR7
          clear HBBX HBBY HBBZ HW6 HSW5 HSW6 HSW7 HR5 HR6
          have HZ6 := hid (show wr.heap.size ≤ w6.heap.size from HZ6A.out)
          cases c
          case false =>
            cases d
            case false =>
              cases f
              case false =>
                have x0 : W7.cell? ⟨w5.heap.size, 0, none⟩ = some (.string x.name) := HXB.out.c 0 (by simp)
                have x1 : W7.cell? ⟨w5.heap.size, 1, none⟩ = some (.string x.who) := HXB.out.c 1 (by simp)
                have x2 : W7.cell? ⟨w5.heap.size, 2, none⟩ = some (.slice xp1 x.says.length xk1) := HXB.out.c 2 (by simp)
                have x3 : W7.cell? ⟨w5.heap.size, 3, none⟩ = some (.slice xp2 x.uses.length xk2) := HXB.out.c 3 (by simp)
                have x4 : W7.cell? ⟨w5.heap.size, 4, none⟩ = some (.slice xp3 x.proof.length xk3) := HXB.out.c 4 (by simp)
                have y0 : W7.cell? ⟨w6.heap.size, 0, none⟩ = some (.string y.name) := HYB.out.c 0 (by simp)
                have y1 : W7.cell? ⟨w6.heap.size, 1, none⟩ = some (.string y.who) := HYB.out.c 1 (by simp)
                have y2 : W7.cell? ⟨w6.heap.size, 2, none⟩ = some (.slice yp1 y.says.length yk1) := HYB.out.c 2 (by simp)
                have y3 : W7.cell? ⟨w6.heap.size, 3, none⟩ = some (.slice yp2 y.uses.length yk2) := HYB.out.c 3 (by simp)
                have y4 : W7.cell? ⟨w6.heap.size, 4, none⟩ = some (.slice yp3 y.proof.length yk3) := HYB.out.c 4 (by simp)
                have z0 : W7.cell? ⟨w7.heap.size, 0, none⟩ = some (.string z.name) := HZB.out.c 0 (by simp)
                have z1 : W7.cell? ⟨w7.heap.size, 1, none⟩ = some (.string z.who) := HZB.out.c 1 (by simp)
                have z2 : W7.cell? ⟨w7.heap.size, 2, none⟩ = some (.slice zp1 z.says.length zk1) := HZB.out.c 2 (by simp)
                have z3 : W7.cell? ⟨w7.heap.size, 3, none⟩ = some (.slice zp2 z.uses.length zk2) := HZB.out.c 3 (by simp)
                have z4 : W7.cell? ⟨w7.heap.size, 4, none⟩ = some (.slice zp3 z.proof.length zk3) := HZB.out.c 4 (by simp)
                have HSM := hid (ref9_Same _ _ _ _ _ _ y z W7 (HENY.out.below (HGR.out.trans (HRc.out.mono HGR.out.size))) (HENZ.out.below (HGR.out.trans (HRc.out.mono HGR.out.size))))
                by_cases hbK : y = z
                case pos =>
                  rw [decide_eq_true hbK] at HSM
                  have HYZ := hid hbK
                  clear hbK
                  go_wp2_with (first | rw [HW7.out])
                  refine HSM.out.mono ?_
                  rintro e wq1 ⟨rfl, hbN⟩
                  clear x0 x1 x2 x3 x4 y0 y1 y2 y3 y4 z0 z1 z2 z3 z4
                  have HXB := hid (HXB.out.below (by simp) hbN)
                  have HYB := hid (HYB.out.below (by simp) hbN)
                  have HZB := hid (HZB.out.below (by simp) hbN)
                  have HRc := hid (HRc.out.trans (hbN.mono HRc.out.size))
                  clear HSM hbN
                  have x0 : wq1.cell? ⟨w5.heap.size, 0, none⟩ = some (.string x.name) := HXB.out.c 0 (by simp)
                  have x1 : wq1.cell? ⟨w5.heap.size, 1, none⟩ = some (.string x.who) := HXB.out.c 1 (by simp)
                  have x2 : wq1.cell? ⟨w5.heap.size, 2, none⟩ = some (.slice xp1 x.says.length xk1) := HXB.out.c 2 (by simp)
                  have x3 : wq1.cell? ⟨w5.heap.size, 3, none⟩ = some (.slice xp2 x.uses.length xk2) := HXB.out.c 3 (by simp)
                  have x4 : wq1.cell? ⟨w5.heap.size, 4, none⟩ = some (.slice xp3 x.proof.length xk3) := HXB.out.c 4 (by simp)
                  have y0 : wq1.cell? ⟨w6.heap.size, 0, none⟩ = some (.string y.name) := HYB.out.c 0 (by simp)
                  have y1 : wq1.cell? ⟨w6.heap.size, 1, none⟩ = some (.string y.who) := HYB.out.c 1 (by simp)
                  have y2 : wq1.cell? ⟨w6.heap.size, 2, none⟩ = some (.slice yp1 y.says.length yk1) := HYB.out.c 2 (by simp)
                  have y3 : wq1.cell? ⟨w6.heap.size, 3, none⟩ = some (.slice yp2 y.uses.length yk2) := HYB.out.c 3 (by simp)
                  have y4 : wq1.cell? ⟨w6.heap.size, 4, none⟩ = some (.slice yp3 y.proof.length yk3) := HYB.out.c 4 (by simp)
                  have z0 : wq1.cell? ⟨w7.heap.size, 0, none⟩ = some (.string z.name) := HZB.out.c 0 (by simp)
                  have z1 : wq1.cell? ⟨w7.heap.size, 1, none⟩ = some (.string z.who) := HZB.out.c 1 (by simp)
                  have z2 : wq1.cell? ⟨w7.heap.size, 2, none⟩ = some (.slice zp1 z.says.length zk1) := HZB.out.c 2 (by simp)
                  have z3 : wq1.cell? ⟨w7.heap.size, 3, none⟩ = some (.slice zp2 z.uses.length zk2) := HZB.out.c 3 (by simp)
                  have z4 : wq1.cell? ⟨w7.heap.size, 4, none⟩ = some (.slice zp3 z.proof.length zk3) := HZB.out.c 4 (by simp)
                  have HPC : Hid (bdN base a b n = false) := hid (by rw [HPC0.out]; unfold pkC; simp [HYZ.out])
                  have HPV : Hid (pkN base a b n = y) := hid (by rw [HPK.out]; unfold pkE; rw [if_pos HYZ.out])
                  have HBWQ := hid (HBFR.out.trans (HRc.out.mono hszr))
                  have HOK := hid (HOWN.out.below HRc.out)
                  have HBDQ := hid (owns_below HBDW.out HRc.out)
                  have HAVQ := HAV
                  have hem : y.name = em := by have h := HFLY.out; simpa using h
                  have HST1 : Hid (outR base a b (M.take (k + 1)) = O ∧ (M.take (k + 1)).filter (bdN base a b) = Bd) := hid (by
                    rw [HOT.out, HBT.out, HPC.out, HKN.out, HPV.out]; simp [hem])
                  clear hem
                  go_wp2_with (first | rw [HW7.out])
                  go_roundw
                  case rel => exact ⟨k + 1, m, nb, O, vso, Bd, by omega, by go_num, HST1.out.1.symm, HOL.out, by omega, HST1.out.2.symm, HBL.out, by omega, HOK.out, HAV.out, HBDQ.out, HBWQ.out⟩
                  case measure => simp [intOf]; omega
                case neg =>
                  rw [decide_eq_false hbK] at HSM
                  have HYZ := hid hbK
                  clear hbK
                  go_wp2_with (first | rw [HW7.out])
                  refine HSM.out.mono ?_
                  rintro e wq1 ⟨rfl, hbN⟩
                  clear x0 x1 x2 x3 x4 y0 y1 y2 y3 y4 z0 z1 z2 z3 z4
                  have HXB := hid (HXB.out.below (by simp) hbN)
                  have HYB := hid (HYB.out.below (by simp) hbN)
                  have HZB := hid (HZB.out.below (by simp) hbN)
                  have HRc := hid (HRc.out.trans (hbN.mono HRc.out.size))
                  clear HSM hbN
                  have x0 : wq1.cell? ⟨w5.heap.size, 0, none⟩ = some (.string x.name) := HXB.out.c 0 (by simp)
                  have x1 : wq1.cell? ⟨w5.heap.size, 1, none⟩ = some (.string x.who) := HXB.out.c 1 (by simp)
                  have x2 : wq1.cell? ⟨w5.heap.size, 2, none⟩ = some (.slice xp1 x.says.length xk1) := HXB.out.c 2 (by simp)
                  have x3 : wq1.cell? ⟨w5.heap.size, 3, none⟩ = some (.slice xp2 x.uses.length xk2) := HXB.out.c 3 (by simp)
                  have x4 : wq1.cell? ⟨w5.heap.size, 4, none⟩ = some (.slice xp3 x.proof.length xk3) := HXB.out.c 4 (by simp)
                  have y0 : wq1.cell? ⟨w6.heap.size, 0, none⟩ = some (.string y.name) := HYB.out.c 0 (by simp)
                  have y1 : wq1.cell? ⟨w6.heap.size, 1, none⟩ = some (.string y.who) := HYB.out.c 1 (by simp)
                  have y2 : wq1.cell? ⟨w6.heap.size, 2, none⟩ = some (.slice yp1 y.says.length yk1) := HYB.out.c 2 (by simp)
                  have y3 : wq1.cell? ⟨w6.heap.size, 3, none⟩ = some (.slice yp2 y.uses.length yk2) := HYB.out.c 3 (by simp)
                  have y4 : wq1.cell? ⟨w6.heap.size, 4, none⟩ = some (.slice yp3 y.proof.length yk3) := HYB.out.c 4 (by simp)
                  have z0 : wq1.cell? ⟨w7.heap.size, 0, none⟩ = some (.string z.name) := HZB.out.c 0 (by simp)
                  have z1 : wq1.cell? ⟨w7.heap.size, 1, none⟩ = some (.string z.who) := HZB.out.c 1 (by simp)
                  have z2 : wq1.cell? ⟨w7.heap.size, 2, none⟩ = some (.slice zp1 z.says.length zk1) := HZB.out.c 2 (by simp)
                  have z3 : wq1.cell? ⟨w7.heap.size, 3, none⟩ = some (.slice zp2 z.uses.length zk2) := HZB.out.c 3 (by simp)
                  have z4 : wq1.cell? ⟨w7.heap.size, 4, none⟩ = some (.slice zp3 z.proof.length zk3) := HZB.out.c 4 (by simp)
                  have HSM := hid (ref9_Same _ _ _ _ _ _ x y wq1 (HENX.out.below (HGR.out.trans (HRc.out.mono HGR.out.size))) (HENY.out.below (HGR.out.trans (HRc.out.mono HGR.out.size))))
                  by_cases hbK : x = y
                  case pos =>
                    rw [decide_eq_true hbK] at HSM
                    have HXY := hid hbK
                    clear hbK
                    go_wp2_with (first | rw [HW7.out])
                    refine HSM.out.mono ?_
                    rintro e wq2 ⟨rfl, hbN⟩
                    clear x0 x1 x2 x3 x4 y0 y1 y2 y3 y4 z0 z1 z2 z3 z4
                    have HXB := hid (HXB.out.below (by simp) hbN)
                    have HYB := hid (HYB.out.below (by simp) hbN)
                    have HZB := hid (HZB.out.below (by simp) hbN)
                    have HRc := hid (HRc.out.trans (hbN.mono HRc.out.size))
                    clear HSM hbN
                    have x0 : wq2.cell? ⟨w5.heap.size, 0, none⟩ = some (.string x.name) := HXB.out.c 0 (by simp)
                    have x1 : wq2.cell? ⟨w5.heap.size, 1, none⟩ = some (.string x.who) := HXB.out.c 1 (by simp)
                    have x2 : wq2.cell? ⟨w5.heap.size, 2, none⟩ = some (.slice xp1 x.says.length xk1) := HXB.out.c 2 (by simp)
                    have x3 : wq2.cell? ⟨w5.heap.size, 3, none⟩ = some (.slice xp2 x.uses.length xk2) := HXB.out.c 3 (by simp)
                    have x4 : wq2.cell? ⟨w5.heap.size, 4, none⟩ = some (.slice xp3 x.proof.length xk3) := HXB.out.c 4 (by simp)
                    have y0 : wq2.cell? ⟨w6.heap.size, 0, none⟩ = some (.string y.name) := HYB.out.c 0 (by simp)
                    have y1 : wq2.cell? ⟨w6.heap.size, 1, none⟩ = some (.string y.who) := HYB.out.c 1 (by simp)
                    have y2 : wq2.cell? ⟨w6.heap.size, 2, none⟩ = some (.slice yp1 y.says.length yk1) := HYB.out.c 2 (by simp)
                    have y3 : wq2.cell? ⟨w6.heap.size, 3, none⟩ = some (.slice yp2 y.uses.length yk2) := HYB.out.c 3 (by simp)
                    have y4 : wq2.cell? ⟨w6.heap.size, 4, none⟩ = some (.slice yp3 y.proof.length yk3) := HYB.out.c 4 (by simp)
                    have z0 : wq2.cell? ⟨w7.heap.size, 0, none⟩ = some (.string z.name) := HZB.out.c 0 (by simp)
                    have z1 : wq2.cell? ⟨w7.heap.size, 1, none⟩ = some (.string z.who) := HZB.out.c 1 (by simp)
                    have z2 : wq2.cell? ⟨w7.heap.size, 2, none⟩ = some (.slice zp1 z.says.length zk1) := HZB.out.c 2 (by simp)
                    have z3 : wq2.cell? ⟨w7.heap.size, 3, none⟩ = some (.slice zp2 z.uses.length zk2) := HZB.out.c 3 (by simp)
                    have z4 : wq2.cell? ⟨w7.heap.size, 4, none⟩ = some (.slice zp3 z.proof.length zk3) := HZB.out.c 4 (by simp)
                    obtain ⟨W8, hW8⟩ : ∃ W8, wq2.setCells w6.heap.size 0 [.string z.name, .string z.who, .slice zp1 z.says.length zk1, .slice zp2 z.uses.length zk2, .slice zp3 z.proof.length zk3] = W8 := ⟨_, rfl⟩
                    have hX8 := BX.sets [.string z.name, .string z.who, .slice zp1 z.says.length zk1, .slice zp2 z.uses.length zk2, .slice zp3 z.proof.length zk3] 0 HYB.out (by simp)
                    rw [hW8] at hX8
                    have f0 := HYB.out.z 0
                    have f1 := HYB.out.z 1
                    have f2 := HYB.out.z 2
                    have f3 := HYB.out.z 3
                    have f4 := HYB.out.z 4
                    have hsets : (((((wq2.setCell ⟨w6.heap.size, 0, none⟩ (.string z.name)).setCell ⟨w6.heap.size, 1, none⟩ (.string z.who)).setCell ⟨w6.heap.size, 2, none⟩ (.slice zp1 z.says.length zk1)).setCell ⟨w6.heap.size, 3, none⟩ (.slice zp2 z.uses.length zk2)).setCell ⟨w6.heap.size, 4, none⟩ (.slice zp3 z.proof.length zk3)) = W8 := hW8
                    have HSETS := hid hsets
                    have HYB : Hid (BX W8 w6.heap.size [.string z.name, .string z.who, .slice zp1 z.says.length zk1, .slice zp2 z.uses.length zk2, .slice zp3 z.proof.length zk3]) := hid hX8
                    have HRc : Hid (Below wr.heap.size wr W8) := hid (hW8 ▸ blw_setsM HRc.out HZ6.out 0 _)
                    have q0 : W8.cell? ⟨w6.heap.size, 0, none⟩ = some (.string z.name) := HYB.out.c 0 (by simp)
                    have q1 : W8.cell? ⟨w6.heap.size, 1, none⟩ = some (.string z.who) := HYB.out.c 1 (by simp)
                    have q2 : W8.cell? ⟨w6.heap.size, 2, none⟩ = some (.slice zp1 z.says.length zk1) := HYB.out.c 2 (by simp)
                    have q3 : W8.cell? ⟨w6.heap.size, 3, none⟩ = some (.slice zp2 z.uses.length zk2) := HYB.out.c 3 (by simp)
                    have q4 : W8.cell? ⟨w6.heap.size, 4, none⟩ = some (.slice zp3 z.proof.length zk3) := HYB.out.c 4 (by simp)
                    clear hW8 hX8 hsets
                    have HPC : Hid (bdN base a b n = false) := hid (by rw [HPC0.out]; unfold pkC; simp [HXY.out])
                    have HPV : Hid (pkN base a b n = z) := hid (by rw [HPK.out]; unfold pkE; rw [if_neg HYZ.out, if_pos HXY.out])
                    have HBWQ := hid (HBFR.out.trans (HRc.out.mono hszr))
                    have HOK := hid (HOWN.out.below HRc.out)
                    have HBDQ := hid (owns_below HBDW.out HRc.out)
                    have HAVQ := HAV
                    have hem : z.name = em := by have h := HFLZ.out; simpa using h
                    have HST1 : Hid (outR base a b (M.take (k + 1)) = O ∧ (M.take (k + 1)).filter (bdN base a b) = Bd) := hid (by
                      rw [HOT.out, HBT.out, HPC.out, HKN.out, HPV.out]; simp [hem])
                    clear hem
                    go_wp2_with (first | rw [HSETS.out] | rw [HW7.out])
                    go_roundw
                    case rel => exact ⟨k + 1, m, nb, O, vso, Bd, by omega, by go_num, HST1.out.1.symm, HOL.out, by omega, HST1.out.2.symm, HBL.out, by omega, HOK.out, HAV.out, HBDQ.out, HBWQ.out⟩
                    case measure => simp [intOf]; omega
                  case neg =>
                    rw [decide_eq_false hbK] at HSM
                    have HXY := hid hbK
                    clear hbK
                    go_wp2_with (first | rw [HW7.out])
                    refine HSM.out.mono ?_
                    rintro e wq2 ⟨rfl, hbN⟩
                    clear x0 x1 x2 x3 x4 y0 y1 y2 y3 y4 z0 z1 z2 z3 z4
                    have HXB := hid (HXB.out.below (by simp) hbN)
                    have HYB := hid (HYB.out.below (by simp) hbN)
                    have HZB := hid (HZB.out.below (by simp) hbN)
                    have HRc := hid (HRc.out.trans (hbN.mono HRc.out.size))
                    clear HSM hbN
                    have x0 : wq2.cell? ⟨w5.heap.size, 0, none⟩ = some (.string x.name) := HXB.out.c 0 (by simp)
                    have x1 : wq2.cell? ⟨w5.heap.size, 1, none⟩ = some (.string x.who) := HXB.out.c 1 (by simp)
                    have x2 : wq2.cell? ⟨w5.heap.size, 2, none⟩ = some (.slice xp1 x.says.length xk1) := HXB.out.c 2 (by simp)
                    have x3 : wq2.cell? ⟨w5.heap.size, 3, none⟩ = some (.slice xp2 x.uses.length xk2) := HXB.out.c 3 (by simp)
                    have x4 : wq2.cell? ⟨w5.heap.size, 4, none⟩ = some (.slice xp3 x.proof.length xk3) := HXB.out.c 4 (by simp)
                    have y0 : wq2.cell? ⟨w6.heap.size, 0, none⟩ = some (.string y.name) := HYB.out.c 0 (by simp)
                    have y1 : wq2.cell? ⟨w6.heap.size, 1, none⟩ = some (.string y.who) := HYB.out.c 1 (by simp)
                    have y2 : wq2.cell? ⟨w6.heap.size, 2, none⟩ = some (.slice yp1 y.says.length yk1) := HYB.out.c 2 (by simp)
                    have y3 : wq2.cell? ⟨w6.heap.size, 3, none⟩ = some (.slice yp2 y.uses.length yk2) := HYB.out.c 3 (by simp)
                    have y4 : wq2.cell? ⟨w6.heap.size, 4, none⟩ = some (.slice yp3 y.proof.length yk3) := HYB.out.c 4 (by simp)
                    have z0 : wq2.cell? ⟨w7.heap.size, 0, none⟩ = some (.string z.name) := HZB.out.c 0 (by simp)
                    have z1 : wq2.cell? ⟨w7.heap.size, 1, none⟩ = some (.string z.who) := HZB.out.c 1 (by simp)
                    have z2 : wq2.cell? ⟨w7.heap.size, 2, none⟩ = some (.slice zp1 z.says.length zk1) := HZB.out.c 2 (by simp)
                    have z3 : wq2.cell? ⟨w7.heap.size, 3, none⟩ = some (.slice zp2 z.uses.length zk2) := HZB.out.c 3 (by simp)
                    have z4 : wq2.cell? ⟨w7.heap.size, 4, none⟩ = some (.slice zp3 z.proof.length zk3) := HZB.out.c 4 (by simp)
                    have HSM := hid (ref9_Same _ _ _ _ _ _ x z wq2 (HENX.out.below (HGR.out.trans (HRc.out.mono HGR.out.size))) (HENZ.out.below (HGR.out.trans (HRc.out.mono HGR.out.size))))
                    by_cases hbK : x = z
                    case pos =>
                      rw [decide_eq_true hbK] at HSM
                      have HXZ := hid hbK
                      clear hbK
                      go_wp2_with (first | rw [HW7.out])
                      refine HSM.out.mono ?_
                      rintro e wq3 ⟨rfl, hbN⟩
                      clear x0 x1 x2 x3 x4 y0 y1 y2 y3 y4 z0 z1 z2 z3 z4
                      have HXB := hid (HXB.out.below (by simp) hbN)
                      have HYB := hid (HYB.out.below (by simp) hbN)
                      have HZB := hid (HZB.out.below (by simp) hbN)
                      have HRc := hid (HRc.out.trans (hbN.mono HRc.out.size))
                      clear HSM hbN
                      have x0 : wq3.cell? ⟨w5.heap.size, 0, none⟩ = some (.string x.name) := HXB.out.c 0 (by simp)
                      have x1 : wq3.cell? ⟨w5.heap.size, 1, none⟩ = some (.string x.who) := HXB.out.c 1 (by simp)
                      have x2 : wq3.cell? ⟨w5.heap.size, 2, none⟩ = some (.slice xp1 x.says.length xk1) := HXB.out.c 2 (by simp)
                      have x3 : wq3.cell? ⟨w5.heap.size, 3, none⟩ = some (.slice xp2 x.uses.length xk2) := HXB.out.c 3 (by simp)
                      have x4 : wq3.cell? ⟨w5.heap.size, 4, none⟩ = some (.slice xp3 x.proof.length xk3) := HXB.out.c 4 (by simp)
                      have y0 : wq3.cell? ⟨w6.heap.size, 0, none⟩ = some (.string y.name) := HYB.out.c 0 (by simp)
                      have y1 : wq3.cell? ⟨w6.heap.size, 1, none⟩ = some (.string y.who) := HYB.out.c 1 (by simp)
                      have y2 : wq3.cell? ⟨w6.heap.size, 2, none⟩ = some (.slice yp1 y.says.length yk1) := HYB.out.c 2 (by simp)
                      have y3 : wq3.cell? ⟨w6.heap.size, 3, none⟩ = some (.slice yp2 y.uses.length yk2) := HYB.out.c 3 (by simp)
                      have y4 : wq3.cell? ⟨w6.heap.size, 4, none⟩ = some (.slice yp3 y.proof.length yk3) := HYB.out.c 4 (by simp)
                      have z0 : wq3.cell? ⟨w7.heap.size, 0, none⟩ = some (.string z.name) := HZB.out.c 0 (by simp)
                      have z1 : wq3.cell? ⟨w7.heap.size, 1, none⟩ = some (.string z.who) := HZB.out.c 1 (by simp)
                      have z2 : wq3.cell? ⟨w7.heap.size, 2, none⟩ = some (.slice zp1 z.says.length zk1) := HZB.out.c 2 (by simp)
                      have z3 : wq3.cell? ⟨w7.heap.size, 3, none⟩ = some (.slice zp2 z.uses.length zk2) := HZB.out.c 3 (by simp)
                      have z4 : wq3.cell? ⟨w7.heap.size, 4, none⟩ = some (.slice zp3 z.proof.length zk3) := HZB.out.c 4 (by simp)
                      have HPC : Hid (bdN base a b n = false) := hid (by rw [HPC0.out]; unfold pkC; simp [HXZ.out])
                      have HPV : Hid (pkN base a b n = y) := hid (by rw [HPK.out]; unfold pkE; rw [if_neg HYZ.out, if_neg HXY.out])
                      have HBWQ := hid (HBFR.out.trans (HRc.out.mono hszr))
                      have HOK := hid (HOWN.out.below HRc.out)
                      have HBDQ := hid (owns_below HBDW.out HRc.out)
                      have HAVQ := HAV
                      have hem : y.name = em := by have h := HFLY.out; simpa using h
                      have HST1 : Hid (outR base a b (M.take (k + 1)) = O ∧ (M.take (k + 1)).filter (bdN base a b) = Bd) := hid (by
                        rw [HOT.out, HBT.out, HPC.out, HKN.out, HPV.out]; simp [hem])
                      clear hem
                      go_wp2_with (first | rw [HW7.out])
                      go_roundw
                      case rel => exact ⟨k + 1, m, nb, O, vso, Bd, by omega, by go_num, HST1.out.1.symm, HOL.out, by omega, HST1.out.2.symm, HBL.out, by omega, HOK.out, HAV.out, HBDQ.out, HBWQ.out⟩
                      case measure => simp [intOf]; omega
                    case neg =>
                      rw [decide_eq_false hbK] at HSM
                      have HXZ := hid hbK
                      clear hbK
                      go_wp2_with (first | rw [HW7.out])
                      refine HSM.out.mono ?_
                      rintro e wq3 ⟨rfl, hbN⟩
                      clear x0 x1 x2 x3 x4 y0 y1 y2 y3 y4 z0 z1 z2 z3 z4
                      have HXB := hid (HXB.out.below (by simp) hbN)
                      have HYB := hid (HYB.out.below (by simp) hbN)
                      have HZB := hid (HZB.out.below (by simp) hbN)
                      have HRc := hid (HRc.out.trans (hbN.mono HRc.out.size))
                      clear HSM hbN
                      have x0 : wq3.cell? ⟨w5.heap.size, 0, none⟩ = some (.string x.name) := HXB.out.c 0 (by simp)
                      have x1 : wq3.cell? ⟨w5.heap.size, 1, none⟩ = some (.string x.who) := HXB.out.c 1 (by simp)
                      have x2 : wq3.cell? ⟨w5.heap.size, 2, none⟩ = some (.slice xp1 x.says.length xk1) := HXB.out.c 2 (by simp)
                      have x3 : wq3.cell? ⟨w5.heap.size, 3, none⟩ = some (.slice xp2 x.uses.length xk2) := HXB.out.c 3 (by simp)
                      have x4 : wq3.cell? ⟨w5.heap.size, 4, none⟩ = some (.slice xp3 x.proof.length xk3) := HXB.out.c 4 (by simp)
                      have y0 : wq3.cell? ⟨w6.heap.size, 0, none⟩ = some (.string y.name) := HYB.out.c 0 (by simp)
                      have y1 : wq3.cell? ⟨w6.heap.size, 1, none⟩ = some (.string y.who) := HYB.out.c 1 (by simp)
                      have y2 : wq3.cell? ⟨w6.heap.size, 2, none⟩ = some (.slice yp1 y.says.length yk1) := HYB.out.c 2 (by simp)
                      have y3 : wq3.cell? ⟨w6.heap.size, 3, none⟩ = some (.slice yp2 y.uses.length yk2) := HYB.out.c 3 (by simp)
                      have y4 : wq3.cell? ⟨w6.heap.size, 4, none⟩ = some (.slice yp3 y.proof.length yk3) := HYB.out.c 4 (by simp)
                      have z0 : wq3.cell? ⟨w7.heap.size, 0, none⟩ = some (.string z.name) := HZB.out.c 0 (by simp)
                      have z1 : wq3.cell? ⟨w7.heap.size, 1, none⟩ = some (.string z.who) := HZB.out.c 1 (by simp)
                      have z2 : wq3.cell? ⟨w7.heap.size, 2, none⟩ = some (.slice zp1 z.says.length zk1) := HZB.out.c 2 (by simp)
                      have z3 : wq3.cell? ⟨w7.heap.size, 3, none⟩ = some (.slice zp2 z.uses.length zk2) := HZB.out.c 3 (by simp)
                      have z4 : wq3.cell? ⟨w7.heap.size, 4, none⟩ = some (.slice zp3 z.proof.length zk3) := HZB.out.c 4 (by simp)
                      have hbd1 : bdN base a b n = true := by
                        rw [HPC0.out]; unfold pkC; rw [decide_eq_false HYZ.out, decide_eq_false HXY.out, decide_eq_false HXZ.out]; rfl
                      have HPV : Hid (pkN base a b n = y) := hid (by rw [HPK.out]; unfold pkE; rw [if_neg HYZ.out, if_neg HXY.out])
                      have cn : wq3.cell? ⟨g0, k, none⟩ = some (.string n) := HCN.out wq3 HRc.out
                      have HOK := hid (HOWN.out.below HRc.out)
                      have HBDQ := hid (owns_below HBDW.out HRc.out)
                      have HFA := hid (HBFR.out.trans (HRc.out.mono hszr))
                      obtain ⟨ca, cc, rfl⟩ := owns_slice HBDW.out
                      have hRA := HBDQ.out.alloc (.cells #[.string n] 9)
                      have HBLT := hid (show Below wq3.heap.size wq3 (wq3.alloc (.cells #[.string n] 9)) from (Below.refl _ _).alloc (Nat.le_refl _) _)
                      have hzF : wF.heap.size ≤ wq3.heap.size := HFA.out.size
                      have HNE := hid (show some w6.heap.size ≠ (Value.slice ca nb cc).ownBlock from fun e => by have h1 := (HBDW.out.lt _ e.symm).2; have h2 := HZ6.out; omega)
                      have HYL := hid (show w6.heap.size < (wq3.alloc (.cells #[.string n] 9)).heap.size from (HYB.out.below (by simp) HBLT.out).lt (by simp))
                      have HYA := hid (HYB.out.below (by simp) HBLT.out)
                      have hem : y.name = em := by have h := HFLY.out; simpa using h
                      have HST1 : Hid (outR base a b (M.take (k + 1)) = O ∧ (M.take (k + 1)).filter (bdN base a b) = Bd ++ [n]) := hid (by
                        rw [HOT.out, HBT.out, hbd1, HKN.out, HPV.out]; simp [hem])
                      clear hem hbd1
                      go_wp2_with (first | rw [HW7.out] | (at_builtin; refine wpList_append_lie rfl _ _ 38 rfl wF.heap.size 9 el_str Tryz.underlying38 rfl (by decide) _ nb (Bd.map Value.string) rfl hRA _ 1 [.string n] rfl (row_one_new _ _ _) (oneCell_one rfl) (by omega) (by omega) (by omega) (by simp; omega) _ rfl ?_; intro g8 cap8 w8 hown8 hgrow8 hat8 hlt8))
                      go_roundw
                      case rel =>
                        have hEA := HOK.out.below HBLT.out
                        have hE8 := hEA.off HAV.out (W' := w8) (fun q hq hne => hgrow8.block q hq hne)
                        have hav8 : AvB (Value.slice (some ⟨g8, 0, none⟩) (nb + 1) cap8).ownBlock ul vso := AvB.fresh hEA HAV.out (g := g8) (by simp) hat8
                        have hown9 : w8.ownsRow wF.heap.size 9 1 (.slice (some ⟨g8, 0, none⟩) (nb + 1) cap8) (nb + 1) ((Bd ++ [n]).map Value.string) := by simpa using hown8
                        have hb8 : Below wF.heap.size wF w8 := (HFA.out.trans (HBLT.out.mono HFA.out.size)).grown hgrow8 (Nat.le_trans HFA.out.size HBLT.out.size) (fun q hq => (HBDQ.out.lt q hq).1)
                        exact ⟨k + 1, m, nb + 1, O, vso, Bd ++ [n], by omega, by go_num, HST1.out.1.symm, HOL.out, by omega, HST1.out.2.symm, by simp [HBL.out], by omega, hE8, hav8, hown9, hb8⟩
                      case measure => simp [intOf]; omega
              case true =>
                have x0 : W7.cell? ⟨w5.heap.size, 0, none⟩ = some (.string x.name) := HXB.out.c 0 (by simp)
                have x1 : W7.cell? ⟨w5.heap.size, 1, none⟩ = some (.string x.who) := HXB.out.c 1 (by simp)
                have x2 : W7.cell? ⟨w5.heap.size, 2, none⟩ = some (.slice xp1 x.says.length xk1) := HXB.out.c 2 (by simp)
                have x3 : W7.cell? ⟨w5.heap.size, 3, none⟩ = some (.slice xp2 x.uses.length xk2) := HXB.out.c 3 (by simp)
                have x4 : W7.cell? ⟨w5.heap.size, 4, none⟩ = some (.slice xp3 x.proof.length xk3) := HXB.out.c 4 (by simp)
                have y0 : W7.cell? ⟨w6.heap.size, 0, none⟩ = some (.string y.name) := HYB.out.c 0 (by simp)
                have y1 : W7.cell? ⟨w6.heap.size, 1, none⟩ = some (.string y.who) := HYB.out.c 1 (by simp)
                have y2 : W7.cell? ⟨w6.heap.size, 2, none⟩ = some (.slice yp1 y.says.length yk1) := HYB.out.c 2 (by simp)
                have y3 : W7.cell? ⟨w6.heap.size, 3, none⟩ = some (.slice yp2 y.uses.length yk2) := HYB.out.c 3 (by simp)
                have y4 : W7.cell? ⟨w6.heap.size, 4, none⟩ = some (.slice yp3 y.proof.length yk3) := HYB.out.c 4 (by simp)
                have z0 : W7.cell? ⟨w7.heap.size, 0, none⟩ = some (.string z.name) := HZB.out.c 0 (by simp)
                have z1 : W7.cell? ⟨w7.heap.size, 1, none⟩ = some (.string z.who) := HZB.out.c 1 (by simp)
                have z2 : W7.cell? ⟨w7.heap.size, 2, none⟩ = some (.slice zp1 z.says.length zk1) := HZB.out.c 2 (by simp)
                have z3 : W7.cell? ⟨w7.heap.size, 3, none⟩ = some (.slice zp2 z.uses.length zk2) := HZB.out.c 3 (by simp)
                have z4 : W7.cell? ⟨w7.heap.size, 4, none⟩ = some (.slice zp3 z.proof.length zk3) := HZB.out.c 4 (by simp)
                have HYZ := hid (show ¬ y = z from fun e => by have h1 := HFLY.out; rw [e] at h1; exact absurd (h1.trans HFLZ.out.symm) (by decide))
                have HSM := hid (ref9_Same _ _ _ _ _ _ x y W7 (HENX.out.below (HGR.out.trans (HRc.out.mono HGR.out.size))) (HENY.out.below (HGR.out.trans (HRc.out.mono HGR.out.size))))
                by_cases hbK : x = y
                case pos =>
                  rw [decide_eq_true hbK] at HSM
                  have HXY := hid hbK
                  clear hbK
                  go_wp2_with (first | rw [HW7.out])
                  refine HSM.out.mono ?_
                  rintro e wq2 ⟨rfl, hbN⟩
                  clear x0 x1 x2 x3 x4 y0 y1 y2 y3 y4 z0 z1 z2 z3 z4
                  have HXB := hid (HXB.out.below (by simp) hbN)
                  have HYB := hid (HYB.out.below (by simp) hbN)
                  have HZB := hid (HZB.out.below (by simp) hbN)
                  have HRc := hid (HRc.out.trans (hbN.mono HRc.out.size))
                  clear HSM hbN
                  have x0 : wq2.cell? ⟨w5.heap.size, 0, none⟩ = some (.string x.name) := HXB.out.c 0 (by simp)
                  have x1 : wq2.cell? ⟨w5.heap.size, 1, none⟩ = some (.string x.who) := HXB.out.c 1 (by simp)
                  have x2 : wq2.cell? ⟨w5.heap.size, 2, none⟩ = some (.slice xp1 x.says.length xk1) := HXB.out.c 2 (by simp)
                  have x3 : wq2.cell? ⟨w5.heap.size, 3, none⟩ = some (.slice xp2 x.uses.length xk2) := HXB.out.c 3 (by simp)
                  have x4 : wq2.cell? ⟨w5.heap.size, 4, none⟩ = some (.slice xp3 x.proof.length xk3) := HXB.out.c 4 (by simp)
                  have y0 : wq2.cell? ⟨w6.heap.size, 0, none⟩ = some (.string y.name) := HYB.out.c 0 (by simp)
                  have y1 : wq2.cell? ⟨w6.heap.size, 1, none⟩ = some (.string y.who) := HYB.out.c 1 (by simp)
                  have y2 : wq2.cell? ⟨w6.heap.size, 2, none⟩ = some (.slice yp1 y.says.length yk1) := HYB.out.c 2 (by simp)
                  have y3 : wq2.cell? ⟨w6.heap.size, 3, none⟩ = some (.slice yp2 y.uses.length yk2) := HYB.out.c 3 (by simp)
                  have y4 : wq2.cell? ⟨w6.heap.size, 4, none⟩ = some (.slice yp3 y.proof.length yk3) := HYB.out.c 4 (by simp)
                  have z0 : wq2.cell? ⟨w7.heap.size, 0, none⟩ = some (.string z.name) := HZB.out.c 0 (by simp)
                  have z1 : wq2.cell? ⟨w7.heap.size, 1, none⟩ = some (.string z.who) := HZB.out.c 1 (by simp)
                  have z2 : wq2.cell? ⟨w7.heap.size, 2, none⟩ = some (.slice zp1 z.says.length zk1) := HZB.out.c 2 (by simp)
                  have z3 : wq2.cell? ⟨w7.heap.size, 3, none⟩ = some (.slice zp2 z.uses.length zk2) := HZB.out.c 3 (by simp)
                  have z4 : wq2.cell? ⟨w7.heap.size, 4, none⟩ = some (.slice zp3 z.proof.length zk3) := HZB.out.c 4 (by simp)
                  obtain ⟨W8, hW8⟩ : ∃ W8, wq2.setCells w6.heap.size 0 [.string z.name, .string z.who, .slice zp1 z.says.length zk1, .slice zp2 z.uses.length zk2, .slice zp3 z.proof.length zk3] = W8 := ⟨_, rfl⟩
                  have hX8 := BX.sets [.string z.name, .string z.who, .slice zp1 z.says.length zk1, .slice zp2 z.uses.length zk2, .slice zp3 z.proof.length zk3] 0 HYB.out (by simp)
                  rw [hW8] at hX8
                  have f0 := HYB.out.z 0
                  have f1 := HYB.out.z 1
                  have f2 := HYB.out.z 2
                  have f3 := HYB.out.z 3
                  have f4 := HYB.out.z 4
                  have hsets : (((((wq2.setCell ⟨w6.heap.size, 0, none⟩ (.string z.name)).setCell ⟨w6.heap.size, 1, none⟩ (.string z.who)).setCell ⟨w6.heap.size, 2, none⟩ (.slice zp1 z.says.length zk1)).setCell ⟨w6.heap.size, 3, none⟩ (.slice zp2 z.uses.length zk2)).setCell ⟨w6.heap.size, 4, none⟩ (.slice zp3 z.proof.length zk3)) = W8 := hW8
                  have HSETS := hid hsets
                  have HYB : Hid (BX W8 w6.heap.size [.string z.name, .string z.who, .slice zp1 z.says.length zk1, .slice zp2 z.uses.length zk2, .slice zp3 z.proof.length zk3]) := hid hX8
                  have HRc : Hid (Below wr.heap.size wr W8) := hid (hW8 ▸ blw_setsM HRc.out HZ6.out 0 _)
                  have q0 : W8.cell? ⟨w6.heap.size, 0, none⟩ = some (.string z.name) := HYB.out.c 0 (by simp)
                  have q1 : W8.cell? ⟨w6.heap.size, 1, none⟩ = some (.string z.who) := HYB.out.c 1 (by simp)
                  have q2 : W8.cell? ⟨w6.heap.size, 2, none⟩ = some (.slice zp1 z.says.length zk1) := HYB.out.c 2 (by simp)
                  have q3 : W8.cell? ⟨w6.heap.size, 3, none⟩ = some (.slice zp2 z.uses.length zk2) := HYB.out.c 3 (by simp)
                  have q4 : W8.cell? ⟨w6.heap.size, 4, none⟩ = some (.slice zp3 z.proof.length zk3) := HYB.out.c 4 (by simp)
                  clear hW8 hX8 hsets
                  have HPC : Hid (bdN base a b n = false) := hid (by rw [HPC0.out]; unfold pkC; simp [HXY.out])
                  have HPV : Hid (pkN base a b n = z) := hid (by rw [HPK.out]; unfold pkE; rw [if_neg HYZ.out, if_pos HXY.out])
                  have HBWQ := hid (HBFR.out.trans (HRc.out.mono hszr))
                  have HOK := hid (HOWN.out.below HRc.out)
                  have HBDQ := hid (owns_below HBDW.out HRc.out)
                  have HAVQ := HAV
                  have hem : ¬ z.name = em := by have h := HFLZ.out; simpa using h
                  have HST1 : Hid (outR base a b (M.take (k + 1)) = O ++ [z] ∧ (M.take (k + 1)).filter (bdN base a b) = Bd) := hid (by
                    rw [HOT.out, HBT.out, HPC.out, HKN.out, HPV.out]; simp [hem])
                  have hsm := HSMZ.out hem
                  have HCP := hid (ref9_copied (.slice zp1 z.says.length zk1) (.slice zp2 z.uses.length zk2) (.slice zp3 z.proof.length zk3) z W8 (HENZ.out.below (HBWF.out.trans (HBWQ.out.mono HBWF.out.size))) hsm.2.1 hsm.2.2.1 hsm.2.2.2)
                  have HE := HOK
                  have HB := HBWQ
                  have HLEN := HOL
                  obtain ⟨la, lc, rfl⟩ : ∃ a c, ul = .slice a m c := HOL.out ▸ HOK.out.slice
                  clear hem
                  go_wp2_with (first | rw [HSETS.out] | rw [HW7.out])
                  refine HCP.out.mono ?_; rintro e w9 ⟨v, rfl, ⟨vS, vU, vP, rfl, hO⟩, hb2⟩; obtain ⟨a1, k1, rfl⟩ := owns_slice hO.s; obtain ⟨a2, k2, rfl⟩ := owns_slice hO.u; obtain ⟨a3, k3, rfl⟩ := owns_slice hO.p; have HE2 := hid (HE.out.below hb2); have HBR2 := hid hb2; have HO2 := hid hO; have HB2 := hid (HB.out.trans (hb2.mono HB.out.size)); have HU := hid HE.out.top.lt; have hown2 := HE2.out.top; rw [HLEN.out] at hown2; have hownA := hown2.alloc (.cells #[.string z.name, .string z.who, .slice a1 z.says.length k1, .slice a2 z.uses.length k2, .slice a3 z.proof.length k3] 41); have HROW := hid (row_one_ent w9 (.string z.name) (.string z.who) (.slice a1 z.says.length k1) (.slice a2 z.uses.length k2) (.slice a3 z.proof.length k3) 41); have hwz := HB2.out.size; clear hO hb2 hown2
                  go_wp2_with (at_builtin; go_loud (refine wpList_append_lie rfl _ _ 24 rfl wF.heap.size 41 el_ent Tryz.underlying24 rfl (by decide) _ (m) (ensC O vso) rfl hownA _ 1 (enC z (.slice a1 z.says.length k1, .slice a2 z.uses.length k2, .slice a3 z.proof.length k3)) rfl HROW.out (enC_one _ _ _ _ _ _ _ _ _ _) (by omega) (by omega) (by omega) (by simp; omega) _ rfl ?_; intro g cap w4 hown4 hgrow4 hat4 hlt4; have hB4 := (HB2.out.alloc HB2.out.size (.cells #[.string z.name, .string z.who, .slice a1 z.says.length k1, .slice a2 z.uses.length k2, .slice a3 z.proof.length k3] 41)).grown hgrow4 (by simp; omega) (fun q hq => (HU.out q hq).1)))
                  go_roundw
                  case rel =>
                    have hba : Below w9.heap.size w9 (w9.alloc (.cells #[.string z.name, .string z.who, .slice a1 z.says.length k1, .slice a2 z.uses.length k2, .slice a3 z.proof.length k3] 41)) := (Below.refl _ _).alloc (Nat.le_refl _) _; have hE4 := HE.out.push (w1 := w9.alloc _) (HBR2.out.trans (hba.mono HBR2.out.size)) (HO2.out.blocks (Nat.le_refl _) fun q _ hq => hba.block q hq) HB.out.size HLEN.out.symm hown4 hgrow4
                    have hxq : ∀ q, uc.ownBlock = some q → q < W8.heap.size := fun q hq => (HBDQ.out.lt q hq).2
                    have hw9 := HBR2.out.size
                    have hav4 := HAVQ.out.push (g := g) (n := m + 1) (c := cap) (v := (.slice a1 z.says.length k1, .slice a2 z.uses.length k2, .slice a3 z.proof.length k3)) hat4 hxq (by simp; omega) (fun q hq => (by
                      rcases hq with hq | hq | hq
                      · exact (HO2.out.s.lt q hq).1
                      · exact (HO2.out.u.lt q hq).1
                      · exact (HO2.out.p.lt q hq).1))
                    have hbd4 := owns_blocks (owns_below HBDQ.out (HBR2.out.trans ((show Below w9.heap.size w9 (w9.alloc (.cells #[.string z.name, .string z.who, .slice a1 z.says.length k1, .slice a2 z.uses.length k2, .slice a3 z.proof.length k3] 41)) from (Below.refl _ _).alloc (Nat.le_refl _) _).mono HBR2.out.size))) fun q _ h2 h3 => hgrow4.block q h2 (fun e => HAVQ.out.1 q e.symm h3.symm)
                    exact ⟨k + 1, m + 1, nb, O ++ [z], vso ++ [(.slice a1 z.says.length k1, .slice a2 z.uses.length k2, .slice a3 z.proof.length k3)], Bd, by omega, by go_num, HST1.out.1.symm, by simp [HOL.out], by omega, HST1.out.2.symm, HBL.out, by omega, hE4, hav4, hbd4, hB4⟩
                  case measure => simp [intOf]; omega
                case neg =>
                  rw [decide_eq_false hbK] at HSM
                  have HXY := hid hbK
                  clear hbK
                  go_wp2_with (first | rw [HW7.out])
                  refine HSM.out.mono ?_
                  rintro e wq2 ⟨rfl, hbN⟩
                  clear x0 x1 x2 x3 x4 y0 y1 y2 y3 y4 z0 z1 z2 z3 z4
                  have HXB := hid (HXB.out.below (by simp) hbN)
                  have HYB := hid (HYB.out.below (by simp) hbN)
                  have HZB := hid (HZB.out.below (by simp) hbN)
                  have HRc := hid (HRc.out.trans (hbN.mono HRc.out.size))
                  clear HSM hbN
                  have x0 : wq2.cell? ⟨w5.heap.size, 0, none⟩ = some (.string x.name) := HXB.out.c 0 (by simp)
                  have x1 : wq2.cell? ⟨w5.heap.size, 1, none⟩ = some (.string x.who) := HXB.out.c 1 (by simp)
                  have x2 : wq2.cell? ⟨w5.heap.size, 2, none⟩ = some (.slice xp1 x.says.length xk1) := HXB.out.c 2 (by simp)
                  have x3 : wq2.cell? ⟨w5.heap.size, 3, none⟩ = some (.slice xp2 x.uses.length xk2) := HXB.out.c 3 (by simp)
                  have x4 : wq2.cell? ⟨w5.heap.size, 4, none⟩ = some (.slice xp3 x.proof.length xk3) := HXB.out.c 4 (by simp)
                  have y0 : wq2.cell? ⟨w6.heap.size, 0, none⟩ = some (.string y.name) := HYB.out.c 0 (by simp)
                  have y1 : wq2.cell? ⟨w6.heap.size, 1, none⟩ = some (.string y.who) := HYB.out.c 1 (by simp)
                  have y2 : wq2.cell? ⟨w6.heap.size, 2, none⟩ = some (.slice yp1 y.says.length yk1) := HYB.out.c 2 (by simp)
                  have y3 : wq2.cell? ⟨w6.heap.size, 3, none⟩ = some (.slice yp2 y.uses.length yk2) := HYB.out.c 3 (by simp)
                  have y4 : wq2.cell? ⟨w6.heap.size, 4, none⟩ = some (.slice yp3 y.proof.length yk3) := HYB.out.c 4 (by simp)
                  have z0 : wq2.cell? ⟨w7.heap.size, 0, none⟩ = some (.string z.name) := HZB.out.c 0 (by simp)
                  have z1 : wq2.cell? ⟨w7.heap.size, 1, none⟩ = some (.string z.who) := HZB.out.c 1 (by simp)
                  have z2 : wq2.cell? ⟨w7.heap.size, 2, none⟩ = some (.slice zp1 z.says.length zk1) := HZB.out.c 2 (by simp)
                  have z3 : wq2.cell? ⟨w7.heap.size, 3, none⟩ = some (.slice zp2 z.uses.length zk2) := HZB.out.c 3 (by simp)
                  have z4 : wq2.cell? ⟨w7.heap.size, 4, none⟩ = some (.slice zp3 z.proof.length zk3) := HZB.out.c 4 (by simp)
                  have HXZ := hid (show ¬ x = z from fun e => by have h1 := HFLX.out; rw [e] at h1; exact absurd (h1.trans HFLZ.out.symm) (by decide))
                  have hbd1 : bdN base a b n = true := by
                    rw [HPC0.out]; unfold pkC; rw [decide_eq_false HYZ.out, decide_eq_false HXY.out, decide_eq_false HXZ.out]; rfl
                  have HPV : Hid (pkN base a b n = y) := hid (by rw [HPK.out]; unfold pkE; rw [if_neg HYZ.out, if_neg HXY.out])
                  have cn : wq2.cell? ⟨g0, k, none⟩ = some (.string n) := HCN.out wq2 HRc.out
                  have HOK := hid (HOWN.out.below HRc.out)
                  have HBDQ := hid (owns_below HBDW.out HRc.out)
                  have HFA := hid (HBFR.out.trans (HRc.out.mono hszr))
                  obtain ⟨ca, cc, rfl⟩ := owns_slice HBDW.out
                  have hRA := HBDQ.out.alloc (.cells #[.string n] 9)
                  have HBLT := hid (show Below wq2.heap.size wq2 (wq2.alloc (.cells #[.string n] 9)) from (Below.refl _ _).alloc (Nat.le_refl _) _)
                  have hzF : wF.heap.size ≤ wq2.heap.size := HFA.out.size
                  have HNE := hid (show some w6.heap.size ≠ (Value.slice ca nb cc).ownBlock from fun e => by have h1 := (HBDW.out.lt _ e.symm).2; have h2 := HZ6.out; omega)
                  have HYL := hid (show w6.heap.size < (wq2.alloc (.cells #[.string n] 9)).heap.size from (HYB.out.below (by simp) HBLT.out).lt (by simp))
                  have HYA := hid (HYB.out.below (by simp) HBLT.out)
                  have hem : y.name = em := by have h := HFLY.out; simpa using h
                  have HST1 : Hid (outR base a b (M.take (k + 1)) = O ∧ (M.take (k + 1)).filter (bdN base a b) = Bd ++ [n]) := hid (by
                    rw [HOT.out, HBT.out, hbd1, HKN.out, HPV.out]; simp [hem])
                  clear hem hbd1
                  go_wp2_with (first | rw [HW7.out] | (at_builtin; refine wpList_append_lie rfl _ _ 38 rfl wF.heap.size 9 el_str Tryz.underlying38 rfl (by decide) _ nb (Bd.map Value.string) rfl hRA _ 1 [.string n] rfl (row_one_new _ _ _) (oneCell_one rfl) (by omega) (by omega) (by omega) (by simp; omega) _ rfl ?_; intro g8 cap8 w8 hown8 hgrow8 hat8 hlt8))
                  go_roundw
                  case rel =>
                    have hEA := HOK.out.below HBLT.out
                    have hE8 := hEA.off HAV.out (W' := w8) (fun q hq hne => hgrow8.block q hq hne)
                    have hav8 : AvB (Value.slice (some ⟨g8, 0, none⟩) (nb + 1) cap8).ownBlock ul vso := AvB.fresh hEA HAV.out (g := g8) (by simp) hat8
                    have hown9 : w8.ownsRow wF.heap.size 9 1 (.slice (some ⟨g8, 0, none⟩) (nb + 1) cap8) (nb + 1) ((Bd ++ [n]).map Value.string) := by simpa using hown8
                    have hb8 : Below wF.heap.size wF w8 := (HFA.out.trans (HBLT.out.mono HFA.out.size)).grown hgrow8 (Nat.le_trans HFA.out.size HBLT.out.size) (fun q hq => (HBDQ.out.lt q hq).1)
                    exact ⟨k + 1, m, nb + 1, O, vso, Bd ++ [n], by omega, by go_num, HST1.out.1.symm, HOL.out, by omega, HST1.out.2.symm, by simp [HBL.out], by omega, hE8, hav8, hown9, hb8⟩
                  case measure => simp [intOf]; omega
            case true =>
              cases f
              case false =>
                have x0 : W7.cell? ⟨w5.heap.size, 0, none⟩ = some (.string x.name) := HXB.out.c 0 (by simp)
                have x1 : W7.cell? ⟨w5.heap.size, 1, none⟩ = some (.string x.who) := HXB.out.c 1 (by simp)
                have x2 : W7.cell? ⟨w5.heap.size, 2, none⟩ = some (.slice xp1 x.says.length xk1) := HXB.out.c 2 (by simp)
                have x3 : W7.cell? ⟨w5.heap.size, 3, none⟩ = some (.slice xp2 x.uses.length xk2) := HXB.out.c 3 (by simp)
                have x4 : W7.cell? ⟨w5.heap.size, 4, none⟩ = some (.slice xp3 x.proof.length xk3) := HXB.out.c 4 (by simp)
                have y0 : W7.cell? ⟨w6.heap.size, 0, none⟩ = some (.string y.name) := HYB.out.c 0 (by simp)
                have y1 : W7.cell? ⟨w6.heap.size, 1, none⟩ = some (.string y.who) := HYB.out.c 1 (by simp)
                have y2 : W7.cell? ⟨w6.heap.size, 2, none⟩ = some (.slice yp1 y.says.length yk1) := HYB.out.c 2 (by simp)
                have y3 : W7.cell? ⟨w6.heap.size, 3, none⟩ = some (.slice yp2 y.uses.length yk2) := HYB.out.c 3 (by simp)
                have y4 : W7.cell? ⟨w6.heap.size, 4, none⟩ = some (.slice yp3 y.proof.length yk3) := HYB.out.c 4 (by simp)
                have z0 : W7.cell? ⟨w7.heap.size, 0, none⟩ = some (.string z.name) := HZB.out.c 0 (by simp)
                have z1 : W7.cell? ⟨w7.heap.size, 1, none⟩ = some (.string z.who) := HZB.out.c 1 (by simp)
                have z2 : W7.cell? ⟨w7.heap.size, 2, none⟩ = some (.slice zp1 z.says.length zk1) := HZB.out.c 2 (by simp)
                have z3 : W7.cell? ⟨w7.heap.size, 3, none⟩ = some (.slice zp2 z.uses.length zk2) := HZB.out.c 3 (by simp)
                have z4 : W7.cell? ⟨w7.heap.size, 4, none⟩ = some (.slice zp3 z.proof.length zk3) := HZB.out.c 4 (by simp)
                have HYZ := hid (show ¬ y = z from fun e => by have h1 := HFLY.out; rw [e] at h1; exact absurd (h1.trans HFLZ.out.symm) (by decide))
                have HXY := hid (show ¬ x = y from fun e => by have h1 := HFLX.out; rw [e] at h1; exact absurd (h1.trans HFLY.out.symm) (by decide))
                have HSM := hid (ref9_Same _ _ _ _ _ _ x z W7 (HENX.out.below (HGR.out.trans (HRc.out.mono HGR.out.size))) (HENZ.out.below (HGR.out.trans (HRc.out.mono HGR.out.size))))
                by_cases hbK : x = z
                case pos =>
                  rw [decide_eq_true hbK] at HSM
                  have HXZ := hid hbK
                  clear hbK
                  go_wp2_with (first | rw [HW7.out])
                  refine HSM.out.mono ?_
                  rintro e wq3 ⟨rfl, hbN⟩
                  clear x0 x1 x2 x3 x4 y0 y1 y2 y3 y4 z0 z1 z2 z3 z4
                  have HXB := hid (HXB.out.below (by simp) hbN)
                  have HYB := hid (HYB.out.below (by simp) hbN)
                  have HZB := hid (HZB.out.below (by simp) hbN)
                  have HRc := hid (HRc.out.trans (hbN.mono HRc.out.size))
                  clear HSM hbN
                  have x0 : wq3.cell? ⟨w5.heap.size, 0, none⟩ = some (.string x.name) := HXB.out.c 0 (by simp)
                  have x1 : wq3.cell? ⟨w5.heap.size, 1, none⟩ = some (.string x.who) := HXB.out.c 1 (by simp)
                  have x2 : wq3.cell? ⟨w5.heap.size, 2, none⟩ = some (.slice xp1 x.says.length xk1) := HXB.out.c 2 (by simp)
                  have x3 : wq3.cell? ⟨w5.heap.size, 3, none⟩ = some (.slice xp2 x.uses.length xk2) := HXB.out.c 3 (by simp)
                  have x4 : wq3.cell? ⟨w5.heap.size, 4, none⟩ = some (.slice xp3 x.proof.length xk3) := HXB.out.c 4 (by simp)
                  have y0 : wq3.cell? ⟨w6.heap.size, 0, none⟩ = some (.string y.name) := HYB.out.c 0 (by simp)
                  have y1 : wq3.cell? ⟨w6.heap.size, 1, none⟩ = some (.string y.who) := HYB.out.c 1 (by simp)
                  have y2 : wq3.cell? ⟨w6.heap.size, 2, none⟩ = some (.slice yp1 y.says.length yk1) := HYB.out.c 2 (by simp)
                  have y3 : wq3.cell? ⟨w6.heap.size, 3, none⟩ = some (.slice yp2 y.uses.length yk2) := HYB.out.c 3 (by simp)
                  have y4 : wq3.cell? ⟨w6.heap.size, 4, none⟩ = some (.slice yp3 y.proof.length yk3) := HYB.out.c 4 (by simp)
                  have z0 : wq3.cell? ⟨w7.heap.size, 0, none⟩ = some (.string z.name) := HZB.out.c 0 (by simp)
                  have z1 : wq3.cell? ⟨w7.heap.size, 1, none⟩ = some (.string z.who) := HZB.out.c 1 (by simp)
                  have z2 : wq3.cell? ⟨w7.heap.size, 2, none⟩ = some (.slice zp1 z.says.length zk1) := HZB.out.c 2 (by simp)
                  have z3 : wq3.cell? ⟨w7.heap.size, 3, none⟩ = some (.slice zp2 z.uses.length zk2) := HZB.out.c 3 (by simp)
                  have z4 : wq3.cell? ⟨w7.heap.size, 4, none⟩ = some (.slice zp3 z.proof.length zk3) := HZB.out.c 4 (by simp)
                  have HPC : Hid (bdN base a b n = false) := hid (by rw [HPC0.out]; unfold pkC; simp [HXZ.out])
                  have HPV : Hid (pkN base a b n = y) := hid (by rw [HPK.out]; unfold pkE; rw [if_neg HYZ.out, if_neg HXY.out])
                  have HBWQ := hid (HBFR.out.trans (HRc.out.mono hszr))
                  have HOK := hid (HOWN.out.below HRc.out)
                  have HBDQ := hid (owns_below HBDW.out HRc.out)
                  have HAVQ := HAV
                  have hem : ¬ y.name = em := by have h := HFLY.out; simpa using h
                  have HST1 : Hid (outR base a b (M.take (k + 1)) = O ++ [y] ∧ (M.take (k + 1)).filter (bdN base a b) = Bd) := hid (by
                    rw [HOT.out, HBT.out, HPC.out, HKN.out, HPV.out]; simp [hem])
                  have hsm := HSMY.out hem
                  have HCP := hid (ref9_copied (.slice yp1 y.says.length yk1) (.slice yp2 y.uses.length yk2) (.slice yp3 y.proof.length yk3) y wq3 (HENY.out.below (HBWF.out.trans (HBWQ.out.mono HBWF.out.size))) hsm.2.1 hsm.2.2.1 hsm.2.2.2)
                  have HE := HOK
                  have HB := HBWQ
                  have HLEN := HOL
                  obtain ⟨la, lc, rfl⟩ : ∃ a c, ul = .slice a m c := HOL.out ▸ HOK.out.slice
                  clear hem
                  go_wp2_with (first | rw [HW7.out])
                  refine HCP.out.mono ?_; rintro e w9 ⟨v, rfl, ⟨vS, vU, vP, rfl, hO⟩, hb2⟩; obtain ⟨a1, k1, rfl⟩ := owns_slice hO.s; obtain ⟨a2, k2, rfl⟩ := owns_slice hO.u; obtain ⟨a3, k3, rfl⟩ := owns_slice hO.p; have HE2 := hid (HE.out.below hb2); have HBR2 := hid hb2; have HO2 := hid hO; have HB2 := hid (HB.out.trans (hb2.mono HB.out.size)); have HU := hid HE.out.top.lt; have hown2 := HE2.out.top; rw [HLEN.out] at hown2; have hownA := hown2.alloc (.cells #[.string y.name, .string y.who, .slice a1 y.says.length k1, .slice a2 y.uses.length k2, .slice a3 y.proof.length k3] 41); have HROW := hid (row_one_ent w9 (.string y.name) (.string y.who) (.slice a1 y.says.length k1) (.slice a2 y.uses.length k2) (.slice a3 y.proof.length k3) 41); have hwz := HB2.out.size; clear hO hb2 hown2
                  go_wp2_with (at_builtin; go_loud (refine wpList_append_lie rfl _ _ 24 rfl wF.heap.size 41 el_ent Tryz.underlying24 rfl (by decide) _ (m) (ensC O vso) rfl hownA _ 1 (enC y (.slice a1 y.says.length k1, .slice a2 y.uses.length k2, .slice a3 y.proof.length k3)) rfl HROW.out (enC_one _ _ _ _ _ _ _ _ _ _) (by omega) (by omega) (by omega) (by simp; omega) _ rfl ?_; intro g cap w4 hown4 hgrow4 hat4 hlt4; have hB4 := (HB2.out.alloc HB2.out.size (.cells #[.string y.name, .string y.who, .slice a1 y.says.length k1, .slice a2 y.uses.length k2, .slice a3 y.proof.length k3] 41)).grown hgrow4 (by simp; omega) (fun q hq => (HU.out q hq).1)))
                  go_roundw
                  case rel =>
                    have hba : Below w9.heap.size w9 (w9.alloc (.cells #[.string y.name, .string y.who, .slice a1 y.says.length k1, .slice a2 y.uses.length k2, .slice a3 y.proof.length k3] 41)) := (Below.refl _ _).alloc (Nat.le_refl _) _; have hE4 := HE.out.push (w1 := w9.alloc _) (HBR2.out.trans (hba.mono HBR2.out.size)) (HO2.out.blocks (Nat.le_refl _) fun q _ hq => hba.block q hq) HB.out.size HLEN.out.symm hown4 hgrow4
                    have hxq : ∀ q, uc.ownBlock = some q → q < wq3.heap.size := fun q hq => (HBDQ.out.lt q hq).2
                    have hw9 := HBR2.out.size
                    have hav4 := HAVQ.out.push (g := g) (n := m + 1) (c := cap) (v := (.slice a1 y.says.length k1, .slice a2 y.uses.length k2, .slice a3 y.proof.length k3)) hat4 hxq (by simp; omega) (fun q hq => (by
                      rcases hq with hq | hq | hq
                      · exact (HO2.out.s.lt q hq).1
                      · exact (HO2.out.u.lt q hq).1
                      · exact (HO2.out.p.lt q hq).1))
                    have hbd4 := owns_blocks (owns_below HBDQ.out (HBR2.out.trans ((show Below w9.heap.size w9 (w9.alloc (.cells #[.string y.name, .string y.who, .slice a1 y.says.length k1, .slice a2 y.uses.length k2, .slice a3 y.proof.length k3] 41)) from (Below.refl _ _).alloc (Nat.le_refl _) _).mono HBR2.out.size))) fun q _ h2 h3 => hgrow4.block q h2 (fun e => HAVQ.out.1 q e.symm h3.symm)
                    exact ⟨k + 1, m + 1, nb, O ++ [y], vso ++ [(.slice a1 y.says.length k1, .slice a2 y.uses.length k2, .slice a3 y.proof.length k3)], Bd, by omega, by go_num, HST1.out.1.symm, by simp [HOL.out], by omega, HST1.out.2.symm, HBL.out, by omega, hE4, hav4, hbd4, hB4⟩
                  case measure => simp [intOf]; omega
                case neg =>
                  rw [decide_eq_false hbK] at HSM
                  have HXZ := hid hbK
                  clear hbK
                  go_wp2_with (first | rw [HW7.out])
                  refine HSM.out.mono ?_
                  rintro e wq3 ⟨rfl, hbN⟩
                  clear x0 x1 x2 x3 x4 y0 y1 y2 y3 y4 z0 z1 z2 z3 z4
                  have HXB := hid (HXB.out.below (by simp) hbN)
                  have HYB := hid (HYB.out.below (by simp) hbN)
                  have HZB := hid (HZB.out.below (by simp) hbN)
                  have HRc := hid (HRc.out.trans (hbN.mono HRc.out.size))
                  clear HSM hbN
                  have x0 : wq3.cell? ⟨w5.heap.size, 0, none⟩ = some (.string x.name) := HXB.out.c 0 (by simp)
                  have x1 : wq3.cell? ⟨w5.heap.size, 1, none⟩ = some (.string x.who) := HXB.out.c 1 (by simp)
                  have x2 : wq3.cell? ⟨w5.heap.size, 2, none⟩ = some (.slice xp1 x.says.length xk1) := HXB.out.c 2 (by simp)
                  have x3 : wq3.cell? ⟨w5.heap.size, 3, none⟩ = some (.slice xp2 x.uses.length xk2) := HXB.out.c 3 (by simp)
                  have x4 : wq3.cell? ⟨w5.heap.size, 4, none⟩ = some (.slice xp3 x.proof.length xk3) := HXB.out.c 4 (by simp)
                  have y0 : wq3.cell? ⟨w6.heap.size, 0, none⟩ = some (.string y.name) := HYB.out.c 0 (by simp)
                  have y1 : wq3.cell? ⟨w6.heap.size, 1, none⟩ = some (.string y.who) := HYB.out.c 1 (by simp)
                  have y2 : wq3.cell? ⟨w6.heap.size, 2, none⟩ = some (.slice yp1 y.says.length yk1) := HYB.out.c 2 (by simp)
                  have y3 : wq3.cell? ⟨w6.heap.size, 3, none⟩ = some (.slice yp2 y.uses.length yk2) := HYB.out.c 3 (by simp)
                  have y4 : wq3.cell? ⟨w6.heap.size, 4, none⟩ = some (.slice yp3 y.proof.length yk3) := HYB.out.c 4 (by simp)
                  have z0 : wq3.cell? ⟨w7.heap.size, 0, none⟩ = some (.string z.name) := HZB.out.c 0 (by simp)
                  have z1 : wq3.cell? ⟨w7.heap.size, 1, none⟩ = some (.string z.who) := HZB.out.c 1 (by simp)
                  have z2 : wq3.cell? ⟨w7.heap.size, 2, none⟩ = some (.slice zp1 z.says.length zk1) := HZB.out.c 2 (by simp)
                  have z3 : wq3.cell? ⟨w7.heap.size, 3, none⟩ = some (.slice zp2 z.uses.length zk2) := HZB.out.c 3 (by simp)
                  have z4 : wq3.cell? ⟨w7.heap.size, 4, none⟩ = some (.slice zp3 z.proof.length zk3) := HZB.out.c 4 (by simp)
                  have hbd1 : bdN base a b n = true := by
                    rw [HPC0.out]; unfold pkC; rw [decide_eq_false HYZ.out, decide_eq_false HXY.out, decide_eq_false HXZ.out]; rfl
                  have HPV : Hid (pkN base a b n = y) := hid (by rw [HPK.out]; unfold pkE; rw [if_neg HYZ.out, if_neg HXY.out])
                  have cn : wq3.cell? ⟨g0, k, none⟩ = some (.string n) := HCN.out wq3 HRc.out
                  have HOK := hid (HOWN.out.below HRc.out)
                  have HBDQ := hid (owns_below HBDW.out HRc.out)
                  have HFA := hid (HBFR.out.trans (HRc.out.mono hszr))
                  obtain ⟨ca, cc, rfl⟩ := owns_slice HBDW.out
                  have hRA := HBDQ.out.alloc (.cells #[.string n] 9)
                  have HBLT := hid (show Below wq3.heap.size wq3 (wq3.alloc (.cells #[.string n] 9)) from (Below.refl _ _).alloc (Nat.le_refl _) _)
                  have hzF : wF.heap.size ≤ wq3.heap.size := HFA.out.size
                  have HNE := hid (show some w6.heap.size ≠ (Value.slice ca nb cc).ownBlock from fun e => by have h1 := (HBDW.out.lt _ e.symm).2; have h2 := HZ6.out; omega)
                  have HYL := hid (show w6.heap.size < (wq3.alloc (.cells #[.string n] 9)).heap.size from (HYB.out.below (by simp) HBLT.out).lt (by simp))
                  have HYA := hid (HYB.out.below (by simp) HBLT.out)
                  have hem : ¬ y.name = em := by have h := HFLY.out; simpa using h
                  have HST1 : Hid (outR base a b (M.take (k + 1)) = O ++ [y] ∧ (M.take (k + 1)).filter (bdN base a b) = Bd ++ [n]) := hid (by
                    rw [HOT.out, HBT.out, hbd1, HKN.out, HPV.out]; simp [hem])
                  clear hbd1
                  go_wp2_with (first | rw [HW7.out] | (at_builtin; refine wpList_append_lie rfl _ _ 38 rfl wF.heap.size 9 el_str Tryz.underlying38 rfl (by decide) _ nb (Bd.map Value.string) rfl hRA _ 1 [.string n] rfl (row_one_new _ _ _) (oneCell_one rfl) (by omega) (by omega) (by omega) (by simp; omega) _ rfl ?_; intro g8 cap8 w8 hown8 hgrow8 hat8 hlt8; have hY8 := HYA.out.block (hgrow8.block w6.heap.size HYL.out HNE.out); have y0 := hY8.c 0 (by simp); have y1 := hY8.c 1 (by simp); have y2 := hY8.c 2 (by simp); have y3 := hY8.c 3 (by simp); have y4 := hY8.c 4 (by simp); simp only [List.getElem_cons_zero, List.getElem_cons_succ] at y0 y1 y2 y3 y4))
                  have hEA := HOK.out.below HBLT.out
                  have hE8 := hEA.off HAV.out (W' := w8) (fun q hq hne => hgrow8.block q hq hne)
                  have hav8 : AvB (Value.slice (some ⟨g8, 0, none⟩) (nb + 1) cap8).ownBlock ul vso := AvB.fresh hEA HAV.out (g := g8) (by simp) hat8
                  have hown9 : w8.ownsRow wF.heap.size 9 1 (.slice (some ⟨g8, 0, none⟩) (nb + 1) cap8) (nb + 1) ((Bd ++ [n]).map Value.string) := by simpa using hown8
                  have hb8 : Below wF.heap.size wF w8 := (HFA.out.trans (HBLT.out.mono HFA.out.size)).grown hgrow8 (Nat.le_trans HFA.out.size HBLT.out.size) (fun q hq => (HBDQ.out.lt q hq).1)
                  have HOK := hid hE8
                  have HAVQ := hid hav8
                  have HBDQ := hid hown9
                  have HBWQ := hid hb8
                  have hsm := HSMY.out hem
                  have HCP := hid (ref9_copied (.slice yp1 y.says.length yk1) (.slice yp2 y.uses.length yk2) (.slice yp3 y.proof.length yk3) y w8 (HENY.out.below (HBWF.out.trans (HBWQ.out.mono HBWF.out.size))) hsm.2.1 hsm.2.2.1 hsm.2.2.2)
                  have HE := HOK
                  have HB := HBWQ
                  have HLEN := HOL
                  obtain ⟨la, lc, rfl⟩ : ∃ a c, ul = .slice a m c := HOL.out ▸ HOK.out.slice
                  clear hem
                  refine HCP.out.mono ?_; rintro e w9 ⟨v, rfl, ⟨vS, vU, vP, rfl, hO⟩, hb2⟩; obtain ⟨a1, k1, rfl⟩ := owns_slice hO.s; obtain ⟨a2, k2, rfl⟩ := owns_slice hO.u; obtain ⟨a3, k3, rfl⟩ := owns_slice hO.p; have HE2 := hid (HE.out.below hb2); have HBR2 := hid hb2; have HO2 := hid hO; have HB2 := hid (HB.out.trans (hb2.mono HB.out.size)); have HU := hid HE.out.top.lt; have hown2 := HE2.out.top; rw [HLEN.out] at hown2; have hownA := hown2.alloc (.cells #[.string y.name, .string y.who, .slice a1 y.says.length k1, .slice a2 y.uses.length k2, .slice a3 y.proof.length k3] 41); have HROW := hid (row_one_ent w9 (.string y.name) (.string y.who) (.slice a1 y.says.length k1) (.slice a2 y.uses.length k2) (.slice a3 y.proof.length k3) 41); have hwz := HB2.out.size; clear hO hb2 hown2
                  go_wp2_with (at_builtin; go_loud (refine wpList_append_lie rfl _ _ 24 rfl wF.heap.size 41 el_ent Tryz.underlying24 rfl (by decide) _ (m) (ensC O vso) rfl hownA _ 1 (enC y (.slice a1 y.says.length k1, .slice a2 y.uses.length k2, .slice a3 y.proof.length k3)) rfl HROW.out (enC_one _ _ _ _ _ _ _ _ _ _) (by omega) (by omega) (by omega) (by simp; omega) _ rfl ?_; intro g cap w4 hown4 hgrow4 hat4 hlt4; have hB4 := (HB2.out.alloc HB2.out.size (.cells #[.string y.name, .string y.who, .slice a1 y.says.length k1, .slice a2 y.uses.length k2, .slice a3 y.proof.length k3] 41)).grown hgrow4 (by simp; omega) (fun q hq => (HU.out q hq).1)))
                  go_roundw
                  case rel =>
                    have hba : Below w9.heap.size w9 (w9.alloc (.cells #[.string y.name, .string y.who, .slice a1 y.says.length k1, .slice a2 y.uses.length k2, .slice a3 y.proof.length k3] 41)) := (Below.refl _ _).alloc (Nat.le_refl _) _; have hE4 := HE.out.push (w1 := w9.alloc _) (HBR2.out.trans (hba.mono HBR2.out.size)) (HO2.out.blocks (Nat.le_refl _) fun q _ hq => hba.block q hq) HB.out.size HLEN.out.symm hown4 hgrow4
                    have hxq : ∀ q, (Value.slice (some ⟨g8, 0, none⟩) (nb + 1) cap8).ownBlock = some q → q < w8.heap.size := fun q hq => (HBDQ.out.lt q hq).2
                    have hw9 := HBR2.out.size
                    have hav4 := HAVQ.out.push (g := g) (n := m + 1) (c := cap) (v := (.slice a1 y.says.length k1, .slice a2 y.uses.length k2, .slice a3 y.proof.length k3)) hat4 hxq (by simp; omega) (fun q hq => (by
                      rcases hq with hq | hq | hq
                      · exact (HO2.out.s.lt q hq).1
                      · exact (HO2.out.u.lt q hq).1
                      · exact (HO2.out.p.lt q hq).1))
                    have hbd4 := owns_blocks (owns_below HBDQ.out (HBR2.out.trans ((show Below w9.heap.size w9 (w9.alloc (.cells #[.string y.name, .string y.who, .slice a1 y.says.length k1, .slice a2 y.uses.length k2, .slice a3 y.proof.length k3] 41)) from (Below.refl _ _).alloc (Nat.le_refl _) _).mono HBR2.out.size))) fun q _ h2 h3 => hgrow4.block q h2 (fun e => HAVQ.out.1 q e.symm h3.symm)
                    exact ⟨k + 1, m + 1, nb + 1, O ++ [y], vso ++ [(.slice a1 y.says.length k1, .slice a2 y.uses.length k2, .slice a3 y.proof.length k3)], Bd ++ [n], by omega, by go_num, HST1.out.1.symm, by simp [HOL.out], by omega, HST1.out.2.symm, by simp [HBL.out], by omega, hE4, hav4, hbd4, hB4⟩
                  case measure => simp [intOf]; omega
              case true =>
                have x0 : W7.cell? ⟨w5.heap.size, 0, none⟩ = some (.string x.name) := HXB.out.c 0 (by simp)
                have x1 : W7.cell? ⟨w5.heap.size, 1, none⟩ = some (.string x.who) := HXB.out.c 1 (by simp)
                have x2 : W7.cell? ⟨w5.heap.size, 2, none⟩ = some (.slice xp1 x.says.length xk1) := HXB.out.c 2 (by simp)
                have x3 : W7.cell? ⟨w5.heap.size, 3, none⟩ = some (.slice xp2 x.uses.length xk2) := HXB.out.c 3 (by simp)
                have x4 : W7.cell? ⟨w5.heap.size, 4, none⟩ = some (.slice xp3 x.proof.length xk3) := HXB.out.c 4 (by simp)
                have y0 : W7.cell? ⟨w6.heap.size, 0, none⟩ = some (.string y.name) := HYB.out.c 0 (by simp)
                have y1 : W7.cell? ⟨w6.heap.size, 1, none⟩ = some (.string y.who) := HYB.out.c 1 (by simp)
                have y2 : W7.cell? ⟨w6.heap.size, 2, none⟩ = some (.slice yp1 y.says.length yk1) := HYB.out.c 2 (by simp)
                have y3 : W7.cell? ⟨w6.heap.size, 3, none⟩ = some (.slice yp2 y.uses.length yk2) := HYB.out.c 3 (by simp)
                have y4 : W7.cell? ⟨w6.heap.size, 4, none⟩ = some (.slice yp3 y.proof.length yk3) := HYB.out.c 4 (by simp)
                have z0 : W7.cell? ⟨w7.heap.size, 0, none⟩ = some (.string z.name) := HZB.out.c 0 (by simp)
                have z1 : W7.cell? ⟨w7.heap.size, 1, none⟩ = some (.string z.who) := HZB.out.c 1 (by simp)
                have z2 : W7.cell? ⟨w7.heap.size, 2, none⟩ = some (.slice zp1 z.says.length zk1) := HZB.out.c 2 (by simp)
                have z3 : W7.cell? ⟨w7.heap.size, 3, none⟩ = some (.slice zp2 z.uses.length zk2) := HZB.out.c 3 (by simp)
                have z4 : W7.cell? ⟨w7.heap.size, 4, none⟩ = some (.slice zp3 z.proof.length zk3) := HZB.out.c 4 (by simp)
                have HSM := hid (ref9_Same _ _ _ _ _ _ y z W7 (HENY.out.below (HGR.out.trans (HRc.out.mono HGR.out.size))) (HENZ.out.below (HGR.out.trans (HRc.out.mono HGR.out.size))))
                by_cases hbK : y = z
                case pos =>
                  rw [decide_eq_true hbK] at HSM
                  have HYZ := hid hbK
                  clear hbK
                  go_wp2_with (first | rw [HW7.out])
                  refine HSM.out.mono ?_
                  rintro e wq1 ⟨rfl, hbN⟩
                  clear x0 x1 x2 x3 x4 y0 y1 y2 y3 y4 z0 z1 z2 z3 z4
                  have HXB := hid (HXB.out.below (by simp) hbN)
                  have HYB := hid (HYB.out.below (by simp) hbN)
                  have HZB := hid (HZB.out.below (by simp) hbN)
                  have HRc := hid (HRc.out.trans (hbN.mono HRc.out.size))
                  clear HSM hbN
                  have x0 : wq1.cell? ⟨w5.heap.size, 0, none⟩ = some (.string x.name) := HXB.out.c 0 (by simp)
                  have x1 : wq1.cell? ⟨w5.heap.size, 1, none⟩ = some (.string x.who) := HXB.out.c 1 (by simp)
                  have x2 : wq1.cell? ⟨w5.heap.size, 2, none⟩ = some (.slice xp1 x.says.length xk1) := HXB.out.c 2 (by simp)
                  have x3 : wq1.cell? ⟨w5.heap.size, 3, none⟩ = some (.slice xp2 x.uses.length xk2) := HXB.out.c 3 (by simp)
                  have x4 : wq1.cell? ⟨w5.heap.size, 4, none⟩ = some (.slice xp3 x.proof.length xk3) := HXB.out.c 4 (by simp)
                  have y0 : wq1.cell? ⟨w6.heap.size, 0, none⟩ = some (.string y.name) := HYB.out.c 0 (by simp)
                  have y1 : wq1.cell? ⟨w6.heap.size, 1, none⟩ = some (.string y.who) := HYB.out.c 1 (by simp)
                  have y2 : wq1.cell? ⟨w6.heap.size, 2, none⟩ = some (.slice yp1 y.says.length yk1) := HYB.out.c 2 (by simp)
                  have y3 : wq1.cell? ⟨w6.heap.size, 3, none⟩ = some (.slice yp2 y.uses.length yk2) := HYB.out.c 3 (by simp)
                  have y4 : wq1.cell? ⟨w6.heap.size, 4, none⟩ = some (.slice yp3 y.proof.length yk3) := HYB.out.c 4 (by simp)
                  have z0 : wq1.cell? ⟨w7.heap.size, 0, none⟩ = some (.string z.name) := HZB.out.c 0 (by simp)
                  have z1 : wq1.cell? ⟨w7.heap.size, 1, none⟩ = some (.string z.who) := HZB.out.c 1 (by simp)
                  have z2 : wq1.cell? ⟨w7.heap.size, 2, none⟩ = some (.slice zp1 z.says.length zk1) := HZB.out.c 2 (by simp)
                  have z3 : wq1.cell? ⟨w7.heap.size, 3, none⟩ = some (.slice zp2 z.uses.length zk2) := HZB.out.c 3 (by simp)
                  have z4 : wq1.cell? ⟨w7.heap.size, 4, none⟩ = some (.slice zp3 z.proof.length zk3) := HZB.out.c 4 (by simp)
                  have HPC : Hid (bdN base a b n = false) := hid (by rw [HPC0.out]; unfold pkC; simp [HYZ.out])
                  have HPV : Hid (pkN base a b n = y) := hid (by rw [HPK.out]; unfold pkE; rw [if_pos HYZ.out])
                  have HBWQ := hid (HBFR.out.trans (HRc.out.mono hszr))
                  have HOK := hid (HOWN.out.below HRc.out)
                  have HBDQ := hid (owns_below HBDW.out HRc.out)
                  have HAVQ := HAV
                  have hem : ¬ y.name = em := by have h := HFLY.out; simpa using h
                  have HST1 : Hid (outR base a b (M.take (k + 1)) = O ++ [y] ∧ (M.take (k + 1)).filter (bdN base a b) = Bd) := hid (by
                    rw [HOT.out, HBT.out, HPC.out, HKN.out, HPV.out]; simp [hem])
                  have hsm := HSMY.out hem
                  have HCP := hid (ref9_copied (.slice yp1 y.says.length yk1) (.slice yp2 y.uses.length yk2) (.slice yp3 y.proof.length yk3) y wq1 (HENY.out.below (HBWF.out.trans (HBWQ.out.mono HBWF.out.size))) hsm.2.1 hsm.2.2.1 hsm.2.2.2)
                  have HE := HOK
                  have HB := HBWQ
                  have HLEN := HOL
                  obtain ⟨la, lc, rfl⟩ : ∃ a c, ul = .slice a m c := HOL.out ▸ HOK.out.slice
                  clear hem
                  go_wp2_with (first | rw [HW7.out])
                  refine HCP.out.mono ?_; rintro e w9 ⟨v, rfl, ⟨vS, vU, vP, rfl, hO⟩, hb2⟩; obtain ⟨a1, k1, rfl⟩ := owns_slice hO.s; obtain ⟨a2, k2, rfl⟩ := owns_slice hO.u; obtain ⟨a3, k3, rfl⟩ := owns_slice hO.p; have HE2 := hid (HE.out.below hb2); have HBR2 := hid hb2; have HO2 := hid hO; have HB2 := hid (HB.out.trans (hb2.mono HB.out.size)); have HU := hid HE.out.top.lt; have hown2 := HE2.out.top; rw [HLEN.out] at hown2; have hownA := hown2.alloc (.cells #[.string y.name, .string y.who, .slice a1 y.says.length k1, .slice a2 y.uses.length k2, .slice a3 y.proof.length k3] 41); have HROW := hid (row_one_ent w9 (.string y.name) (.string y.who) (.slice a1 y.says.length k1) (.slice a2 y.uses.length k2) (.slice a3 y.proof.length k3) 41); have hwz := HB2.out.size; clear hO hb2 hown2
                  go_wp2_with (at_builtin; go_loud (refine wpList_append_lie rfl _ _ 24 rfl wF.heap.size 41 el_ent Tryz.underlying24 rfl (by decide) _ (m) (ensC O vso) rfl hownA _ 1 (enC y (.slice a1 y.says.length k1, .slice a2 y.uses.length k2, .slice a3 y.proof.length k3)) rfl HROW.out (enC_one _ _ _ _ _ _ _ _ _ _) (by omega) (by omega) (by omega) (by simp; omega) _ rfl ?_; intro g cap w4 hown4 hgrow4 hat4 hlt4; have hB4 := (HB2.out.alloc HB2.out.size (.cells #[.string y.name, .string y.who, .slice a1 y.says.length k1, .slice a2 y.uses.length k2, .slice a3 y.proof.length k3] 41)).grown hgrow4 (by simp; omega) (fun q hq => (HU.out q hq).1)))
                  go_roundw
                  case rel =>
                    have hba : Below w9.heap.size w9 (w9.alloc (.cells #[.string y.name, .string y.who, .slice a1 y.says.length k1, .slice a2 y.uses.length k2, .slice a3 y.proof.length k3] 41)) := (Below.refl _ _).alloc (Nat.le_refl _) _; have hE4 := HE.out.push (w1 := w9.alloc _) (HBR2.out.trans (hba.mono HBR2.out.size)) (HO2.out.blocks (Nat.le_refl _) fun q _ hq => hba.block q hq) HB.out.size HLEN.out.symm hown4 hgrow4
                    have hxq : ∀ q, uc.ownBlock = some q → q < wq1.heap.size := fun q hq => (HBDQ.out.lt q hq).2
                    have hw9 := HBR2.out.size
                    have hav4 := HAVQ.out.push (g := g) (n := m + 1) (c := cap) (v := (.slice a1 y.says.length k1, .slice a2 y.uses.length k2, .slice a3 y.proof.length k3)) hat4 hxq (by simp; omega) (fun q hq => (by
                      rcases hq with hq | hq | hq
                      · exact (HO2.out.s.lt q hq).1
                      · exact (HO2.out.u.lt q hq).1
                      · exact (HO2.out.p.lt q hq).1))
                    have hbd4 := owns_blocks (owns_below HBDQ.out (HBR2.out.trans ((show Below w9.heap.size w9 (w9.alloc (.cells #[.string y.name, .string y.who, .slice a1 y.says.length k1, .slice a2 y.uses.length k2, .slice a3 y.proof.length k3] 41)) from (Below.refl _ _).alloc (Nat.le_refl _) _).mono HBR2.out.size))) fun q _ h2 h3 => hgrow4.block q h2 (fun e => HAVQ.out.1 q e.symm h3.symm)
                    exact ⟨k + 1, m + 1, nb, O ++ [y], vso ++ [(.slice a1 y.says.length k1, .slice a2 y.uses.length k2, .slice a3 y.proof.length k3)], Bd, by omega, by go_num, HST1.out.1.symm, by simp [HOL.out], by omega, HST1.out.2.symm, HBL.out, by omega, hE4, hav4, hbd4, hB4⟩
                  case measure => simp [intOf]; omega
                case neg =>
                  rw [decide_eq_false hbK] at HSM
                  have HYZ := hid hbK
                  clear hbK
                  go_wp2_with (first | rw [HW7.out])
                  refine HSM.out.mono ?_
                  rintro e wq1 ⟨rfl, hbN⟩
                  clear x0 x1 x2 x3 x4 y0 y1 y2 y3 y4 z0 z1 z2 z3 z4
                  have HXB := hid (HXB.out.below (by simp) hbN)
                  have HYB := hid (HYB.out.below (by simp) hbN)
                  have HZB := hid (HZB.out.below (by simp) hbN)
                  have HRc := hid (HRc.out.trans (hbN.mono HRc.out.size))
                  clear HSM hbN
                  have x0 : wq1.cell? ⟨w5.heap.size, 0, none⟩ = some (.string x.name) := HXB.out.c 0 (by simp)
                  have x1 : wq1.cell? ⟨w5.heap.size, 1, none⟩ = some (.string x.who) := HXB.out.c 1 (by simp)
                  have x2 : wq1.cell? ⟨w5.heap.size, 2, none⟩ = some (.slice xp1 x.says.length xk1) := HXB.out.c 2 (by simp)
                  have x3 : wq1.cell? ⟨w5.heap.size, 3, none⟩ = some (.slice xp2 x.uses.length xk2) := HXB.out.c 3 (by simp)
                  have x4 : wq1.cell? ⟨w5.heap.size, 4, none⟩ = some (.slice xp3 x.proof.length xk3) := HXB.out.c 4 (by simp)
                  have y0 : wq1.cell? ⟨w6.heap.size, 0, none⟩ = some (.string y.name) := HYB.out.c 0 (by simp)
                  have y1 : wq1.cell? ⟨w6.heap.size, 1, none⟩ = some (.string y.who) := HYB.out.c 1 (by simp)
                  have y2 : wq1.cell? ⟨w6.heap.size, 2, none⟩ = some (.slice yp1 y.says.length yk1) := HYB.out.c 2 (by simp)
                  have y3 : wq1.cell? ⟨w6.heap.size, 3, none⟩ = some (.slice yp2 y.uses.length yk2) := HYB.out.c 3 (by simp)
                  have y4 : wq1.cell? ⟨w6.heap.size, 4, none⟩ = some (.slice yp3 y.proof.length yk3) := HYB.out.c 4 (by simp)
                  have z0 : wq1.cell? ⟨w7.heap.size, 0, none⟩ = some (.string z.name) := HZB.out.c 0 (by simp)
                  have z1 : wq1.cell? ⟨w7.heap.size, 1, none⟩ = some (.string z.who) := HZB.out.c 1 (by simp)
                  have z2 : wq1.cell? ⟨w7.heap.size, 2, none⟩ = some (.slice zp1 z.says.length zk1) := HZB.out.c 2 (by simp)
                  have z3 : wq1.cell? ⟨w7.heap.size, 3, none⟩ = some (.slice zp2 z.uses.length zk2) := HZB.out.c 3 (by simp)
                  have z4 : wq1.cell? ⟨w7.heap.size, 4, none⟩ = some (.slice zp3 z.proof.length zk3) := HZB.out.c 4 (by simp)
                  have HXY := hid (show ¬ x = y from fun e => by have h1 := HFLX.out; rw [e] at h1; exact absurd (h1.trans HFLY.out.symm) (by decide))
                  have HXZ := hid (show ¬ x = z from fun e => by have h1 := HFLX.out; rw [e] at h1; exact absurd (h1.trans HFLZ.out.symm) (by decide))
                  have hbd1 : bdN base a b n = true := by
                    rw [HPC0.out]; unfold pkC; rw [decide_eq_false HYZ.out, decide_eq_false HXY.out, decide_eq_false HXZ.out]; rfl
                  have HPV : Hid (pkN base a b n = y) := hid (by rw [HPK.out]; unfold pkE; rw [if_neg HYZ.out, if_neg HXY.out])
                  have cn : wq1.cell? ⟨g0, k, none⟩ = some (.string n) := HCN.out wq1 HRc.out
                  have HOK := hid (HOWN.out.below HRc.out)
                  have HBDQ := hid (owns_below HBDW.out HRc.out)
                  have HFA := hid (HBFR.out.trans (HRc.out.mono hszr))
                  obtain ⟨ca, cc, rfl⟩ := owns_slice HBDW.out
                  have hRA := HBDQ.out.alloc (.cells #[.string n] 9)
                  have HBLT := hid (show Below wq1.heap.size wq1 (wq1.alloc (.cells #[.string n] 9)) from (Below.refl _ _).alloc (Nat.le_refl _) _)
                  have hzF : wF.heap.size ≤ wq1.heap.size := HFA.out.size
                  have HNE := hid (show some w6.heap.size ≠ (Value.slice ca nb cc).ownBlock from fun e => by have h1 := (HBDW.out.lt _ e.symm).2; have h2 := HZ6.out; omega)
                  have HYL := hid (show w6.heap.size < (wq1.alloc (.cells #[.string n] 9)).heap.size from (HYB.out.below (by simp) HBLT.out).lt (by simp))
                  have HYA := hid (HYB.out.below (by simp) HBLT.out)
                  have hem : ¬ y.name = em := by have h := HFLY.out; simpa using h
                  have HST1 : Hid (outR base a b (M.take (k + 1)) = O ++ [y] ∧ (M.take (k + 1)).filter (bdN base a b) = Bd ++ [n]) := hid (by
                    rw [HOT.out, HBT.out, hbd1, HKN.out, HPV.out]; simp [hem])
                  clear hbd1
                  go_wp2_with (first | rw [HW7.out] | (at_builtin; refine wpList_append_lie rfl _ _ 38 rfl wF.heap.size 9 el_str Tryz.underlying38 rfl (by decide) _ nb (Bd.map Value.string) rfl hRA _ 1 [.string n] rfl (row_one_new _ _ _) (oneCell_one rfl) (by omega) (by omega) (by omega) (by simp; omega) _ rfl ?_; intro g8 cap8 w8 hown8 hgrow8 hat8 hlt8; have hY8 := HYA.out.block (hgrow8.block w6.heap.size HYL.out HNE.out); have y0 := hY8.c 0 (by simp); have y1 := hY8.c 1 (by simp); have y2 := hY8.c 2 (by simp); have y3 := hY8.c 3 (by simp); have y4 := hY8.c 4 (by simp); simp only [List.getElem_cons_zero, List.getElem_cons_succ] at y0 y1 y2 y3 y4))
                  have hEA := HOK.out.below HBLT.out
                  have hE8 := hEA.off HAV.out (W' := w8) (fun q hq hne => hgrow8.block q hq hne)
                  have hav8 : AvB (Value.slice (some ⟨g8, 0, none⟩) (nb + 1) cap8).ownBlock ul vso := AvB.fresh hEA HAV.out (g := g8) (by simp) hat8
                  have hown9 : w8.ownsRow wF.heap.size 9 1 (.slice (some ⟨g8, 0, none⟩) (nb + 1) cap8) (nb + 1) ((Bd ++ [n]).map Value.string) := by simpa using hown8
                  have hb8 : Below wF.heap.size wF w8 := (HFA.out.trans (HBLT.out.mono HFA.out.size)).grown hgrow8 (Nat.le_trans HFA.out.size HBLT.out.size) (fun q hq => (HBDQ.out.lt q hq).1)
                  have HOK := hid hE8
                  have HAVQ := hid hav8
                  have HBDQ := hid hown9
                  have HBWQ := hid hb8
                  have hsm := HSMY.out hem
                  have HCP := hid (ref9_copied (.slice yp1 y.says.length yk1) (.slice yp2 y.uses.length yk2) (.slice yp3 y.proof.length yk3) y w8 (HENY.out.below (HBWF.out.trans (HBWQ.out.mono HBWF.out.size))) hsm.2.1 hsm.2.2.1 hsm.2.2.2)
                  have HE := HOK
                  have HB := HBWQ
                  have HLEN := HOL
                  obtain ⟨la, lc, rfl⟩ : ∃ a c, ul = .slice a m c := HOL.out ▸ HOK.out.slice
                  clear hem
                  refine HCP.out.mono ?_; rintro e w9 ⟨v, rfl, ⟨vS, vU, vP, rfl, hO⟩, hb2⟩; obtain ⟨a1, k1, rfl⟩ := owns_slice hO.s; obtain ⟨a2, k2, rfl⟩ := owns_slice hO.u; obtain ⟨a3, k3, rfl⟩ := owns_slice hO.p; have HE2 := hid (HE.out.below hb2); have HBR2 := hid hb2; have HO2 := hid hO; have HB2 := hid (HB.out.trans (hb2.mono HB.out.size)); have HU := hid HE.out.top.lt; have hown2 := HE2.out.top; rw [HLEN.out] at hown2; have hownA := hown2.alloc (.cells #[.string y.name, .string y.who, .slice a1 y.says.length k1, .slice a2 y.uses.length k2, .slice a3 y.proof.length k3] 41); have HROW := hid (row_one_ent w9 (.string y.name) (.string y.who) (.slice a1 y.says.length k1) (.slice a2 y.uses.length k2) (.slice a3 y.proof.length k3) 41); have hwz := HB2.out.size; clear hO hb2 hown2
                  go_wp2_with (at_builtin; go_loud (refine wpList_append_lie rfl _ _ 24 rfl wF.heap.size 41 el_ent Tryz.underlying24 rfl (by decide) _ (m) (ensC O vso) rfl hownA _ 1 (enC y (.slice a1 y.says.length k1, .slice a2 y.uses.length k2, .slice a3 y.proof.length k3)) rfl HROW.out (enC_one _ _ _ _ _ _ _ _ _ _) (by omega) (by omega) (by omega) (by simp; omega) _ rfl ?_; intro g cap w4 hown4 hgrow4 hat4 hlt4; have hB4 := (HB2.out.alloc HB2.out.size (.cells #[.string y.name, .string y.who, .slice a1 y.says.length k1, .slice a2 y.uses.length k2, .slice a3 y.proof.length k3] 41)).grown hgrow4 (by simp; omega) (fun q hq => (HU.out q hq).1)))
                  go_roundw
                  case rel =>
                    have hba : Below w9.heap.size w9 (w9.alloc (.cells #[.string y.name, .string y.who, .slice a1 y.says.length k1, .slice a2 y.uses.length k2, .slice a3 y.proof.length k3] 41)) := (Below.refl _ _).alloc (Nat.le_refl _) _; have hE4 := HE.out.push (w1 := w9.alloc _) (HBR2.out.trans (hba.mono HBR2.out.size)) (HO2.out.blocks (Nat.le_refl _) fun q _ hq => hba.block q hq) HB.out.size HLEN.out.symm hown4 hgrow4
                    have hxq : ∀ q, (Value.slice (some ⟨g8, 0, none⟩) (nb + 1) cap8).ownBlock = some q → q < w8.heap.size := fun q hq => (HBDQ.out.lt q hq).2
                    have hw9 := HBR2.out.size
                    have hav4 := HAVQ.out.push (g := g) (n := m + 1) (c := cap) (v := (.slice a1 y.says.length k1, .slice a2 y.uses.length k2, .slice a3 y.proof.length k3)) hat4 hxq (by simp; omega) (fun q hq => (by
                      rcases hq with hq | hq | hq
                      · exact (HO2.out.s.lt q hq).1
                      · exact (HO2.out.u.lt q hq).1
                      · exact (HO2.out.p.lt q hq).1))
                    have hbd4 := owns_blocks (owns_below HBDQ.out (HBR2.out.trans ((show Below w9.heap.size w9 (w9.alloc (.cells #[.string y.name, .string y.who, .slice a1 y.says.length k1, .slice a2 y.uses.length k2, .slice a3 y.proof.length k3] 41)) from (Below.refl _ _).alloc (Nat.le_refl _) _).mono HBR2.out.size))) fun q _ h2 h3 => hgrow4.block q h2 (fun e => HAVQ.out.1 q e.symm h3.symm)
                    exact ⟨k + 1, m + 1, nb + 1, O ++ [y], vso ++ [(.slice a1 y.says.length k1, .slice a2 y.uses.length k2, .slice a3 y.proof.length k3)], Bd ++ [n], by omega, by go_num, HST1.out.1.symm, by simp [HOL.out], by omega, HST1.out.2.symm, by simp [HBL.out], by omega, hE4, hav4, hbd4, hB4⟩
                  case measure => simp [intOf]; omega
          case true =>
            cases d
            case false =>
              cases f
              case false =>
                have x0 : W7.cell? ⟨w5.heap.size, 0, none⟩ = some (.string x.name) := HXB.out.c 0 (by simp)
                have x1 : W7.cell? ⟨w5.heap.size, 1, none⟩ = some (.string x.who) := HXB.out.c 1 (by simp)
                have x2 : W7.cell? ⟨w5.heap.size, 2, none⟩ = some (.slice xp1 x.says.length xk1) := HXB.out.c 2 (by simp)
                have x3 : W7.cell? ⟨w5.heap.size, 3, none⟩ = some (.slice xp2 x.uses.length xk2) := HXB.out.c 3 (by simp)
                have x4 : W7.cell? ⟨w5.heap.size, 4, none⟩ = some (.slice xp3 x.proof.length xk3) := HXB.out.c 4 (by simp)
                have y0 : W7.cell? ⟨w6.heap.size, 0, none⟩ = some (.string y.name) := HYB.out.c 0 (by simp)
                have y1 : W7.cell? ⟨w6.heap.size, 1, none⟩ = some (.string y.who) := HYB.out.c 1 (by simp)
                have y2 : W7.cell? ⟨w6.heap.size, 2, none⟩ = some (.slice yp1 y.says.length yk1) := HYB.out.c 2 (by simp)
                have y3 : W7.cell? ⟨w6.heap.size, 3, none⟩ = some (.slice yp2 y.uses.length yk2) := HYB.out.c 3 (by simp)
                have y4 : W7.cell? ⟨w6.heap.size, 4, none⟩ = some (.slice yp3 y.proof.length yk3) := HYB.out.c 4 (by simp)
                have z0 : W7.cell? ⟨w7.heap.size, 0, none⟩ = some (.string z.name) := HZB.out.c 0 (by simp)
                have z1 : W7.cell? ⟨w7.heap.size, 1, none⟩ = some (.string z.who) := HZB.out.c 1 (by simp)
                have z2 : W7.cell? ⟨w7.heap.size, 2, none⟩ = some (.slice zp1 z.says.length zk1) := HZB.out.c 2 (by simp)
                have z3 : W7.cell? ⟨w7.heap.size, 3, none⟩ = some (.slice zp2 z.uses.length zk2) := HZB.out.c 3 (by simp)
                have z4 : W7.cell? ⟨w7.heap.size, 4, none⟩ = some (.slice zp3 z.proof.length zk3) := HZB.out.c 4 (by simp)
                have HSM := hid (ref9_Same _ _ _ _ _ _ y z W7 (HENY.out.below (HGR.out.trans (HRc.out.mono HGR.out.size))) (HENZ.out.below (HGR.out.trans (HRc.out.mono HGR.out.size))))
                by_cases hbK : y = z
                case pos =>
                  rw [decide_eq_true hbK] at HSM
                  have HYZ := hid hbK
                  clear hbK
                  go_wp2_with (first | rw [HW7.out])
                  refine HSM.out.mono ?_
                  rintro e wq1 ⟨rfl, hbN⟩
                  clear x0 x1 x2 x3 x4 y0 y1 y2 y3 y4 z0 z1 z2 z3 z4
                  have HXB := hid (HXB.out.below (by simp) hbN)
                  have HYB := hid (HYB.out.below (by simp) hbN)
                  have HZB := hid (HZB.out.below (by simp) hbN)
                  have HRc := hid (HRc.out.trans (hbN.mono HRc.out.size))
                  clear HSM hbN
                  have x0 : wq1.cell? ⟨w5.heap.size, 0, none⟩ = some (.string x.name) := HXB.out.c 0 (by simp)
                  have x1 : wq1.cell? ⟨w5.heap.size, 1, none⟩ = some (.string x.who) := HXB.out.c 1 (by simp)
                  have x2 : wq1.cell? ⟨w5.heap.size, 2, none⟩ = some (.slice xp1 x.says.length xk1) := HXB.out.c 2 (by simp)
                  have x3 : wq1.cell? ⟨w5.heap.size, 3, none⟩ = some (.slice xp2 x.uses.length xk2) := HXB.out.c 3 (by simp)
                  have x4 : wq1.cell? ⟨w5.heap.size, 4, none⟩ = some (.slice xp3 x.proof.length xk3) := HXB.out.c 4 (by simp)
                  have y0 : wq1.cell? ⟨w6.heap.size, 0, none⟩ = some (.string y.name) := HYB.out.c 0 (by simp)
                  have y1 : wq1.cell? ⟨w6.heap.size, 1, none⟩ = some (.string y.who) := HYB.out.c 1 (by simp)
                  have y2 : wq1.cell? ⟨w6.heap.size, 2, none⟩ = some (.slice yp1 y.says.length yk1) := HYB.out.c 2 (by simp)
                  have y3 : wq1.cell? ⟨w6.heap.size, 3, none⟩ = some (.slice yp2 y.uses.length yk2) := HYB.out.c 3 (by simp)
                  have y4 : wq1.cell? ⟨w6.heap.size, 4, none⟩ = some (.slice yp3 y.proof.length yk3) := HYB.out.c 4 (by simp)
                  have z0 : wq1.cell? ⟨w7.heap.size, 0, none⟩ = some (.string z.name) := HZB.out.c 0 (by simp)
                  have z1 : wq1.cell? ⟨w7.heap.size, 1, none⟩ = some (.string z.who) := HZB.out.c 1 (by simp)
                  have z2 : wq1.cell? ⟨w7.heap.size, 2, none⟩ = some (.slice zp1 z.says.length zk1) := HZB.out.c 2 (by simp)
                  have z3 : wq1.cell? ⟨w7.heap.size, 3, none⟩ = some (.slice zp2 z.uses.length zk2) := HZB.out.c 3 (by simp)
                  have z4 : wq1.cell? ⟨w7.heap.size, 4, none⟩ = some (.slice zp3 z.proof.length zk3) := HZB.out.c 4 (by simp)
                  have HPC : Hid (bdN base a b n = false) := hid (by rw [HPC0.out]; unfold pkC; simp [HYZ.out])
                  have HPV : Hid (pkN base a b n = y) := hid (by rw [HPK.out]; unfold pkE; rw [if_pos HYZ.out])
                  have HBWQ := hid (HBFR.out.trans (HRc.out.mono hszr))
                  have HOK := hid (HOWN.out.below HRc.out)
                  have HBDQ := hid (owns_below HBDW.out HRc.out)
                  have HAVQ := HAV
                  have hem : y.name = em := by have h := HFLY.out; simpa using h
                  have HST1 : Hid (outR base a b (M.take (k + 1)) = O ∧ (M.take (k + 1)).filter (bdN base a b) = Bd) := hid (by
                    rw [HOT.out, HBT.out, HPC.out, HKN.out, HPV.out]; simp [hem])
                  clear hem
                  go_wp2_with (first | rw [HW7.out])
                  go_roundw
                  case rel => exact ⟨k + 1, m, nb, O, vso, Bd, by omega, by go_num, HST1.out.1.symm, HOL.out, by omega, HST1.out.2.symm, HBL.out, by omega, HOK.out, HAV.out, HBDQ.out, HBWQ.out⟩
                  case measure => simp [intOf]; omega
                case neg =>
                  rw [decide_eq_false hbK] at HSM
                  have HYZ := hid hbK
                  clear hbK
                  go_wp2_with (first | rw [HW7.out])
                  refine HSM.out.mono ?_
                  rintro e wq1 ⟨rfl, hbN⟩
                  clear x0 x1 x2 x3 x4 y0 y1 y2 y3 y4 z0 z1 z2 z3 z4
                  have HXB := hid (HXB.out.below (by simp) hbN)
                  have HYB := hid (HYB.out.below (by simp) hbN)
                  have HZB := hid (HZB.out.below (by simp) hbN)
                  have HRc := hid (HRc.out.trans (hbN.mono HRc.out.size))
                  clear HSM hbN
                  have x0 : wq1.cell? ⟨w5.heap.size, 0, none⟩ = some (.string x.name) := HXB.out.c 0 (by simp)
                  have x1 : wq1.cell? ⟨w5.heap.size, 1, none⟩ = some (.string x.who) := HXB.out.c 1 (by simp)
                  have x2 : wq1.cell? ⟨w5.heap.size, 2, none⟩ = some (.slice xp1 x.says.length xk1) := HXB.out.c 2 (by simp)
                  have x3 : wq1.cell? ⟨w5.heap.size, 3, none⟩ = some (.slice xp2 x.uses.length xk2) := HXB.out.c 3 (by simp)
                  have x4 : wq1.cell? ⟨w5.heap.size, 4, none⟩ = some (.slice xp3 x.proof.length xk3) := HXB.out.c 4 (by simp)
                  have y0 : wq1.cell? ⟨w6.heap.size, 0, none⟩ = some (.string y.name) := HYB.out.c 0 (by simp)
                  have y1 : wq1.cell? ⟨w6.heap.size, 1, none⟩ = some (.string y.who) := HYB.out.c 1 (by simp)
                  have y2 : wq1.cell? ⟨w6.heap.size, 2, none⟩ = some (.slice yp1 y.says.length yk1) := HYB.out.c 2 (by simp)
                  have y3 : wq1.cell? ⟨w6.heap.size, 3, none⟩ = some (.slice yp2 y.uses.length yk2) := HYB.out.c 3 (by simp)
                  have y4 : wq1.cell? ⟨w6.heap.size, 4, none⟩ = some (.slice yp3 y.proof.length yk3) := HYB.out.c 4 (by simp)
                  have z0 : wq1.cell? ⟨w7.heap.size, 0, none⟩ = some (.string z.name) := HZB.out.c 0 (by simp)
                  have z1 : wq1.cell? ⟨w7.heap.size, 1, none⟩ = some (.string z.who) := HZB.out.c 1 (by simp)
                  have z2 : wq1.cell? ⟨w7.heap.size, 2, none⟩ = some (.slice zp1 z.says.length zk1) := HZB.out.c 2 (by simp)
                  have z3 : wq1.cell? ⟨w7.heap.size, 3, none⟩ = some (.slice zp2 z.uses.length zk2) := HZB.out.c 3 (by simp)
                  have z4 : wq1.cell? ⟨w7.heap.size, 4, none⟩ = some (.slice zp3 z.proof.length zk3) := HZB.out.c 4 (by simp)
                  have HXY := hid (show ¬ x = y from fun e => by have h1 := HFLX.out; rw [e] at h1; exact absurd (h1.trans HFLY.out.symm) (by decide))
                  have HXZ := hid (show ¬ x = z from fun e => by have h1 := HFLX.out; rw [e] at h1; exact absurd (h1.trans HFLZ.out.symm) (by decide))
                  have hbd1 : bdN base a b n = true := by
                    rw [HPC0.out]; unfold pkC; rw [decide_eq_false HYZ.out, decide_eq_false HXY.out, decide_eq_false HXZ.out]; rfl
                  have HPV : Hid (pkN base a b n = y) := hid (by rw [HPK.out]; unfold pkE; rw [if_neg HYZ.out, if_neg HXY.out])
                  have cn : wq1.cell? ⟨g0, k, none⟩ = some (.string n) := HCN.out wq1 HRc.out
                  have HOK := hid (HOWN.out.below HRc.out)
                  have HBDQ := hid (owns_below HBDW.out HRc.out)
                  have HFA := hid (HBFR.out.trans (HRc.out.mono hszr))
                  obtain ⟨ca, cc, rfl⟩ := owns_slice HBDW.out
                  have hRA := HBDQ.out.alloc (.cells #[.string n] 9)
                  have HBLT := hid (show Below wq1.heap.size wq1 (wq1.alloc (.cells #[.string n] 9)) from (Below.refl _ _).alloc (Nat.le_refl _) _)
                  have hzF : wF.heap.size ≤ wq1.heap.size := HFA.out.size
                  have HNE := hid (show some w6.heap.size ≠ (Value.slice ca nb cc).ownBlock from fun e => by have h1 := (HBDW.out.lt _ e.symm).2; have h2 := HZ6.out; omega)
                  have HYL := hid (show w6.heap.size < (wq1.alloc (.cells #[.string n] 9)).heap.size from (HYB.out.below (by simp) HBLT.out).lt (by simp))
                  have HYA := hid (HYB.out.below (by simp) HBLT.out)
                  have hem : y.name = em := by have h := HFLY.out; simpa using h
                  have HST1 : Hid (outR base a b (M.take (k + 1)) = O ∧ (M.take (k + 1)).filter (bdN base a b) = Bd ++ [n]) := hid (by
                    rw [HOT.out, HBT.out, hbd1, HKN.out, HPV.out]; simp [hem])
                  clear hem hbd1
                  go_wp2_with (first | rw [HW7.out] | (at_builtin; refine wpList_append_lie rfl _ _ 38 rfl wF.heap.size 9 el_str Tryz.underlying38 rfl (by decide) _ nb (Bd.map Value.string) rfl hRA _ 1 [.string n] rfl (row_one_new _ _ _) (oneCell_one rfl) (by omega) (by omega) (by omega) (by simp; omega) _ rfl ?_; intro g8 cap8 w8 hown8 hgrow8 hat8 hlt8))
                  go_roundw
                  case rel =>
                    have hEA := HOK.out.below HBLT.out
                    have hE8 := hEA.off HAV.out (W' := w8) (fun q hq hne => hgrow8.block q hq hne)
                    have hav8 : AvB (Value.slice (some ⟨g8, 0, none⟩) (nb + 1) cap8).ownBlock ul vso := AvB.fresh hEA HAV.out (g := g8) (by simp) hat8
                    have hown9 : w8.ownsRow wF.heap.size 9 1 (.slice (some ⟨g8, 0, none⟩) (nb + 1) cap8) (nb + 1) ((Bd ++ [n]).map Value.string) := by simpa using hown8
                    have hb8 : Below wF.heap.size wF w8 := (HFA.out.trans (HBLT.out.mono HFA.out.size)).grown hgrow8 (Nat.le_trans HFA.out.size HBLT.out.size) (fun q hq => (HBDQ.out.lt q hq).1)
                    exact ⟨k + 1, m, nb + 1, O, vso, Bd ++ [n], by omega, by go_num, HST1.out.1.symm, HOL.out, by omega, HST1.out.2.symm, by simp [HBL.out], by omega, hE8, hav8, hown9, hb8⟩
                  case measure => simp [intOf]; omega
              case true =>
                have x0 : W7.cell? ⟨w5.heap.size, 0, none⟩ = some (.string x.name) := HXB.out.c 0 (by simp)
                have x1 : W7.cell? ⟨w5.heap.size, 1, none⟩ = some (.string x.who) := HXB.out.c 1 (by simp)
                have x2 : W7.cell? ⟨w5.heap.size, 2, none⟩ = some (.slice xp1 x.says.length xk1) := HXB.out.c 2 (by simp)
                have x3 : W7.cell? ⟨w5.heap.size, 3, none⟩ = some (.slice xp2 x.uses.length xk2) := HXB.out.c 3 (by simp)
                have x4 : W7.cell? ⟨w5.heap.size, 4, none⟩ = some (.slice xp3 x.proof.length xk3) := HXB.out.c 4 (by simp)
                have y0 : W7.cell? ⟨w6.heap.size, 0, none⟩ = some (.string y.name) := HYB.out.c 0 (by simp)
                have y1 : W7.cell? ⟨w6.heap.size, 1, none⟩ = some (.string y.who) := HYB.out.c 1 (by simp)
                have y2 : W7.cell? ⟨w6.heap.size, 2, none⟩ = some (.slice yp1 y.says.length yk1) := HYB.out.c 2 (by simp)
                have y3 : W7.cell? ⟨w6.heap.size, 3, none⟩ = some (.slice yp2 y.uses.length yk2) := HYB.out.c 3 (by simp)
                have y4 : W7.cell? ⟨w6.heap.size, 4, none⟩ = some (.slice yp3 y.proof.length yk3) := HYB.out.c 4 (by simp)
                have z0 : W7.cell? ⟨w7.heap.size, 0, none⟩ = some (.string z.name) := HZB.out.c 0 (by simp)
                have z1 : W7.cell? ⟨w7.heap.size, 1, none⟩ = some (.string z.who) := HZB.out.c 1 (by simp)
                have z2 : W7.cell? ⟨w7.heap.size, 2, none⟩ = some (.slice zp1 z.says.length zk1) := HZB.out.c 2 (by simp)
                have z3 : W7.cell? ⟨w7.heap.size, 3, none⟩ = some (.slice zp2 z.uses.length zk2) := HZB.out.c 3 (by simp)
                have z4 : W7.cell? ⟨w7.heap.size, 4, none⟩ = some (.slice zp3 z.proof.length zk3) := HZB.out.c 4 (by simp)
                have HYZ := hid (show ¬ y = z from fun e => by have h1 := HFLY.out; rw [e] at h1; exact absurd (h1.trans HFLZ.out.symm) (by decide))
                have HXY := hid (show ¬ x = y from fun e => by have h1 := HFLX.out; rw [e] at h1; exact absurd (h1.trans HFLY.out.symm) (by decide))
                have HSM := hid (ref9_Same _ _ _ _ _ _ x z W7 (HENX.out.below (HGR.out.trans (HRc.out.mono HGR.out.size))) (HENZ.out.below (HGR.out.trans (HRc.out.mono HGR.out.size))))
                by_cases hbK : x = z
                case pos =>
                  rw [decide_eq_true hbK] at HSM
                  have HXZ := hid hbK
                  clear hbK
                  go_wp2_with (first | rw [HW7.out])
                  refine HSM.out.mono ?_
                  rintro e wq3 ⟨rfl, hbN⟩
                  clear x0 x1 x2 x3 x4 y0 y1 y2 y3 y4 z0 z1 z2 z3 z4
                  have HXB := hid (HXB.out.below (by simp) hbN)
                  have HYB := hid (HYB.out.below (by simp) hbN)
                  have HZB := hid (HZB.out.below (by simp) hbN)
                  have HRc := hid (HRc.out.trans (hbN.mono HRc.out.size))
                  clear HSM hbN
                  have x0 : wq3.cell? ⟨w5.heap.size, 0, none⟩ = some (.string x.name) := HXB.out.c 0 (by simp)
                  have x1 : wq3.cell? ⟨w5.heap.size, 1, none⟩ = some (.string x.who) := HXB.out.c 1 (by simp)
                  have x2 : wq3.cell? ⟨w5.heap.size, 2, none⟩ = some (.slice xp1 x.says.length xk1) := HXB.out.c 2 (by simp)
                  have x3 : wq3.cell? ⟨w5.heap.size, 3, none⟩ = some (.slice xp2 x.uses.length xk2) := HXB.out.c 3 (by simp)
                  have x4 : wq3.cell? ⟨w5.heap.size, 4, none⟩ = some (.slice xp3 x.proof.length xk3) := HXB.out.c 4 (by simp)
                  have y0 : wq3.cell? ⟨w6.heap.size, 0, none⟩ = some (.string y.name) := HYB.out.c 0 (by simp)
                  have y1 : wq3.cell? ⟨w6.heap.size, 1, none⟩ = some (.string y.who) := HYB.out.c 1 (by simp)
                  have y2 : wq3.cell? ⟨w6.heap.size, 2, none⟩ = some (.slice yp1 y.says.length yk1) := HYB.out.c 2 (by simp)
                  have y3 : wq3.cell? ⟨w6.heap.size, 3, none⟩ = some (.slice yp2 y.uses.length yk2) := HYB.out.c 3 (by simp)
                  have y4 : wq3.cell? ⟨w6.heap.size, 4, none⟩ = some (.slice yp3 y.proof.length yk3) := HYB.out.c 4 (by simp)
                  have z0 : wq3.cell? ⟨w7.heap.size, 0, none⟩ = some (.string z.name) := HZB.out.c 0 (by simp)
                  have z1 : wq3.cell? ⟨w7.heap.size, 1, none⟩ = some (.string z.who) := HZB.out.c 1 (by simp)
                  have z2 : wq3.cell? ⟨w7.heap.size, 2, none⟩ = some (.slice zp1 z.says.length zk1) := HZB.out.c 2 (by simp)
                  have z3 : wq3.cell? ⟨w7.heap.size, 3, none⟩ = some (.slice zp2 z.uses.length zk2) := HZB.out.c 3 (by simp)
                  have z4 : wq3.cell? ⟨w7.heap.size, 4, none⟩ = some (.slice zp3 z.proof.length zk3) := HZB.out.c 4 (by simp)
                  have HPC : Hid (bdN base a b n = false) := hid (by rw [HPC0.out]; unfold pkC; simp [HXZ.out])
                  have HPV : Hid (pkN base a b n = y) := hid (by rw [HPK.out]; unfold pkE; rw [if_neg HYZ.out, if_neg HXY.out])
                  have HBWQ := hid (HBFR.out.trans (HRc.out.mono hszr))
                  have HOK := hid (HOWN.out.below HRc.out)
                  have HBDQ := hid (owns_below HBDW.out HRc.out)
                  have HAVQ := HAV
                  have hem : y.name = em := by have h := HFLY.out; simpa using h
                  have HST1 : Hid (outR base a b (M.take (k + 1)) = O ∧ (M.take (k + 1)).filter (bdN base a b) = Bd) := hid (by
                    rw [HOT.out, HBT.out, HPC.out, HKN.out, HPV.out]; simp [hem])
                  clear hem
                  go_wp2_with (first | rw [HW7.out])
                  go_roundw
                  case rel => exact ⟨k + 1, m, nb, O, vso, Bd, by omega, by go_num, HST1.out.1.symm, HOL.out, by omega, HST1.out.2.symm, HBL.out, by omega, HOK.out, HAV.out, HBDQ.out, HBWQ.out⟩
                  case measure => simp [intOf]; omega
                case neg =>
                  rw [decide_eq_false hbK] at HSM
                  have HXZ := hid hbK
                  clear hbK
                  go_wp2_with (first | rw [HW7.out])
                  refine HSM.out.mono ?_
                  rintro e wq3 ⟨rfl, hbN⟩
                  clear x0 x1 x2 x3 x4 y0 y1 y2 y3 y4 z0 z1 z2 z3 z4
                  have HXB := hid (HXB.out.below (by simp) hbN)
                  have HYB := hid (HYB.out.below (by simp) hbN)
                  have HZB := hid (HZB.out.below (by simp) hbN)
                  have HRc := hid (HRc.out.trans (hbN.mono HRc.out.size))
                  clear HSM hbN
                  have x0 : wq3.cell? ⟨w5.heap.size, 0, none⟩ = some (.string x.name) := HXB.out.c 0 (by simp)
                  have x1 : wq3.cell? ⟨w5.heap.size, 1, none⟩ = some (.string x.who) := HXB.out.c 1 (by simp)
                  have x2 : wq3.cell? ⟨w5.heap.size, 2, none⟩ = some (.slice xp1 x.says.length xk1) := HXB.out.c 2 (by simp)
                  have x3 : wq3.cell? ⟨w5.heap.size, 3, none⟩ = some (.slice xp2 x.uses.length xk2) := HXB.out.c 3 (by simp)
                  have x4 : wq3.cell? ⟨w5.heap.size, 4, none⟩ = some (.slice xp3 x.proof.length xk3) := HXB.out.c 4 (by simp)
                  have y0 : wq3.cell? ⟨w6.heap.size, 0, none⟩ = some (.string y.name) := HYB.out.c 0 (by simp)
                  have y1 : wq3.cell? ⟨w6.heap.size, 1, none⟩ = some (.string y.who) := HYB.out.c 1 (by simp)
                  have y2 : wq3.cell? ⟨w6.heap.size, 2, none⟩ = some (.slice yp1 y.says.length yk1) := HYB.out.c 2 (by simp)
                  have y3 : wq3.cell? ⟨w6.heap.size, 3, none⟩ = some (.slice yp2 y.uses.length yk2) := HYB.out.c 3 (by simp)
                  have y4 : wq3.cell? ⟨w6.heap.size, 4, none⟩ = some (.slice yp3 y.proof.length yk3) := HYB.out.c 4 (by simp)
                  have z0 : wq3.cell? ⟨w7.heap.size, 0, none⟩ = some (.string z.name) := HZB.out.c 0 (by simp)
                  have z1 : wq3.cell? ⟨w7.heap.size, 1, none⟩ = some (.string z.who) := HZB.out.c 1 (by simp)
                  have z2 : wq3.cell? ⟨w7.heap.size, 2, none⟩ = some (.slice zp1 z.says.length zk1) := HZB.out.c 2 (by simp)
                  have z3 : wq3.cell? ⟨w7.heap.size, 3, none⟩ = some (.slice zp2 z.uses.length zk2) := HZB.out.c 3 (by simp)
                  have z4 : wq3.cell? ⟨w7.heap.size, 4, none⟩ = some (.slice zp3 z.proof.length zk3) := HZB.out.c 4 (by simp)
                  have hbd1 : bdN base a b n = true := by
                    rw [HPC0.out]; unfold pkC; rw [decide_eq_false HYZ.out, decide_eq_false HXY.out, decide_eq_false HXZ.out]; rfl
                  have HPV : Hid (pkN base a b n = y) := hid (by rw [HPK.out]; unfold pkE; rw [if_neg HYZ.out, if_neg HXY.out])
                  have cn : wq3.cell? ⟨g0, k, none⟩ = some (.string n) := HCN.out wq3 HRc.out
                  have HOK := hid (HOWN.out.below HRc.out)
                  have HBDQ := hid (owns_below HBDW.out HRc.out)
                  have HFA := hid (HBFR.out.trans (HRc.out.mono hszr))
                  obtain ⟨ca, cc, rfl⟩ := owns_slice HBDW.out
                  have hRA := HBDQ.out.alloc (.cells #[.string n] 9)
                  have HBLT := hid (show Below wq3.heap.size wq3 (wq3.alloc (.cells #[.string n] 9)) from (Below.refl _ _).alloc (Nat.le_refl _) _)
                  have hzF : wF.heap.size ≤ wq3.heap.size := HFA.out.size
                  have HNE := hid (show some w6.heap.size ≠ (Value.slice ca nb cc).ownBlock from fun e => by have h1 := (HBDW.out.lt _ e.symm).2; have h2 := HZ6.out; omega)
                  have HYL := hid (show w6.heap.size < (wq3.alloc (.cells #[.string n] 9)).heap.size from (HYB.out.below (by simp) HBLT.out).lt (by simp))
                  have HYA := hid (HYB.out.below (by simp) HBLT.out)
                  have hem : y.name = em := by have h := HFLY.out; simpa using h
                  have HST1 : Hid (outR base a b (M.take (k + 1)) = O ∧ (M.take (k + 1)).filter (bdN base a b) = Bd ++ [n]) := hid (by
                    rw [HOT.out, HBT.out, hbd1, HKN.out, HPV.out]; simp [hem])
                  clear hem hbd1
                  go_wp2_with (first | rw [HW7.out] | (at_builtin; refine wpList_append_lie rfl _ _ 38 rfl wF.heap.size 9 el_str Tryz.underlying38 rfl (by decide) _ nb (Bd.map Value.string) rfl hRA _ 1 [.string n] rfl (row_one_new _ _ _) (oneCell_one rfl) (by omega) (by omega) (by omega) (by simp; omega) _ rfl ?_; intro g8 cap8 w8 hown8 hgrow8 hat8 hlt8))
                  go_roundw
                  case rel =>
                    have hEA := HOK.out.below HBLT.out
                    have hE8 := hEA.off HAV.out (W' := w8) (fun q hq hne => hgrow8.block q hq hne)
                    have hav8 : AvB (Value.slice (some ⟨g8, 0, none⟩) (nb + 1) cap8).ownBlock ul vso := AvB.fresh hEA HAV.out (g := g8) (by simp) hat8
                    have hown9 : w8.ownsRow wF.heap.size 9 1 (.slice (some ⟨g8, 0, none⟩) (nb + 1) cap8) (nb + 1) ((Bd ++ [n]).map Value.string) := by simpa using hown8
                    have hb8 : Below wF.heap.size wF w8 := (HFA.out.trans (HBLT.out.mono HFA.out.size)).grown hgrow8 (Nat.le_trans HFA.out.size HBLT.out.size) (fun q hq => (HBDQ.out.lt q hq).1)
                    exact ⟨k + 1, m, nb + 1, O, vso, Bd ++ [n], by omega, by go_num, HST1.out.1.symm, HOL.out, by omega, HST1.out.2.symm, by simp [HBL.out], by omega, hE8, hav8, hown9, hb8⟩
                  case measure => simp [intOf]; omega
            case true =>
              cases f
              case false =>
                have x0 : W7.cell? ⟨w5.heap.size, 0, none⟩ = some (.string x.name) := HXB.out.c 0 (by simp)
                have x1 : W7.cell? ⟨w5.heap.size, 1, none⟩ = some (.string x.who) := HXB.out.c 1 (by simp)
                have x2 : W7.cell? ⟨w5.heap.size, 2, none⟩ = some (.slice xp1 x.says.length xk1) := HXB.out.c 2 (by simp)
                have x3 : W7.cell? ⟨w5.heap.size, 3, none⟩ = some (.slice xp2 x.uses.length xk2) := HXB.out.c 3 (by simp)
                have x4 : W7.cell? ⟨w5.heap.size, 4, none⟩ = some (.slice xp3 x.proof.length xk3) := HXB.out.c 4 (by simp)
                have y0 : W7.cell? ⟨w6.heap.size, 0, none⟩ = some (.string y.name) := HYB.out.c 0 (by simp)
                have y1 : W7.cell? ⟨w6.heap.size, 1, none⟩ = some (.string y.who) := HYB.out.c 1 (by simp)
                have y2 : W7.cell? ⟨w6.heap.size, 2, none⟩ = some (.slice yp1 y.says.length yk1) := HYB.out.c 2 (by simp)
                have y3 : W7.cell? ⟨w6.heap.size, 3, none⟩ = some (.slice yp2 y.uses.length yk2) := HYB.out.c 3 (by simp)
                have y4 : W7.cell? ⟨w6.heap.size, 4, none⟩ = some (.slice yp3 y.proof.length yk3) := HYB.out.c 4 (by simp)
                have z0 : W7.cell? ⟨w7.heap.size, 0, none⟩ = some (.string z.name) := HZB.out.c 0 (by simp)
                have z1 : W7.cell? ⟨w7.heap.size, 1, none⟩ = some (.string z.who) := HZB.out.c 1 (by simp)
                have z2 : W7.cell? ⟨w7.heap.size, 2, none⟩ = some (.slice zp1 z.says.length zk1) := HZB.out.c 2 (by simp)
                have z3 : W7.cell? ⟨w7.heap.size, 3, none⟩ = some (.slice zp2 z.uses.length zk2) := HZB.out.c 3 (by simp)
                have z4 : W7.cell? ⟨w7.heap.size, 4, none⟩ = some (.slice zp3 z.proof.length zk3) := HZB.out.c 4 (by simp)
                have HYZ := hid (show ¬ y = z from fun e => by have h1 := HFLY.out; rw [e] at h1; exact absurd (h1.trans HFLZ.out.symm) (by decide))
                have HSM := hid (ref9_Same _ _ _ _ _ _ x y W7 (HENX.out.below (HGR.out.trans (HRc.out.mono HGR.out.size))) (HENY.out.below (HGR.out.trans (HRc.out.mono HGR.out.size))))
                by_cases hbK : x = y
                case pos =>
                  rw [decide_eq_true hbK] at HSM
                  have HXY := hid hbK
                  clear hbK
                  go_wp2_with (first | rw [HW7.out])
                  refine HSM.out.mono ?_
                  rintro e wq2 ⟨rfl, hbN⟩
                  clear x0 x1 x2 x3 x4 y0 y1 y2 y3 y4 z0 z1 z2 z3 z4
                  have HXB := hid (HXB.out.below (by simp) hbN)
                  have HYB := hid (HYB.out.below (by simp) hbN)
                  have HZB := hid (HZB.out.below (by simp) hbN)
                  have HRc := hid (HRc.out.trans (hbN.mono HRc.out.size))
                  clear HSM hbN
                  have x0 : wq2.cell? ⟨w5.heap.size, 0, none⟩ = some (.string x.name) := HXB.out.c 0 (by simp)
                  have x1 : wq2.cell? ⟨w5.heap.size, 1, none⟩ = some (.string x.who) := HXB.out.c 1 (by simp)
                  have x2 : wq2.cell? ⟨w5.heap.size, 2, none⟩ = some (.slice xp1 x.says.length xk1) := HXB.out.c 2 (by simp)
                  have x3 : wq2.cell? ⟨w5.heap.size, 3, none⟩ = some (.slice xp2 x.uses.length xk2) := HXB.out.c 3 (by simp)
                  have x4 : wq2.cell? ⟨w5.heap.size, 4, none⟩ = some (.slice xp3 x.proof.length xk3) := HXB.out.c 4 (by simp)
                  have y0 : wq2.cell? ⟨w6.heap.size, 0, none⟩ = some (.string y.name) := HYB.out.c 0 (by simp)
                  have y1 : wq2.cell? ⟨w6.heap.size, 1, none⟩ = some (.string y.who) := HYB.out.c 1 (by simp)
                  have y2 : wq2.cell? ⟨w6.heap.size, 2, none⟩ = some (.slice yp1 y.says.length yk1) := HYB.out.c 2 (by simp)
                  have y3 : wq2.cell? ⟨w6.heap.size, 3, none⟩ = some (.slice yp2 y.uses.length yk2) := HYB.out.c 3 (by simp)
                  have y4 : wq2.cell? ⟨w6.heap.size, 4, none⟩ = some (.slice yp3 y.proof.length yk3) := HYB.out.c 4 (by simp)
                  have z0 : wq2.cell? ⟨w7.heap.size, 0, none⟩ = some (.string z.name) := HZB.out.c 0 (by simp)
                  have z1 : wq2.cell? ⟨w7.heap.size, 1, none⟩ = some (.string z.who) := HZB.out.c 1 (by simp)
                  have z2 : wq2.cell? ⟨w7.heap.size, 2, none⟩ = some (.slice zp1 z.says.length zk1) := HZB.out.c 2 (by simp)
                  have z3 : wq2.cell? ⟨w7.heap.size, 3, none⟩ = some (.slice zp2 z.uses.length zk2) := HZB.out.c 3 (by simp)
                  have z4 : wq2.cell? ⟨w7.heap.size, 4, none⟩ = some (.slice zp3 z.proof.length zk3) := HZB.out.c 4 (by simp)
                  obtain ⟨W8, hW8⟩ : ∃ W8, wq2.setCells w6.heap.size 0 [.string z.name, .string z.who, .slice zp1 z.says.length zk1, .slice zp2 z.uses.length zk2, .slice zp3 z.proof.length zk3] = W8 := ⟨_, rfl⟩
                  have hX8 := BX.sets [.string z.name, .string z.who, .slice zp1 z.says.length zk1, .slice zp2 z.uses.length zk2, .slice zp3 z.proof.length zk3] 0 HYB.out (by simp)
                  rw [hW8] at hX8
                  have f0 := HYB.out.z 0
                  have f1 := HYB.out.z 1
                  have f2 := HYB.out.z 2
                  have f3 := HYB.out.z 3
                  have f4 := HYB.out.z 4
                  have hsets : (((((wq2.setCell ⟨w6.heap.size, 0, none⟩ (.string z.name)).setCell ⟨w6.heap.size, 1, none⟩ (.string z.who)).setCell ⟨w6.heap.size, 2, none⟩ (.slice zp1 z.says.length zk1)).setCell ⟨w6.heap.size, 3, none⟩ (.slice zp2 z.uses.length zk2)).setCell ⟨w6.heap.size, 4, none⟩ (.slice zp3 z.proof.length zk3)) = W8 := hW8
                  have HSETS := hid hsets
                  have HYB : Hid (BX W8 w6.heap.size [.string z.name, .string z.who, .slice zp1 z.says.length zk1, .slice zp2 z.uses.length zk2, .slice zp3 z.proof.length zk3]) := hid hX8
                  have HRc : Hid (Below wr.heap.size wr W8) := hid (hW8 ▸ blw_setsM HRc.out HZ6.out 0 _)
                  have q0 : W8.cell? ⟨w6.heap.size, 0, none⟩ = some (.string z.name) := HYB.out.c 0 (by simp)
                  have q1 : W8.cell? ⟨w6.heap.size, 1, none⟩ = some (.string z.who) := HYB.out.c 1 (by simp)
                  have q2 : W8.cell? ⟨w6.heap.size, 2, none⟩ = some (.slice zp1 z.says.length zk1) := HYB.out.c 2 (by simp)
                  have q3 : W8.cell? ⟨w6.heap.size, 3, none⟩ = some (.slice zp2 z.uses.length zk2) := HYB.out.c 3 (by simp)
                  have q4 : W8.cell? ⟨w6.heap.size, 4, none⟩ = some (.slice zp3 z.proof.length zk3) := HYB.out.c 4 (by simp)
                  clear hW8 hX8 hsets
                  have HPC : Hid (bdN base a b n = false) := hid (by rw [HPC0.out]; unfold pkC; simp [HXY.out])
                  have HPV : Hid (pkN base a b n = z) := hid (by rw [HPK.out]; unfold pkE; rw [if_neg HYZ.out, if_pos HXY.out])
                  have HBWQ := hid (HBFR.out.trans (HRc.out.mono hszr))
                  have HOK := hid (HOWN.out.below HRc.out)
                  have HBDQ := hid (owns_below HBDW.out HRc.out)
                  have HAVQ := HAV
                  have hem : z.name = em := by have h := HFLZ.out; simpa using h
                  have HST1 : Hid (outR base a b (M.take (k + 1)) = O ∧ (M.take (k + 1)).filter (bdN base a b) = Bd) := hid (by
                    rw [HOT.out, HBT.out, HPC.out, HKN.out, HPV.out]; simp [hem])
                  clear hem
                  go_wp2_with (first | rw [HSETS.out] | rw [HW7.out])
                  go_roundw
                  case rel => exact ⟨k + 1, m, nb, O, vso, Bd, by omega, by go_num, HST1.out.1.symm, HOL.out, by omega, HST1.out.2.symm, HBL.out, by omega, HOK.out, HAV.out, HBDQ.out, HBWQ.out⟩
                  case measure => simp [intOf]; omega
                case neg =>
                  rw [decide_eq_false hbK] at HSM
                  have HXY := hid hbK
                  clear hbK
                  go_wp2_with (first | rw [HW7.out])
                  refine HSM.out.mono ?_
                  rintro e wq2 ⟨rfl, hbN⟩
                  clear x0 x1 x2 x3 x4 y0 y1 y2 y3 y4 z0 z1 z2 z3 z4
                  have HXB := hid (HXB.out.below (by simp) hbN)
                  have HYB := hid (HYB.out.below (by simp) hbN)
                  have HZB := hid (HZB.out.below (by simp) hbN)
                  have HRc := hid (HRc.out.trans (hbN.mono HRc.out.size))
                  clear HSM hbN
                  have x0 : wq2.cell? ⟨w5.heap.size, 0, none⟩ = some (.string x.name) := HXB.out.c 0 (by simp)
                  have x1 : wq2.cell? ⟨w5.heap.size, 1, none⟩ = some (.string x.who) := HXB.out.c 1 (by simp)
                  have x2 : wq2.cell? ⟨w5.heap.size, 2, none⟩ = some (.slice xp1 x.says.length xk1) := HXB.out.c 2 (by simp)
                  have x3 : wq2.cell? ⟨w5.heap.size, 3, none⟩ = some (.slice xp2 x.uses.length xk2) := HXB.out.c 3 (by simp)
                  have x4 : wq2.cell? ⟨w5.heap.size, 4, none⟩ = some (.slice xp3 x.proof.length xk3) := HXB.out.c 4 (by simp)
                  have y0 : wq2.cell? ⟨w6.heap.size, 0, none⟩ = some (.string y.name) := HYB.out.c 0 (by simp)
                  have y1 : wq2.cell? ⟨w6.heap.size, 1, none⟩ = some (.string y.who) := HYB.out.c 1 (by simp)
                  have y2 : wq2.cell? ⟨w6.heap.size, 2, none⟩ = some (.slice yp1 y.says.length yk1) := HYB.out.c 2 (by simp)
                  have y3 : wq2.cell? ⟨w6.heap.size, 3, none⟩ = some (.slice yp2 y.uses.length yk2) := HYB.out.c 3 (by simp)
                  have y4 : wq2.cell? ⟨w6.heap.size, 4, none⟩ = some (.slice yp3 y.proof.length yk3) := HYB.out.c 4 (by simp)
                  have z0 : wq2.cell? ⟨w7.heap.size, 0, none⟩ = some (.string z.name) := HZB.out.c 0 (by simp)
                  have z1 : wq2.cell? ⟨w7.heap.size, 1, none⟩ = some (.string z.who) := HZB.out.c 1 (by simp)
                  have z2 : wq2.cell? ⟨w7.heap.size, 2, none⟩ = some (.slice zp1 z.says.length zk1) := HZB.out.c 2 (by simp)
                  have z3 : wq2.cell? ⟨w7.heap.size, 3, none⟩ = some (.slice zp2 z.uses.length zk2) := HZB.out.c 3 (by simp)
                  have z4 : wq2.cell? ⟨w7.heap.size, 4, none⟩ = some (.slice zp3 z.proof.length zk3) := HZB.out.c 4 (by simp)
                  have HXZ := hid (show ¬ x = z from fun e => by have h1 := HFLX.out; rw [e] at h1; exact absurd (h1.trans HFLZ.out.symm) (by decide))
                  have hbd1 : bdN base a b n = true := by
                    rw [HPC0.out]; unfold pkC; rw [decide_eq_false HYZ.out, decide_eq_false HXY.out, decide_eq_false HXZ.out]; rfl
                  have HPV : Hid (pkN base a b n = y) := hid (by rw [HPK.out]; unfold pkE; rw [if_neg HYZ.out, if_neg HXY.out])
                  have cn : wq2.cell? ⟨g0, k, none⟩ = some (.string n) := HCN.out wq2 HRc.out
                  have HOK := hid (HOWN.out.below HRc.out)
                  have HBDQ := hid (owns_below HBDW.out HRc.out)
                  have HFA := hid (HBFR.out.trans (HRc.out.mono hszr))
                  obtain ⟨ca, cc, rfl⟩ := owns_slice HBDW.out
                  have hRA := HBDQ.out.alloc (.cells #[.string n] 9)
                  have HBLT := hid (show Below wq2.heap.size wq2 (wq2.alloc (.cells #[.string n] 9)) from (Below.refl _ _).alloc (Nat.le_refl _) _)
                  have hzF : wF.heap.size ≤ wq2.heap.size := HFA.out.size
                  have HNE := hid (show some w6.heap.size ≠ (Value.slice ca nb cc).ownBlock from fun e => by have h1 := (HBDW.out.lt _ e.symm).2; have h2 := HZ6.out; omega)
                  have HYL := hid (show w6.heap.size < (wq2.alloc (.cells #[.string n] 9)).heap.size from (HYB.out.below (by simp) HBLT.out).lt (by simp))
                  have HYA := hid (HYB.out.below (by simp) HBLT.out)
                  have hem : ¬ y.name = em := by have h := HFLY.out; simpa using h
                  have HST1 : Hid (outR base a b (M.take (k + 1)) = O ++ [y] ∧ (M.take (k + 1)).filter (bdN base a b) = Bd ++ [n]) := hid (by
                    rw [HOT.out, HBT.out, hbd1, HKN.out, HPV.out]; simp [hem])
                  clear hbd1
                  go_wp2_with (first | rw [HW7.out] | (at_builtin; refine wpList_append_lie rfl _ _ 38 rfl wF.heap.size 9 el_str Tryz.underlying38 rfl (by decide) _ nb (Bd.map Value.string) rfl hRA _ 1 [.string n] rfl (row_one_new _ _ _) (oneCell_one rfl) (by omega) (by omega) (by omega) (by simp; omega) _ rfl ?_; intro g8 cap8 w8 hown8 hgrow8 hat8 hlt8; have hY8 := HYA.out.block (hgrow8.block w6.heap.size HYL.out HNE.out); have y0 := hY8.c 0 (by simp); have y1 := hY8.c 1 (by simp); have y2 := hY8.c 2 (by simp); have y3 := hY8.c 3 (by simp); have y4 := hY8.c 4 (by simp); simp only [List.getElem_cons_zero, List.getElem_cons_succ] at y0 y1 y2 y3 y4))
                  have hEA := HOK.out.below HBLT.out
                  have hE8 := hEA.off HAV.out (W' := w8) (fun q hq hne => hgrow8.block q hq hne)
                  have hav8 : AvB (Value.slice (some ⟨g8, 0, none⟩) (nb + 1) cap8).ownBlock ul vso := AvB.fresh hEA HAV.out (g := g8) (by simp) hat8
                  have hown9 : w8.ownsRow wF.heap.size 9 1 (.slice (some ⟨g8, 0, none⟩) (nb + 1) cap8) (nb + 1) ((Bd ++ [n]).map Value.string) := by simpa using hown8
                  have hb8 : Below wF.heap.size wF w8 := (HFA.out.trans (HBLT.out.mono HFA.out.size)).grown hgrow8 (Nat.le_trans HFA.out.size HBLT.out.size) (fun q hq => (HBDQ.out.lt q hq).1)
                  have HOK := hid hE8
                  have HAVQ := hid hav8
                  have HBDQ := hid hown9
                  have HBWQ := hid hb8
                  have hsm := HSMY.out hem
                  have HCP := hid (ref9_copied (.slice yp1 y.says.length yk1) (.slice yp2 y.uses.length yk2) (.slice yp3 y.proof.length yk3) y w8 (HENY.out.below (HBWF.out.trans (HBWQ.out.mono HBWF.out.size))) hsm.2.1 hsm.2.2.1 hsm.2.2.2)
                  have HE := HOK
                  have HB := HBWQ
                  have HLEN := HOL
                  obtain ⟨la, lc, rfl⟩ : ∃ a c, ul = .slice a m c := HOL.out ▸ HOK.out.slice
                  clear hem
                  refine HCP.out.mono ?_; rintro e w9 ⟨v, rfl, ⟨vS, vU, vP, rfl, hO⟩, hb2⟩; obtain ⟨a1, k1, rfl⟩ := owns_slice hO.s; obtain ⟨a2, k2, rfl⟩ := owns_slice hO.u; obtain ⟨a3, k3, rfl⟩ := owns_slice hO.p; have HE2 := hid (HE.out.below hb2); have HBR2 := hid hb2; have HO2 := hid hO; have HB2 := hid (HB.out.trans (hb2.mono HB.out.size)); have HU := hid HE.out.top.lt; have hown2 := HE2.out.top; rw [HLEN.out] at hown2; have hownA := hown2.alloc (.cells #[.string y.name, .string y.who, .slice a1 y.says.length k1, .slice a2 y.uses.length k2, .slice a3 y.proof.length k3] 41); have HROW := hid (row_one_ent w9 (.string y.name) (.string y.who) (.slice a1 y.says.length k1) (.slice a2 y.uses.length k2) (.slice a3 y.proof.length k3) 41); have hwz := HB2.out.size; clear hO hb2 hown2
                  go_wp2_with (at_builtin; go_loud (refine wpList_append_lie rfl _ _ 24 rfl wF.heap.size 41 el_ent Tryz.underlying24 rfl (by decide) _ (m) (ensC O vso) rfl hownA _ 1 (enC y (.slice a1 y.says.length k1, .slice a2 y.uses.length k2, .slice a3 y.proof.length k3)) rfl HROW.out (enC_one _ _ _ _ _ _ _ _ _ _) (by omega) (by omega) (by omega) (by simp; omega) _ rfl ?_; intro g cap w4 hown4 hgrow4 hat4 hlt4; have hB4 := (HB2.out.alloc HB2.out.size (.cells #[.string y.name, .string y.who, .slice a1 y.says.length k1, .slice a2 y.uses.length k2, .slice a3 y.proof.length k3] 41)).grown hgrow4 (by simp; omega) (fun q hq => (HU.out q hq).1)))
                  go_roundw
                  case rel =>
                    have hba : Below w9.heap.size w9 (w9.alloc (.cells #[.string y.name, .string y.who, .slice a1 y.says.length k1, .slice a2 y.uses.length k2, .slice a3 y.proof.length k3] 41)) := (Below.refl _ _).alloc (Nat.le_refl _) _; have hE4 := HE.out.push (w1 := w9.alloc _) (HBR2.out.trans (hba.mono HBR2.out.size)) (HO2.out.blocks (Nat.le_refl _) fun q _ hq => hba.block q hq) HB.out.size HLEN.out.symm hown4 hgrow4
                    have hxq : ∀ q, (Value.slice (some ⟨g8, 0, none⟩) (nb + 1) cap8).ownBlock = some q → q < w8.heap.size := fun q hq => (HBDQ.out.lt q hq).2
                    have hw9 := HBR2.out.size
                    have hav4 := HAVQ.out.push (g := g) (n := m + 1) (c := cap) (v := (.slice a1 y.says.length k1, .slice a2 y.uses.length k2, .slice a3 y.proof.length k3)) hat4 hxq (by simp; omega) (fun q hq => (by
                      rcases hq with hq | hq | hq
                      · exact (HO2.out.s.lt q hq).1
                      · exact (HO2.out.u.lt q hq).1
                      · exact (HO2.out.p.lt q hq).1))
                    have hbd4 := owns_blocks (owns_below HBDQ.out (HBR2.out.trans ((show Below w9.heap.size w9 (w9.alloc (.cells #[.string y.name, .string y.who, .slice a1 y.says.length k1, .slice a2 y.uses.length k2, .slice a3 y.proof.length k3] 41)) from (Below.refl _ _).alloc (Nat.le_refl _) _).mono HBR2.out.size))) fun q _ h2 h3 => hgrow4.block q h2 (fun e => HAVQ.out.1 q e.symm h3.symm)
                    exact ⟨k + 1, m + 1, nb + 1, O ++ [y], vso ++ [(.slice a1 y.says.length k1, .slice a2 y.uses.length k2, .slice a3 y.proof.length k3)], Bd ++ [n], by omega, by go_num, HST1.out.1.symm, by simp [HOL.out], by omega, HST1.out.2.symm, by simp [HBL.out], by omega, hE4, hav4, hbd4, hB4⟩
                  case measure => simp [intOf]; omega
              case true =>
                have x0 : W7.cell? ⟨w5.heap.size, 0, none⟩ = some (.string x.name) := HXB.out.c 0 (by simp)
                have x1 : W7.cell? ⟨w5.heap.size, 1, none⟩ = some (.string x.who) := HXB.out.c 1 (by simp)
                have x2 : W7.cell? ⟨w5.heap.size, 2, none⟩ = some (.slice xp1 x.says.length xk1) := HXB.out.c 2 (by simp)
                have x3 : W7.cell? ⟨w5.heap.size, 3, none⟩ = some (.slice xp2 x.uses.length xk2) := HXB.out.c 3 (by simp)
                have x4 : W7.cell? ⟨w5.heap.size, 4, none⟩ = some (.slice xp3 x.proof.length xk3) := HXB.out.c 4 (by simp)
                have y0 : W7.cell? ⟨w6.heap.size, 0, none⟩ = some (.string y.name) := HYB.out.c 0 (by simp)
                have y1 : W7.cell? ⟨w6.heap.size, 1, none⟩ = some (.string y.who) := HYB.out.c 1 (by simp)
                have y2 : W7.cell? ⟨w6.heap.size, 2, none⟩ = some (.slice yp1 y.says.length yk1) := HYB.out.c 2 (by simp)
                have y3 : W7.cell? ⟨w6.heap.size, 3, none⟩ = some (.slice yp2 y.uses.length yk2) := HYB.out.c 3 (by simp)
                have y4 : W7.cell? ⟨w6.heap.size, 4, none⟩ = some (.slice yp3 y.proof.length yk3) := HYB.out.c 4 (by simp)
                have z0 : W7.cell? ⟨w7.heap.size, 0, none⟩ = some (.string z.name) := HZB.out.c 0 (by simp)
                have z1 : W7.cell? ⟨w7.heap.size, 1, none⟩ = some (.string z.who) := HZB.out.c 1 (by simp)
                have z2 : W7.cell? ⟨w7.heap.size, 2, none⟩ = some (.slice zp1 z.says.length zk1) := HZB.out.c 2 (by simp)
                have z3 : W7.cell? ⟨w7.heap.size, 3, none⟩ = some (.slice zp2 z.uses.length zk2) := HZB.out.c 3 (by simp)
                have z4 : W7.cell? ⟨w7.heap.size, 4, none⟩ = some (.slice zp3 z.proof.length zk3) := HZB.out.c 4 (by simp)
                have HSM := hid (ref9_Same _ _ _ _ _ _ y z W7 (HENY.out.below (HGR.out.trans (HRc.out.mono HGR.out.size))) (HENZ.out.below (HGR.out.trans (HRc.out.mono HGR.out.size))))
                by_cases hbK : y = z
                case pos =>
                  rw [decide_eq_true hbK] at HSM
                  have HYZ := hid hbK
                  clear hbK
                  go_wp2_with (first | rw [HW7.out])
                  refine HSM.out.mono ?_
                  rintro e wq1 ⟨rfl, hbN⟩
                  clear x0 x1 x2 x3 x4 y0 y1 y2 y3 y4 z0 z1 z2 z3 z4
                  have HXB := hid (HXB.out.below (by simp) hbN)
                  have HYB := hid (HYB.out.below (by simp) hbN)
                  have HZB := hid (HZB.out.below (by simp) hbN)
                  have HRc := hid (HRc.out.trans (hbN.mono HRc.out.size))
                  clear HSM hbN
                  have x0 : wq1.cell? ⟨w5.heap.size, 0, none⟩ = some (.string x.name) := HXB.out.c 0 (by simp)
                  have x1 : wq1.cell? ⟨w5.heap.size, 1, none⟩ = some (.string x.who) := HXB.out.c 1 (by simp)
                  have x2 : wq1.cell? ⟨w5.heap.size, 2, none⟩ = some (.slice xp1 x.says.length xk1) := HXB.out.c 2 (by simp)
                  have x3 : wq1.cell? ⟨w5.heap.size, 3, none⟩ = some (.slice xp2 x.uses.length xk2) := HXB.out.c 3 (by simp)
                  have x4 : wq1.cell? ⟨w5.heap.size, 4, none⟩ = some (.slice xp3 x.proof.length xk3) := HXB.out.c 4 (by simp)
                  have y0 : wq1.cell? ⟨w6.heap.size, 0, none⟩ = some (.string y.name) := HYB.out.c 0 (by simp)
                  have y1 : wq1.cell? ⟨w6.heap.size, 1, none⟩ = some (.string y.who) := HYB.out.c 1 (by simp)
                  have y2 : wq1.cell? ⟨w6.heap.size, 2, none⟩ = some (.slice yp1 y.says.length yk1) := HYB.out.c 2 (by simp)
                  have y3 : wq1.cell? ⟨w6.heap.size, 3, none⟩ = some (.slice yp2 y.uses.length yk2) := HYB.out.c 3 (by simp)
                  have y4 : wq1.cell? ⟨w6.heap.size, 4, none⟩ = some (.slice yp3 y.proof.length yk3) := HYB.out.c 4 (by simp)
                  have z0 : wq1.cell? ⟨w7.heap.size, 0, none⟩ = some (.string z.name) := HZB.out.c 0 (by simp)
                  have z1 : wq1.cell? ⟨w7.heap.size, 1, none⟩ = some (.string z.who) := HZB.out.c 1 (by simp)
                  have z2 : wq1.cell? ⟨w7.heap.size, 2, none⟩ = some (.slice zp1 z.says.length zk1) := HZB.out.c 2 (by simp)
                  have z3 : wq1.cell? ⟨w7.heap.size, 3, none⟩ = some (.slice zp2 z.uses.length zk2) := HZB.out.c 3 (by simp)
                  have z4 : wq1.cell? ⟨w7.heap.size, 4, none⟩ = some (.slice zp3 z.proof.length zk3) := HZB.out.c 4 (by simp)
                  have HPC : Hid (bdN base a b n = false) := hid (by rw [HPC0.out]; unfold pkC; simp [HYZ.out])
                  have HPV : Hid (pkN base a b n = y) := hid (by rw [HPK.out]; unfold pkE; rw [if_pos HYZ.out])
                  have HBWQ := hid (HBFR.out.trans (HRc.out.mono hszr))
                  have HOK := hid (HOWN.out.below HRc.out)
                  have HBDQ := hid (owns_below HBDW.out HRc.out)
                  have HAVQ := HAV
                  have hem : ¬ y.name = em := by have h := HFLY.out; simpa using h
                  have HST1 : Hid (outR base a b (M.take (k + 1)) = O ++ [y] ∧ (M.take (k + 1)).filter (bdN base a b) = Bd) := hid (by
                    rw [HOT.out, HBT.out, HPC.out, HKN.out, HPV.out]; simp [hem])
                  have hsm := HSMY.out hem
                  have HCP := hid (ref9_copied (.slice yp1 y.says.length yk1) (.slice yp2 y.uses.length yk2) (.slice yp3 y.proof.length yk3) y wq1 (HENY.out.below (HBWF.out.trans (HBWQ.out.mono HBWF.out.size))) hsm.2.1 hsm.2.2.1 hsm.2.2.2)
                  have HE := HOK
                  have HB := HBWQ
                  have HLEN := HOL
                  obtain ⟨la, lc, rfl⟩ : ∃ a c, ul = .slice a m c := HOL.out ▸ HOK.out.slice
                  clear hem
                  go_wp2_with (first | rw [HW7.out])
                  refine HCP.out.mono ?_; rintro e w9 ⟨v, rfl, ⟨vS, vU, vP, rfl, hO⟩, hb2⟩; obtain ⟨a1, k1, rfl⟩ := owns_slice hO.s; obtain ⟨a2, k2, rfl⟩ := owns_slice hO.u; obtain ⟨a3, k3, rfl⟩ := owns_slice hO.p; have HE2 := hid (HE.out.below hb2); have HBR2 := hid hb2; have HO2 := hid hO; have HB2 := hid (HB.out.trans (hb2.mono HB.out.size)); have HU := hid HE.out.top.lt; have hown2 := HE2.out.top; rw [HLEN.out] at hown2; have hownA := hown2.alloc (.cells #[.string y.name, .string y.who, .slice a1 y.says.length k1, .slice a2 y.uses.length k2, .slice a3 y.proof.length k3] 41); have HROW := hid (row_one_ent w9 (.string y.name) (.string y.who) (.slice a1 y.says.length k1) (.slice a2 y.uses.length k2) (.slice a3 y.proof.length k3) 41); have hwz := HB2.out.size; clear hO hb2 hown2
                  go_wp2_with (at_builtin; go_loud (refine wpList_append_lie rfl _ _ 24 rfl wF.heap.size 41 el_ent Tryz.underlying24 rfl (by decide) _ (m) (ensC O vso) rfl hownA _ 1 (enC y (.slice a1 y.says.length k1, .slice a2 y.uses.length k2, .slice a3 y.proof.length k3)) rfl HROW.out (enC_one _ _ _ _ _ _ _ _ _ _) (by omega) (by omega) (by omega) (by simp; omega) _ rfl ?_; intro g cap w4 hown4 hgrow4 hat4 hlt4; have hB4 := (HB2.out.alloc HB2.out.size (.cells #[.string y.name, .string y.who, .slice a1 y.says.length k1, .slice a2 y.uses.length k2, .slice a3 y.proof.length k3] 41)).grown hgrow4 (by simp; omega) (fun q hq => (HU.out q hq).1)))
                  go_roundw
                  case rel =>
                    have hba : Below w9.heap.size w9 (w9.alloc (.cells #[.string y.name, .string y.who, .slice a1 y.says.length k1, .slice a2 y.uses.length k2, .slice a3 y.proof.length k3] 41)) := (Below.refl _ _).alloc (Nat.le_refl _) _; have hE4 := HE.out.push (w1 := w9.alloc _) (HBR2.out.trans (hba.mono HBR2.out.size)) (HO2.out.blocks (Nat.le_refl _) fun q _ hq => hba.block q hq) HB.out.size HLEN.out.symm hown4 hgrow4
                    have hxq : ∀ q, uc.ownBlock = some q → q < wq1.heap.size := fun q hq => (HBDQ.out.lt q hq).2
                    have hw9 := HBR2.out.size
                    have hav4 := HAVQ.out.push (g := g) (n := m + 1) (c := cap) (v := (.slice a1 y.says.length k1, .slice a2 y.uses.length k2, .slice a3 y.proof.length k3)) hat4 hxq (by simp; omega) (fun q hq => (by
                      rcases hq with hq | hq | hq
                      · exact (HO2.out.s.lt q hq).1
                      · exact (HO2.out.u.lt q hq).1
                      · exact (HO2.out.p.lt q hq).1))
                    have hbd4 := owns_blocks (owns_below HBDQ.out (HBR2.out.trans ((show Below w9.heap.size w9 (w9.alloc (.cells #[.string y.name, .string y.who, .slice a1 y.says.length k1, .slice a2 y.uses.length k2, .slice a3 y.proof.length k3] 41)) from (Below.refl _ _).alloc (Nat.le_refl _) _).mono HBR2.out.size))) fun q _ h2 h3 => hgrow4.block q h2 (fun e => HAVQ.out.1 q e.symm h3.symm)
                    exact ⟨k + 1, m + 1, nb, O ++ [y], vso ++ [(.slice a1 y.says.length k1, .slice a2 y.uses.length k2, .slice a3 y.proof.length k3)], Bd, by omega, by go_num, HST1.out.1.symm, by simp [HOL.out], by omega, HST1.out.2.symm, HBL.out, by omega, hE4, hav4, hbd4, hB4⟩
                  case measure => simp [intOf]; omega
                case neg =>
                  rw [decide_eq_false hbK] at HSM
                  have HYZ := hid hbK
                  clear hbK
                  go_wp2_with (first | rw [HW7.out])
                  refine HSM.out.mono ?_
                  rintro e wq1 ⟨rfl, hbN⟩
                  clear x0 x1 x2 x3 x4 y0 y1 y2 y3 y4 z0 z1 z2 z3 z4
                  have HXB := hid (HXB.out.below (by simp) hbN)
                  have HYB := hid (HYB.out.below (by simp) hbN)
                  have HZB := hid (HZB.out.below (by simp) hbN)
                  have HRc := hid (HRc.out.trans (hbN.mono HRc.out.size))
                  clear HSM hbN
                  have x0 : wq1.cell? ⟨w5.heap.size, 0, none⟩ = some (.string x.name) := HXB.out.c 0 (by simp)
                  have x1 : wq1.cell? ⟨w5.heap.size, 1, none⟩ = some (.string x.who) := HXB.out.c 1 (by simp)
                  have x2 : wq1.cell? ⟨w5.heap.size, 2, none⟩ = some (.slice xp1 x.says.length xk1) := HXB.out.c 2 (by simp)
                  have x3 : wq1.cell? ⟨w5.heap.size, 3, none⟩ = some (.slice xp2 x.uses.length xk2) := HXB.out.c 3 (by simp)
                  have x4 : wq1.cell? ⟨w5.heap.size, 4, none⟩ = some (.slice xp3 x.proof.length xk3) := HXB.out.c 4 (by simp)
                  have y0 : wq1.cell? ⟨w6.heap.size, 0, none⟩ = some (.string y.name) := HYB.out.c 0 (by simp)
                  have y1 : wq1.cell? ⟨w6.heap.size, 1, none⟩ = some (.string y.who) := HYB.out.c 1 (by simp)
                  have y2 : wq1.cell? ⟨w6.heap.size, 2, none⟩ = some (.slice yp1 y.says.length yk1) := HYB.out.c 2 (by simp)
                  have y3 : wq1.cell? ⟨w6.heap.size, 3, none⟩ = some (.slice yp2 y.uses.length yk2) := HYB.out.c 3 (by simp)
                  have y4 : wq1.cell? ⟨w6.heap.size, 4, none⟩ = some (.slice yp3 y.proof.length yk3) := HYB.out.c 4 (by simp)
                  have z0 : wq1.cell? ⟨w7.heap.size, 0, none⟩ = some (.string z.name) := HZB.out.c 0 (by simp)
                  have z1 : wq1.cell? ⟨w7.heap.size, 1, none⟩ = some (.string z.who) := HZB.out.c 1 (by simp)
                  have z2 : wq1.cell? ⟨w7.heap.size, 2, none⟩ = some (.slice zp1 z.says.length zk1) := HZB.out.c 2 (by simp)
                  have z3 : wq1.cell? ⟨w7.heap.size, 3, none⟩ = some (.slice zp2 z.uses.length zk2) := HZB.out.c 3 (by simp)
                  have z4 : wq1.cell? ⟨w7.heap.size, 4, none⟩ = some (.slice zp3 z.proof.length zk3) := HZB.out.c 4 (by simp)
                  have HSM := hid (ref9_Same _ _ _ _ _ _ x y wq1 (HENX.out.below (HGR.out.trans (HRc.out.mono HGR.out.size))) (HENY.out.below (HGR.out.trans (HRc.out.mono HGR.out.size))))
                  by_cases hbK : x = y
                  case pos =>
                    rw [decide_eq_true hbK] at HSM
                    have HXY := hid hbK
                    clear hbK
                    go_wp2_with (first | rw [HW7.out])
                    refine HSM.out.mono ?_
                    rintro e wq2 ⟨rfl, hbN⟩
                    clear x0 x1 x2 x3 x4 y0 y1 y2 y3 y4 z0 z1 z2 z3 z4
                    have HXB := hid (HXB.out.below (by simp) hbN)
                    have HYB := hid (HYB.out.below (by simp) hbN)
                    have HZB := hid (HZB.out.below (by simp) hbN)
                    have HRc := hid (HRc.out.trans (hbN.mono HRc.out.size))
                    clear HSM hbN
                    have x0 : wq2.cell? ⟨w5.heap.size, 0, none⟩ = some (.string x.name) := HXB.out.c 0 (by simp)
                    have x1 : wq2.cell? ⟨w5.heap.size, 1, none⟩ = some (.string x.who) := HXB.out.c 1 (by simp)
                    have x2 : wq2.cell? ⟨w5.heap.size, 2, none⟩ = some (.slice xp1 x.says.length xk1) := HXB.out.c 2 (by simp)
                    have x3 : wq2.cell? ⟨w5.heap.size, 3, none⟩ = some (.slice xp2 x.uses.length xk2) := HXB.out.c 3 (by simp)
                    have x4 : wq2.cell? ⟨w5.heap.size, 4, none⟩ = some (.slice xp3 x.proof.length xk3) := HXB.out.c 4 (by simp)
                    have y0 : wq2.cell? ⟨w6.heap.size, 0, none⟩ = some (.string y.name) := HYB.out.c 0 (by simp)
                    have y1 : wq2.cell? ⟨w6.heap.size, 1, none⟩ = some (.string y.who) := HYB.out.c 1 (by simp)
                    have y2 : wq2.cell? ⟨w6.heap.size, 2, none⟩ = some (.slice yp1 y.says.length yk1) := HYB.out.c 2 (by simp)
                    have y3 : wq2.cell? ⟨w6.heap.size, 3, none⟩ = some (.slice yp2 y.uses.length yk2) := HYB.out.c 3 (by simp)
                    have y4 : wq2.cell? ⟨w6.heap.size, 4, none⟩ = some (.slice yp3 y.proof.length yk3) := HYB.out.c 4 (by simp)
                    have z0 : wq2.cell? ⟨w7.heap.size, 0, none⟩ = some (.string z.name) := HZB.out.c 0 (by simp)
                    have z1 : wq2.cell? ⟨w7.heap.size, 1, none⟩ = some (.string z.who) := HZB.out.c 1 (by simp)
                    have z2 : wq2.cell? ⟨w7.heap.size, 2, none⟩ = some (.slice zp1 z.says.length zk1) := HZB.out.c 2 (by simp)
                    have z3 : wq2.cell? ⟨w7.heap.size, 3, none⟩ = some (.slice zp2 z.uses.length zk2) := HZB.out.c 3 (by simp)
                    have z4 : wq2.cell? ⟨w7.heap.size, 4, none⟩ = some (.slice zp3 z.proof.length zk3) := HZB.out.c 4 (by simp)
                    obtain ⟨W8, hW8⟩ : ∃ W8, wq2.setCells w6.heap.size 0 [.string z.name, .string z.who, .slice zp1 z.says.length zk1, .slice zp2 z.uses.length zk2, .slice zp3 z.proof.length zk3] = W8 := ⟨_, rfl⟩
                    have hX8 := BX.sets [.string z.name, .string z.who, .slice zp1 z.says.length zk1, .slice zp2 z.uses.length zk2, .slice zp3 z.proof.length zk3] 0 HYB.out (by simp)
                    rw [hW8] at hX8
                    have f0 := HYB.out.z 0
                    have f1 := HYB.out.z 1
                    have f2 := HYB.out.z 2
                    have f3 := HYB.out.z 3
                    have f4 := HYB.out.z 4
                    have hsets : (((((wq2.setCell ⟨w6.heap.size, 0, none⟩ (.string z.name)).setCell ⟨w6.heap.size, 1, none⟩ (.string z.who)).setCell ⟨w6.heap.size, 2, none⟩ (.slice zp1 z.says.length zk1)).setCell ⟨w6.heap.size, 3, none⟩ (.slice zp2 z.uses.length zk2)).setCell ⟨w6.heap.size, 4, none⟩ (.slice zp3 z.proof.length zk3)) = W8 := hW8
                    have HSETS := hid hsets
                    have HYB : Hid (BX W8 w6.heap.size [.string z.name, .string z.who, .slice zp1 z.says.length zk1, .slice zp2 z.uses.length zk2, .slice zp3 z.proof.length zk3]) := hid hX8
                    have HRc : Hid (Below wr.heap.size wr W8) := hid (hW8 ▸ blw_setsM HRc.out HZ6.out 0 _)
                    have q0 : W8.cell? ⟨w6.heap.size, 0, none⟩ = some (.string z.name) := HYB.out.c 0 (by simp)
                    have q1 : W8.cell? ⟨w6.heap.size, 1, none⟩ = some (.string z.who) := HYB.out.c 1 (by simp)
                    have q2 : W8.cell? ⟨w6.heap.size, 2, none⟩ = some (.slice zp1 z.says.length zk1) := HYB.out.c 2 (by simp)
                    have q3 : W8.cell? ⟨w6.heap.size, 3, none⟩ = some (.slice zp2 z.uses.length zk2) := HYB.out.c 3 (by simp)
                    have q4 : W8.cell? ⟨w6.heap.size, 4, none⟩ = some (.slice zp3 z.proof.length zk3) := HYB.out.c 4 (by simp)
                    clear hW8 hX8 hsets
                    have HPC : Hid (bdN base a b n = false) := hid (by rw [HPC0.out]; unfold pkC; simp [HXY.out])
                    have HPV : Hid (pkN base a b n = z) := hid (by rw [HPK.out]; unfold pkE; rw [if_neg HYZ.out, if_pos HXY.out])
                    have HBWQ := hid (HBFR.out.trans (HRc.out.mono hszr))
                    have HOK := hid (HOWN.out.below HRc.out)
                    have HBDQ := hid (owns_below HBDW.out HRc.out)
                    have HAVQ := HAV
                    have hem : ¬ z.name = em := by have h := HFLZ.out; simpa using h
                    have HST1 : Hid (outR base a b (M.take (k + 1)) = O ++ [z] ∧ (M.take (k + 1)).filter (bdN base a b) = Bd) := hid (by
                      rw [HOT.out, HBT.out, HPC.out, HKN.out, HPV.out]; simp [hem])
                    have hsm := HSMZ.out hem
                    have HCP := hid (ref9_copied (.slice zp1 z.says.length zk1) (.slice zp2 z.uses.length zk2) (.slice zp3 z.proof.length zk3) z W8 (HENZ.out.below (HBWF.out.trans (HBWQ.out.mono HBWF.out.size))) hsm.2.1 hsm.2.2.1 hsm.2.2.2)
                    have HE := HOK
                    have HB := HBWQ
                    have HLEN := HOL
                    obtain ⟨la, lc, rfl⟩ : ∃ a c, ul = .slice a m c := HOL.out ▸ HOK.out.slice
                    clear hem
                    go_wp2_with (first | rw [HSETS.out] | rw [HW7.out])
                    refine HCP.out.mono ?_; rintro e w9 ⟨v, rfl, ⟨vS, vU, vP, rfl, hO⟩, hb2⟩; obtain ⟨a1, k1, rfl⟩ := owns_slice hO.s; obtain ⟨a2, k2, rfl⟩ := owns_slice hO.u; obtain ⟨a3, k3, rfl⟩ := owns_slice hO.p; have HE2 := hid (HE.out.below hb2); have HBR2 := hid hb2; have HO2 := hid hO; have HB2 := hid (HB.out.trans (hb2.mono HB.out.size)); have HU := hid HE.out.top.lt; have hown2 := HE2.out.top; rw [HLEN.out] at hown2; have hownA := hown2.alloc (.cells #[.string z.name, .string z.who, .slice a1 z.says.length k1, .slice a2 z.uses.length k2, .slice a3 z.proof.length k3] 41); have HROW := hid (row_one_ent w9 (.string z.name) (.string z.who) (.slice a1 z.says.length k1) (.slice a2 z.uses.length k2) (.slice a3 z.proof.length k3) 41); have hwz := HB2.out.size; clear hO hb2 hown2
                    go_wp2_with (at_builtin; go_loud (refine wpList_append_lie rfl _ _ 24 rfl wF.heap.size 41 el_ent Tryz.underlying24 rfl (by decide) _ (m) (ensC O vso) rfl hownA _ 1 (enC z (.slice a1 z.says.length k1, .slice a2 z.uses.length k2, .slice a3 z.proof.length k3)) rfl HROW.out (enC_one _ _ _ _ _ _ _ _ _ _) (by omega) (by omega) (by omega) (by simp; omega) _ rfl ?_; intro g cap w4 hown4 hgrow4 hat4 hlt4; have hB4 := (HB2.out.alloc HB2.out.size (.cells #[.string z.name, .string z.who, .slice a1 z.says.length k1, .slice a2 z.uses.length k2, .slice a3 z.proof.length k3] 41)).grown hgrow4 (by simp; omega) (fun q hq => (HU.out q hq).1)))
                    go_roundw
                    case rel =>
                      have hba : Below w9.heap.size w9 (w9.alloc (.cells #[.string z.name, .string z.who, .slice a1 z.says.length k1, .slice a2 z.uses.length k2, .slice a3 z.proof.length k3] 41)) := (Below.refl _ _).alloc (Nat.le_refl _) _; have hE4 := HE.out.push (w1 := w9.alloc _) (HBR2.out.trans (hba.mono HBR2.out.size)) (HO2.out.blocks (Nat.le_refl _) fun q _ hq => hba.block q hq) HB.out.size HLEN.out.symm hown4 hgrow4
                      have hxq : ∀ q, uc.ownBlock = some q → q < W8.heap.size := fun q hq => (HBDQ.out.lt q hq).2
                      have hw9 := HBR2.out.size
                      have hav4 := HAVQ.out.push (g := g) (n := m + 1) (c := cap) (v := (.slice a1 z.says.length k1, .slice a2 z.uses.length k2, .slice a3 z.proof.length k3)) hat4 hxq (by simp; omega) (fun q hq => (by
                        rcases hq with hq | hq | hq
                        · exact (HO2.out.s.lt q hq).1
                        · exact (HO2.out.u.lt q hq).1
                        · exact (HO2.out.p.lt q hq).1))
                      have hbd4 := owns_blocks (owns_below HBDQ.out (HBR2.out.trans ((show Below w9.heap.size w9 (w9.alloc (.cells #[.string z.name, .string z.who, .slice a1 z.says.length k1, .slice a2 z.uses.length k2, .slice a3 z.proof.length k3] 41)) from (Below.refl _ _).alloc (Nat.le_refl _) _).mono HBR2.out.size))) fun q _ h2 h3 => hgrow4.block q h2 (fun e => HAVQ.out.1 q e.symm h3.symm)
                      exact ⟨k + 1, m + 1, nb, O ++ [z], vso ++ [(.slice a1 z.says.length k1, .slice a2 z.uses.length k2, .slice a3 z.proof.length k3)], Bd, by omega, by go_num, HST1.out.1.symm, by simp [HOL.out], by omega, HST1.out.2.symm, HBL.out, by omega, hE4, hav4, hbd4, hB4⟩
                    case measure => simp [intOf]; omega
                  case neg =>
                    rw [decide_eq_false hbK] at HSM
                    have HXY := hid hbK
                    clear hbK
                    go_wp2_with (first | rw [HW7.out])
                    refine HSM.out.mono ?_
                    rintro e wq2 ⟨rfl, hbN⟩
                    clear x0 x1 x2 x3 x4 y0 y1 y2 y3 y4 z0 z1 z2 z3 z4
                    have HXB := hid (HXB.out.below (by simp) hbN)
                    have HYB := hid (HYB.out.below (by simp) hbN)
                    have HZB := hid (HZB.out.below (by simp) hbN)
                    have HRc := hid (HRc.out.trans (hbN.mono HRc.out.size))
                    clear HSM hbN
                    have x0 : wq2.cell? ⟨w5.heap.size, 0, none⟩ = some (.string x.name) := HXB.out.c 0 (by simp)
                    have x1 : wq2.cell? ⟨w5.heap.size, 1, none⟩ = some (.string x.who) := HXB.out.c 1 (by simp)
                    have x2 : wq2.cell? ⟨w5.heap.size, 2, none⟩ = some (.slice xp1 x.says.length xk1) := HXB.out.c 2 (by simp)
                    have x3 : wq2.cell? ⟨w5.heap.size, 3, none⟩ = some (.slice xp2 x.uses.length xk2) := HXB.out.c 3 (by simp)
                    have x4 : wq2.cell? ⟨w5.heap.size, 4, none⟩ = some (.slice xp3 x.proof.length xk3) := HXB.out.c 4 (by simp)
                    have y0 : wq2.cell? ⟨w6.heap.size, 0, none⟩ = some (.string y.name) := HYB.out.c 0 (by simp)
                    have y1 : wq2.cell? ⟨w6.heap.size, 1, none⟩ = some (.string y.who) := HYB.out.c 1 (by simp)
                    have y2 : wq2.cell? ⟨w6.heap.size, 2, none⟩ = some (.slice yp1 y.says.length yk1) := HYB.out.c 2 (by simp)
                    have y3 : wq2.cell? ⟨w6.heap.size, 3, none⟩ = some (.slice yp2 y.uses.length yk2) := HYB.out.c 3 (by simp)
                    have y4 : wq2.cell? ⟨w6.heap.size, 4, none⟩ = some (.slice yp3 y.proof.length yk3) := HYB.out.c 4 (by simp)
                    have z0 : wq2.cell? ⟨w7.heap.size, 0, none⟩ = some (.string z.name) := HZB.out.c 0 (by simp)
                    have z1 : wq2.cell? ⟨w7.heap.size, 1, none⟩ = some (.string z.who) := HZB.out.c 1 (by simp)
                    have z2 : wq2.cell? ⟨w7.heap.size, 2, none⟩ = some (.slice zp1 z.says.length zk1) := HZB.out.c 2 (by simp)
                    have z3 : wq2.cell? ⟨w7.heap.size, 3, none⟩ = some (.slice zp2 z.uses.length zk2) := HZB.out.c 3 (by simp)
                    have z4 : wq2.cell? ⟨w7.heap.size, 4, none⟩ = some (.slice zp3 z.proof.length zk3) := HZB.out.c 4 (by simp)
                    have HSM := hid (ref9_Same _ _ _ _ _ _ x z wq2 (HENX.out.below (HGR.out.trans (HRc.out.mono HGR.out.size))) (HENZ.out.below (HGR.out.trans (HRc.out.mono HGR.out.size))))
                    by_cases hbK : x = z
                    case pos =>
                      rw [decide_eq_true hbK] at HSM
                      have HXZ := hid hbK
                      clear hbK
                      go_wp2_with (first | rw [HW7.out])
                      refine HSM.out.mono ?_
                      rintro e wq3 ⟨rfl, hbN⟩
                      clear x0 x1 x2 x3 x4 y0 y1 y2 y3 y4 z0 z1 z2 z3 z4
                      have HXB := hid (HXB.out.below (by simp) hbN)
                      have HYB := hid (HYB.out.below (by simp) hbN)
                      have HZB := hid (HZB.out.below (by simp) hbN)
                      have HRc := hid (HRc.out.trans (hbN.mono HRc.out.size))
                      clear HSM hbN
                      have x0 : wq3.cell? ⟨w5.heap.size, 0, none⟩ = some (.string x.name) := HXB.out.c 0 (by simp)
                      have x1 : wq3.cell? ⟨w5.heap.size, 1, none⟩ = some (.string x.who) := HXB.out.c 1 (by simp)
                      have x2 : wq3.cell? ⟨w5.heap.size, 2, none⟩ = some (.slice xp1 x.says.length xk1) := HXB.out.c 2 (by simp)
                      have x3 : wq3.cell? ⟨w5.heap.size, 3, none⟩ = some (.slice xp2 x.uses.length xk2) := HXB.out.c 3 (by simp)
                      have x4 : wq3.cell? ⟨w5.heap.size, 4, none⟩ = some (.slice xp3 x.proof.length xk3) := HXB.out.c 4 (by simp)
                      have y0 : wq3.cell? ⟨w6.heap.size, 0, none⟩ = some (.string y.name) := HYB.out.c 0 (by simp)
                      have y1 : wq3.cell? ⟨w6.heap.size, 1, none⟩ = some (.string y.who) := HYB.out.c 1 (by simp)
                      have y2 : wq3.cell? ⟨w6.heap.size, 2, none⟩ = some (.slice yp1 y.says.length yk1) := HYB.out.c 2 (by simp)
                      have y3 : wq3.cell? ⟨w6.heap.size, 3, none⟩ = some (.slice yp2 y.uses.length yk2) := HYB.out.c 3 (by simp)
                      have y4 : wq3.cell? ⟨w6.heap.size, 4, none⟩ = some (.slice yp3 y.proof.length yk3) := HYB.out.c 4 (by simp)
                      have z0 : wq3.cell? ⟨w7.heap.size, 0, none⟩ = some (.string z.name) := HZB.out.c 0 (by simp)
                      have z1 : wq3.cell? ⟨w7.heap.size, 1, none⟩ = some (.string z.who) := HZB.out.c 1 (by simp)
                      have z2 : wq3.cell? ⟨w7.heap.size, 2, none⟩ = some (.slice zp1 z.says.length zk1) := HZB.out.c 2 (by simp)
                      have z3 : wq3.cell? ⟨w7.heap.size, 3, none⟩ = some (.slice zp2 z.uses.length zk2) := HZB.out.c 3 (by simp)
                      have z4 : wq3.cell? ⟨w7.heap.size, 4, none⟩ = some (.slice zp3 z.proof.length zk3) := HZB.out.c 4 (by simp)
                      have HPC : Hid (bdN base a b n = false) := hid (by rw [HPC0.out]; unfold pkC; simp [HXZ.out])
                      have HPV : Hid (pkN base a b n = y) := hid (by rw [HPK.out]; unfold pkE; rw [if_neg HYZ.out, if_neg HXY.out])
                      have HBWQ := hid (HBFR.out.trans (HRc.out.mono hszr))
                      have HOK := hid (HOWN.out.below HRc.out)
                      have HBDQ := hid (owns_below HBDW.out HRc.out)
                      have HAVQ := HAV
                      have hem : ¬ y.name = em := by have h := HFLY.out; simpa using h
                      have HST1 : Hid (outR base a b (M.take (k + 1)) = O ++ [y] ∧ (M.take (k + 1)).filter (bdN base a b) = Bd) := hid (by
                        rw [HOT.out, HBT.out, HPC.out, HKN.out, HPV.out]; simp [hem])
                      have hsm := HSMY.out hem
                      have HCP := hid (ref9_copied (.slice yp1 y.says.length yk1) (.slice yp2 y.uses.length yk2) (.slice yp3 y.proof.length yk3) y wq3 (HENY.out.below (HBWF.out.trans (HBWQ.out.mono HBWF.out.size))) hsm.2.1 hsm.2.2.1 hsm.2.2.2)
                      have HE := HOK
                      have HB := HBWQ
                      have HLEN := HOL
                      obtain ⟨la, lc, rfl⟩ : ∃ a c, ul = .slice a m c := HOL.out ▸ HOK.out.slice
                      clear hem
                      go_wp2_with (first | rw [HW7.out])
                      refine HCP.out.mono ?_; rintro e w9 ⟨v, rfl, ⟨vS, vU, vP, rfl, hO⟩, hb2⟩; obtain ⟨a1, k1, rfl⟩ := owns_slice hO.s; obtain ⟨a2, k2, rfl⟩ := owns_slice hO.u; obtain ⟨a3, k3, rfl⟩ := owns_slice hO.p; have HE2 := hid (HE.out.below hb2); have HBR2 := hid hb2; have HO2 := hid hO; have HB2 := hid (HB.out.trans (hb2.mono HB.out.size)); have HU := hid HE.out.top.lt; have hown2 := HE2.out.top; rw [HLEN.out] at hown2; have hownA := hown2.alloc (.cells #[.string y.name, .string y.who, .slice a1 y.says.length k1, .slice a2 y.uses.length k2, .slice a3 y.proof.length k3] 41); have HROW := hid (row_one_ent w9 (.string y.name) (.string y.who) (.slice a1 y.says.length k1) (.slice a2 y.uses.length k2) (.slice a3 y.proof.length k3) 41); have hwz := HB2.out.size; clear hO hb2 hown2
                      go_wp2_with (at_builtin; go_loud (refine wpList_append_lie rfl _ _ 24 rfl wF.heap.size 41 el_ent Tryz.underlying24 rfl (by decide) _ (m) (ensC O vso) rfl hownA _ 1 (enC y (.slice a1 y.says.length k1, .slice a2 y.uses.length k2, .slice a3 y.proof.length k3)) rfl HROW.out (enC_one _ _ _ _ _ _ _ _ _ _) (by omega) (by omega) (by omega) (by simp; omega) _ rfl ?_; intro g cap w4 hown4 hgrow4 hat4 hlt4; have hB4 := (HB2.out.alloc HB2.out.size (.cells #[.string y.name, .string y.who, .slice a1 y.says.length k1, .slice a2 y.uses.length k2, .slice a3 y.proof.length k3] 41)).grown hgrow4 (by simp; omega) (fun q hq => (HU.out q hq).1)))
                      go_roundw
                      case rel =>
                        have hba : Below w9.heap.size w9 (w9.alloc (.cells #[.string y.name, .string y.who, .slice a1 y.says.length k1, .slice a2 y.uses.length k2, .slice a3 y.proof.length k3] 41)) := (Below.refl _ _).alloc (Nat.le_refl _) _; have hE4 := HE.out.push (w1 := w9.alloc _) (HBR2.out.trans (hba.mono HBR2.out.size)) (HO2.out.blocks (Nat.le_refl _) fun q _ hq => hba.block q hq) HB.out.size HLEN.out.symm hown4 hgrow4
                        have hxq : ∀ q, uc.ownBlock = some q → q < wq3.heap.size := fun q hq => (HBDQ.out.lt q hq).2
                        have hw9 := HBR2.out.size
                        have hav4 := HAVQ.out.push (g := g) (n := m + 1) (c := cap) (v := (.slice a1 y.says.length k1, .slice a2 y.uses.length k2, .slice a3 y.proof.length k3)) hat4 hxq (by simp; omega) (fun q hq => (by
                          rcases hq with hq | hq | hq
                          · exact (HO2.out.s.lt q hq).1
                          · exact (HO2.out.u.lt q hq).1
                          · exact (HO2.out.p.lt q hq).1))
                        have hbd4 := owns_blocks (owns_below HBDQ.out (HBR2.out.trans ((show Below w9.heap.size w9 (w9.alloc (.cells #[.string y.name, .string y.who, .slice a1 y.says.length k1, .slice a2 y.uses.length k2, .slice a3 y.proof.length k3] 41)) from (Below.refl _ _).alloc (Nat.le_refl _) _).mono HBR2.out.size))) fun q _ h2 h3 => hgrow4.block q h2 (fun e => HAVQ.out.1 q e.symm h3.symm)
                        exact ⟨k + 1, m + 1, nb, O ++ [y], vso ++ [(.slice a1 y.says.length k1, .slice a2 y.uses.length k2, .slice a3 y.proof.length k3)], Bd, by omega, by go_num, HST1.out.1.symm, by simp [HOL.out], by omega, HST1.out.2.symm, HBL.out, by omega, hE4, hav4, hbd4, hB4⟩
                      case measure => simp [intOf]; omega
                    case neg =>
                      rw [decide_eq_false hbK] at HSM
                      have HXZ := hid hbK
                      clear hbK
                      go_wp2_with (first | rw [HW7.out])
                      refine HSM.out.mono ?_
                      rintro e wq3 ⟨rfl, hbN⟩
                      clear x0 x1 x2 x3 x4 y0 y1 y2 y3 y4 z0 z1 z2 z3 z4
                      have HXB := hid (HXB.out.below (by simp) hbN)
                      have HYB := hid (HYB.out.below (by simp) hbN)
                      have HZB := hid (HZB.out.below (by simp) hbN)
                      have HRc := hid (HRc.out.trans (hbN.mono HRc.out.size))
                      clear HSM hbN
                      have x0 : wq3.cell? ⟨w5.heap.size, 0, none⟩ = some (.string x.name) := HXB.out.c 0 (by simp)
                      have x1 : wq3.cell? ⟨w5.heap.size, 1, none⟩ = some (.string x.who) := HXB.out.c 1 (by simp)
                      have x2 : wq3.cell? ⟨w5.heap.size, 2, none⟩ = some (.slice xp1 x.says.length xk1) := HXB.out.c 2 (by simp)
                      have x3 : wq3.cell? ⟨w5.heap.size, 3, none⟩ = some (.slice xp2 x.uses.length xk2) := HXB.out.c 3 (by simp)
                      have x4 : wq3.cell? ⟨w5.heap.size, 4, none⟩ = some (.slice xp3 x.proof.length xk3) := HXB.out.c 4 (by simp)
                      have y0 : wq3.cell? ⟨w6.heap.size, 0, none⟩ = some (.string y.name) := HYB.out.c 0 (by simp)
                      have y1 : wq3.cell? ⟨w6.heap.size, 1, none⟩ = some (.string y.who) := HYB.out.c 1 (by simp)
                      have y2 : wq3.cell? ⟨w6.heap.size, 2, none⟩ = some (.slice yp1 y.says.length yk1) := HYB.out.c 2 (by simp)
                      have y3 : wq3.cell? ⟨w6.heap.size, 3, none⟩ = some (.slice yp2 y.uses.length yk2) := HYB.out.c 3 (by simp)
                      have y4 : wq3.cell? ⟨w6.heap.size, 4, none⟩ = some (.slice yp3 y.proof.length yk3) := HYB.out.c 4 (by simp)
                      have z0 : wq3.cell? ⟨w7.heap.size, 0, none⟩ = some (.string z.name) := HZB.out.c 0 (by simp)
                      have z1 : wq3.cell? ⟨w7.heap.size, 1, none⟩ = some (.string z.who) := HZB.out.c 1 (by simp)
                      have z2 : wq3.cell? ⟨w7.heap.size, 2, none⟩ = some (.slice zp1 z.says.length zk1) := HZB.out.c 2 (by simp)
                      have z3 : wq3.cell? ⟨w7.heap.size, 3, none⟩ = some (.slice zp2 z.uses.length zk2) := HZB.out.c 3 (by simp)
                      have z4 : wq3.cell? ⟨w7.heap.size, 4, none⟩ = some (.slice zp3 z.proof.length zk3) := HZB.out.c 4 (by simp)
                      have hbd1 : bdN base a b n = true := by
                        rw [HPC0.out]; unfold pkC; rw [decide_eq_false HYZ.out, decide_eq_false HXY.out, decide_eq_false HXZ.out]; rfl
                      have HPV : Hid (pkN base a b n = y) := hid (by rw [HPK.out]; unfold pkE; rw [if_neg HYZ.out, if_neg HXY.out])
                      have cn : wq3.cell? ⟨g0, k, none⟩ = some (.string n) := HCN.out wq3 HRc.out
                      have HOK := hid (HOWN.out.below HRc.out)
                      have HBDQ := hid (owns_below HBDW.out HRc.out)
                      have HFA := hid (HBFR.out.trans (HRc.out.mono hszr))
                      obtain ⟨ca, cc, rfl⟩ := owns_slice HBDW.out
                      have hRA := HBDQ.out.alloc (.cells #[.string n] 9)
                      have HBLT := hid (show Below wq3.heap.size wq3 (wq3.alloc (.cells #[.string n] 9)) from (Below.refl _ _).alloc (Nat.le_refl _) _)
                      have hzF : wF.heap.size ≤ wq3.heap.size := HFA.out.size
                      have HNE := hid (show some w6.heap.size ≠ (Value.slice ca nb cc).ownBlock from fun e => by have h1 := (HBDW.out.lt _ e.symm).2; have h2 := HZ6.out; omega)
                      have HYL := hid (show w6.heap.size < (wq3.alloc (.cells #[.string n] 9)).heap.size from (HYB.out.below (by simp) HBLT.out).lt (by simp))
                      have HYA := hid (HYB.out.below (by simp) HBLT.out)
                      have hem : ¬ y.name = em := by have h := HFLY.out; simpa using h
                      have HST1 : Hid (outR base a b (M.take (k + 1)) = O ++ [y] ∧ (M.take (k + 1)).filter (bdN base a b) = Bd ++ [n]) := hid (by
                        rw [HOT.out, HBT.out, hbd1, HKN.out, HPV.out]; simp [hem])
                      clear hbd1
                      go_wp2_with (first | rw [HW7.out] | (at_builtin; refine wpList_append_lie rfl _ _ 38 rfl wF.heap.size 9 el_str Tryz.underlying38 rfl (by decide) _ nb (Bd.map Value.string) rfl hRA _ 1 [.string n] rfl (row_one_new _ _ _) (oneCell_one rfl) (by omega) (by omega) (by omega) (by simp; omega) _ rfl ?_; intro g8 cap8 w8 hown8 hgrow8 hat8 hlt8; have hY8 := HYA.out.block (hgrow8.block w6.heap.size HYL.out HNE.out); have y0 := hY8.c 0 (by simp); have y1 := hY8.c 1 (by simp); have y2 := hY8.c 2 (by simp); have y3 := hY8.c 3 (by simp); have y4 := hY8.c 4 (by simp); simp only [List.getElem_cons_zero, List.getElem_cons_succ] at y0 y1 y2 y3 y4))
                      have hEA := HOK.out.below HBLT.out
                      have hE8 := hEA.off HAV.out (W' := w8) (fun q hq hne => hgrow8.block q hq hne)
                      have hav8 : AvB (Value.slice (some ⟨g8, 0, none⟩) (nb + 1) cap8).ownBlock ul vso := AvB.fresh hEA HAV.out (g := g8) (by simp) hat8
                      have hown9 : w8.ownsRow wF.heap.size 9 1 (.slice (some ⟨g8, 0, none⟩) (nb + 1) cap8) (nb + 1) ((Bd ++ [n]).map Value.string) := by simpa using hown8
                      have hb8 : Below wF.heap.size wF w8 := (HFA.out.trans (HBLT.out.mono HFA.out.size)).grown hgrow8 (Nat.le_trans HFA.out.size HBLT.out.size) (fun q hq => (HBDQ.out.lt q hq).1)
                      have HOK := hid hE8
                      have HAVQ := hid hav8
                      have HBDQ := hid hown9
                      have HBWQ := hid hb8
                      have hsm := HSMY.out hem
                      have HCP := hid (ref9_copied (.slice yp1 y.says.length yk1) (.slice yp2 y.uses.length yk2) (.slice yp3 y.proof.length yk3) y w8 (HENY.out.below (HBWF.out.trans (HBWQ.out.mono HBWF.out.size))) hsm.2.1 hsm.2.2.1 hsm.2.2.2)
                      have HE := HOK
                      have HB := HBWQ
                      have HLEN := HOL
                      obtain ⟨la, lc, rfl⟩ : ∃ a c, ul = .slice a m c := HOL.out ▸ HOK.out.slice
                      clear hem
                      refine HCP.out.mono ?_; rintro e w9 ⟨v, rfl, ⟨vS, vU, vP, rfl, hO⟩, hb2⟩; obtain ⟨a1, k1, rfl⟩ := owns_slice hO.s; obtain ⟨a2, k2, rfl⟩ := owns_slice hO.u; obtain ⟨a3, k3, rfl⟩ := owns_slice hO.p; have HE2 := hid (HE.out.below hb2); have HBR2 := hid hb2; have HO2 := hid hO; have HB2 := hid (HB.out.trans (hb2.mono HB.out.size)); have HU := hid HE.out.top.lt; have hown2 := HE2.out.top; rw [HLEN.out] at hown2; have hownA := hown2.alloc (.cells #[.string y.name, .string y.who, .slice a1 y.says.length k1, .slice a2 y.uses.length k2, .slice a3 y.proof.length k3] 41); have HROW := hid (row_one_ent w9 (.string y.name) (.string y.who) (.slice a1 y.says.length k1) (.slice a2 y.uses.length k2) (.slice a3 y.proof.length k3) 41); have hwz := HB2.out.size; clear hO hb2 hown2
                      go_wp2_with (at_builtin; go_loud (refine wpList_append_lie rfl _ _ 24 rfl wF.heap.size 41 el_ent Tryz.underlying24 rfl (by decide) _ (m) (ensC O vso) rfl hownA _ 1 (enC y (.slice a1 y.says.length k1, .slice a2 y.uses.length k2, .slice a3 y.proof.length k3)) rfl HROW.out (enC_one _ _ _ _ _ _ _ _ _ _) (by omega) (by omega) (by omega) (by simp; omega) _ rfl ?_; intro g cap w4 hown4 hgrow4 hat4 hlt4; have hB4 := (HB2.out.alloc HB2.out.size (.cells #[.string y.name, .string y.who, .slice a1 y.says.length k1, .slice a2 y.uses.length k2, .slice a3 y.proof.length k3] 41)).grown hgrow4 (by simp; omega) (fun q hq => (HU.out q hq).1)))
                      go_roundw
                      case rel =>
                        have hba : Below w9.heap.size w9 (w9.alloc (.cells #[.string y.name, .string y.who, .slice a1 y.says.length k1, .slice a2 y.uses.length k2, .slice a3 y.proof.length k3] 41)) := (Below.refl _ _).alloc (Nat.le_refl _) _; have hE4 := HE.out.push (w1 := w9.alloc _) (HBR2.out.trans (hba.mono HBR2.out.size)) (HO2.out.blocks (Nat.le_refl _) fun q _ hq => hba.block q hq) HB.out.size HLEN.out.symm hown4 hgrow4
                        have hxq : ∀ q, (Value.slice (some ⟨g8, 0, none⟩) (nb + 1) cap8).ownBlock = some q → q < w8.heap.size := fun q hq => (HBDQ.out.lt q hq).2
                        have hw9 := HBR2.out.size
                        have hav4 := HAVQ.out.push (g := g) (n := m + 1) (c := cap) (v := (.slice a1 y.says.length k1, .slice a2 y.uses.length k2, .slice a3 y.proof.length k3)) hat4 hxq (by simp; omega) (fun q hq => (by
                          rcases hq with hq | hq | hq
                          · exact (HO2.out.s.lt q hq).1
                          · exact (HO2.out.u.lt q hq).1
                          · exact (HO2.out.p.lt q hq).1))
                        have hbd4 := owns_blocks (owns_below HBDQ.out (HBR2.out.trans ((show Below w9.heap.size w9 (w9.alloc (.cells #[.string y.name, .string y.who, .slice a1 y.says.length k1, .slice a2 y.uses.length k2, .slice a3 y.proof.length k3] 41)) from (Below.refl _ _).alloc (Nat.le_refl _) _).mono HBR2.out.size))) fun q _ h2 h3 => hgrow4.block q h2 (fun e => HAVQ.out.1 q e.symm h3.symm)
                        exact ⟨k + 1, m + 1, nb + 1, O ++ [y], vso ++ [(.slice a1 y.says.length k1, .slice a2 y.uses.length k2, .slice a3 y.proof.length k3)], Bd ++ [n], by omega, by go_num, HST1.out.1.symm, by simp [HOL.out], by omega, HST1.out.2.symm, by simp [HBL.out], by omega, hE4, hav4, hbd4, hB4⟩
                      case measure => simp [intOf]; omega
        · have hkl : k = M.length := by omega
          subst hkl
          rw [List.take_of_length_le (Nat.le_refl _)] at hO hBd
          obtain ⟨la, lc, rfl⟩ := hE.slice
          obtain ⟨ca, cc, rfl⟩ := owns_slice hbd
          have hEN := hE.ents (by omega)
          have hTX : TxtsAt wr (.slice ca nb cc) Bd := ⟨by rw [← hBl] at hbd ⊢; exact RowK.of_owns hbd (by omega), fun x hx => HNMS.out x (by rw [hBd] at hx; exact (List.mem_filter.1 hx).1)⟩
          have HEN := hid hEN
          have HTX := hid hTX
          have HBW := hid (HBWF.out.trans (hb.mono HBWF.out.size))
          have HOO := hid hO
          have HBB := hid hBd
          clear hE hav hbd hb hEN hTX hO hBd
          go_wp2
          go_ret2
          unfold MrgQ badM
          rw [HMM.out, ← HOO.out, ← HBB.out]
          exact ⟨_, _, rfl, HEN.out, HTX.out, HBW.out⟩
end Go.Proofs.YtlbjbmpkaniojaaGreat
