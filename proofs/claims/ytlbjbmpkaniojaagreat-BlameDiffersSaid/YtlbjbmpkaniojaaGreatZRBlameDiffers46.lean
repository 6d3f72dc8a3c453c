/-
  WHAT IT HOLDS: the contract of Difference of the reference of layer 9. Conditions: the arguments read as data; small signs, small libraries.
  WHAT IT HOLDS: the walk of the law BlameDiffers: it returns true. Conditions: the arguments read as data.
-/
import Derived.Deep.RegionHeld3
import Derived.Test.YtlbjbmpkaniojaaGreatZRBlameDiffers45
import Derived.Test.YtlbjbmpkaniojaaGreatZRBlameDiffers34
import Derived.Test.YtlbjbmpkaniojaaGreatZRBlameDiffers33
namespace Go.Proofs.YtlbjbmpkaniojaaGreat
open Go Go.RowKit Go.Maps
theorem diff_ok {s : Sg} {a b : List En} {who : Nm} (h : (diffL s a b who).2 = 0) : edB s a = true ∧ edB s b = true ∧ nmB who = true := by
  unfold diffL at h
  split at h
  · rename_i hh
    simpa only [Bool.and_eq_true] using hh
  · cases h
/-- the last entry before k that may be dropped. -/
def LastR (b now : List En) (k : Nat) (last : Int) : Prop := (last = -1 ∧ ∀ i (hi : i < now.length), i < k → okD now b now[i] = false) ∨ ∃ (j : Nat) (hj : j < now.length), last = j ∧ j < k ∧ okD now b now[j] = true ∧ ∀ i (hi : i < now.length), j < i → i < k → okD now b now[i] = false
theorem LastR.zero (b now : List En) : LastR b now 0 (-1) := Or.inl ⟨rfl, fun i _ h => absurd h (by omega)⟩
theorem LastR.no {b now : List En} {k : Nat} {last : Int} (h : LastR b now k last) (hk : k < now.length) (hd : okD now b now[k] = false) : LastR b now (k + 1) last := by
  rcases h with ⟨rfl, h⟩ | ⟨j, hj, rfl, h1, h2, h3⟩
  · refine Or.inl ⟨rfl, fun i hi hik => ?_⟩
    by_cases e : i = k
    · subst e; exact hd
    · exact h i hi (by omega)
  · refine Or.inr ⟨j, hj, rfl, by omega, h2, fun i hi h4 h5 => ?_⟩
    by_cases e : i = k
    · subst e; exact hd
    · exact h3 i hi h4 (by omega)
theorem LastR.yes {b now : List En} {k : Nat} (hk : k < now.length) (hd : okD now b now[k] = true) : LastR b now (k + 1) k := Or.inr ⟨k, hk, rfl, by omega, hd, fun i hi h1 h2 => absurd h2 (by omega)⟩
theorem LastR.neg {b now : List En} {last : Int} (h : LastR b now now.length last) (h0 : last < 0) : lastD now b = none := by
  rcases h with ⟨rfl, h⟩ | ⟨j, hj, rfl, -⟩
  · exact lastD_no fun i hi => h i hi hi
  · omega
theorem LastR.pos {b now : List En} {last : Int} (h : LastR b now now.length last) (h0 : ¬ last < 0) : ∃ (j : Nat) (hj : j < now.length), last = j ∧ lastD now b = some now[j] := by
  rcases h with ⟨rfl, h⟩ | ⟨j, hj, rfl, h1, h2, h3⟩
  · omega
  · exact ⟨j, hj, rfl, lastD_at hj h2 fun i hi hji => h3 i hi hji hi⟩
theorem any_take {l : List En} (p : En → Bool) {k : Nat} (h : k < l.length) : (l.take (k + 1)).any p = ((l.take k).any p || p l[k]) := by
  rw [List.take_succ_eq_append_getElem h, List.any_append]; simp
/-- the cells of the change that was put in last. -/
theorem last_cells {w : World} {base g n cap : Nat} {vs : List V3} {l : List Chg} {c : Chg} {v : V3} (h : w.ownsRow base 43 9 (.slice (some ⟨g, 0, none⟩) (n + 1) cap) (n + 1) (chsC l vs ++ chC c v)) (hn : n = l.length) (hv : vs.length = l.length) :
    w.cell? ⟨g, n * 9, none⟩ = some (.int .i64 c.kind) ∧ w.cell? ⟨g, n * 9 + 1, none⟩ = some (.string c.who) ∧ w.cell? ⟨g, n * 9 + 2, none⟩ = some (.string c.name) ∧ w.cell? ⟨g, n * 9 + 3, none⟩ = some (.string c.new) ∧ w.cell? ⟨g, n * 9 + 4, none⟩ = some (.string c.ent.name) ∧ w.cell? ⟨g, n * 9 + 5, none⟩ = some (.string c.ent.who) ∧ w.cell? ⟨g, n * 9 + 6, none⟩ = some v.1 ∧ w.cell? ⟨g, n * 9 + 7, none⟩ = some v.2.1 ∧ w.cell? ⟨g, n * 9 + 8, none⟩ = some v.2.2 := by
  subst hn
  have key : ∀ r, r < 9 → w.cell? ⟨g, l.length * 9 + r, none⟩ = (chC c v)[r]? := fun r hr => by
    rw [h.cellAt (l.length * 9 + r) (by omega), List.getElem?_append_right (by rw [chsC_len l vs hv]; omega)]
    congr 1
    rw [chsC_len l vs hv]; omega
  exact ⟨key 0 (by omega), key 1 (by omega), key 2 (by omega), key 3 (by omega), key 4 (by omega), key 5 (by omega), key 6 (by omega), key 7 (by omega), key 8 (by omega)⟩
set_option maxHeartbeats 8000000 in
set_option maxRecDepth 100000 in
theorem ref9_Difference (vs va vb : Value) (s : Sg) (a b : List En) (who : Nm) (w : World) (hs : SignAt w vs s) (ha : EntsAt w va a) (hb : EntsAt w vb b) (hw : who.size ≤ 140737488355328) (hs1 : s.length ≤ 1000) (ha1 : a.length ≤ 1000) (hb1 : b.length ≤ 1000) :
    Calls Tryz.prog 33 #[vs, va, vb, .string who] w fun e w' => DifQ (diffL s a b who) w e w' := by
  have HEA := hid (ref9_Edition vs va s a w hs ha hs1 ha1)
  have HEB := hid (fun (X : World) (hX : Below w.heap.size w X) => ref9_Edition vs vb s b X (hs.below hX) (hb.below hX) hs1 hb1)
  have HNM := hid (fun (X : World) => ref6_Name who X hw)
  have HB := hid hb
  have HA := hid ha
  have HA0 := hid ha
  obtain ⟨aa, ac, rfl, -, hal, -⟩ := ha.open
  obtain ⟨ba, bc, rfl, -, hbl, -⟩ := hb.open
  clear hs ha hb
  cases e1 : edB s a
  · have HF := hid (diffL_no (b := b) (who := who) (Or.inl e1))
    rw [e1] at HEA
    clear e1
    go_enter Tryz.func33, Tryz.ntmps33
    go_wp2_with fail
    refine HEA.out.mono ?_
    rintro e w1 ⟨rfl, hb1⟩
    go_wp2
    go_ret2
    exact DifQ.no HF.out hb1
  rw [e1] at HEA
  cases e2 : edB s b
  · have HF := hid (diffL_no (a := a) (who := who) (Or.inr (Or.inl e2)))
    simp only [e2] at HEB
    clear e1 e2
    go_enter Tryz.func33, Tryz.ntmps33
    go_wp2_with fail
    refine HEA.out.mono ?_
    rintro e w1 ⟨rfl, hb1⟩
    have HE1 := hid (HEB.out w1 hb1)
    have HB1 := hid hb1
    clear hb1
    go_wp2_with fail
    refine HE1.out.mono ?_
    rintro e w2 ⟨rfl, hb2⟩
    have HB2 := hid (HB1.out.trans (hb2.mono HB1.out.size))
    clear hb2
    go_wp2
    go_ret2
    exact DifQ.no HF.out HB2.out
  simp only [e2] at HEB
  have HDIF := hid (fun (h : nmB who = true) => diffL_yes e1 e2 h)
  have HDNO := hid (fun (h : nmB who = false) => diffL_no (s := s) (a := a) (b := b) (Or.inr (Or.inr h)))
  have HLA := hid (edB_iff.1 e1)
  have HLB := hid (edB_iff.1 e2)
  have HED := hid e1
  clear e1 e2
  go_enter Tryz.func33, Tryz.ntmps33
  go_wp2_with fail
  refine HEA.out.mono ?_
  rintro e w1 ⟨rfl, hb1'⟩
  have HE1 := hid (HEB.out w1 hb1')
  have HB1 := hid hb1'
  clear hb1'
  go_wp2_with fail
  refine HE1.out.mono ?_
  rintro e w2 ⟨rfl, hb2⟩
  have HBW2 := hid (HB1.out.trans (hb2.mono HB1.out.size))
  have HN1 := hid (HNM.out w2)
  clear hb2
  cases e3 : nmB who
  · have HF := hid (HDNO.out e3)
    rw [e3] at HN1
    clear e3
    go_wp2_with (go_at_call 53; refine HN1.out.mono ?_; rintro e w3 ⟨rfl, rfl⟩)
    go_ret2
    exact DifQ.no HF.out HBW2.out
  have HF := hid (HDIF.out e3)
  have HWHO := hid e3
  rw [e3] at HN1
  clear e3 HDIF HDNO HNM HE1 HEB HEA
  go_wp2_with (go_at_call 53; refine HN1.out.mono ?_; rintro e w3 ⟨rfl, rfl⟩)
  have HN0 := hid ((NowK.start HA.out).below HBW2.out)
  have HC0 := hid (ChO.nil w2 w2.heap.size)
  have hw2 := HBW2.out.size
  go_loopw [10, 11, 12] (fun un uo kv wr => ∃ (k : Nat) (vso : List V3), k ≤ b.length ∧ kv = .int .i64 k ∧ NowK wr uo.ownBlock un (now0 a (b.take k)) ∧ edB s (now0 a (b.take k)) = true ∧ ChO wr w2.heap.size uo vso (((b.take k).filter (difB a)).map (setC who)) ∧ Below w.heap.size w wr ∧ w2.heap.size ≤ wr.heap.size) (fun _ _ kv _ => b.length - (intOf kv).toNat)
  case atStart => exact ⟨0, [], by omega, rfl, (show NowK w2 none (.slice aa a.length ac) (now0 a (b.take 0)) from by simpa [now0] using HN0.out), by simpa [now0] using HED.out, by simpa using HC0.out, HBW2.out, Nat.le_refl _⟩
  case round =>
    clear HN0 HC0 hw2
    obtain ⟨k, vso, hk, rfl, hN, hed, hO, hbw, hwz2⟩ := hrel
    have hwz := hbw.size
    by_cases hlt : k < b.length
    · obtain ⟨ba', bc', e', -, -, -, ZC⟩ := HB.out.open
      cases e'
      obtain ⟨xb, xo, xS, xU, xP, rfl, x0, x1, x2, x3, x4, he0⟩ := ZC k hlt
      have he := he0.below hbw
      replace x0 := (hbw.cell (World.block_lt_of_cell? _ _ x0)).trans x0
      replace x1 := (hbw.cell (World.block_lt_of_cell? _ _ x1)).trans x1
      replace x2 := (hbw.cell (World.block_lt_of_cell? _ _ x2)).trans x2
      replace x3 := (hbw.cell (World.block_lt_of_cell? _ _ x3)).trans x3
      replace x4 := (hbw.cell (World.block_lt_of_cell? _ _ x4)).trans x4
      clear he0
      obtain ⟨sa, sc, rfl, -⟩ := he.s.open
      obtain ⟨ta, tc, rfl, -⟩ := he.u.open
      obtain ⟨pa, pc, rfl, -⟩ := he.p.open
      have HNT := hid (now0_take (a := a) hlt)
      have HST := hid (setC_take (a := a) (who := who) hlt)
      have HOKX := hid (HLB.out.1.ents _ (List.getElem_mem hlt))
      have HDN := hid (dif_now (nd_take HLB.out.2.nd hlt) a)
      have hnm := now0_asc HLA.out.2 (b.take k)
      have hnl := now0_len a (b.take k)
      obtain ⟨x, hx⟩ : ∃ x, b[k] = x := ⟨_, rfl⟩
      rw [hx] at x0 x1 x2 x3 x4 he HNT HST HDN HOKX
      obtain ⟨L, hL⟩ : ∃ L, now0 a (b.take k) = L := ⟨_, rfl⟩
      rw [hL] at hN hed HNT HDN hnm
      clear hnl
      obtain ⟨OL, hOL⟩ : ∃ OL, ((b.take k).filter (difB a)).map (setC who) = OL := ⟨_, rfl⟩
      rw [hOL] at hO HST
      have HOLL : Hid (OL.length ≤ k) := hid (by rw [← hOL, List.length_map]; exact Nat.le_trans (List.length_filter_le _ _) (by rw [List.length_take]; omega))
      clear hx hL hOL ZC
      have HI := hid (ref6_Index _ a x.name wr (HA.out.below hbw))
      have HN := hid hN
      have HO := hid hO
      have HEX := hid he
      have HBWR := hid hbw
      have HEDL := hid hed
      obtain ⟨na, nc, rfl, -⟩ := hN.ents.open
      obtain ⟨oa, oc, rfl⟩ := hO.slice
      have hsm := ent_sm (entryB_iff.2 HOKX.out)
      clear hN hO hbw hed he
      cases hi : idxN a x.name with
      | none =>
        have hd : difB a x = false := by unfold difB; rw [idxN_hasF hi]; rfl
        have HS1 := hid (sub_dif hnm (by rw [HDN.out]; exact hd))
        have HS2 := hid hd
        rw [idxI_no hi] at HI
        clear hi hd
        go_wp2_with (go_at_call 51; refine HI.out.mono ?_; rintro e w5 ⟨rfl, rfl⟩)
        go_quiet (fail)
        go_wp2
        go_roundw
        case rel =>
          have HBRD := below_self_drewN wr nq
          refine ⟨k + 1, vso, by omega, by go_num, ?_, ?_, ?_, HBWR.out.trans (HBRD.mono hwz), Nat.le_trans hwz2 HBRD.size⟩
          · rw [HNT.out, HS1.out]; exact HN.out.below HBRD
          · rw [HNT.out, HS1.out]; exact HEDL.out
          · rw [HST.out, HS2.out]; simp only [Bool.false_eq_true, if_false, List.append_nil]; exact HO.out.below HBRD
        case measure => simp [intOf]; omega
      | some i =>
        obtain ⟨hil, hin⟩ := idxN_some hi
        obtain ⟨aa', ac', e', -, -, -, ZA⟩ := HA.out.open
        cases e'
        obtain ⟨yb, yo, yS, yU, yP, rfl, y0, y1, y2, y3, y4, hy0⟩ := ZA i hil
        have hey := hy0.below HBWR.out
        replace y0 := (HBWR.out.cell (World.block_lt_of_cell? _ _ y0)).trans y0
        replace y1 := (HBWR.out.cell (World.block_lt_of_cell? _ _ y1)).trans y1
        replace y2 := (HBWR.out.cell (World.block_lt_of_cell? _ _ y2)).trans y2
        replace y3 := (HBWR.out.cell (World.block_lt_of_cell? _ _ y3)).trans y3
        replace y4 := (HBWR.out.cell (World.block_lt_of_cell? _ _ y4)).trans y4
        obtain ⟨s1, t1, rfl, -⟩ := hey.s.open
        obtain ⟨s2, t2, rfl, -⟩ := hey.u.open
        obtain ⟨s3, t3, rfl, -⟩ := hey.p.open
        have hdd : difB a x = !decide (a[i] = x) := by
          unfold difB; rw [idxN_hasT hi, Bool.true_and]
          congr 1
          exact decide_eq_decide.2 ⟨fun hm => HLA.out.2.inj (List.getElem_mem hil) hm hin, fun e => e ▸ List.getElem_mem hil⟩
        have HDD := hid hdd
        have HSM := hid (fun (X : World) (hX : Below wr.heap.size wr X) => ref9_Same _ _ _ _ _ _ a[i] x X (hey.below hX) (HEX.out.below hX))
        obtain ⟨y, hy⟩ : ∃ y, a[i] = y := ⟨_, rfl⟩
        rw [hy] at y0 y1 y2 y3 y4 HSM HDD
        rw [idxI_some hi] at HI
        have b0 : (0 : Int) ≤ (i : Int) := by omega
        have b1 : (i : Int) < (a.length : Int) := by omega
        have X0 := hid x0
        have X1 := hid x1
        have X2 := hid x2
        have X3 := hid x3
        have X4 := hid x4
        have Y0 := hid y0
        have Y1 := hid y1
        have Y2 := hid y2
        have Y3 := hid y3
        have Y4 := hid y4
        obtain ⟨bb, hbb⟩ : ∃ bb, decide (y = x) = bb := ⟨_, rfl⟩
        rw [hbb] at HSM HDD
        clear hi hdd hy0 hey hy hin ZA hbb
        go_wp2_with (go_at_call 51; refine HI.out.mono ?_; rintro e w5 ⟨rfl, rfl⟩)
        go_region_held3 (fun w' => w'.cell? ⟨yb, yo + i * 5, none⟩ = some (.string y.name) ∧ w'.cell? ⟨yb, yo + i * 5 + 1, none⟩ = some (.string y.who) ∧ w'.cell? ⟨yb, yo + i * 5 + 2, none⟩ = some (.slice s1 y.says.length t1) ∧ w'.cell? ⟨yb, yo + i * 5 + 3, none⟩ = some (.slice s2 y.uses.length t2) ∧ w'.cell? ⟨yb, yo + i * 5 + 4, none⟩ = some (.slice s3 y.proof.length t3) ∧
            w'.cell? ⟨xb, xo + k * 5, none⟩ = some (.string x.name) ∧ w'.cell? ⟨xb, xo + k * 5 + 1, none⟩ = some (.string x.who) ∧ w'.cell? ⟨xb, xo + k * 5 + 2, none⟩ = some (.slice sa x.says.length sc) ∧ w'.cell? ⟨xb, xo + k * 5 + 3, none⟩ = some (.slice ta x.uses.length tc) ∧ w'.cell? ⟨xb, xo + k * 5 + 4, none⟩ = some (.slice pa x.proof.length pc))
          (first | exact ⟨by assumption, by assumption, by assumption, by assumption, by assumption, by assumption, by assumption, by assumption, by assumption, by assumption⟩ | go_keep)
          (first | (go_at_call 36; (with_reducible refine (HSM.out _ (by (repeat (first | with_reducible assumption | with_reducible exact Below.refl _ _ | with_reducible exact below_self_drewN _ _ | with_reducible refine Below.drew ?_ | with_reducible refine below_drewN ?_ _ | (with_reducible refine Below.alloc ?_ ?_ _; rotate_left; focus (first | (simp; done) | omega | (simp; omega))))))).mono ?_); rintro e wz ⟨rfl, hbz⟩; have hbr : Below wr.heap.size wr wz := Below.trans (by (repeat (first | with_reducible assumption | with_reducible exact Below.refl _ _ | with_reducible exact below_self_drewN _ _ | with_reducible refine Below.drew ?_ | with_reducible refine below_drewN ?_ _ | (with_reducible refine Below.alloc ?_ ?_ _; rotate_left; focus (first | (simp; done) | omega | (simp; omega)))))) (hbz.mono (by (first | (simp; done) | omega | (simp; omega)))); have x0 := (hbr.cell (World.block_lt_of_cell? _ _ X0.out)).trans X0.out; have x1 := (hbr.cell (World.block_lt_of_cell? _ _ X1.out)).trans X1.out; have x2 := (hbr.cell (World.block_lt_of_cell? _ _ X2.out)).trans X2.out; have x3 := (hbr.cell (World.block_lt_of_cell? _ _ X3.out)).trans X3.out; have x4 := (hbr.cell (World.block_lt_of_cell? _ _ X4.out)).trans X4.out; have y0 := (hbr.cell (World.block_lt_of_cell? _ _ Y0.out)).trans Y0.out; have y1 := (hbr.cell (World.block_lt_of_cell? _ _ Y1.out)).trans Y1.out; have y2 := (hbr.cell (World.block_lt_of_cell? _ _ Y2.out)).trans Y2.out; have y3 := (hbr.cell (World.block_lt_of_cell? _ _ Y3.out)).trans Y3.out; have y4 := (hbr.cell (World.block_lt_of_cell? _ _ Y4.out)).trans Y4.out))
        have HBR := hid hbr
        cases bb
        case true =>
          have HS2 : Hid (difB a x = false) := hid HDD.out
          have HS1 := hid (sub_dif hnm (by rw [HDN.out]; exact HS2.out))
          clear x0 x1 x2 x3 x4 y0 y1 y2 y3 y4 hbr
          go_wp2
          go_roundw
          case rel =>
            refine ⟨k + 1, vso, by omega, by go_num, ?_, ?_, ?_, HBWR.out.trans (HBR.out.mono hwz), Nat.le_trans hwz2 HBR.out.size⟩
            · rw [HNT.out, HS1.out]; exact HN.out.below HBR.out
            · rw [HNT.out, HS1.out]; exact HEDL.out
            · rw [HST.out, HS2.out]; simp only [Bool.false_eq_true, if_false, List.append_nil]; exact HO.out.below HBR.out
          case measure => simp [intOf]; omega
        case false =>
          have HS2 : Hid (difB a x = true) := hid HDD.out
          have HDO := hid (do_setC (who := who) HEDL.out HOKX.out HWHO.out (show difB L x = true by rw [HDN.out]; exact HS2.out))
          have HCP := hid (ref9_copied _ _ _ x wz (HEX.out.below HBR.out) hsm.2.1 hsm.2.2.1 hsm.2.2.2)
          clear HDD HSM y0 y1 y2 y3 y4 hbr
          go_wp2_with fail
          refine HCP.out.mono ?_
          rintro e w6 ⟨v, rfl, ⟨vS, vU, vP, rfl, hO6⟩, hb6⟩
          obtain ⟨a1, k1, rfl⟩ := owns_slice hO6.s
          obtain ⟨a2, k2, rfl⟩ := owns_slice hO6.u
          obtain ⟨a3, k3, rfl⟩ := owns_slice hO6.p
          have HBR6 := hid (HBR.out.trans (hb6.mono HBR.out.size))
          have HO6 := hid hO6
          have hO66 := HO.out.below HBR6.out
          have hownA := hO66.top.alloc (.cells #[.int .i64 2, .string who, .string ⟨#[]⟩, .string ⟨#[]⟩, .string x.name, .string x.who, .slice a1 x.says.length k1, .slice a2 x.uses.length k2, .slice a3 x.proof.length k3] 43)
          have HROW := hid (row_one_chg w6 (.int .i64 2) (.string who) (.string ⟨#[]⟩) (.string ⟨#[]⟩) (.string x.name) (.string x.who) (.slice a1 x.says.length k1) (.slice a2 x.uses.length k2) (.slice a3 x.proof.length k3) 43)
          have HOT := hid (HO.out.top.lt)
          have HO66 := hid hO66
          have hb66 : Below w6.heap.size w6 (w6.alloc (.cells #[.int .i64 2, .string who, .string ⟨#[]⟩, .string ⟨#[]⟩, .string x.name, .string x.who, .slice a1 x.says.length k1, .slice a2 x.uses.length k2, .slice a3 x.proof.length k3] 43)) := (Below.refl _ _).alloc (Nat.le_refl _) _
          have HB66 := hid hb66
          have HBR6A := hid (HBR6.out.trans (hb66.mono HBR6.out.size))
          have HOLL2 := HOLL.out
          have hz46 : w2.heap.size ≤ w6.heap.size := Nat.le_trans hwz2 HBR6.out.size
          have HVL := hid HO.out.len
          have q1 : IntKind.i64.wrap (((OL.length + 1 : Nat) : Int) - 1) = (OL.length : Int) := by rw [IntWalk.i64_in _ (by omega)]; omega
          have q2 : IntKind.i64.wrap ((OL.length : Int) + 1 - 1) = (OL.length : Int) := by rw [IntWalk.i64_in _ (by omega)]; omega
          clear hO66 hb66 hb6 hO6 x0 x1 x2 x3 x4
          go_wp2_with (at_builtin; go_loud (refine wpList_append_lie rfl _ _ 25 rfl w2.heap.size 43 el_chg Tryz.underlying25 rfl (by decide) _ OL.length (chsC OL vso) rfl hownA _ 1 (chC (setC who x) (.slice a1 x.says.length k1, .slice a2 x.uses.length k2, .slice a3 x.proof.length k3)) rfl HROW.out (chC_one _ _ _ _ _ _ _ _ _ _) (by omega) (by omega) (by omega) (by simp; omega) _ rfl ?_; intro g7 cap7 w7 hown7 hgrow7 hat7 hlt7; obtain ⟨f0, f1, f2, f3, f4, f5, f6, f7, f8⟩ := last_cells hown7 rfl HVL.out; unfold setC at f0 f1 f2 f3 f4 f5; dsimp only at f0 f1 f2 f3 f4 f5 f6 f7 f8))
          have HG7 := hid hgrow7
          have hav := EntO.av (v := (.slice a1 x.says.length k1, .slice a2 x.uses.length k2, .slice a3 x.proof.length k3)) (base := w2.heap.size) HO6.out (Nat.le_trans hwz2 HBR.out.size) HO66.out.top
          have hP := (HO66.out.below HB66.out).push (x := setC who x) (v := (.slice a1 x.says.length k1, .slice a2 x.uses.length k2, .slice a3 x.proof.length k3)) ⟨HO6.out.ent.below HB66.out, hw, em_sm, em_sm⟩ (fun q hq => ⟨(hav q hq).1, Nat.lt_of_lt_of_le (hav q hq).2.1 HB66.out.size, (hav q hq).2.2⟩) rfl hown7 hgrow7 rfl hat7
          have hrdl := hP.rd OL.length (by simp) (by simp [HVL.out])
          have hN7 := (HN.out.below HBR6A.out).grow hgrow7 rfl hat7
          have hb7 : Below w.heap.size w w7 := (HBWR.out.trans (HBR6A.out.mono hwz)).grown hgrow7 (Nat.le_trans hwz HBR6A.out.size) (fun q hq => Nat.le_trans HBW2.out.size (HOT.out q hq).1)
          have hz7 : w2.heap.size ≤ w7.heap.size := Nat.le_trans hwz2 (Nat.le_trans HBR6A.out.size hgrow7.size)
          have e1 : (OL ++ [setC who x])[OL.length]'(by simp) = setC who x := by simp
          have e2 : (vso ++ [((.slice a1 x.says.length k1, .slice a2 x.uses.length k2, .slice a3 x.proof.length k3) : V3)])[OL.length]'(by simp [HVL.out]) = ((.slice a1 x.says.length k1, .slice a2 x.uses.length k2, .slice a3 x.proof.length k3) : V3) := by rw [List.getElem_append_right (by rw [HVL.out]; exact Nat.le_refl _)]; simp [HVL.out]
          rw [e1, e2] at hrdl
          have HD := hid (ref9_DoF _ s L (setC who x) (.slice a1 x.says.length k1) (.slice a2 x.uses.length k2) (.slice a3 x.proof.length k3) w7 hN7.ents hrdl HEDL.out HDO.out.2)
          rw [HDO.out.1] at HD
          have HED7 := hid (doL_ed HEDL.out HDO.out.2 HDO.out.1)
          unfold chV setC at HD
          dsimp only at HD
          have HP := hid hP
          have HB7 := hid hb7
          have HZ7 := hid hz7
          have HOT7 := hid hP.top.lt
          clear hav hP hrdl hN7 hb7 hz7 e1 e2 hown7 hgrow7 hat7
          go_wp2_with fail
          refine HD.out.mono ?_
          rintro e w8 ⟨u8, vs8, B8, hB8, rfl, hE8, hb8⟩
          have HLL8 := hid (edB_iff.1 HED7.out).1.len
          have HN8 := hid (NowK.own hE8 (by have := HLL8.out; show (L.map (subE x)).length ≤ 1000; omega) (x := some g7) (fun q hq => Nat.lt_of_lt_of_le (HOT7.out q hq).2 hB8))
          have HB8 := hid hb8
          obtain ⟨ra, rc, rfl⟩ : ∃ a c, u8 = .slice a L.length c := by
            obtain ⟨a, c, h⟩ := hE8.slice
            exact ⟨a, c, by simpa using h⟩
          clear hE8 hb8 hB8 HD f0 f1 f2 f3 f4 f5 f6 f7 f8
          go_wp2
          go_roundw
          case rel =>
            refine ⟨k + 1, vso ++ [(.slice a1 x.says.length k1, .slice a2 x.uses.length k2, .slice a3 x.proof.length k3)], by omega, by go_num, ?_, ?_, ?_, HB7.out.trans (HB8.out.mono HB7.out.size), Nat.le_trans HZ7.out HB8.out.size⟩
            · rw [HNT.out]; exact HN8.out
            · rw [HNT.out]; exact HED7.out
            · rw [HST.out, HS2.out, if_pos rfl]; exact HP.out.below HB8.out
          case measure => simp [intOf]; omega
    · have hkb : k = b.length := by omega
      subst hkb
      rw [List.take_of_length_le (Nat.le_refl _)] at hN hO hed
      have hNL := now0_len a b
      have hASC := now0_asc HLA.out.2 b
      obtain ⟨N0, hN0⟩ : ∃ N0, now0 a b = N0 := ⟨_, rfl⟩
      rw [hN0] at hN HF hNL hASC
      obtain ⟨SL, hSL⟩ : ∃ SL, (b.filter (difB a)).map (setC who) = SL := ⟨_, rfl⟩
      have HSLL : Hid (SL.length ≤ b.length) := hid (by rw [← hSL, List.length_map]; exact List.length_filter_le _ _)
      rw [hSL] at hO HF
      have HN := hid hN
      have HO := hid hO
      have HBWR := hid hbw
      have HASC := hid hASC
      have HNL := hid hNL
      clear hN hO hbw hASC hN0 hSL hed
      obtain ⟨na, nc, rfl, -⟩ := HN.out.ents.open
      obtain ⟨oa, oc, rfl⟩ := HO.out.slice
      rw [← HNL.out] at hal
      go_wp2
      go_loopw [10, 11] (fun un uo wx => ∃ (L : List En) (vso : List V3) (fu : Nat) (dn : List Nm), slen un = L.length ∧ NowK wx uo.ownBlock un L ∧ AscE L ∧ ChO wx w2.heap.size uo vso (SL ++ dn.map (dropC who)) ∧ dn.length + L.length ≤ a.length ∧ L.length ≤ fu ∧ dropsL a.length N0 b = (dropsL fu L b).map (dn ++ ·) ∧ Below w.heap.size w wx ∧ w2.heap.size ≤ wx.heap.size) (fun un _ _ => slen un)
      case atStart => exact ⟨N0, vso, a.length, [], rfl, HN.out, HASC.out, by simpa using HO.out, by simp [HNL.out], by rw [HNL.out]; exact Nat.le_refl _, by simp, HBWR.out, hwz2⟩
      case round =>
        obtain ⟨wo, rfl⟩ : ∃ wo : World, wo = wr := ⟨_, rfl⟩
        clear HN HO HBWR HASC HNL hwz2 hwz
        obtain ⟨L, vso, fu, dn, hsl, hN, hA, hO, hdl, hfu, hdr, hbw, hz2⟩ := hrel
        have hwx := hbw.size
        have hLL : L.length ≤ 1000 := by omega
        have hple : (SL ++ dn.map (dropC who)).length = SL.length + dn.length := by simp
        have hpls : ∀ n, SL ++ (dn ++ [n]).map (dropC who) = (SL ++ dn.map (dropC who)) ++ [dropC who n] := fun n => by simp
        obtain ⟨PL, hPL⟩ : ∃ PL, SL ++ dn.map (dropC who) = PL := ⟨_, rfl⟩
        rw [hPL] at hO hple
        simp only [hPL] at hpls
        have HPL := hid hPL
        have HPLS := hid hpls
        have hPLL : PL.length ≤ 120 := by
          have h1 := HSLL.out
          have h2 := HLA.out.1.len
          have h3 := HLB.out.1.len
          omega
        have HPLL := hid hPLL
        have HPLE := hid hple
        clear hPL hpls hple
        have HN := hid hN
        have HO := hid hO
        have HA := hid hA
        have HDR := hid hdr
        have HBWR := hid hbw
        obtain ⟨na, nc, rfl, -, -, -, ZN⟩ := hN.ents.open
        have HZN := hid ZN
        obtain ⟨oa, oc, rfl⟩ := hO.slice
        clear hN hA hO hdr hbw ZN hsl
        go_wp2
        go_loopw [14, 15, 16] (fun lv zv kv wy => ∃ (k : Nat) (last : Int) (z : Bool), k ≤ L.length ∧ lv = .int .i64 last ∧ zv = .bool z ∧ kv = .int .i64 k ∧ LastR b L k last ∧ z = (L.take k).any (gonB b) ∧ wy = wo) (fun _ _ kv _ => L.length - (intOf kv).toNat)
        case atStart => exact ⟨0, -1, false, by omega, rfl, rfl, rfl, LastR.zero b L, by simp, rfl⟩
        case round =>
          obtain ⟨k, last, z, hk, rfl, rfl, rfl, hlast, hz, rfl⟩ := hrel
          have HLAST := hid hlast
          have HZ := hid hz
          clear hlast hz
          by_cases hlt : k < L.length
          · obtain ⟨yb, yo, yS, yU, yP, rfl, y0, y1, y2, y3, y4, hey⟩ := HZN.out k hlt
            have HI := hid (ref6_Index _ b L[k].name wr (HB.out.below HBWR.out))
            have HU := hid (ref9_used _ L L[k].name k wr HN.out.ents)
            have HAT := hid (any_take (gonB b) hlt)
            rw [usedI_at HA.out.nd hlt rfl] at HU
            have HOKD : Hid (okD L b L[k] = (gonB b L[k] && !usedB L L[k].name L[k].name)) := hid rfl
            obtain ⟨g2, hg2⟩ : ∃ g2, usedB L L[k].name L[k].name = g2 := ⟨_, rfl⟩
            rw [hg2] at HU HOKD
            obtain ⟨y, hy⟩ : ∃ y, L[k] = y := ⟨_, rfl⟩
            rw [hy] at y0 HI HU HAT
            have HY := hid hy
            clear hey hg2 y1 y2 y3 y4
            cases hi : idxN b y.name with
            | some i =>
              have hg : gonB b y = false := by unfold gonB; rw [idxN_hasT hi]; rfl
              have HOK : Hid (okD L b L[k] = false) := hid (by rw [HOKD.out, hy, hg]; rfl)
              rw [idxI_some hi] at HI
              have HAT2 : Hid ((L.take (k + 1)).any (gonB b) = z) := hid (by rw [HAT.out, hg, Bool.or_false, HZ.out])
              have b0 : ¬ (i : Int) < 0 := by omega
              clear hi hg hy
              go_wp2_with (go_at_call 51; refine HI.out.mono ?_; rintro e w5 ⟨rfl, rfl⟩)
              go_roundw
              case rel => exact ⟨k + 1, last, z, by omega, rfl, rfl, by go_num, HLAST.out.no hlt HOK.out, HAT2.out.symm, by first | trivial | rfl⟩
              case measure => simp [intOf]; omega
            | none =>
              have hg : gonB b y = true := by unfold gonB; rw [idxN_hasF hi]; rfl
              rw [idxI_no hi] at HI
              have HAT2 : Hid ((L.take (k + 1)).any (gonB b) = true) := hid (by rw [HAT.out, hg, Bool.or_true])
              cases g2 with
              | true =>
                have HOK : Hid (okD L b L[k] = false) := hid (by rw [HOKD.out, hy, hg]; rfl)
                clear hi hg hy
                go_wp2_with (first | (go_at_call 51; refine HI.out.mono ?_; rintro e w5 ⟨rfl, rfl⟩) | (go_at_call 81; refine HU.out.mono ?_; rintro e w5 ⟨rfl, rfl⟩))
                go_roundw
                case rel => exact ⟨k + 1, last, true, by omega, rfl, rfl, by go_num, HLAST.out.no hlt HOK.out, HAT2.out.symm, by first | trivial | rfl⟩
                case measure => simp [intOf]; omega
              | false =>
                have HOK : Hid (okD L b L[k] = true) := hid (by rw [HOKD.out, hy, hg]; rfl)
                clear hi hg hy
                go_wp2_with (first | (go_at_call 51; refine HI.out.mono ?_; rintro e w5 ⟨rfl, rfl⟩) | (go_at_call 81; refine HU.out.mono ?_; rintro e w5 ⟨rfl, rfl⟩))
                go_roundw
                case rel => exact ⟨k + 1, k, true, by omega, rfl, rfl, by go_num, LastR.yes hlt HOK.out, HAT2.out.symm, by first | trivial | rfl⟩
                case measure => simp [intOf]; omega
          · have hkl : k = L.length := by omega
            subst hkl
            have hz := HZ.out
            rw [List.take_length] at hz
            have HZZ := hid hz
            clear hz
            cases z with
            | false =>
              have hdn : dropsL a.length N0 b = some dn := by rw [HDR.out, dropsL_stop HZZ.out.symm]; simp
              have HFF : Hid (diffL s a b who = (PL ++ (b.filter (gonB a)).map (addCh who), 0)) := hid (by rw [HF.out, hdn, ← HPL.out])
              have HBL := hid (HLB.out.1.len)
              have HOC := hid HO.out
              clear HN HA HDR hdn hPLL hdl hfu hLL HO HPL HPLS
              go_wp2
              go_loopw [11, 17] (fun uo kv wr => ∃ (k : Nat) (vso : List V3), k ≤ b.length ∧ kv = .int .i64 k ∧ ChO wr w2.heap.size uo vso (PL ++ ((b.take k).filter (gonB a)).map (addCh who)) ∧ Below w.heap.size w wr ∧ w2.heap.size ≤ wr.heap.size) (fun _ kv _ => b.length - (intOf kv).toNat)
              case atStart => exact ⟨0, vso, by omega, rfl, by simpa using HOC.out, HBWR.out, hz2⟩
              case round =>
                clear HOC HBWR hz2 hwx
                obtain ⟨k, vso, hk, rfl, hO, hbw, hw4⟩ := hrel
                have hwz := hbw.size
                by_cases hlt : k < b.length
                · obtain ⟨ba', bc', e', -, -, -, ZC⟩ := HB.out.open
                  cases e'
                  obtain ⟨xb, xo, xS, xU, xP, rfl, x0, x1, x2, x3, x4, he0⟩ := ZC k hlt
                  have he := he0.below hbw
                  replace x0 := (hbw.cell (World.block_lt_of_cell? _ _ x0)).trans x0
                  replace x1 := (hbw.cell (World.block_lt_of_cell? _ _ x1)).trans x1
                  replace x2 := (hbw.cell (World.block_lt_of_cell? _ _ x2)).trans x2
                  replace x3 := (hbw.cell (World.block_lt_of_cell? _ _ x3)).trans x3
                  replace x4 := (hbw.cell (World.block_lt_of_cell? _ _ x4)).trans x4
                  clear he0
                  obtain ⟨sa, sc, rfl, -⟩ := he.s.open
                  obtain ⟨ta, tc, rfl, -⟩ := he.u.open
                  obtain ⟨pa, pc, rfl, -⟩ := he.p.open
                  have HST := hid (addC_take (a := a) (who := who) hlt)
                  have hsm := ent_sm (entryB_iff.2 (HLB.out.1.ents _ (List.getElem_mem hlt)))
                  obtain ⟨x, hx⟩ : ∃ x, b[k] = x := ⟨_, rfl⟩
                  rw [hx] at x0 x1 x2 x3 x4 he HST hsm
                  have hOLL : (PL ++ ((b.take k).filter (gonB a)).map (addCh who)).length ≤ 180 := by
                    have h1 := HPLL.out
                    have h2 := HBL.out
                    have h3 := List.length_filter_le (gonB a) (b.take k)
                    rw [List.length_take] at h3
                    rw [List.length_append, List.length_map]; omega
                  obtain ⟨OL, hOL⟩ : ∃ OL, PL ++ ((b.take k).filter (gonB a)).map (addCh who) = OL := ⟨_, rfl⟩
                  have HST2 : Hid (PL ++ ((b.take (k + 1)).filter (gonB a)).map (addCh who) = OL ++ (if gonB a x then [addCh who x] else [])) := hid (by rw [HST.out, ← hOL, List.append_assoc])
                  rw [hOL] at hO hOLL
                  have HOLL := hid hOLL
                  clear hx hOL ZC HST hOLL
                  have HI := hid (ref6_Index _ a x.name wr (HA0.out.below hbw))
                  have HO := hid hO
                  have HEX := hid he
                  have HBWR := hid hbw
                  obtain ⟨oa, oc, rfl⟩ := hO.slice
                  clear hO hbw he
                  cases hi : idxN a x.name with
                  | some i =>
                    have HS2 : Hid (gonB a x = false) := hid (by unfold gonB; rw [idxN_hasT hi]; rfl)
                    rw [idxI_some hi] at HI
                    have b0 : ¬ (i : Int) < 0 := by omega
                    clear hi
                    go_wp2_with (go_at_call 51; refine HI.out.mono ?_; rintro e w5 ⟨rfl, rfl⟩)
                    go_roundw
                    case rel =>
                      refine ⟨k + 1, vso, by omega, by go_num, ?_, HBWR.out, hw4⟩
                      rw [HST2.out, HS2.out]; simp only [Bool.false_eq_true, if_false, List.append_nil]; exact HO.out
                    case measure => simp [intOf]; omega
                  | none =>
                    have HS2 : Hid (gonB a x = true) := hid (by unfold gonB; rw [idxN_hasF hi]; rfl)
                    rw [idxI_no hi] at HI
                    have HCP := hid (ref9_copied _ _ _ x wr HEX.out hsm.2.1 hsm.2.2.1 hsm.2.2.2)
                    clear hi
                    go_wp2_with (go_at_call 51; refine HI.out.mono ?_; rintro e w5 ⟨rfl, rfl⟩)
                    refine HCP.out.mono ?_
                    rintro e w6 ⟨v, rfl, ⟨vS, vU, vP, rfl, hO6⟩, hb6⟩
                    obtain ⟨a1, k1, rfl⟩ := owns_slice hO6.s
                    obtain ⟨a2, k2, rfl⟩ := owns_slice hO6.u
                    obtain ⟨a3, k3, rfl⟩ := owns_slice hO6.p
                    have HBR6 := hid hb6
                    have HO6 := hid hO6
                    have hO66 := HO.out.below HBR6.out
                    have hownA := hO66.top.alloc (.cells #[.int .i64 1, .string who, .string ⟨#[]⟩, .string ⟨#[]⟩, .string x.name, .string x.who, .slice a1 x.says.length k1, .slice a2 x.uses.length k2, .slice a3 x.proof.length k3] 43)
                    have HROW := hid (row_one_chg w6 (.int .i64 1) (.string who) (.string ⟨#[]⟩) (.string ⟨#[]⟩) (.string x.name) (.string x.who) (.slice a1 x.says.length k1) (.slice a2 x.uses.length k2) (.slice a3 x.proof.length k3) 43)
                    have HOT := hid (HO.out.top.lt)
                    have HO66 := hid hO66
                    have hb66 : Below w6.heap.size w6 (w6.alloc (.cells #[.int .i64 1, .string who, .string ⟨#[]⟩, .string ⟨#[]⟩, .string x.name, .string x.who, .slice a1 x.says.length k1, .slice a2 x.uses.length k2, .slice a3 x.proof.length k3] 43)) := (Below.refl _ _).alloc (Nat.le_refl _) _
                    have HB66 := hid hb66
                    have HBR6A := hid (HBR6.out.trans (hb66.mono HBR6.out.size))
                    have HOLL2 := HOLL.out
                    have hz46 : w2.heap.size ≤ w6.heap.size := Nat.le_trans hw4 HBR6.out.size
                    clear hO66 hb66 hb6 hO6 x0 x1 x2 x3 x4
                    go_wp2_with (at_builtin; go_loud (refine wpList_append_lie rfl _ _ 25 rfl w2.heap.size 43 el_chg Tryz.underlying25 rfl (by decide) _ OL.length (chsC OL vso) rfl hownA _ 1 (chC (addCh who x) (.slice a1 x.says.length k1, .slice a2 x.uses.length k2, .slice a3 x.proof.length k3)) rfl HROW.out (chC_one _ _ _ _ _ _ _ _ _ _) (by omega) (by omega) (by omega) (by simp; omega) _ rfl ?_; intro g7 cap7 w7 hown7 hgrow7 hat7 hlt7))
                    go_roundw
                    case rel =>
                      have hav := EntO.av (v := (.slice a1 x.says.length k1, .slice a2 x.uses.length k2, .slice a3 x.proof.length k3)) (base := w2.heap.size) HO6.out hw4 HO66.out.top
                      have hP := (HO66.out.below HB66.out).push (x := addCh who x) (v := (.slice a1 x.says.length k1, .slice a2 x.uses.length k2, .slice a3 x.proof.length k3)) ⟨HO6.out.ent.below HB66.out, hw, em_sm, em_sm⟩ (fun q hq => ⟨(hav q hq).1, Nat.lt_of_lt_of_le (hav q hq).2.1 HB66.out.size, (hav q hq).2.2⟩) rfl hown7 hgrow7 rfl hat7
                      refine ⟨k + 1, vso ++ [(.slice a1 x.says.length k1, .slice a2 x.uses.length k2, .slice a3 x.proof.length k3)], by omega, by go_num, ?_, ?_, ?_⟩
                      · rw [HST2.out, HS2.out, if_pos rfl]; exact hP
                      · exact (HBWR.out.trans (HBR6A.out.mono hwz)).grown hgrow7 (Nat.le_trans hwz HBR6A.out.size) (fun q hq => Nat.le_trans HBW2.out.size (HOT.out q hq).1)
                      · exact Nat.le_trans hw4 (Nat.le_trans HBR6A.out.size hgrow7.size)
                    case measure => simp [intOf]; omega
                · have hkb : k = b.length := by omega
                  subst hkb
                  rw [List.take_of_length_le (Nat.le_refl _)] at hO
                  have hlen : (PL ++ (b.filter (gonB a)).map (addCh who)).length ≤ 1000 := by
                    have h1 := HPLL.out
                    have h2 := HBL.out
                    have h3 := List.length_filter_le (gonB a) b
                    rw [List.length_append, List.length_map]; omega
                  have HE := hid (hO.chs hlen)
                  obtain ⟨oa, oc, rfl⟩ := hO.slice
                  clear hO hlen
                  go_wp2
                  go_ret2
                  rw [HFF.out]
                  exact ⟨_, rfl, HE.out, hbw⟩
            | true =>
              by_cases hneg : last < 0
              · have HR0 : Hid (dropsL a.length N0 b = none) := hid (by
                  rw [HDR.out]
                  cases fu with
                  | zero =>
                    obtain rfl : L = [] := List.length_eq_zero_iff.1 (by omega)
                    have := HZZ.out; cases this
                  | succ f => rw [dropsL_none HZZ.out.symm (HLAST.out.neg hneg)]; rfl)
                go_wp2
                go_ret2
                exact DifQ.no (by rw [HF.out, HR0.out]) HBWR.out
              · obtain ⟨j, hjl, rfl, hld⟩ := HLAST.out.pos hneg
                obtain ⟨yb, yo, yS, yU, yP, rfl, y0, y1, y2, y3, y4, hey⟩ := HZN.out j hjl
                have HLD := hid hld
                have b0 : (0 : Int) ≤ (j : Int) := by omega
                have b1 : (j : Int) < (L.length : Int) := by omega
                obtain ⟨y, hy⟩ : ∃ y, L[j] = y := ⟨_, rfl⟩
                rw [hy] at y0 hey HLD
                have HY := hid hy
                have HEY := hid hey
                have hownA := HO.out.top.alloc (.cells #[.int .i64 4, .string who, .string y.name, .string ⟨#[]⟩, .string ⟨#[]⟩, .string ⟨#[]⟩, .slice none 0 0, .slice none 0 0, .slice none 0 0] 43)
                have HROW := hid (row_one_chg wr (.int .i64 4) (.string who) (.string y.name) (.string ⟨#[]⟩) (.string ⟨#[]⟩) (.string ⟨#[]⟩) (.slice none 0 0) (.slice none 0 0) (.slice none 0 0) 43)
                have HOT := hid (HO.out.top.lt)
                have hb66 : Below wr.heap.size wr (wr.alloc (.cells #[.int .i64 4, .string who, .string y.name, .string ⟨#[]⟩, .string ⟨#[]⟩, .string ⟨#[]⟩, .slice none 0 0, .slice none 0 0, .slice none 0 0] 43)) := (Below.refl _ _).alloc (Nat.le_refl _) _
                have HB66 := hid hb66
                clear hb66 hy hey hld y1 y2 y3 y4
                go_wp2_with (at_builtin; go_loud (refine wpList_append_lie rfl _ _ 25 rfl w2.heap.size 43 el_chg Tryz.underlying25 rfl (by decide) _ PL.length (chsC PL vso) rfl hownA _ 1 (chC (dropC who y.name) (.slice none 0 0, .slice none 0 0, .slice none 0 0)) rfl HROW.out (chC_one _ _ _ _ _ _ _ _ _ _) (by omega) (by omega) (by omega) (by simp; omega) _ rfl ?_; intro g7 cap7 w7 hown7 hgrow7 hat7 hlt7))
                have HN7 := hid ((HN.out.below HB66.out).grow hgrow7 rfl hat7)
                have HP := hid ((HO.out.below HB66.out).push (x := dropC who y.name) (v := (.slice none 0 0, .slice none 0 0, .slice none 0 0)) ⟨⟨Ints.nil _, TxtsAt.nil _, StepsAt.nil _, em_sm, em_sm⟩, hw, HEY.out.n1, em_sm⟩ (fun q hq => by rcases hq with hq | hq | hq <;> cases hq) rfl hown7 hgrow7 rfl hat7)
                have HWO := hid (ref9_withoutK _ L j w7 (some g7) hjl HN7.out (fun q hq => (HP.out.top.lt q hq).2) hLL)
                refine HWO.out.mono ?_
                rintro e w8 ⟨u8, rfl, hN8, hb8⟩
                have HN8 := hid hN8
                have HB8 := hid hb8
                obtain ⟨ra, rc, rfl, -⟩ := hN8.ents.open
                clear hN8 hb8
                go_wp2
                go_roundw
                case rel =>
                  have hle : (L.eraseIdx j).length = L.length - 1 := List.length_eraseIdx_of_lt hjl
                  refine ⟨L.eraseIdx j, vso ++ [(.slice none 0 0, .slice none 0 0, .slice none 0 0)], fu - 1, dn ++ [y.name], rfl, HN8.out, List.Pairwise.sublist (List.eraseIdx_sublist L j) HA.out, ?_, ?_, ?_, ?_, ?_, ?_⟩
                  · rw [HPLS.out]; exact HP.out.below HB8.out
                  · rw [hle]; simp; omega
                  · rw [hle]; omega
                  · rw [HDR.out]
                    cases fu with
                    | zero => omega
                    | succ f =>
                      rw [dropsL_some HZZ.out.symm HLD.out, ← HY.out, erase_ne HA.out hjl, Option.map_map]
                      congr 1
                      funext x; simp
                  · exact ((HBWR.out.trans (HB66.out.mono hwx)).grown hgrow7 (Nat.le_trans hwx HB66.out.size) (fun q hq => Nat.le_trans HBW2.out.size (HOT.out q hq).1)).trans (HB8.out.mono (Nat.le_trans (Nat.le_trans hwx HB66.out.size) hgrow7.size))
                  · exact Nat.le_trans hz2 (Nat.le_trans HB66.out.size (Nat.le_trans hgrow7.size HB8.out.size))
                case measure => simp [slen]; rw [List.length_eraseIdx_of_lt hjl]; omega
end Go.Proofs.YtlbjbmpkaniojaaGreat
namespace Go.Proofs.YtlbjbmpkaniojaaGreat
open Go Go.RowKit Go.Maps
set_option maxHeartbeats 4000000 in
set_option maxRecDepth 100000 in
theorem walk_BlameDiffers (vs va vb : Value) (s : Sg) (a b : List En) (who : Nm) (w : World) (hs : SignAt w vs s) (ha : EntsAt w va a) (hb : EntsAt w vb b) (hw : who.size ≤ 140737488355328) :
    Calls Tryz.prog 6 #[vs, va, vb, .string who] w fun e w' => e = .returned (.bool true) ∧ Below w.heap.size w w' := by
  have HAW := hid (law9_awake w)
  have HS := hid hs
  have HA := hid ha
  have HB := hid hb
  have HHA := hid (fun (X : World) (hX : Below w.heap.size w X) => law9_heavy _ _ s a X (hs.below hX) (ha.below hX))
  have HHB := hid (fun (X : World) (hX : Below w.heap.size w X) => law9_heavy _ _ s b X (hs.below hX) (hb.below hX))
  obtain ⟨sp, sc, rfl, -, hsl, -⟩ := hs.open
  obtain ⟨ap, ac, rfl, -, hal, -, ZA⟩ := ha.open
  obtain ⟨bp, bc, rfl, -, hbl, -, ZB⟩ := hb.open
  have HZA := hid ZA
  have HZB := hid ZB
  clear hs ha hb ZA ZB
  go_enter Tryz.func6, Tryz.ntmps6
  go_wp2_with fail
  refine HAW.out.mono ?_
  rintro e w1 ⟨rfl, hb1⟩
  have HB1 := hid hb1
  have HH1 := hid (HHA.out w1 hb1)
  clear hb1 HAW HHA
  go_wp2_with fail
  refine HH1.out.mono ?_
  rintro e w2 ⟨z, rfl, hz, hb2⟩
  have HB2 := hid (HB1.out.trans (hb2.mono HB1.out.size))
  clear hb2 HH1
  cases z
  case true =>
    go_wp2
    go_ret
    exact ⟨rfl, HB2.out⟩
  obtain ⟨hs20, ha70⟩ := hz rfl
  have HM2 := hid (HHB.out w2 HB2.out)
  clear HHB hz
  go_wp2_with fail
  refine HM2.out.mono ?_
  rintro e w3 ⟨z2, rfl, hz2, hb3⟩
  have HB3 := hid (HB2.out.trans (hb3.mono HB2.out.size))
  clear hb3 HM2
  cases z2
  case true =>
    go_wp2
    go_ret
    exact ⟨rfl, HB3.out⟩
  obtain ⟨-, hb70⟩ := hz2 rfl
  clear hz2
  by_cases hw1 : 100 < who.size
  case pos =>
    go_wp2
    go_ret
    exact ⟨rfl, HB3.out⟩
  have HPD := hid (fun (X : World) (hX : Below w.heap.size w X) => blame_Difference _ _ _ s a b who X (HS.out.below hX) (HA.out.below hX) (HB.out.below hX) hw (by omega) (by omega) (by omega))
  have HRD := hid (fun (X : World) (hX : Below w.heap.size w X) => ref9_Difference _ _ _ s a b who X (HS.out.below hX) (HA.out.below hX) (HB.out.below hX) hw (by omega) (by omega) (by omega))
  have HPS := hid (fun (X : World) (hX : Below w.heap.size w X) => blame_Difference _ _ _ s a a who X (HS.out.below hX) (HA.out.below hX) (HA.out.below hX) hw (by omega) (by omega) (by omega))
  have HPL := hid (fun (h : (diffL s a b who).2 = 0) => diff_played h)
  have HSE := hid (fun (h : (diffL s a b who).2 = 0) => (show diffL s a a who = ([], 0) from by
    obtain ⟨h1, h2, h3⟩ := diff_ok h
    exact diff_self h1 h3))
  obtain ⟨D, e1, hD⟩ : ∃ D e1, diffL s a b who = (D, e1) := ⟨_, _, rfl⟩
  simp only [hD] at HPD HRD HPL HSE
  clear hD
  have HP3 := hid (HPD.out w3 HB3.out)
  go_wp2_with fail
  refine HP3.out.mono ?_
  rintro e w4 ⟨u4, rfl, hu4, hb4⟩
  have HB4 := hid (HB3.out.trans (hb4.mono HB3.out.size))
  have HU4 := hid hu4
  obtain ⟨a4, c4, rfl, -⟩ := hu4.open
  have HP4 := hid (HRD.out w4 HB4.out)
  clear hb4 hu4 HP3 HRD HPD
  go_wp2_with fail
  refine HP4.out.mono ?_
  rintro e w5 ⟨u5, rfl, hu5, hb5⟩
  have HB5 := hid (HB4.out.trans (hb5.mono HB4.out.size))
  have HU4 := hid (HU4.out.below hb5)
  have HSC := hid (ref9_SameChangesE _ _ D w5 HU4.out hu5)
  obtain ⟨a5, c5, rfl, -⟩ := hu5.open
  clear hb5 hu5 HP4
  go_wp2_with fail
  refine HSC.out.mono ?_
  rintro e w6 ⟨rfl, hb6⟩
  have HB6 := hid (HB5.out.trans (hb6.mono HB5.out.size))
  have HU4 := hid (HU4.out.below hb6)
  clear hb6 HSC
  have HA6 := hid (HA.out.below HB6.out)
  have HBB6 := hid (HB.out.below HB6.out)
  have hcases : a.length = 0 ∨ (0 < a.length ∧ b.length = 0) ∨ (0 < a.length ∧ 0 < b.length) := by omega
  rcases hcases with h0 | ⟨h0, h1⟩ | ⟨h0, h1⟩
  case' inl =>
    have n0 : decide (0 < a.length) = false := decide_eq_false (by omega)
    clear h0
    go_wp2
    go_quiet (fail)
    have HBZ := hid (below_self_drewN w6 nq)
    obtain ⟨wz, hwz⟩ : ∃ wz, w6.drewN nq = wz := ⟨_, rfl⟩
    rw [hwz] at HBZ ⊢
    clear hwz n0
  case' inr.inl =>
    have n0 : decide (0 < a.length) = true := decide_eq_true h0
    have n1 : decide (0 < b.length) = false := decide_eq_false (by omega)
    clear h1
    go_wp2
    go_quiet (fail)
    have HBZ := hid (below_self_drewN w6 nq)
    obtain ⟨wz, hwz⟩ : ∃ wz, w6.drewN nq = wz := ⟨_, rfl⟩
    rw [hwz] at HBZ ⊢
    clear hwz n0 n1 h0
  case' inr.inr =>
    obtain ⟨ap', ac', e', -, -, -, ZA⟩ := HA6.out.open
    cases e'
    obtain ⟨bp', bc', e', -, -, -, ZB⟩ := HBB6.out.open
    cases e'
    obtain ⟨yb, yo, yS, yU, yP, rfl, y0, y1, y2, y3, y4, hey⟩ := ZA 0 h0
    obtain ⟨xb, xo, xS, xU, xP, rfl, x0, x1, x2, x3, x4, hex⟩ := ZB 0 h1
    obtain ⟨s1, t1, rfl, -⟩ := hey.s.open
    obtain ⟨s2, t2, rfl, -⟩ := hey.u.open
    obtain ⟨s3, t3, rfl, -⟩ := hey.p.open
    obtain ⟨sa, sc1, rfl, -⟩ := hex.s.open
    obtain ⟨ta, tc, rfl, -⟩ := hex.u.open
    obtain ⟨pa, pc, rfl, -⟩ := hex.p.open
    have HSM := hid (fun (X : World) (hX : Below w6.heap.size w6 X) => ref9_Same _ _ _ _ _ _ a[0] b[0] X (hey.below hX) (hex.below hX))
    have HSN := hid (fun (X : World) (hX : Below w6.heap.size w6 X) => blame_Same _ _ _ _ _ _ a[0] b[0] X (hey.below hX) (hex.below hX))
    have n0 : decide (0 < a.length) = true := decide_eq_true h0
    have n1 : decide (0 < b.length) = true := decide_eq_true h1
    obtain ⟨y, hy⟩ : ∃ y, a[0] = y := ⟨_, rfl⟩
    obtain ⟨x, hx⟩ : ∃ x, b[0] = x := ⟨_, rfl⟩
    rw [hy] at y0 y1 y2 y3 y4 HSM HSN hey
    rw [hx] at x0 x1 x2 x3 x4 HSM HSN hex
    simp only [Nat.zero_mul, Nat.add_zero] at x0 x1 x2 x3 x4 y0 y1 y2 y3 y4
    have X0 := hid x0
    have X1 := hid x1
    have X2 := hid x2
    have X3 := hid x3
    have X4 := hid x4
    have Y0 := hid y0
    have Y1 := hid y1
    have Y2 := hid y2
    have Y3 := hid y3
    have Y4 := hid y4
    obtain ⟨bb, hbb⟩ : ∃ bb, decide (y = x) = bb := ⟨_, rfl⟩
    rw [hbb] at HSM HSN
    clear hey hex ZA ZB hbb hx hy
    go_wp2
    go_region_held3 (fun w' => w'.cell? ⟨yb, yo, none⟩ = some (.string y.name) ∧ w'.cell? ⟨yb, yo + 1, none⟩ = some (.string y.who) ∧ w'.cell? ⟨yb, yo + 2, none⟩ = some (.slice s1 y.says.length t1) ∧ w'.cell? ⟨yb, yo + 3, none⟩ = some (.slice s2 y.uses.length t2) ∧ w'.cell? ⟨yb, yo + 4, none⟩ = some (.slice s3 y.proof.length t3) ∧
        w'.cell? ⟨xb, xo, none⟩ = some (.string x.name) ∧ w'.cell? ⟨xb, xo + 1, none⟩ = some (.string x.who) ∧ w'.cell? ⟨xb, xo + 2, none⟩ = some (.slice sa x.says.length sc1) ∧ w'.cell? ⟨xb, xo + 3, none⟩ = some (.slice ta x.uses.length tc) ∧ w'.cell? ⟨xb, xo + 4, none⟩ = some (.slice pa x.proof.length pc))
      (first | exact ⟨by assumption, by assumption, by assumption, by assumption, by assumption, by assumption, by assumption, by assumption, by assumption, by assumption⟩ | go_keep)
      (first
        | (go_at_call 35; (with_reducible refine (HSN.out _ (by (repeat (first | with_reducible assumption | with_reducible exact Below.refl _ _ | with_reducible exact below_self_drewN _ _ | with_reducible refine Below.drew ?_ | with_reducible refine below_drewN ?_ _ | (with_reducible refine Below.alloc ?_ ?_ _; rotate_left; focus (first | (simp; done) | omega | (simp; omega))))))).mono ?_); rintro e wz ⟨rfl, hbz⟩; have hbr : Below w6.heap.size w6 wz := Below.trans (by (repeat (first | with_reducible assumption | with_reducible exact Below.refl _ _ | with_reducible exact below_self_drewN _ _ | with_reducible refine Below.drew ?_ | with_reducible refine below_drewN ?_ _ | (with_reducible refine Below.alloc ?_ ?_ _; rotate_left; focus (first | (simp; done) | omega | (simp; omega)))))) (hbz.mono (by first | exact Below.size (by assumption) | (first | (simp; done) | omega | (simp; omega)))); have hsz := hbr.size; have x0 := (hbr.cell (World.block_lt_of_cell? _ _ X0.out)).trans X0.out; have x1 := (hbr.cell (World.block_lt_of_cell? _ _ X1.out)).trans X1.out; have x2 := (hbr.cell (World.block_lt_of_cell? _ _ X2.out)).trans X2.out; have x3 := (hbr.cell (World.block_lt_of_cell? _ _ X3.out)).trans X3.out; have x4 := (hbr.cell (World.block_lt_of_cell? _ _ X4.out)).trans X4.out; have y0 := (hbr.cell (World.block_lt_of_cell? _ _ Y0.out)).trans Y0.out; have y1 := (hbr.cell (World.block_lt_of_cell? _ _ Y1.out)).trans Y1.out; have y2 := (hbr.cell (World.block_lt_of_cell? _ _ Y2.out)).trans Y2.out; have y3 := (hbr.cell (World.block_lt_of_cell? _ _ Y3.out)).trans Y3.out; have y4 := (hbr.cell (World.block_lt_of_cell? _ _ Y4.out)).trans Y4.out)
        | (go_at_call 36; (with_reducible refine (HSM.out _ (by (repeat (first | with_reducible assumption | with_reducible exact Below.refl _ _ | with_reducible exact below_self_drewN _ _ | with_reducible refine Below.drew ?_ | with_reducible refine below_drewN ?_ _ | (with_reducible refine Below.alloc ?_ ?_ _; rotate_left; focus (first | (simp; done) | omega | (simp; omega))))))).mono ?_); rintro e wz ⟨rfl, hbz⟩; have hbr : Below w6.heap.size w6 wz := Below.trans (by (repeat (first | with_reducible assumption | with_reducible exact Below.refl _ _ | with_reducible exact below_self_drewN _ _ | with_reducible refine Below.drew ?_ | with_reducible refine below_drewN ?_ _ | (with_reducible refine Below.alloc ?_ ?_ _; rotate_left; focus (first | (simp; done) | omega | (simp; omega)))))) (hbz.mono (by first | exact Below.size (by assumption) | (first | (simp; done) | omega | (simp; omega)))); have hsz := hbr.size; have x0 := (hbr.cell (World.block_lt_of_cell? _ _ X0.out)).trans X0.out; have x1 := (hbr.cell (World.block_lt_of_cell? _ _ X1.out)).trans X1.out; have x2 := (hbr.cell (World.block_lt_of_cell? _ _ X2.out)).trans X2.out; have x3 := (hbr.cell (World.block_lt_of_cell? _ _ X3.out)).trans X3.out; have x4 := (hbr.cell (World.block_lt_of_cell? _ _ X4.out)).trans X4.out; have y0 := (hbr.cell (World.block_lt_of_cell? _ _ Y0.out)).trans Y0.out; have y1 := (hbr.cell (World.block_lt_of_cell? _ _ Y1.out)).trans Y1.out; have y2 := (hbr.cell (World.block_lt_of_cell? _ _ Y2.out)).trans Y2.out; have y3 := (hbr.cell (World.block_lt_of_cell? _ _ Y3.out)).trans Y3.out; have y4 := (hbr.cell (World.block_lt_of_cell? _ _ Y4.out)).trans Y4.out))
    have HBZ := hid hbr
    clear x0 x1 x2 x3 x4 y0 y1 y2 y3 y4 hbr HSM HSN n0 n1 h0 h1
  all_goals
    have HB7 := hid (HB6.out.trans (HBZ.out.mono HB6.out.size))
    have HU7 := hid (HU4.out.below HBZ.out)
    clear HU4
    by_cases h1 : e1 = 0
    case neg =>
      have n1 : (e1 != 0) = true := by simpa using h1
      clear h1
      go_wp2
      go_ret
      exact ⟨rfl, HB7.out⟩
    subst h1
    have HPP := hid (blame_Played _ _ _ s a D wz (HS.out.below HB7.out) (HA.out.below HB7.out) HU7.out (by omega) (by omega))
    rw [HPL.out rfl] at HPP
    have HSE2 := hid (HSE.out rfl)
    clear HSE
    go_wp2_with fail
    refine HPP.out.mono ?_
    rintro e w8 ⟨u8, rfl, hu8, hb8⟩
    have HB8 := hid (HB7.out.trans (hb8.mono HB7.out.size))
    have HU8 := hid hu8
    obtain ⟨a8, c8, rfl, -⟩ := hu8.open
    have HQ8 := hid (HPS.out w8 HB8.out)
    rw [HSE2.out] at HQ8
    clear hb8 hu8 HPP
    go_wp2_with fail
    refine HQ8.out.mono ?_
    rintro e w9 ⟨u9, rfl, hu9, hb9⟩
    have HB9 := hid (HB8.out.trans (hb9.mono HB8.out.size))
    obtain ⟨a9, c9, rfl, -⟩ := hu9.open
    have HSL := hid (ref6_SameLibraryE _ _ b w9 (HU8.out.below hb9) (HB.out.below HB9.out))
    clear hb9 hu9 HQ8
    go_wp2_with fail
    refine HSL.out.mono ?_
    rintro e w10 ⟨rfl, hb10⟩
    have HB10 := hid (HB9.out.trans (hb10.mono HB9.out.size))
    clear hb10
    go_wp2
    go_ret
    exact ⟨rfl, HB10.out⟩
end Go.Proofs.YtlbjbmpkaniojaaGreat
