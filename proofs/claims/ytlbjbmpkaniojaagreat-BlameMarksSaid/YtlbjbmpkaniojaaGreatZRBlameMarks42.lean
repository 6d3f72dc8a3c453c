/-
  WHAT IT HOLDS: contracts of Do at any valid change, of Made, asked, play and Played of the reference of layer 9. Conditions: the arguments read as data; small signs, small libraries.
  WHAT IT HOLDS: contracts of asked, Played and At of the reference of layer 9 and of At of package blame. Conditions: the arguments read as data; small signs, small libraries.
  WHAT IT HOLDS: contracts of By of package blame and of the reference of layer 9. Conditions: the arguments read as data; small signs, small libraries.
-/
import Derived.Test.YtlbjbmpkaniojaaGreatZRBlameMarks41
import Derived.Test.YtlbjbmpkaniojaaGreatZRBlameMarks37
import Derived.Test.YtlbjbmpkaniojaaGreatZRBlameMarks40
namespace Go.Proofs.YtlbjbmpkaniojaaGreat
open Go Go.RowKit Go.Maps
theorem ref9_DoF (vl : Value) (s : Sg) (l : List En) (c : Chg) (vS vU vP : Value) (w : World) (hl : EntsAt w vl l) (hc : ChgAt w vS vU vP c) (hed : edB s l = true) (hch : chgB s c = true) :
    Calls Tryz.prog 77 #[vl, chV c vS vU vP] w fun e w' => DoQ (doL l c) w e w' := by
  rw [← doI_eq hed hch]
  obtain ⟨hl0, ha⟩ := edB_iff.1 hed
  have hok : ∀ x ∈ l, EnSm x := fun y hy => ent_sm (entryB_iff.2 (hl0.ents y hy))
  cases chgB_iff.1 hch with
  | put h0 h1 hk h2 h3 h4 =>
    rcases hk with hk | hk
    · exact ref9_Do1 vl l c vS vU vP w hl hc hk hl0.len hok (ent_sm (entryB_iff.2 h4))
    · exact ref9_Do2 vl l c vS vU vP w hl hc hk hl0.len hok (ent_sm (entryB_iff.2 h4))
  | ren h0 h1 hk h2 h3 h4 h5 => exact ref9_Do3 vl l c vS vU vP w hl hc hk hl0.len hok hl0.nd
  | drop h0 h1 hk h2 h3 h5 => exact ref9_Do4 vl l c vS vU vP w hl hc hk hl0.len hok
theorem doL_small {s : Sg} {l : List En} {c : Chg} (h : edB s l = true) (hc : chgB s c = true) : (doL l c).1.length ≤ 1000 := by
  by_cases h0 : (doL l c).2 = 0
  · exact Nat.le_trans (edB_iff.1 (doL_ed h hc (show doL l c = ((doL l c).1, 0) from Prod.ext rfl h0))).1.len (by omega)
  · rw [← doI_eq h hc] at h0 ⊢
    have key : ∀ {R : List En × Int}, R.2 ≠ 0 → (R.1 = [] ∨ R.2 = 0) → R.1.length ≤ 1000 := fun h1 h2 => by
      rcases h2 with h2 | h2
      · rw [h2]; simp
      · exact absurd h2 h1
    refine key h0 ?_
    unfold doI
    repeat' split
    all_goals simp
theorem ref9_Do (vl : Value) (s : Sg) (l : List En) (c : Chg) (vS vU vP : Value) (w : World) (hl : EntsAt w vl l) (hc : ChgAt w vS vU vP c) (hed : edB s l = true) (hch : chgB s c = true) :
    Calls Tryz.prog 77 #[vl, chV c vS vU vP] w fun e w' => ∃ u, e = .returned (.tuple #[u, .int .i64 (doL l c).2]) ∧ EntsAt w' u (doL l c).1 ∧ Below w.heap.size w w' :=
  (ref9_DoF vl s l c vS vU vP w hl hc hed hch).mono fun e w' h => h.ents (doL_small hed hch)
theorem playL_at {L : List En} {cs : List Chg} {k : Nat} (h : k < cs.length) : playL L (cs.drop k) k = if (doL L cs[k]).2 = 0 then playL (doL L cs[k]).1 (cs.drop (k + 1)) (k + 1 : Nat) else ([], k, (doL L cs[k]).2) := by
  rw [List.drop_eq_getElem_cons h]
  conv => lhs; unfold playL
  rfl
set_option maxHeartbeats 2000000 in
set_option maxRecDepth 100000 in
theorem ref9_play (vl vc : Value) (s : Sg) (l : List En) (cs : List Chg) (w : World) (hl : EntsAt w vl l) (hc : ChsAt w vc cs) (hed : edB s l = true) (hcs : ∀ c ∈ cs, chgB s c = true) :
    Calls Tryz.prog 59 #[vl, vc] w fun e w' => ∃ u, e = .returned (.tuple #[u, .int .i64 (playL l cs 0).2.1, .int .i64 (playL l cs 0).2.2]) ∧ EntsAt w' u (playL l cs 0).1 ∧ Below w.heap.size w w' := by
  obtain ⟨ca, cc, rfl, -, hcl, -, ZC⟩ := hc.open
  have HCC := hid ZC
  have hLib := (edB_iff.1 hed).1
  have HLN := hid hLib.len
  have HP2 := hid (ref9_put2 vl l w hl (by have := hLib.len; omega) (fun y hy => ent_sm (entryB_iff.2 (hLib.ents y hy))))
  have HED := hid hed
  have HCH := hid hcs
  obtain ⟨la, lc, rfl, -⟩ := hl.open
  clear ZC hc hl hLib hed hcs
  go_enter Tryz.func59, Tryz.ntmps59
  go_wp2_with fail
  refine HP2.out.mono ?_
  rintro e w1 ⟨u1, vs1, rfl, hu1, hb1⟩
  have HU1 := hid (hu1.ents (by have := HLN.out; omega))
  obtain ⟨ra, rc, rfl, -⟩ := HU1.out.open
  have HB1 := hid hb1
  clear hu1 hb1
  go_wp2
  go_loopw [7, 8] (fun uo kv wr => ∃ (k : Nat) (L : List En), k ≤ cs.length ∧ kv = .int .i64 k ∧ EntsAt wr uo L ∧ edB s L = true ∧ playL l cs 0 = playL L (cs.drop k) k ∧ Below w.heap.size w wr) (fun _ kv _ => cs.length - (intOf kv).toNat)
  case atStart => exact ⟨0, l, by omega, rfl, HU1.out, HED.out, rfl, HB1.out⟩
  case round =>
    obtain ⟨k, L, hk, rfl, hE, hLd, hPL, hb⟩ := hrel
    have hsz := hb.size
    have hLk := (edB_iff.1 hLd).1.len
    by_cases hlt : k < cs.length
    · obtain ⟨b, o, vS, vU, vP, rfl, z0, z1, z2, z3, z4, z5, z6, z7, z8, hce⟩ := HCC.out k hlt
      have HD := hid (ref9_Do _ s L cs[k] vS vU vP wr hE (hce.below hb) hLd (HCH.out _ (List.getElem_mem hlt)))
      have HCK := hid (HCH.out _ (List.getElem_mem hlt))
      obtain ⟨sa, sk, rfl, -⟩ := hce.e.s.open
      obtain ⟨ta, tk, rfl, -⟩ := hce.e.u.open
      obtain ⟨pa, pk, rfl, -⟩ := hce.e.p.open
      obtain ⟨ea, ec, rfl, -⟩ := hE.open
      rw [playL_at hlt] at hPL
      replace z0 := (hb.cell (World.block_lt_of_cell? _ _ z0)).trans z0
      replace z1 := (hb.cell (World.block_lt_of_cell? _ _ z1)).trans z1
      replace z2 := (hb.cell (World.block_lt_of_cell? _ _ z2)).trans z2
      replace z3 := (hb.cell (World.block_lt_of_cell? _ _ z3)).trans z3
      replace z4 := (hb.cell (World.block_lt_of_cell? _ _ z4)).trans z4
      replace z5 := (hb.cell (World.block_lt_of_cell? _ _ z5)).trans z5
      replace z6 := (hb.cell (World.block_lt_of_cell? _ _ z6)).trans z6
      replace z7 := (hb.cell (World.block_lt_of_cell? _ _ z7)).trans z7
      replace z8 := (hb.cell (World.block_lt_of_cell? _ _ z8)).trans z8
      obtain ⟨c, hcx⟩ : ∃ c, cs[k] = c := ⟨_, rfl⟩
      rw [hcx] at z0 z1 z2 z3 z4 z5 z6 z7 z8 HD HCK hPL
      unfold chV at HD
      have HLD := hid hLd
      have HB := hid hb
      obtain ⟨L2, er, hd⟩ : ∃ L2 er, doL L c = (L2, er) := ⟨_, _, rfl⟩
      have HDD := hid hd
      rw [hd] at HD hPL
      dsimp only at HD hPL
      have HPL := hid hPL
      have y0 : (k : Int) < (cs.length : Int) := by omega
      clear hce hcx hb hE hd hLd hPL hLk
      go_wp2_with fail
      refine HD.out.mono ?_
      rintro e w2 ⟨u2, rfl, hu2, hb2⟩
      have HB2 := hid (HB.out.trans (hb2.mono HB.out.size))
      have HU2 := hid hu2
      obtain ⟨fa, fc, rfl, -⟩ := hu2.open
      clear hu2 hb2 z0 z1 z2 z3 z4 z5 z6 z7 z8
      by_cases h0 : er = 0
      · have HED2 : Hid (edB s L2 = true) := hid (doL_ed HLD.out HCK.out (by rw [HDD.out, h0]))
        have HPN : Hid (playL l cs 0 = playL L2 (cs.drop (k + 1)) (k + 1 : Nat)) := hid (by rw [HPL.out, if_pos h0])
        subst h0
        go_wp2
        go_roundw
        case rel => exact ⟨k + 1, L2, by omega, by go_num, HU2.out, HED2.out, HPN.out, HB2.out⟩
        case measure => simp [intOf]; omega
      · have HPN : Hid (playL l cs 0 = ([], (k : Int), er)) := hid (by rw [HPL.out, if_neg h0])
        have q0 : (er != 0) = true := by simpa using h0
        clear h0
        go_wp2
        go_ret3
        exact ⟨_, by rw [HPN.out]; rfl, by rw [HPN.out]; exact EntsAt.nil _, HB2.out⟩
    · have hkl : k = cs.length := by omega
      have HPN : Hid (playL l cs 0 = (L, -1, 0)) := hid (by rw [hPL, List.drop_eq_nil_of_le (by omega)]; rfl)
      obtain ⟨ea, ec, rfl, -⟩ := hE.open
      have HE := hid hE
      clear hE hPL hLd
      go_wp2
      go_ret3
      exact ⟨_, by rw [HPN.out]; rfl, by rw [HPN.out]; exact HE.out, hb⟩
end Go.Proofs.YtlbjbmpkaniojaaGreat
namespace Go.Proofs.YtlbjbmpkaniojaaGreat
open Go Go.RowKit Go.Maps
theorem askL_1 {s : Sg} {l : List En} {cs : List Chg} (h : edB s l = false) : askL s l cs = 1 := by unfold askL; rw [h]; rfl
theorem askL_2 {s : Sg} {l : List En} {cs : List Chg} {k : Nat} (hk : k < cs.length) (h : chgB s cs[k] = false) : askL s l cs = 1 := by
  have h1 : cs.all (chgB s) = false := by rw [List.all_eq_false]; exact ⟨_, List.getElem_mem hk, by rw [h]; simp⟩
  unfold askL lstL
  rw [h1, Bool.and_false]
  simp
theorem askL_3 {s : Sg} {l : List En} {cs : List Chg} (h : edB s l = true) (h2 : ∀ c ∈ cs, chgB s c = true) : askL s l cs = if 200 < cs.length then 7 else 0 := by
  have h1 : (signB s && cs.all (chgB s)) = true := by rw [(edB_iff.1 h).1.sign, List.all_eq_true.2 h2]; rfl
  unfold askL lstL
  rw [if_pos h, if_pos h1]
set_option maxHeartbeats 2000000 in
set_option maxRecDepth 100000 in
theorem ref9_asked (vs vl vc : Value) (s : Sg) (l : List En) (cs : List Chg) (w : World) (hs : SignAt w vs s) (hl : EntsAt w vl l) (hc : ChsAt w vc cs) (hs1 : s.length ≤ 1000) (hl1 : l.length ≤ 1000) :
    Calls Tryz.prog 58 #[vs, vl, vc] w fun e w' => e = .returned (.int .i64 (askL s l cs)) ∧ Below w.heap.size w w' := by
  have HED := hid (ref9_Edition vs vl s l w hs hl hs1 hl1)
  have HSG := hid (fun (X : World) (hX : Below w.heap.size w X) => ((ref1_ValidSign vs s X (hs.below hX)).mono fun e w' h => (show e = .returned (.bool (signB s)) ∧ Below X.heap.size X w' from ⟨h.1, by obtain ⟨-, n, rfl⟩ := h; exact below_self_drewN _ _⟩)))
  have HVA := hid (fun (vS vU vP : Value) (c : Chg) (X : World) (hX : Below w.heap.size w X) (hc : ChgAt X vS vU vP c) => ref9_Valid vs vS vU vP s c X (hs.below hX) hc hs1)
  obtain ⟨sp, sc, rfl, -⟩ := hs.open
  obtain ⟨la, lc, rfl, -⟩ := hl.open
  obtain ⟨ca, cc, rfl, -, hcl, -, ZC⟩ := hc.open
  have HCC := hid ZC
  clear ZC hs hl hc
  cases g1 : edB s l
  · have HF := hid (askL_1 (cs := cs) g1)
    rw [g1] at HED
    clear g1
    go_enter Tryz.func58, Tryz.ntmps58
    go_wp2_with fail
    refine HED.out.mono ?_
    rintro e w1 ⟨rfl, hb1⟩
    go_wp2
    go_ret
    exact ⟨ret_int HF.out.symm, hb1⟩
  rw [g1] at HED
  have hsg : signB s = true := (edB_iff.1 g1).1.sign
  rw [hsg] at HSG
  have HG1 := hid g1
  clear g1 hsg
  go_enter Tryz.func58, Tryz.ntmps58
  go_wp2_with fail
  refine HED.out.mono ?_
  rintro e w1 ⟨rfl, hb1⟩
  have HB1 := hid hb1
  have HS1 := hid (HSG.out w1 hb1)
  clear hb1
  go_wp2_with fail
  refine HS1.out.mono ?_
  rintro e w2 ⟨rfl, hb2⟩
  have HB2 := hid (HB1.out.trans (hb2.mono HB1.out.size))
  clear hb2
  go_wp2
  go_loopw [7] (fun kv wr => ∃ k : Nat, k ≤ cs.length ∧ kv = .int .i64 k ∧ (∀ j (hj : j < cs.length), j < k → chgB s cs[j] = true) ∧ Below w.heap.size w wr) (fun kv _ => cs.length - (intOf kv).toNat)
  case atStart => exact ⟨0, by omega, rfl, fun j _ h => absurd h (by omega), HB2.out⟩
  case round =>
    obtain ⟨k, hk, rfl, hR, hb⟩ := hrel
    have hsz := hb.size
    have HR := hid hR
    clear hR
    by_cases hlt : k < cs.length
    · obtain ⟨b, o, vS, vU, vP, rfl, z0, z1, z2, z3, z4, z5, z6, z7, z8, hce⟩ := HCC.out k hlt
      have HV := hid (HVA.out vS vU vP cs[k] wr hb (hce.below hb))
      have HF := hid (fun (h : chgB s cs[k] = false) => askL_2 (l := l) hlt h)
      obtain ⟨z, hz⟩ : ∃ z, chgB s cs[k] = z := ⟨_, rfl⟩
      have HZ := hid hz
      rw [hz] at HV HF
      obtain ⟨sa, sk, rfl, -⟩ := hce.e.s.open
      obtain ⟨ta, tk, rfl, -⟩ := hce.e.u.open
      obtain ⟨pa, pk, rfl, -⟩ := hce.e.p.open
      replace z0 := (hb.cell (World.block_lt_of_cell? _ _ z0)).trans z0
      replace z1 := (hb.cell (World.block_lt_of_cell? _ _ z1)).trans z1
      replace z2 := (hb.cell (World.block_lt_of_cell? _ _ z2)).trans z2
      replace z3 := (hb.cell (World.block_lt_of_cell? _ _ z3)).trans z3
      replace z4 := (hb.cell (World.block_lt_of_cell? _ _ z4)).trans z4
      replace z5 := (hb.cell (World.block_lt_of_cell? _ _ z5)).trans z5
      replace z6 := (hb.cell (World.block_lt_of_cell? _ _ z6)).trans z6
      replace z7 := (hb.cell (World.block_lt_of_cell? _ _ z7)).trans z7
      replace z8 := (hb.cell (World.block_lt_of_cell? _ _ z8)).trans z8
      have HRN : Hid (z = true → ∀ j (hj : j < cs.length), j < k + 1 → chgB s cs[j] = true) := hid (fun h j hj hjk => by
        by_cases e : j = k
        · subst e; rw [hz]; exact h
        · exact HR.out j hj (by omega))
      obtain ⟨c, hcx⟩ : ∃ c, cs[k] = c := ⟨_, rfl⟩
      rw [hcx] at z0 z1 z2 z3 z4 z5 z6 z7 z8 HV
      unfold chV at HV
      have HB := hid hb
      have y0 : (k : Int) < (cs.length : Int) := by omega
      clear hce hcx hb hz HZ
      go_wp2_with fail
      refine HV.out.mono ?_
      rintro e w2 ⟨rfl, hb2⟩
      have HBN := hid (HB.out.trans (hb2.mono HB.out.size))
      clear hb2 z0 z1 z2 z3 z4 z5 z6 z7 z8
      cases z
      case false =>
        go_wp2
        go_ret
        exact ⟨ret_int (HF.out (by first | trivial | rfl)).symm, HBN.out⟩
      case true =>
        go_wp2
        go_roundw
        case rel => exact ⟨k + 1, by omega, by go_num, HRN.out (by first | trivial | rfl), HBN.out⟩
        case measure => simp [intOf]; omega
    · have HFF := hid (askL_3 HG1.out (fun c hc => by
        obtain ⟨j, hj, rfl⟩ := List.getElem_of_mem hc
        exact HR.out j hj (by omega)) : askL s l cs = if 200 < cs.length then 7 else 0)
      have HB := hid hb
      clear hb
      by_cases h2 : 200 < cs.length
      · have q : (200 : Int) < (cs.length : Int) := by omega
        have HF : Hid (askL s l cs = 7) := hid (by rw [HFF.out, if_pos h2])
        clear h2
        go_wp2
        go_ret
        exact ⟨ret_int HF.out.symm, HB.out⟩
      · have q : ¬ (200 : Int) < (cs.length : Int) := by omega
        have HF : Hid (askL s l cs = 0) := hid (by rw [HFF.out, if_neg h2])
        clear h2
        go_wp2
        go_ret
        exact ⟨ret_int HF.out.symm, HB.out⟩
theorem playedA_no {s : Sg} {l : List En} {cs : List Chg} (h : askL s l cs ≠ 0) : playedL s l cs = ([], 0, askL s l cs) := by
  unfold playedL; rw [if_neg h]
theorem playedA_yes {s : Sg} {l : List En} {cs : List Chg} (h : askL s l cs = 0) : edB s l = true ∧ (∀ c ∈ cs, chgB s c = true) ∧ playedL s l cs = playL l cs 0 := by
  have h1 : edB s l = true := by
    cases he : edB s l with
    | true => rfl
    | false => rw [askL_1 he] at h; cases h
  refine ⟨h1, ?_, by unfold playedL; rw [if_pos h]⟩
  unfold askL at h
  rw [if_pos h1] at h
  exact (lstL_ok.1 h).2.1
set_option maxHeartbeats 1000000 in
theorem ref9_Played (vs vl vc : Value) (s : Sg) (l : List En) (cs : List Chg) (w : World) (hs : SignAt w vs s) (hl : EntsAt w vl l) (hc : ChsAt w vc cs) (hs1 : s.length ≤ 1000) (hl1 : l.length ≤ 1000) :
    Calls Tryz.prog 14 #[vs, vl, vc] w fun e w' => ∃ u, e = .returned (.tuple #[u, .int .i64 (playedL s l cs).2.1, .int .i64 (playedL s l cs).2.2]) ∧ EntsAt w' u (playedL s l cs).1 ∧ Below w.heap.size w w' := by
  have HA := hid (ref9_asked vs vl vc s l cs w hs hl hc hs1 hl1)
  have HP := hid (fun (X : World) (hX : Below w.heap.size w X) (h1 : edB s l = true) (h2 : ∀ c ∈ cs, chgB s c = true) => ref9_play vl vc s l cs X (hl.below hX) (hc.below hX) h1 h2)
  obtain ⟨sp, sc, rfl, -⟩ := hs.open
  obtain ⟨la, lc, rfl, -⟩ := hl.open
  obtain ⟨ca, cc, rfl, -⟩ := hc.open
  clear hs hl hc
  by_cases h2 : askL s l cs = 0
  · obtain ⟨g1, g2, g3⟩ := playedA_yes h2
    have HF := hid g3
    have HPP := hid (fun (X : World) (hX : Below w.heap.size w X) => HP.out X hX g1 g2)
    rw [h2] at HA
    clear g1 g2 g3 h2 HP
    go_enter Tryz.func14, Tryz.ntmps14
    go_wp2_with fail
    refine HA.out.mono ?_
    rintro e w1 ⟨rfl, hb1⟩
    have HP1 := hid (HPP.out w1 hb1)
    have HB1 := hid hb1
    clear hb1
    go_wp2_with fail
    refine HP1.out.mono ?_
    rintro e w3 ⟨u, rfl, hu, hb3⟩
    have HU := hid hu
    have HB3 := hid (HB1.out.trans (hb3.mono HB1.out.size))
    obtain ⟨ra, rc, rfl, -⟩ := hu.open
    clear hu hb3
    go_wp2
    go_ret3
    exact ⟨_, by rw [HF.out]; rfl, by rw [HF.out]; exact HU.out, HB3.out⟩
  · have HF := hid (playedA_no h2)
    have n2 : (askL s l cs != 0) = true := by simpa using h2
    obtain ⟨er, her⟩ : ∃ er, askL s l cs = er := ⟨_, rfl⟩
    rw [her] at HF n2 HA
    clear h2 her HP
    go_enter Tryz.func14, Tryz.ntmps14
    go_wp2_with fail
    refine HA.out.mono ?_
    rintro e w1 ⟨rfl, hb1⟩
    have HB2 := hid hb1
    clear hb1
    go_wp2
    go_ret3
    exact ⟨_, by rw [HF.out]; rfl, by rw [HF.out]; exact EntsAt.nil _, HB2.out⟩
theorem atL_1 {s : Sg} {cs : List Chg} {n : Int} (h : lstL s cs ≠ 0) : atL s cs n = ([], lstL s cs) := by unfold atL; rw [if_neg h]
theorem atL_2 {s : Sg} {cs : List Chg} {n : Int} (h : lstL s cs = 0) (h2 : n < 0 ∨ (cs.length : Int) < n) : atL s cs n = ([], 7) := by unfold atL; rw [if_pos h, if_pos h2]
theorem atL_3 {s : Sg} {cs : List Chg} {k : Nat} (h : lstL s cs = 0) (h2 : k ≤ cs.length) : atL s cs k = ((playL [] (cs.take k) 0).1, (playL [] (cs.take k) 0).2.2) := by unfold atL; rw [if_pos h, if_neg (by omega), Int.toNat_natCast]
set_option maxHeartbeats 1000000 in
theorem blame_At (vs vc : Value) (s : Sg) (cs : List Chg) (n : Int) (w : World) (hs : SignAt w vs s) (hc : ChsAt w vc cs) (hs1 : s.length ≤ 1000) :
    Calls Tryz.prog 15 #[vs, vc, .int .i64 n] w fun e w' => ∃ u, e = .returned (.tuple #[u, .int .i64 (atL s cs n).2]) ∧ EntsAt w' u (atL s cs n).1 ∧ Below w.heap.size w w' := by
  have HA := hid (blame_listed vs vc s cs w hs hc hs1)
  have HP := hid (fun (X : World) (hX : Below w.heap.size w X) (k : Nat) (hk : k ≤ cs.length) (a : Option Addr) (c : Nat) (hcc : ChsAt X (.slice a k c) (cs.take k)) (h1 : edB s [] = true) (h2 : ∀ c ∈ cs, chgB s c = true) => blame_played (.slice none 0 0) _ s [] (cs.take k) X (EntsAt.nil X) hcc h1 (fun c hc => h2 c (List.mem_of_mem_take hc)))
  have HC := hid hc
  obtain ⟨sp, sc, rfl, -⟩ := hs.open
  obtain ⟨ca, cc, rfl, hcap, hcl, hcz, -⟩ := hc.open
  clear hs hc
  by_cases h2 : lstL s cs = 0
  · rw [h2] at HA
    have HED := hid (edB_nil (lstL_ok.1 h2).1)
    have HCH := hid (lstL_ok.1 h2).2.1
    by_cases h3 : n < 0
    · have HF := hid (atL_2 h2 (Or.inl h3))
      clear h2 HP
      go_enter Tryz.func15, Tryz.ntmps15
      go_wp2_with fail
      refine HA.out.mono ?_
      rintro e w1 ⟨rfl, hb1⟩
      have HB1 := hid hb1
      clear hb1
      go_wp2
      go_ret2
      exact ⟨_, by rw [HF.out]; rfl, by rw [HF.out]; exact EntsAt.nil _, HB1.out⟩
    by_cases h4 : (cs.length : Int) < n
    · have HF := hid (atL_2 h2 (Or.inr h4))
      clear h2 HP
      go_enter Tryz.func15, Tryz.ntmps15
      go_wp2_with fail
      refine HA.out.mono ?_
      rintro e w1 ⟨rfl, hb1⟩
      have HB1 := hid hb1
      clear hb1
      go_wp2
      go_ret2
      exact ⟨_, by rw [HF.out]; rfl, by rw [HF.out]; exact EntsAt.nil _, HB1.out⟩
    obtain ⟨k, rfl⟩ : ∃ k : Nat, n = k := ⟨n.toNat, by omega⟩
    have hk : k ≤ cs.length := by omega
    have HF := hid (atL_3 h2 hk)
    have HPP := hid (fun (X : World) (hX : Below w.heap.size w X) => HP.out X hX k hk ca cc ((HC.out.below hX).take k hk) HED.out HCH.out)
    clear h2 HP
    go_enter Tryz.func15, Tryz.ntmps15
    go_wp2_with fail
    refine HA.out.mono ?_
    rintro e w1 ⟨rfl, hb1⟩
    have HB1 := hid hb1
    have HP1 := hid (HPP.out w1 hb1)
    clear hb1
    go_wp2_with fail
    refine HP1.out.mono ?_
    rintro e w2 ⟨u, rfl, hu, hb2⟩
    have HU := hid hu
    have HB2 := hid (HB1.out.trans (hb2.mono HB1.out.size))
    obtain ⟨ra, rc, rfl, -⟩ := hu.open
    clear hu hb2
    go_wp2
    go_ret2
    exact ⟨_, by rw [HF.out]; rfl, by rw [HF.out]; exact HU.out, HB2.out⟩
  · have HF := hid (atL_1 (n := n) h2)
    have n2 : (lstL s cs != 0) = true := by simpa using h2
    obtain ⟨er, her⟩ : ∃ er, lstL s cs = er := ⟨_, rfl⟩
    rw [her] at HF n2 HA
    clear h2 her HP
    go_enter Tryz.func15, Tryz.ntmps15
    go_wp2_with fail
    refine HA.out.mono ?_
    rintro e w1 ⟨rfl, hb1⟩
    have HB1 := hid hb1
    clear hb1
    go_wp2
    go_ret2
    exact ⟨_, by rw [HF.out]; rfl, by rw [HF.out]; exact EntsAt.nil _, HB1.out⟩
end Go.Proofs.YtlbjbmpkaniojaaGreat
namespace Go.Proofs.YtlbjbmpkaniojaaGreat
open Go Go.RowKit Go.Maps
def byF (l : List En) (by_ : Nm) : List Nm := (l.filter fun x => decide (x.who = by_)).map En.name
def byL (s : Sg) (l : List En) (by_ : Nm) : List Nm × Int := if (edB s l && nmB by_) = true then (byF l by_, 0) else ([], 1)
theorem byF_take {l : List En} {b : Nm} {k : Nat} (h : k < l.length) : byF (l.take (k + 1)) b = byF (l.take k) b ++ (if l[k].who = b then [l[k].name] else []) := by
  unfold byF
  rw [List.take_succ_eq_append_getElem h, List.filter_append, List.map_append]
  congr 1
  by_cases hd : l[k].who = b <;> simp [hd]
theorem byF_mem {l : List En} {b n : Nm} (h : n ∈ byF l b) : ∃ x ∈ l, x.name = n := by
  obtain ⟨x, hx, rfl⟩ := List.mem_map.1 h
  exact ⟨x, (List.mem_filter.1 hx).1, rfl⟩
theorem byL_no {s : Sg} {l : List En} {b : Nm} (h : edB s l = false ∨ nmB b = false) : byL s l b = ([], 1) := by
  unfold byL
  rcases h with h | h <;> simp [h]
theorem byL_yes {s : Sg} {l : List En} {b : Nm} (h1 : edB s l = true) (h2 : nmB b = true) : byL s l b = (byF l b, 0) := by
  unfold byL; rw [h1, h2]; rfl
def ByQ (R : List Nm × Int) (w : World) (e : Ending) (w' : World) : Prop := ∃ u, e = .returned (.tuple #[u, .int .i64 R.2]) ∧ TxtsAt w' u R.1 ∧ Below w.heap.size w w'
theorem ByQ.no {R : List Nm × Int} {w w' : World} {er : Int} (hR : R = ([], er)) (h : Below w.heap.size w w') : ByQ R w (.returned (.tuple #[.slice none 0 0, .int .i64 er])) w' := by
  subst hR; exact ⟨_, rfl, TxtsAt.nil _, h⟩
set_option maxHeartbeats 4000000 in
set_option maxRecDepth 100000 in
theorem blame_By (vs vl : Value) (s : Sg) (l : List En) (b : Nm) (w : World) (hs : SignAt w vs s) (hl : EntsAt w vl l) (hb : b.size ≤ 140737488355328) (hs1 : s.length ≤ 1000) (hl1 : l.length ≤ 1000) :
    Calls Tryz.prog 39 #[vs, vl, .string b] w fun e w' => ByQ (byL s l b) w e w' := by
  have HEA := hid (blame_Edition vs vl s l w hs hl hs1 hl1)
  have HNM := hid (fun (X : World) => deps_Name b X hb)
  have HL := hid hl
  obtain ⟨la, lc, rfl, -, hll, -⟩ := hl.open
  clear hs hl
  cases e1 : edB s l
  · have HF := hid (byL_no (b := b) (Or.inl e1))
    rw [e1] at HEA
    clear e1
    go_enter Tryz.func39, Tryz.ntmps39
    go_wp2_with fail
    refine HEA.out.mono ?_
    rintro e w1 ⟨rfl, hb1⟩
    go_wp2
    go_ret2
    exact ByQ.no HF.out hb1
  rw [e1] at HEA
  have HNO := hid (fun (h : nmB b = false) => byL_no (s := s) (l := l) (Or.inr h))
  have HYE := hid (fun (h : nmB b = true) => byL_yes e1 h)
  clear e1
  go_enter Tryz.func39, Tryz.ntmps39
  go_wp2_with fail
  refine HEA.out.mono ?_
  rintro e w1 ⟨rfl, hb1'⟩
  have HB1 := hid hb1'
  have HN1 := hid (HNM.out w1)
  clear hb1'
  cases e3 : nmB b
  · have HF := hid (HNO.out e3)
    rw [e3] at HN1
    clear e3
    go_wp2_with (go_at_call 71; refine HN1.out.mono ?_; rintro e w3 ⟨rfl, rfl⟩)
    go_ret2
    exact ByQ.no HF.out HB1.out
  have HF := hid (HYE.out e3)
  rw [e3] at HN1
  clear e3 HNO HYE HNM HEA
  go_wp2_with (go_at_call 71; refine HN1.out.mono ?_; rintro e w3 ⟨rfl, rfl⟩)
  have h00 := hid (World.ownsRow_nil w1 w1.heap.size 9 1)
  have hw1 := HB1.out.size
  go_loopw [8, 22] (fun uo kv wr => ∃ (k n : Nat), k ≤ l.length ∧ kv = .int .i64 k ∧ n = (byF (l.take k) b).length ∧ n ≤ k ∧ wr.ownsRow w1.heap.size 9 1 uo n ((byF (l.take k) b).map Value.string) ∧ Below w.heap.size w wr ∧ w1.heap.size ≤ wr.heap.size) (fun _ kv _ => l.length - (intOf kv).toNat)
  case atStart => exact ⟨0, 0, by omega, rfl, rfl, by omega, h00.out, HB1.out, Nat.le_refl _⟩
  case round =>
    clear h00 hw1
    obtain ⟨k, n, hk, rfl, hn, hnk, hown, hbw, hw1⟩ := hrel
    have hwz := hbw.size
    by_cases hlt : k < l.length
    · obtain ⟨la', lc', e', -, -, -, ZC⟩ := HL.out.open
      cases e'
      obtain ⟨xb, xo, xS, xU, xP, rfl, x0, x1, x2, x3, x4, he0⟩ := ZC k hlt
      have he := he0.below hbw
      replace x0 := (hbw.cell (World.block_lt_of_cell? _ _ x0)).trans x0
      replace x1 := (hbw.cell (World.block_lt_of_cell? _ _ x1)).trans x1
      replace x2 := (hbw.cell (World.block_lt_of_cell? _ _ x2)).trans x2
      replace x3 := (hbw.cell (World.block_lt_of_cell? _ _ x3)).trans x3
      replace x4 := (hbw.cell (World.block_lt_of_cell? _ _ x4)).trans x4
      clear he0 ZC
      obtain ⟨sa, sc, rfl, -⟩ := he.s.open
      obtain ⟨ta, tc, rfl, -⟩ := he.u.open
      obtain ⟨pa, pc, rfl, -⟩ := he.p.open
      have HST := hid (byF_take (b := b) hlt)
      obtain ⟨x, hx⟩ : ∃ x, l[k] = x := ⟨_, rfl⟩
      rw [hx] at x0 x1 x2 x3 x4 he HST
      obtain ⟨N, hN⟩ : ∃ N, byF (l.take k) b = N := ⟨_, rfl⟩
      rw [hN] at HST hown hn
      obtain ⟨ua, uc, rfl⟩ := owns_slice hown
      have HOWN := hid hown
      have HBW := hid hbw
      have HNN := hid hn
      clear hx hN hown hbw he hn
      by_cases hwho : x.who = b
      · have HS1 : Hid (byF (l.take (k + 1)) b = N ++ [x.name]) := hid (by rw [HST.out, if_pos hwho])
        have t1 : (x.who.toList == b.toList) = true := by rw [bytes_eq]; simpa using hwho
        clear hwho
        have hBX := BX.new wr [.string x.name, .string x.who, .slice sa x.says.length sc, .slice ta x.uses.length tc, .slice pa x.proof.length pc] 41
        obtain ⟨W, hW⟩ : ∃ W, wr.alloc (.cells #[.string x.name, .string x.who, .slice sa x.says.length sc, .slice ta x.uses.length tc, .slice pa x.proof.length pc] 41) = W := ⟨_, rfl⟩
        have hW' : wr.alloc (.cells ([.string x.name, .string x.who, .slice sa x.says.length sc, .slice ta x.uses.length tc, .slice pa x.proof.length pc] : List Value).toArray 41) = W := hW
        rw [hW'] at hBX
        have HBR := hid (show Below wr.heap.size wr W from hW ▸ (Below.refl _ _).alloc (Nat.le_refl _) _)
        have HWW := hid hW
        have b0 : W.cell? ⟨wr.heap.size, 0, none⟩ = some (.string x.name) := hBX.c 0 (by simp)
        have b1 : W.cell? ⟨wr.heap.size, 1, none⟩ = some (.string x.who) := hBX.c 1 (by simp)
        clear hW hW' hBX
        have hRA := (owns_below HOWN.out HBR.out).alloc (.cells #[.string x.name] 9)
        have HBL := hid (show Below W.heap.size W (W.alloc (.cells #[.string x.name] 9)) from (Below.refl _ _).alloc (Nat.le_refl _) _)
        have HBF := hid (HBW.out.trans ((HBR.out.trans (HBL.out.mono HBR.out.size)).mono hwz))
        have HZF := hid (Nat.le_trans HBR.out.size HBL.out.size)
        have hzz : w1.heap.size ≤ W.heap.size := Nat.le_trans hw1 HBR.out.size
        go_wp2_with (first | (rw [HWW.out]) | (at_builtin; refine wpList_append_lie rfl _ _ 38 rfl w1.heap.size 9 el_str Tryz.underlying38 rfl (by decide) _ n (N.map Value.string) rfl hRA _ 1 [.string x.name] rfl (row_one_new _ _ _) (oneCell_one rfl) (by omega) (by omega) (by omega) (by simp; omega) _ rfl ?_; intro g8 cap8 w8 hown8 hgrow8 hat8 hlt8))
        go_roundw
        case rel =>
          refine ⟨k + 1, n + 1, by omega, by go_num, by rw [HS1.out]; simp [HNN.out], by omega, by rw [HS1.out]; simpa using hown8, HBF.out.grown hgrow8 (by have := HBF.out.size; omega) (fun q hq => Nat.le_trans HB1.out.size (HOWN.out.lt q hq).1), Nat.le_trans (Nat.le_trans hw1 HZF.out) hgrow8.size⟩
        case measure => simp [intOf]; omega
      · have HS1 : Hid (byF (l.take (k + 1)) b = N) := hid (by rw [HST.out, if_neg hwho, List.append_nil])
        have t1 : (x.who.toList == b.toList) = false := by rw [bytes_eq]; simpa using hwho
        clear hwho
        have hBX := BX.new wr [.string x.name, .string x.who, .slice sa x.says.length sc, .slice ta x.uses.length tc, .slice pa x.proof.length pc] 41
        obtain ⟨W, hW⟩ : ∃ W, wr.alloc (.cells #[.string x.name, .string x.who, .slice sa x.says.length sc, .slice ta x.uses.length tc, .slice pa x.proof.length pc] 41) = W := ⟨_, rfl⟩
        have hW' : wr.alloc (.cells ([.string x.name, .string x.who, .slice sa x.says.length sc, .slice ta x.uses.length tc, .slice pa x.proof.length pc] : List Value).toArray 41) = W := hW
        rw [hW'] at hBX
        have HBR := hid (show Below wr.heap.size wr W from hW ▸ (Below.refl _ _).alloc (Nat.le_refl _) _)
        have HWW := hid hW
        have b0 : W.cell? ⟨wr.heap.size, 0, none⟩ = some (.string x.name) := hBX.c 0 (by simp)
        have b1 : W.cell? ⟨wr.heap.size, 1, none⟩ = some (.string x.who) := hBX.c 1 (by simp)
        clear hW hW' hBX
        have HBX := HBR
        go_wp2_with (rw [HWW.out])
        go_roundw
        case rel =>
          refine ⟨k + 1, n, by omega, by go_num, by rw [HS1.out]; exact HNN.out, by omega, by rw [HS1.out]; exact owns_below HOWN.out HBX.out, HBW.out.trans (HBX.out.mono hwz), Nat.le_trans hw1 HBX.out.size⟩
        case measure => simp [intOf]; omega
    · have hkl : k = l.length := by omega
      subst hkl
      rw [List.take_of_length_le (Nat.le_refl _)] at hn hown
      obtain ⟨ua, uc, rfl⟩ := owns_slice hown
      have hE : TxtsAt wr (.slice ua n uc) (byF l b) := ⟨by rw [← hn]; exact RowK.of_owns hown (by omega), fun z hz => by
        obtain ⟨x, hx, rfl⟩ := byF_mem hz
        obtain ⟨vs', -, h2, h3⟩ := HL.out
        obtain ⟨i, hi, rfl⟩ := List.getElem_of_mem hx
        exact (h3 i hi (by omega)).n1⟩
      have HE := hid hE
      clear hE hown hn
      go_wp2
      go_ret2
      rw [HF.out]
      exact ⟨_, rfl, HE.out, hbw⟩
set_option maxHeartbeats 4000000 in
set_option maxRecDepth 100000 in
theorem ref9_By (vs vl : Value) (s : Sg) (l : List En) (b : Nm) (w : World) (hs : SignAt w vs s) (hl : EntsAt w vl l) (hb : b.size ≤ 140737488355328) (hs1 : s.length ≤ 1000) (hl1 : l.length ≤ 1000) :
    Calls Tryz.prog 40 #[vs, vl, .string b] w fun e w' => ByQ (byL s l b) w e w' := by
  have HEA := hid (ref9_Edition vs vl s l w hs hl hs1 hl1)
  have HNM := hid (fun (X : World) => ref6_Name b X hb)
  have HL := hid hl
  obtain ⟨la, lc, rfl, -, hll, -⟩ := hl.open
  clear hs hl
  cases e1 : edB s l
  · have HF := hid (byL_no (b := b) (Or.inl e1))
    rw [e1] at HEA
    clear e1
    go_enter Tryz.func40, Tryz.ntmps40
    go_wp2_with fail
    refine HEA.out.mono ?_
    rintro e w1 ⟨rfl, hb1⟩
    go_wp2
    go_ret2
    exact ByQ.no HF.out hb1
  rw [e1] at HEA
  have HNO := hid (fun (h : nmB b = false) => byL_no (s := s) (l := l) (Or.inr h))
  have HYE := hid (fun (h : nmB b = true) => byL_yes e1 h)
  clear e1
  go_enter Tryz.func40, Tryz.ntmps40
  go_wp2_with fail
  refine HEA.out.mono ?_
  rintro e w1 ⟨rfl, hb1'⟩
  have HB1 := hid hb1'
  have HN1 := hid (HNM.out w1)
  clear hb1'
  cases e3 : nmB b
  · have HF := hid (HNO.out e3)
    rw [e3] at HN1
    clear e3
    go_wp2_with (go_at_call 53; refine HN1.out.mono ?_; rintro e w3 ⟨rfl, rfl⟩)
    go_ret2
    exact ByQ.no HF.out HB1.out
  have HF := hid (HYE.out e3)
  rw [e3] at HN1
  clear e3 HNO HYE HNM HEA
  go_wp2_with (go_at_call 53; refine HN1.out.mono ?_; rintro e w3 ⟨rfl, rfl⟩)
  have h00 := hid (World.ownsRow_nil w1 w1.heap.size 9 1)
  have hw1 := HB1.out.size
  go_loopw [8, 9] (fun uo kv wr => ∃ (k n : Nat), k ≤ l.length ∧ kv = .int .i64 k ∧ n = (byF (l.take k) b).length ∧ n ≤ k ∧ wr.ownsRow w1.heap.size 9 1 uo n ((byF (l.take k) b).map Value.string) ∧ Below w.heap.size w wr ∧ w1.heap.size ≤ wr.heap.size) (fun _ kv _ => l.length - (intOf kv).toNat)
  case atStart => exact ⟨0, 0, by omega, rfl, rfl, by omega, h00.out, HB1.out, Nat.le_refl _⟩
  case round =>
    clear h00 hw1
    obtain ⟨k, n, hk, rfl, hn, hnk, hown, hbw, hw1⟩ := hrel
    have hwz := hbw.size
    by_cases hlt : k < l.length
    · obtain ⟨la', lc', e', -, -, -, ZC⟩ := HL.out.open
      cases e'
      obtain ⟨xb, xo, xS, xU, xP, rfl, x0, x1, x2, x3, x4, he0⟩ := ZC k hlt
      have he := he0.below hbw
      replace x0 := (hbw.cell (World.block_lt_of_cell? _ _ x0)).trans x0
      replace x1 := (hbw.cell (World.block_lt_of_cell? _ _ x1)).trans x1
      replace x2 := (hbw.cell (World.block_lt_of_cell? _ _ x2)).trans x2
      replace x3 := (hbw.cell (World.block_lt_of_cell? _ _ x3)).trans x3
      replace x4 := (hbw.cell (World.block_lt_of_cell? _ _ x4)).trans x4
      clear he0 ZC
      obtain ⟨sa, sc, rfl, -⟩ := he.s.open
      obtain ⟨ta, tc, rfl, -⟩ := he.u.open
      obtain ⟨pa, pc, rfl, -⟩ := he.p.open
      have HST := hid (byF_take (b := b) hlt)
      obtain ⟨x, hx⟩ : ∃ x, l[k] = x := ⟨_, rfl⟩
      rw [hx] at x0 x1 x2 x3 x4 he HST
      obtain ⟨N, hN⟩ : ∃ N, byF (l.take k) b = N := ⟨_, rfl⟩
      rw [hN] at HST hown hn
      obtain ⟨ua, uc, rfl⟩ := owns_slice hown
      have HOWN := hid hown
      have HBW := hid hbw
      have HNN := hid hn
      clear hx hN hown hbw he hn
      by_cases hwho : x.who = b
      · have HS1 : Hid (byF (l.take (k + 1)) b = N ++ [x.name]) := hid (by rw [HST.out, if_pos hwho])
        have t1 : (x.who.toList == b.toList) = true := by rw [bytes_eq]; simpa using hwho
        clear hwho
        have HBR := hid (Below.refl wr.heap.size wr)
        have hRA := (owns_below HOWN.out HBR.out).alloc (.cells #[.string x.name] 9)
        have HBL := hid (show Below wr.heap.size wr (wr.alloc (.cells #[.string x.name] 9)) from (Below.refl _ _).alloc (Nat.le_refl _) _)
        have HBF := hid (HBW.out.trans ((HBR.out.trans (HBL.out.mono HBR.out.size)).mono hwz))
        have HZF := hid (Nat.le_trans HBR.out.size HBL.out.size)
        have hzz : w1.heap.size ≤ wr.heap.size := Nat.le_trans hw1 HBR.out.size
        go_wp2_with (first | (at_builtin; refine wpList_append_lie rfl _ _ 38 rfl w1.heap.size 9 el_str Tryz.underlying38 rfl (by decide) _ n (N.map Value.string) rfl hRA _ 1 [.string x.name] rfl (row_one_new _ _ _) (oneCell_one rfl) (by omega) (by omega) (by omega) (by simp; omega) _ rfl ?_; intro g8 cap8 w8 hown8 hgrow8 hat8 hlt8))
        go_roundw
        case rel =>
          refine ⟨k + 1, n + 1, by omega, by go_num, by rw [HS1.out]; simp [HNN.out], by omega, by rw [HS1.out]; simpa using hown8, HBF.out.grown hgrow8 (by have := HBF.out.size; omega) (fun q hq => Nat.le_trans HB1.out.size (HOWN.out.lt q hq).1), Nat.le_trans (Nat.le_trans hw1 HZF.out) hgrow8.size⟩
        case measure => simp [intOf]; omega
      · have HS1 : Hid (byF (l.take (k + 1)) b = N) := hid (by rw [HST.out, if_neg hwho, List.append_nil])
        have t1 : (x.who.toList == b.toList) = false := by rw [bytes_eq]; simpa using hwho
        clear hwho
        have HBR := hid (Below.refl wr.heap.size wr)
        have HBX := HBR
        go_wp2
        go_roundw
        case rel =>
          refine ⟨k + 1, n, by omega, by go_num, by rw [HS1.out]; exact HNN.out, by omega, by rw [HS1.out]; exact owns_below HOWN.out HBX.out, HBW.out.trans (HBX.out.mono hwz), Nat.le_trans hw1 HBX.out.size⟩
        case measure => simp [intOf]; omega
    · have hkl : k = l.length := by omega
      subst hkl
      rw [List.take_of_length_le (Nat.le_refl _)] at hn hown
      obtain ⟨ua, uc, rfl⟩ := owns_slice hown
      have hE : TxtsAt wr (.slice ua n uc) (byF l b) := ⟨by rw [← hn]; exact RowK.of_owns hown (by omega), fun z hz => by
        obtain ⟨x, hx, rfl⟩ := byF_mem hz
        obtain ⟨vs', -, h2, h3⟩ := HL.out
        obtain ⟨i, hi, rfl⟩ := List.getElem_of_mem hx
        exact (h3 i hi (by omega)).n1⟩
      have HE := hid hE
      clear hE hown hn
      go_wp2
      go_ret2
      rw [HF.out]
      exact ⟨_, rfl, HE.out, hbw⟩
end Go.Proofs.YtlbjbmpkaniojaaGreat
