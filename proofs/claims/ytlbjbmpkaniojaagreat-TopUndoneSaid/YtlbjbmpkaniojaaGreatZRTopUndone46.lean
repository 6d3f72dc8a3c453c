/-
  WHAT IT HOLDS: contracts of slices.ContainsFunc at changes, of valid, listed, Played and At of package blame. Conditions: the arguments read as data; small signs, small libraries.
-/
import Derived.Test.YtlbjbmpkaniojaaGreatZRTopUndone45
import Derived.Test.YtlbjbmpkaniojaaGreatZRTopUndone38
import Derived.Test.YtlbjbmpkaniojaaGreatZRTopUndone36
namespace Go.Proofs.YtlbjbmpkaniojaaGreat
open Go Go.RowKit Go.Maps
theorem sl_IndexFunc_chs (g : Nat) (lb : Array Value) (eg : ∀ args w, (callFunc g args).run Tryz.prog w = .ok (.enter g args) w) (v : Value) (l : List Chg) (w : World) (hv : ChsAt w v l) (p : Nat → Bool)
    (hp : ∀ (i : Nat) (h : i < l.length) (vs vu vp : Value) (W : World), Below w.heap.size w W → ChgAt W vs vu vp l[i] → Calls Tryz.prog g (#[chV l[i] vs vu vp] ++ lb) W fun e w' => e = .returned (.bool (p i)) ∧ Below W.heap.size W w') :
    Calls Tryz.prog 176 #[v, .func (.func g) #[] lb] w fun e w' => e = .returned (.int .i64 (firstI l.length p)) ∧ Below w.heap.size w w' := by
  obtain ⟨a, cap, rfl, h1, h2, h3, HC⟩ := hv.open
  have HC' := hid HC
  have HP := hid hp
  clear HC hp h3 hv
  go_enter Tryz.func176, Tryz.ntmps176
  go_wp2
  go_loopw [8] (fun i wr => ∃ k : Nat, k ≤ l.length ∧ i = .int .i64 k ∧ Below w.heap.size w wr ∧ ∀ j, j < k → p j = false) (fun i _ => l.length - (intOf i).toNat)
  case atStart => exact ⟨0, by omega, rfl, Below.refl _ _, by simp⟩
  case round =>
    obtain ⟨k, hk, rfl, hb, hrel⟩ := hrel
    have HR := hid hrel
    clear hrel
    by_cases hlt : k < l.length
    · obtain ⟨b, o, vs, vu, vp, rfl, c0, c1, c2, c3, c4, c5, c6, c7, c8, he⟩ := HC'.out k hlt
      have d0 := (hb.cell (World.block_lt_of_cell? _ _ c0)).trans c0
      have d1 := (hb.cell (World.block_lt_of_cell? _ _ c1)).trans c1
      have d2 := (hb.cell (World.block_lt_of_cell? _ _ c2)).trans c2
      have d3 := (hb.cell (World.block_lt_of_cell? _ _ c3)).trans c3
      have d4 := (hb.cell (World.block_lt_of_cell? _ _ c4)).trans c4
      have d5 := (hb.cell (World.block_lt_of_cell? _ _ c5)).trans c5
      have d6 := (hb.cell (World.block_lt_of_cell? _ _ c6)).trans c6
      have d7 := (hb.cell (World.block_lt_of_cell? _ _ c7)).trans c7
      have d8 := (hb.cell (World.block_lt_of_cell? _ _ c8)).trans c8
      have hc := HP.out k hlt vs vu vp wr hb (he.below hb)
      clear c0 c1 c2 c3 c4 c5 c6 c7 c8 he
      obtain ⟨x, hx⟩ : ∃ x, l[k] = x := ⟨_, rfl⟩
      rw [hx] at d0 d1 d2 d3 d4 d5 hc
      unfold chV at hc
      clear hx
      cases h4 : p k
      · rw [h4] at hc
        have HCC := hid hc
        have H4 := hid h4
        clear hc h4
        go_wp2_with (go_at_fn g; refine HCC.out.mono ?_; rintro e w' ⟨rfl, hb1⟩)
        go_roundw
        case rel =>
          refine ⟨k + 1, by omega, by go_num, hb.trans (hb1.mono hb.size), fun j hj => ?_⟩
          by_cases hjk : j = k
          · rw [hjk]; exact H4.out
          · exact HR.out j (by omega)
        case measure => simp [intOf]; omega
      · rw [h4] at hc
        have HCC := hid hc
        have HF := hid (firstI_at hlt h4 HR.out)
        clear hc h4
        go_wp2_with (go_at_fn g; refine HCC.out.mono ?_; rintro e w' ⟨rfl, hb1⟩)
        go_ret
        exact ⟨ret_int HF.out.symm, hb.trans (hb1.mono hb.size)⟩
    · have HF := hid (firstI_no (n := l.length) (p := p) fun j hj => HR.out j (by omega))
      go_wp2
      go_ret
      exact ⟨ret_int HF.out.symm, hb⟩
theorem sl_ContainsFunc_chs (g : Nat) (lb : Array Value) (eg : ∀ args w, (callFunc g args).run Tryz.prog w = .ok (.enter g args) w) (v : Value) (l : List Chg) (w : World) (hv : ChsAt w v l) (p : Nat → Bool)
    (hp : ∀ (i : Nat) (h : i < l.length) (vs vu vp : Value) (W : World), Below w.heap.size w W → ChgAt W vs vu vp l[i] → Calls Tryz.prog g (#[chV l[i] vs vu vp] ++ lb) W fun e w' => e = .returned (.bool (p i)) ∧ Below W.heap.size W w') :
    Calls Tryz.prog 139 #[v, .func (.func g) #[] lb] w fun e w' => e = .returned (.bool ((List.range l.length).any p)) ∧ Below w.heap.size w w' := by
  have HP := hid (sl_IndexFunc_chs g lb eg v l w hv p hp)
  have HF := hid (firstI_any l.length p)
  generalize firstI l.length p = r at HP HF
  clear hp
  obtain ⟨a, cap, rfl, -⟩ := hv.open
  clear hv
  go_enter Tryz.func139, Tryz.ntmps139
  go_wp2_with (go_at_call 176; refine HP.out.mono ?_; rintro e w' ⟨rfl, hb⟩)
  go_ret
  exact ⟨ret_bool HF.out, by assumption⟩
theorem blame_valid1 (p : Nat) (vs vS vU vP : Value) (s : Sg) (c : Chg) (w : World) (hs : SignAt w vs s) (hc : ChgAt w vS vU vP c) (hs1 : s.length ≤ 1000) (hp : w.cell? ⟨p, 0, none⟩ = some vs) :
    Calls Tryz.prog 140 #[chV c vS vU vP, .pointer (some ⟨p, 0, none⟩)] w fun e w' => e = .returned (.bool (!chgB s c)) ∧ Below w.heap.size w w' := by
  obtain ⟨sa, sc, rfl, -⟩ := hc.e.s.open
  obtain ⟨ua, uc, rfl, -⟩ := hc.e.u.open
  obtain ⟨pa, pc, rfl, -⟩ := hc.e.p.open
  have hCB := CB.new w c (.slice sa c.ent.says.length sc) (.slice ua c.ent.uses.length uc) (.slice pa c.ent.proof.length pc) 43
  obtain ⟨V, hV⟩ : ∃ V, w.alloc (.cells #[.int .i64 c.kind, .string c.who, .string c.name, .string c.new, .string c.ent.name, .string c.ent.who, .slice sa c.ent.says.length sc, .slice ua c.ent.uses.length uc, .slice pa c.ent.proof.length pc] 43) = V := ⟨_, rfl⟩
  have hbV : Below w.heap.size w V := hV ▸ (Below.refl _ _).alloc (Nat.le_refl _) _
  rw [hV] at hCB
  have HVA := hid (blame_Valid vs _ _ _ s c V (hs.below hbV) (hc.below hbV) hs1)
  have hp' := (hbV.cell (World.block_lt_of_cell? _ _ hp)).trans hp
  obtain ⟨a, cap, rfl, -⟩ := hs.open
  have HW := hid hV
  have HBV := hid hbV
  unfold chV at HVA ⊢
  obtain ⟨c0, c1, c2, c3, c4, c5, c6, c7, c8⟩ := hCB
  clear hV hbV hc hs hp
  go_enter Tryz.func140, Tryz.ntmps140
  go_wp2_with (rw [HW.out])
  refine HVA.out.mono ?_
  rintro e w1 ⟨rfl, hb1⟩
  go_wp2
  go_ret
  exact ⟨rfl, HBV.out.trans (hb1.mono HBV.out.size)⟩
theorem chs_any (s : Sg) (cs : List Chg) : (List.range cs.length).any (fun i => !chgB s (cs.getD i chg0)) = !cs.all (chgB s) := by
  have e1 : ∀ j (hj : j < cs.length), cs.getD j chg0 = cs[j] := fun j hj => by rw [List.getD_eq_getElem?_getD, List.getElem?_eq_getElem hj]; rfl
  cases h : cs.all (chgB s) with
  | true =>
    rw [List.all_eq_true] at h
    show _ = false
    rw [List.any_eq_false]
    intro i hi
    have hi := List.mem_range.1 hi
    rw [e1 i hi, h _ (List.getElem_mem hi)]; simp
  | false =>
    rw [List.all_eq_false] at h
    obtain ⟨c, hc, h⟩ := h
    obtain ⟨i, hi, rfl⟩ := List.getElem_of_mem hc
    show _ = true
    rw [List.any_eq_true]
    exact ⟨i, List.mem_range.2 hi, by rw [e1 i hi]; simpa using h⟩
set_option maxHeartbeats 1000000 in
theorem blame_valid (vs vc : Value) (s : Sg) (cs : List Chg) (w : World) (hs : SignAt w vs s) (hc : ChsAt w vc cs) (hs1 : s.length ≤ 1000) :
    Calls Tryz.prog 95 #[vs, vc] w fun e w' => e = .returned (.bool (signB s && cs.all (chgB s))) ∧ Below w.heap.size w w' := by
  obtain ⟨sa, sc, rfl, -⟩ := hs.open
  have hbW : Below w.heap.size w (w.alloc (.cells #[.slice sa s.length sc] 23)) := (Below.refl _ _).alloc (Nat.le_refl _) _
  have k0 := box1e w (.slice sa s.length sc) 23
  obtain ⟨W, hW⟩ : ∃ W, w.alloc (.cells #[.slice sa s.length sc] 23) = W := ⟨_, rfl⟩
  rw [hW] at hbW k0
  have HSG := hid (term_ValidSign _ s W (hs.below hbW) hs1)
  have HI := hid (fun (Y : World) (hY : Below W.heap.size W Y) => sl_ContainsFunc_chs 140 #[.pointer (some ⟨w.heap.size, 0, none⟩)] (enters_of Tryz.func140 (by kernel_rfl) rfl) vc cs Y ((hc.below hbW).below hY) (fun i => !chgB s (cs.getD i chg0)) (by
    intro i hi vs vu vp X hX he
    have e1 : cs.getD i chg0 = cs[i] := by rw [List.getD_eq_getElem?_getD, List.getElem?_eq_getElem hi]; rfl
    simp only [e1]
    have hWX : Below W.heap.size W X := hY.trans (hX.mono hY.size)
    exact blame_valid1 w.heap.size _ vs vu vp s cs[i] X ((hs.below hbW).below hWX) he hs1 ((hWX.cell (World.block_lt_of_cell? _ _ k0)).trans k0)))
  rw [chs_any] at HI
  obtain ⟨ca, cc, rfl, -⟩ := hc.open
  have HW := hid hW
  have HB := hid hbW
  clear hs hc hW hbW
  cases h1 : signB s
  · rw [h1] at HSG
    clear h1
    go_enter Tryz.func95, Tryz.ntmps95
    go_wp2_with (rw [HW.out])
    refine HSG.out.mono ?_
    rintro e w1 ⟨rfl, hb1⟩
    go_wp2
    go_ret
    exact ⟨ret_bool rfl, HB.out.trans (hb1.mono HB.out.size)⟩
  · rw [h1] at HSG
    clear h1
    go_enter Tryz.func95, Tryz.ntmps95
    go_wp2_with (rw [HW.out])
    refine HSG.out.mono ?_
    rintro e w1 ⟨rfl, hb1⟩
    have HI1 := hid (HI.out w1 hb1)
    obtain ⟨ab, hab⟩ : ∃ ab, cs.all (chgB s) = ab := ⟨_, rfl⟩
    rw [hab] at HI1
    go_wp2_with fail
    refine HI1.out.mono ?_
    rintro e w2 ⟨rfl, hb2⟩
    have HB2 := hid (HB.out.trans ((hb1.trans (hb2.mono hb1.size)).mono HB.out.size))
    clear hb1 hb2
    go_wp2
    go_ret
    exact ⟨ret_bool (by simp [hab]), HB2.out⟩
theorem blame_listed (vs vc : Value) (s : Sg) (cs : List Chg) (w : World) (hs : SignAt w vs s) (hc : ChsAt w vc cs) (hs1 : s.length ≤ 1000) :
    Calls Tryz.prog 56 #[vs, vc] w fun e w' => e = .returned (.int .i64 (lstL s cs)) ∧ Below w.heap.size w w' := by
  have HV := hid (blame_valid vs vc s cs w hs hc hs1)
  obtain ⟨ca, cc, rfl, -, hl, -⟩ := hc.open
  clear hs hc
  cases h : (signB s && cs.all (chgB s))
  · have HF : Hid (lstL s cs = 1) := hid (by unfold lstL; rw [h]; rfl)
    rw [h] at HV
    clear h
    go_enter Tryz.func56, Tryz.ntmps56
    go_wp2_with (go_at_call 95; refine HV.out.mono ?_; rintro e w1 ⟨rfl, hb1⟩)
    go_ret
    exact ⟨ret_int HF.out.symm, hb1⟩
  · rw [h] at HV
    by_cases h2 : 200 < cs.length
    · have HF : Hid (lstL s cs = 7) := hid (by unfold lstL; rw [if_pos h, if_pos h2])
      have q : (200 : Int) < (cs.length : Int) := by omega
      clear h h2
      go_enter Tryz.func56, Tryz.ntmps56
      go_wp2_with (go_at_call 95; refine HV.out.mono ?_; rintro e w1 ⟨rfl, hb1⟩)
      go_ret
      exact ⟨ret_int HF.out.symm, hb1⟩
    · have HF : Hid (lstL s cs = 0) := hid (by unfold lstL; rw [if_pos h, if_neg h2])
      have q : ¬ (200 : Int) < (cs.length : Int) := by omega
      clear h h2
      go_enter Tryz.func56, Tryz.ntmps56
      go_wp2_with (go_at_call 95; refine HV.out.mono ?_; rintro e w1 ⟨rfl, hb1⟩)
      go_ret
      exact ⟨ret_int HF.out.symm, hb1⟩
theorem playedL_1 {s : Sg} {l : List En} {cs : List Chg} (h : edB s l = false) : playedL s l cs = ([], 0, 1) := by
  unfold playedL askL
  rw [h]; rfl
theorem playedL_2 {s : Sg} {l : List En} {cs : List Chg} (h : edB s l = true) (h2 : lstL s cs ≠ 0) : playedL s l cs = ([], 0, lstL s cs) := by
  unfold playedL askL
  rw [h, if_pos rfl, if_neg h2]
theorem playedL_3 {s : Sg} {l : List En} {cs : List Chg} (h : edB s l = true) (h2 : lstL s cs = 0) : playedL s l cs = playL l cs 0 := by
  unfold playedL askL
  rw [h, if_pos rfl, if_pos h2]
set_option maxHeartbeats 1000000 in
theorem blame_Played (vs vl vc : Value) (s : Sg) (l : List En) (cs : List Chg) (w : World) (hs : SignAt w vs s) (hl : EntsAt w vl l) (hc : ChsAt w vc cs) (hs1 : s.length ≤ 1000) (hl1 : l.length ≤ 1000) :
    Calls Tryz.prog 13 #[vs, vl, vc] w fun e w' => ∃ u, e = .returned (.tuple #[u, .int .i64 (playedL s l cs).2.1, .int .i64 (playedL s l cs).2.2]) ∧ EntsAt w' u (playedL s l cs).1 ∧ Below w.heap.size w w' := by
  have HE := hid (blame_Edition vs vl s l w hs hl hs1 hl1)
  have HL := hid (fun (X : World) (hX : Below w.heap.size w X) => blame_listed vs vc s cs X (hs.below hX) (hc.below hX) hs1)
  have HP := hid (fun (X : World) (hX : Below w.heap.size w X) (h1 : edB s l = true) (h2 : ∀ c ∈ cs, chgB s c = true) => blame_played vl vc s l cs X (hl.below hX) (hc.below hX) h1 h2)
  obtain ⟨la, lc, rfl, -⟩ := hl.open
  obtain ⟨ca, cc, rfl, -⟩ := hc.open
  clear hs hl hc
  cases h1 : edB s l
  · have HF := hid (playedL_1 (cs := cs) h1)
    rw [h1] at HE
    clear h1
    go_enter Tryz.func13, Tryz.ntmps13
    go_wp2_with fail
    refine HE.out.mono ?_
    rintro e w1 ⟨rfl, hb1⟩
    go_wp2
    go_ret3
    exact ⟨_, by rw [HF.out]; rfl, by rw [HF.out]; exact EntsAt.nil _, hb1⟩
  rw [h1] at HE
  by_cases h2 : lstL s cs = 0
  · have HF := hid (playedL_3 h1 h2)
    have HPP := hid (fun (X : World) (hX : Below w.heap.size w X) => HP.out X hX h1 (lstL_ok.1 h2).2.1)
    simp only [h2] at HL
    clear h1 h2 HP
    go_enter Tryz.func13, Tryz.ntmps13
    go_wp2_with fail
    refine HE.out.mono ?_
    rintro e w1 ⟨rfl, hb1⟩
    have HL1 := hid (HL.out w1 hb1)
    go_wp2_with fail
    refine HL1.out.mono ?_
    rintro e w2 ⟨rfl, hb2⟩
    have hb12 := hb1.trans (hb2.mono hb1.size)
    have HP2 := hid (HPP.out w2 hb12)
    go_wp2_with fail
    refine HP2.out.mono ?_
    rintro e w3 ⟨u, rfl, hu, hb3⟩
    have HU := hid hu
    have HB3 := hid (hb12.trans (hb3.mono hb12.size))
    obtain ⟨ra, rc, rfl, -⟩ := hu.open
    clear hu hb1 hb2 hb3 hb12
    go_wp2
    go_ret3
    exact ⟨_, by rw [HF.out]; rfl, by rw [HF.out]; exact HU.out, HB3.out⟩
  · have HF := hid (playedL_2 h1 h2)
    have n2 : (lstL s cs != 0) = true := by simpa using h2
    obtain ⟨er, her⟩ : ∃ er, lstL s cs = er := ⟨_, rfl⟩
    rw [her] at HF n2
    simp only [her] at HL
    clear h1 h2 her HP
    go_enter Tryz.func13, Tryz.ntmps13
    go_wp2_with fail
    refine HE.out.mono ?_
    rintro e w1 ⟨rfl, hb1⟩
    have HL1 := hid (HL.out w1 hb1)
    go_wp2_with fail
    refine HL1.out.mono ?_
    rintro e w2 ⟨rfl, hb2⟩
    have HB2 := hid (hb1.trans (hb2.mono hb1.size))
    clear hb1 hb2
    go_wp2
    go_ret3
    exact ⟨_, by rw [HF.out]; rfl, by rw [HF.out]; exact EntsAt.nil _, HB2.out⟩
end Go.Proofs.YtlbjbmpkaniojaaGreat
