/-
  WHAT IT HOLDS: contracts of Edition of the reference of layer 9 and of the helper awake9 of the law TopUndone. Conditions: the arguments read as data; small signs, small libraries.
  WHAT IT HOLDS: the walk of the law TopUndone: it returns true. Conditions: the arguments read as data.
-/
import Derived.BigQuiet
import Derived.Deep.RegionHeld3
import Derived.Test.YtlbjbmpkaniojaaGreatZRTopUndone40
import Derived.Test.YtlbjbmpkaniojaaGreatZRTopUndone34
import Derived.Test.YtlbjbmpkaniojaaGreatZRTopUndone25
import Derived.Test.YtlbjbmpkaniojaaGreatZRTopUndone44
import Derived.Test.YtlbjbmpkaniojaaGreatZRTopUndone43
import Derived.Test.YtlbjbmpkaniojaaGreatZRTopUndone46
namespace Go.Proofs.YtlbjbmpkaniojaaGreat
open Go Go.RowKit Go.Maps
set_option maxHeartbeats 4000000 in
set_option maxRecDepth 100000 in
theorem ref9_Edition (vs vl : Value) (s : Sg) (l : List En) (w : World) (hs : SignAt w vs s) (hl : EntsAt w vl l) (hs1 : s.length ≤ 1000) (hl1 : l.length ≤ 1000) :
    Calls Tryz.prog 25 #[vs, vl] w fun e w' => e = .returned (.bool (edB s l)) ∧ Below w.heap.size w w' := by
  have HS := hid hs
  have HL := hid hl
  obtain ⟨la, lc, rfl, -, ll, -, HC⟩ := hl.open
  have HC' := hid HC
  clear HC hl hs
  go_enter Tryz.func25, Tryz.ntmps25
  go_wp2
  go_loopw [5] (fun i wr => ∃ k q : Nat, i = .int .i64 ((k : Int) + 1) ∧ wr = w.drewN q ∧ (k + 1 ≤ l.length ∨ k = 0) ∧ ∀ j (h : j + 1 < l.length), j < k → ltN (l[j]'(by omega)).name l[j + 1].name) (fun i _ => l.length - (intOf i).toNat)
  case atStart => exact ⟨0, 0, rfl, rfl, Or.inr rfl, fun j h h2 => absurd h2 (by omega)⟩
  case round =>
    obtain ⟨k, q, rfl, hw, hk, hrel⟩ := hrel
    have HW := hid hw
    have HR := hid hrel
    have hbq : Below w.heap.size w wr := hw ▸ below_self_drewN _ _
    clear hrel
    by_cases hlt : k + 1 < l.length
    · obtain ⟨b, o, vS, vu, vp, rfl, c0, -⟩ := HC'.out (k + 1) hlt
      obtain ⟨b', o', uS, uu, up, e', d0, -⟩ := HC'.out k (by omega)
      cases e'
      have f0 := (hbq.cell (World.block_lt_of_cell? _ _ c0)).trans c0
      have g0 := (hbq.cell (World.block_lt_of_cell? _ _ d0)).trans d0
      have HNO := hid (fun h => edB_no (s := s) hlt h)
      have HYES := hid (show ltN (l[k]'(by omega)).name l[k + 1].name → ltN (l[k]'(by omega)).name l[k + 1].name from id)
      obtain ⟨x, hx⟩ : ∃ x, l[k + 1].name = x := ⟨_, rfl⟩
      obtain ⟨y, hy⟩ : ∃ y, (l[k]'(by omega)).name = y := ⟨_, rfl⟩
      have HX := hid hx
      have HY := hid hy
      rw [hx] at f0 HNO
      rw [hy] at g0 HNO
      have q1 : (k : Int) + 1 - 1 = (k : Int) := by omega
      have q2 : IntKind.i64.wrap ((k : Int) + 1 - 1) = (k : Int) := by rw [IntWalk.i64_in _ (by omega)]; omega
      have q7 : IntKind.i64.wrap (k : Int) = (k : Int) := by rw [IntWalk.i64_in _ (by omega)]
      have q3 : ((k : Int) + 1).toNat = k + 1 := by omega
      have q4 : (0 : Int) ≤ (k : Int) + 1 := by omega
      have q5 : (k : Int) + 1 < (l.length : Int) := by omega
      have q6 : (k : Int) < (l.length : Int) := by omega
      clear c0 d0 hx hy hw
      by_cases h2 : ltN y x
      · have q0 := ble' h2
        have H2 := hid h2
        clear h2 HNO
        go_wp2
        go_quiet (fail)
        go_wp2
        go_roundw
        case rel =>
          refine ⟨k + 1, _, by go_num, by rw [HW.out, World.drewN_drewN], Or.inl (by omega), fun j hj hjk => ?_⟩
          by_cases e : j = k
          · subst e; rw [HX.out, HY.out]; exact H2.out
          · exact HR.out j hj (by omega)
        case measure => simp [intOf]; omega
      · have q0 := ble h2
        have HF := hid (HNO.out h2)
        clear h2 HNO
        go_wp2
        go_quiet (fail)
        go_wp2
        go_ret
        exact ⟨ret_bool HF.out.symm, hbq.trans ((below_self_drewN _ _).mono hbq.size)⟩
    · have HF : Hid (edB s l = libB s l) := hid (edB_asc (asc_adj fun i hi => HR.out i hi (by omega)))
      have HV := hid (ref6_Valid _ _ s l wr (HS.out.below hbq) (HL.out.below hbq) hs1 hl1)
      clear hw
      go_wp2_with fail
      refine HV.out.mono ?_
      rintro e w2 ⟨rfl, hb2⟩
      go_wp2
      go_ret
      exact ⟨ret_bool HF.out.symm, hbq.trans (hb2.mono hbq.size)⟩
def sg1 : Sg := [(⟨#[67]⟩, 2)]
def en9 : En := ⟨⟨#[97]⟩, ⟨#[97, 110, 110]⟩, [-1], [], []⟩
theorem sign9 (w : World) (T : TypeId) : SignAt (w.alloc (.cells #[.string ⟨#[67]⟩, .int .i64 2] T)) (.slice (some ⟨w.heap.size, 0, none⟩) 1 1) sg1 := by
  have r1 := World.ownsRow_lit (base := 0) (e := T) (size := 2) w #[.string ⟨#[67]⟩, .int .i64 2] 1 (by omega) (by simp [maxLen]) rfl
  refine ⟨RowK.of_owns r1 (by simp [sg1]), ?_⟩
  intro x hx
  simp [sg1] at hx
  subst hx; simp [ByteArray.size]
theorem ints9 (w : World) (T : TypeId) : Ints (w.alloc (.cells #[.int .i64 (-1)] T)) (.slice (some ⟨w.heap.size, 0, none⟩) 1 1) [-1] := by
  have r := World.ownsRow_lit (base := 0) (e := T) (size := 1) w #[.int .i64 (-1)] 1 (by omega) (by simp [maxLen]) (by simp)
  exact Ints.of_owns r (by simp)
theorem ents9 {w : World} {vS : Value} {T : TypeId} (h : Ints w vS [-1]) : EntsAt (w.alloc (.cells #[.string ⟨#[97]⟩, .string ⟨#[97, 110, 110]⟩, vS, .slice none 0 0, .slice none 0 0] T)) (.slice (some ⟨w.heap.size, 0, none⟩) 1 1) [en9] := by
  have hb : Below w.heap.size w (w.alloc (.cells #[.string ⟨#[97]⟩, .string ⟨#[97, 110, 110]⟩, vS, .slice none 0 0, .slice none 0 0] T)) := (Below.refl _ _).alloc (Nat.le_refl _) _
  have he : EntAt w vS (.slice none 0 0) (.slice none 0 0) en9 := ⟨h, TxtsAt.nil _, StepsAt.nil _, by decide, by decide⟩
  refine ⟨[(vS, .slice none 0 0, .slice none 0 0)], ⟨rfl, _, _, rfl, Nat.le_refl _, by decide, (fun h => by cases h), fun j u hj => ⟨_, _, rfl, ?_⟩⟩, rfl, fun j h h' => ?_⟩
  · rw [World.cell?_alloc_new, Nat.zero_add]; exact List.getElem?_toArray.trans hj
  · match j, h with
    | 0, _ => exact he.below hb
theorem diff9 : diffL sg1 [en9] [] ⟨#[97, 110, 110]⟩ = ([dropC ⟨#[97, 110, 110]⟩ ⟨#[97]⟩], 0) := by decide +kernel
set_option maxHeartbeats 4000000 in
set_option maxRecDepth 100000 in
theorem top_awake9 (w : World) :
    Calls Tryz.prog 54 #[] w fun e w' => e = .returned (.bool true) ∧ Below w.heap.size w w' := by
  have q1 := sign9 w 81
  obtain ⟨W1, hW1⟩ : ∃ W1, w.alloc (.cells #[.string ⟨#[67]⟩, .int .i64 2] 81) = W1 := ⟨_, rfl⟩
  have b1 : Below w.heap.size w W1 := hW1 ▸ (Below.refl _ _).alloc (Nat.le_refl _) _
  rw [hW1] at q1
  have q2 := ints9 W1 3
  obtain ⟨W2, hW2⟩ : ∃ W2, W1.alloc (.cells #[.int .i64 (-1)] 3) = W2 := ⟨_, rfl⟩
  have b2 : Below W1.heap.size W1 W2 := hW2 ▸ (Below.refl _ _).alloc (Nat.le_refl _) _
  rw [hW2] at q2
  have q3 := ents9 (T := 41) q2
  obtain ⟨W3, hW3⟩ : ∃ W3, W2.alloc (.cells #[.string ⟨#[97]⟩, .string ⟨#[97, 110, 110]⟩, .slice (some ⟨W1.heap.size, 0, none⟩) 1 1, .slice none 0 0, .slice none 0 0] 41) = W3 := ⟨_, rfl⟩
  have b3 : Below W2.heap.size W2 W3 := hW3 ▸ (Below.refl _ _).alloc (Nat.le_refl _) _
  rw [hW3] at q3
  have HD := hid (blame_Difference _ _ _ sg1 [en9] [] ⟨#[97, 110, 110]⟩ W3 ((q1.below b2).below b3) q3 (EntsAt.nil _) (by decide) (by decide) (by decide) (by decide))
  rw [diff9] at HD
  have HB := hid ((b1.trans (b2.mono b1.size)).trans (b3.mono (Nat.le_trans b1.size b2.size)))
  have h1 := hid hW1
  have h2 := hid hW2
  have h3 := hid hW3
  clear q1 q2 q3 b1 b2 b3 hW1 hW2 hW3
  go_enter Tryz.func54, Tryz.ntmps54
  go_wp2_with (first | rw [h1.out] | rw [h2.out] | rw [h3.out])
  refine HD.out.mono ?_
  rintro e w4 ⟨u, rfl, hu, hb4⟩
  obtain ⟨ua, uc, rfl, -, -, -, ZC⟩ := hu.open
  obtain ⟨b, o, vS, vU, vP, rfl, z0, z1, z2, -⟩ := ZC 0 (by decide)
  simp only [List.getElem_cons_zero, dropC, Nat.zero_mul, Nat.add_zero] at z0 z1 z2
  have HB4 := hid (HB.out.trans (hb4.mono HB.out.size))
  clear hu hb4 ZC HD
  go_wp2
  go_ret
  exact ⟨rfl, HB4.out⟩
end Go.Proofs.YtlbjbmpkaniojaaGreat
namespace Go.Proofs.YtlbjbmpkaniojaaGreat
open Go Go.RowKit Go.Maps
theorem chg_sm {s : Sg} {c : Chg} (h : chgB s c = true) : c.who.size ≤ 140737488355328 ∧ c.name.size ≤ 140737488355328 ∧ c.new.size ≤ 140737488355328 := by
  have key : ∀ {n : Nm}, nmB n = true → n.size ≤ 140737488355328 := fun h => by have := (nmB_len h).2; omega
  have e0 : (em : Nm).size ≤ 140737488355328 := by decide
  cases chgB_iff.1 h with
  | put h0 h1 hk h2 h3 h4 => exact ⟨key h1, by rw [h2]; exact e0, by rw [h3]; exact e0⟩
  | ren h0 h1 hk h2 h3 h4 h5 => exact ⟨key h1, key h2, key h3⟩
  | drop h0 h1 hk h2 h3 h5 => exact ⟨key h1, key h2, by rw [h3]; exact e0⟩
theorem und_sm {s : Sg} {l : List En} {c : Chg} (h : (madeL s l c).2 = 0) : (undoL s l c).1.who.size ≤ 140737488355328 ∧ (undoL s l c).1.name.size ≤ 140737488355328 ∧ (undoL s l c).1.new.size ≤ 140737488355328 := by
  obtain ⟨h1, h2, h3⟩ := undoL_ok h
  rw [h3]
  split
  · exact ⟨by decide, by decide, by decide⟩
  · rename_i hk
    have hd : doL l c = ((madeL s l c).1, 0) := by rw [← madeL_yes h1 h2]; exact Prod.ext rfl h
    have hu : undoL s l c = (undoC l c, 0) := by rw [h3, if_neg hk]
    exact chg_sm (undo_back h1 h2 hd hu).1
theorem diff_err {s : Sg} {a b : List En} {who : Nm} (h1 : edB s a = true) (h2 : edB s b = true) (h3 : nmB who = true) : (diffL s a b who).2 = 0 ∨ (diffL s a b who).2 = 10 := by
  rw [diffL_yes h1 h2 h3]
  cases dropsL a.length (now0 a b) b with
  | none => exact Or.inr rfl
  | some ds => exact Or.inl rfl
theorem UnCh.at {s : Sg} {l : List En} {Ls : List (List En)} {us : List Chg} {ok : Bool} (h : UnCh s l Ls us ok) {j : Nat} (hj : j < Ls.length) : edB s Ls[j] = true ∧ Ls[j].length ≤ 60 := ⟨h.ed _ (List.getElem_mem _), (edB_iff.1 (h.ed _ (List.getElem_mem hj))).1.len⟩
set_option maxHeartbeats 8000000 in
set_option maxRecDepth 100000 in
theorem walk_TopUndone (vs vl vc : Value) (s : Sg) (l : List En) (cs : List Chg) (who : Nm) (w : World) (hs : SignAt w vs s) (hl : EntsAt w vl l) (hc : ChsAt w vc cs) (hw : who.size ≤ 140737488355328) :
    Calls Tryz.prog 9 #[vs, vl, vc, .string who] w fun e w' => e = .returned (.bool true) ∧ Below w.heap.size w w' := by
  have HAW := hid (fun X => top_awake9 X)
  have HS := hid hs
  have HL := hid hl
  have HC := hid hc
  obtain ⟨sp, sc, rfl, -, hsl, -⟩ := hs.open
  obtain ⟨lp, lc, rfl, -, hll, -⟩ := hl.open
  obtain ⟨cp, cc, rfl, -, hcl, -, ZC⟩ := hc.open
  have HCC := hid ZC
  clear hs hl hc ZC
  by_cases e0 : (s.length : Int) > 20
  · go_enter Tryz.func9, Tryz.ntmps9
    go_wp2_with fail
    refine (HAW.out _).mono ?_
    rintro e w9 ⟨rfl, hb9⟩
    go_wp2
    go_ret
    exact ⟨rfl, hb9⟩
  by_cases e1 : (l.length : Int) > 10
  · go_enter Tryz.func9, Tryz.ntmps9
    go_wp2_with fail
    refine (HAW.out _).mono ?_
    rintro e w9 ⟨rfl, hb9⟩
    go_wp2
    go_ret
    exact ⟨rfl, hb9⟩
  by_cases e2 : (cs.length : Int) > 20
  · go_enter Tryz.func9, Tryz.ntmps9
    go_wp2_with fail
    refine (HAW.out _).mono ?_
    rintro e w9 ⟨rfl, hb9⟩
    go_wp2
    go_ret
    exact ⟨rfl, hb9⟩
  have HS1 := hid (show s.length ≤ 1000 by omega)
  have HL1 := hid (show l.length ≤ 1000 by omega)
  have hc20 : cs.length ≤ 20 := by omega
  have f0 : decide ((20 : Int) < (s.length : Int)) = false := decide_eq_false (by omega)
  have f1 : decide ((10 : Int) < (l.length : Int)) = false := decide_eq_false (by omega)
  have f2 : decide ((20 : Int) < (cs.length : Int)) = false := decide_eq_false (by omega)
  have HE := hid (ref9_Edition _ _ s l w HS.out HL.out HS1.out HL1.out)
  cases hv : edB s l
  · rw [hv] at HE
    clear hv
    go_enter Tryz.func9, Tryz.ntmps9
    go_wp2_with fail
    refine HE.out.mono ?_
    rintro e w2 ⟨rfl, hb2⟩
    go_wp2_with fail
    refine (HAW.out _).mono ?_
    rintro e w9 ⟨rfl, hb9⟩
    go_wp2
    go_ret
    exact ⟨rfl, hb2.trans (hb9.mono hb2.size)⟩
  rw [hv] at HE
  have HEV := hid hv
  clear hv
  cases hn : nmB who
  · have HN := hid (fun X => ref6_Name who X hw)
    simp only [hn] at HN
    clear hn
    go_enter Tryz.func9, Tryz.ntmps9
    go_wp2_with fail
    refine HE.out.mono ?_
    rintro e w2 ⟨rfl, hb2⟩
    go_wp2_with fail
    refine (HN.out _).mono ?_
    rintro e w3 ⟨rfl, rfl⟩
    go_wp2_with fail
    refine (HAW.out _).mono ?_
    rintro e w9 ⟨rfl, hb9⟩
    go_wp2
    go_ret
    exact ⟨rfl, hb2.trans (hb9.mono hb2.size)⟩
  have HN := hid (fun X => ref6_Name who X hw)
  simp only [hn] at HN
  have HNB := hid hn
  clear hn
  go_enter Tryz.func9, Tryz.ntmps9
  go_wp2_with fail
  refine HE.out.mono ?_
  rintro e w2 ⟨rfl, hb2⟩
  have HB2 := hid hb2
  have HZ2 := hid hb2.size
  clear hb2 HE
  go_wp2_with fail
  refine (HN.out _).mono ?_
  rintro e w3 ⟨rfl, rfl⟩
  have hbA : Below w2.heap.size w2 (w2.alloc (.cells #[.slice lp l.length lc] 24)) := (Below.refl _ _).alloc (Nat.le_refl _) _
  have HT0 := hid (TuS.start (HL.out.below HB2.out) HZ2.out)
  have HBA := hid (HB2.out.trans (hbA.mono HZ2.out))
  clear hbA e0 e1 e2 f0 f1 f2 HN
  go_wp2
  go_loopw [9, 10, 11, 12] (fun ue uu bv iv wr => ∃ (k : Nat) (Ls : List (List En)) (us : List Chg) (ok : Bool) (vse : List Value) (wsu : List V3), k ≤ cs.length ∧ iv = .int .i64 k ∧ bv = .bool ok ∧ TuS wr w.heap.size ue vse Ls uu wsu us ∧ UnCh s l Ls us ok ∧ us.length ≤ k ∧ Below w.heap.size w wr) (fun _ _ _ iv _ => cs.length - (intOf iv).toNat)
  case atStart => exact ⟨0, [l], [], true, _, [], by omega, rfl, rfl, HT0.out, UnCh.start HEV.out, Nat.le_refl _, HBA.out⟩
  case round =>
    clear HT0 HBA
    obtain ⟨k, Ls, us, ok, vse, wsu, hk, rfl, rfl, hT, hU, huk, hbw⟩ := hrel
    have hwz := hbw.size
    have hLl := hU.len
    obtain ⟨uua, uuc, rfl⟩ := owns_slice hT.tu
    have HT := hid hT
    have HU := hid hU
    have HBW := hid hbw
    have HWZ := hid hwz
    obtain ⟨L, hLg, hLe, hL60⟩ := hU.last
    obtain ⟨hLi, hLE⟩ := List.getElem?_eq_some_iff.1 hLg
    obtain ⟨g, gc, la, lk, rfl, hgz, hcell, hEL⟩ := hT.cellE hLi
    rw [hLE] at hcell hEL
    have HLG := hid hLg
    have HEL := hid hEL
    have HL6 := hid hL60
    have HLED := hid hLe
    rw [hLl] at *
    have HLLE := hid HU.out.len
    have y0 : (0 : Int) ≤ (us.length : Int) := by omega
    have y1 : (us.length : Int) < ((us.length + 1 : Nat) : Int) := by omega
    have y2 : ((us.length + 1 : Nat) : Int) - 1 = (us.length : Int) := by omega
    have y3 : IntKind.i64.wrap (us.length : Int) = (us.length : Int) := by rw [IntWalk.i64_in _ (by omega)]
    clear hT hU hbw hLg hLe hL60 hLE hEL hLl hLi
    by_cases hlt : k < cs.length
    · obtain ⟨xb, xo, xS, xU, xP, e', z0, z1, z2, z3, z4, z5, z6, z7, z8, hce0⟩ := HCC.out k hlt
      subst e'
      have hce := hce0.below HBW.out
      replace z0 := (HBW.out.cell (World.block_lt_of_cell? _ _ z0)).trans z0
      replace z1 := (HBW.out.cell (World.block_lt_of_cell? _ _ z1)).trans z1
      replace z2 := (HBW.out.cell (World.block_lt_of_cell? _ _ z2)).trans z2
      replace z3 := (HBW.out.cell (World.block_lt_of_cell? _ _ z3)).trans z3
      replace z4 := (HBW.out.cell (World.block_lt_of_cell? _ _ z4)).trans z4
      replace z5 := (HBW.out.cell (World.block_lt_of_cell? _ _ z5)).trans z5
      replace z6 := (HBW.out.cell (World.block_lt_of_cell? _ _ z6)).trans z6
      replace z7 := (HBW.out.cell (World.block_lt_of_cell? _ _ z7)).trans z7
      replace z8 := (HBW.out.cell (World.block_lt_of_cell? _ _ z8)).trans z8
      clear hce0
      obtain ⟨sa, sk, rfl, -⟩ := hce.e.s.open
      obtain ⟨ta, tk, rfl, -⟩ := hce.e.u.open
      obtain ⟨pa, pk, rfl, -⟩ := hce.e.p.open
      obtain ⟨c, hcx⟩ : ∃ c, cs[k] = c := ⟨_, rfl⟩
      rw [hcx] at z0 z1 z2 z3 z4 z5 z6 z7 z8 hce
      have HCE := hid hce
      have HMD := hid (blame_Made _ _ _ _ _ s L c wr (HS.out.below HBW.out) HEL.out HCE.out HS1.out (Nat.le_trans HL6.out (by decide)))
      have HUD := hid (fun (X : World) (hX : Below wr.heap.size wr X) => blame_Undone _ _ _ _ _ s L c X ((HS.out.below HBW.out).below hX) (HEL.out.below hX) (HCE.out.below hX) HS1.out (Nat.le_trans HL6.out (by decide)))
      have HME := hid (fun (h : (madeL s L c).2 = 0) => undo_err h)
      have HSM := hid (fun (h : (madeL s L c).2 = 0) => und_sm h)
      have HSTEP := hid (fun (h : (madeL s L c).2 = 0) (e : Int) (he : (undoL s L c).2 = e) => HU.out.step HLG.out h he)
      obtain ⟨ml, me, hml⟩ : ∃ ml me, madeL s L c = (ml, me) := ⟨_, _, rfl⟩
      obtain ⟨uc, ue, huc⟩ : ∃ uc ue, undoL s L c = (uc, ue) := ⟨_, _, rfl⟩
      simp only [hml] at HMD HME HSM HSTEP
      simp only [huc] at HUD HME HSM HSTEP
      unfold chV at HMD HUD
      clear hce hcx hml huc
      go_wp2_with fail
      refine HMD.out.mono ?_
      rintro e w5 ⟨u5, rfl, hF5, hb5⟩
      obtain ⟨a5, k5, rfl, -⟩ := hF5.ents.open
      have HF5 := hid hF5
      have HB5 := hid hb5
      have HZ5 := hid hb5.size
      by_cases h0 : me = 0
      case neg =>
        have q0 : (me != 0) = true := by simpa using h0
        clear h0 hF5 hb5 z0 z1 z2 z3 z4 z5 z6 z7 z8 hcell
        go_wp2
        go_roundw
        case rel => exact ⟨k + 1, Ls, us, ok, vse, wsu, by omega, by go_num, rfl, HT.out.below HB5.out, HU.out, by omega, HBW.out.trans (HB5.out.mono HWZ.out)⟩
        case measure => simp [intOf]; omega
      subst h0
      replace hcell := (hb5.cell (World.block_lt_of_cell? _ _ hcell)).trans hcell
      replace z0 := (hb5.cell (World.block_lt_of_cell? _ _ z0)).trans z0
      replace z1 := (hb5.cell (World.block_lt_of_cell? _ _ z1)).trans z1
      replace z2 := (hb5.cell (World.block_lt_of_cell? _ _ z2)).trans z2
      replace z3 := (hb5.cell (World.block_lt_of_cell? _ _ z3)).trans z3
      replace z4 := (hb5.cell (World.block_lt_of_cell? _ _ z4)).trans z4
      replace z5 := (hb5.cell (World.block_lt_of_cell? _ _ z5)).trans z5
      replace z6 := (hb5.cell (World.block_lt_of_cell? _ _ z6)).trans z6
      replace z7 := (hb5.cell (World.block_lt_of_cell? _ _ z7)).trans z7
      replace z8 := (hb5.cell (World.block_lt_of_cell? _ _ z8)).trans z8
      have HUD5 := hid (HUD.out w5 HB5.out)
      have hue := HME.out rfl
      have HSM1 := hid (HSM.out rfl)
      have HSTEP1 := hid (HSTEP.out rfl ue rfl)
      clear hF5 hb5 HMD HUD HME HSM HSTEP
      go_wp2_with fail
      refine HUD5.out.mono ?_
      rintro e w6 ⟨vS6, vU6, vP6, he6, hO6, hb6⟩
      replace hO6 : EntO w6 w5.heap.size vS6 vU6 vP6 uc.ent := hO6
      obtain ⟨sa6, sk6, rfl⟩ := owns_slice hO6.s
      obtain ⟨ta6, tk6, rfl⟩ := owns_slice hO6.u
      obtain ⟨pa6, pk6, rfl⟩ := owns_slice hO6.p
      replace he6 : e = .returned (.tuple #[.agg #[.int .i64 uc.kind, .string uc.who, .string uc.name, .string uc.new, .string uc.ent.name, .string uc.ent.who, .slice sa6 uc.ent.says.length sk6, .slice ta6 uc.ent.uses.length tk6, .slice pa6 uc.ent.proof.length pk6], .int .i64 ue]) := he6
      subst he6
      have hcb := CB.new w6 uc (.slice sa6 uc.ent.says.length sk6) (.slice ta6 uc.ent.uses.length tk6) (.slice pa6 uc.ent.proof.length pk6) 43
      obtain ⟨X, hX⟩ : ∃ X, w6.alloc (.cells #[.int .i64 uc.kind, .string uc.who, .string uc.name, .string uc.new, .string uc.ent.name, .string uc.ent.who, .slice sa6 uc.ent.says.length sk6, .slice ta6 uc.ent.uses.length tk6, .slice pa6 uc.ent.proof.length pk6] 43) = X := ⟨_, rfl⟩
      rw [hX] at hcb
      have hbX : Below w6.heap.size w6 X := hX ▸ (Below.refl _ _).alloc (Nat.le_refl _) _
      have HBX5 := hid (hb6.trans (hbX.mono hb6.size))
      have HBX := hid (HB5.out.trans (HBX5.out.mono HB5.out.size))
      have hTX := HT.out.below HBX.out
      have HBU : Hid (Below X.heap.size X (X.alloc (.cells #[.int .i64 uc.kind, .string uc.who, .string uc.name, .string uc.new, .string uc.ent.name, .string uc.ent.who, .slice sa6 uc.ent.says.length sk6, .slice ta6 uc.ent.uses.length tk6, .slice pa6 uc.ent.proof.length pk6] 43))) := hid ((Below.refl _ _).alloc (Nat.le_refl _) _)
      have HTU := hid (hTX.below HBU.out)
      have hownA := hTX.tu.alloc (.cells #[.int .i64 uc.kind, .string uc.who, .string uc.name, .string uc.new, .string uc.ent.name, .string uc.ent.who, .slice sa6 uc.ent.says.length sk6, .slice ta6 uc.ent.uses.length tk6, .slice pa6 uc.ent.proof.length pk6] 43)
      have HROW := hid (row_one_chg X (.int .i64 uc.kind) (.string uc.who) (.string uc.name) (.string uc.new) (.string uc.ent.name) (.string uc.ent.who) (.slice sa6 uc.ent.says.length sk6) (.slice ta6 uc.ent.uses.length tk6) (.slice pa6 uc.ent.proof.length pk6) 43)
      have HCBK := hid hcb
      have HX := hid hX
      have HO6 := hid hO6
      have HB6 := hid hb6
      have HBX6 := hid hbX
      have hwX : w.heap.size ≤ X.heap.size := Nat.le_trans HWZ.out HBX.out.size
      have HRX := hid (fun (W' : World) (q : Nat) (hq : q < wr.heap.size) => hq)
      -- what the two rows hold is not what is new
      have HNE := hid (fun (q : Nat) (hq : wr.heap.size ≤ q) => (show some q ≠ (Value.slice (some ⟨g, 0, none⟩) (us.length + 1) gc).ownBlock from fun e => by have := (HT.out.te.lt q e.symm).2; omega))
      have HNU := hid (fun (q : Nat) (hq : wr.heap.size ≤ q) => (show some q ≠ (Value.slice uua us.length uuc).ownBlock from fun e => by have := (HT.out.tu.lt q e.symm).2; omega))
      have HZ5' := hid (Nat.le_trans HB5.out.size (Nat.le_refl w5.heap.size))
      have HHX := hid (fun (W' : World) (hW : ∀ q, q < (X.alloc (.cells #[.int .i64 uc.kind, .string uc.who, .string uc.name, .string uc.new, .string uc.ent.name, .string uc.ent.who, .slice sa6 uc.ent.says.length sk6, .slice ta6 uc.ent.uses.length tk6, .slice pa6 uc.ent.proof.length pk6] 43)).heap.size → some q ≠ (Value.slice (some ⟨g, 0, none⟩) (us.length + 1) gc).ownBlock → some q ≠ (Value.slice uua us.length uuc).ownBlock → W'.heap[q]? = (X.alloc (.cells #[.int .i64 uc.kind, .string uc.who, .string uc.name, .string uc.new, .string uc.ent.name, .string uc.ent.who, .slice sa6 uc.ent.says.length sk6, .slice ta6 uc.ent.uses.length tk6, .slice pa6 uc.ent.proof.length pk6] 43)).heap[q]?) =>
        (show ChgAt W' (.slice sa6 uc.ent.says.length sk6) (.slice ta6 uc.ent.uses.length tk6) (.slice pa6 uc.ent.proof.length pk6) uc from
          ⟨(HO6.out.blocks (base' := w5.heap.size) (Nat.le_refl _) fun q h1 h2 => (hW q (Nat.lt_of_lt_of_le h2 (Nat.le_trans HBX6.out.size HBU.out.size)) (HNE.out q (Nat.le_trans HB5.out.size h1)) (HNU.out q (Nat.le_trans HB5.out.size h1))).trans ((HBU.out.block q (Nat.lt_of_lt_of_le h2 HBX6.out.size)).trans (HBX6.out.block q h2))).ent, HSM1.out.1, HSM1.out.2.1, HSM1.out.2.2⟩))
      obtain ⟨g0, g1, g2, g3, g4, g5, g6, g7, g8⟩ := hcb
      clear hX hTX hO6 hb6 hbX HUD5 z0 z1 z2 z3 z4 z5 z6 z7 z8 hcell
      have hus20 : us.length ≤ 20 := by omega
      rcases hue with rfl | rfl <;> cases ok
      all_goals
        go_wp2_with (first
          | (rw [HX.out])
          | (at_builtin; (refine wpList_append_lie rfl _ _ 25 rfl w.heap.size 43 el_chg Tryz.underlying25 rfl (by decide) _ us.length (chsC us wsu) rfl hownA _ 1 (chC uc (.slice sa6 uc.ent.says.length sk6, .slice ta6 uc.ent.uses.length tk6, .slice pa6 uc.ent.proof.length pk6)) rfl HROW.out (chC_one _ _ _ _ _ _ _ _ _ _) (by omega) (by omega) (by omega) (by simp; omega) _ rfl ?_; intro g8 cap8 w8 hown8 hgrow8 hat8 hlt8; have hT8 := HTU.out.pushU (x := uc) (v := (.slice sa6 uc.ent.says.length sk6, .slice ta6 uc.ent.uses.length tk6, .slice pa6 uc.ent.proof.length pk6)) HHX.out rfl hown8 hgrow8 rfl hat8; have hownB := hT8.te.alloc (.cells #[.slice a5 ml.length k5] 24); rw [HLLE.out] at hownB; have HT8 := hid hT8; have HROW2 := hid (row_one1 w8 (.slice a5 ml.length k5) 24); have hw8 : w.heap.size ≤ w8.heap.size := Nat.le_trans hwX (Nat.le_trans HBU.out.size hgrow8.size); have HG8 := hid hgrow8; have HA8 := hid hat8; clear hT8 hown8 hgrow8 hat8 hownA))
          | (at_builtin; (refine wpList_append_lie rfl _ _ 78 rfl w.heap.size 24 el_ents Tryz.underlying78 rfl (by decide) _ (us.length + 1) vse rfl hownB _ 1 [.slice a5 ml.length k5] rfl HROW2.out (fun u hu => by simp at hu; subst hu; rfl) (by omega) (by omega) (by omega) (by simp; omega) _ rfl ?_; intro g9 cap9 w9 hown9 hgrow9 hat9 hlt9)))
        go_roundw
        case rel =>
          have hbB : Below w8.heap.size w8 (w8.alloc (.cells #[.slice a5 ml.length k5] 24)) := (Below.refl _ _).alloc (Nat.le_refl _) _
          have hX5 : w5.heap.size ≤ X.heap.size := HBX5.out.size
          have hne8 : ∀ q, wr.heap.size ≤ q → q < w5.heap.size → some q ≠ (Value.slice (some ⟨g8, 0, none⟩) (us.length + 1) cap8).ownBlock := by
            intro q h1 h2 e
            have e : q = g8 := Option.some.inj e
            rcases HA8.out with ha | ha
            · exact HNU.out q h1 (by subst e; exact ha.symm)
            · have := HBU.out.size; omega
          have hV : ∀ W' : World, (∀ q, q < (w8.alloc (.cells #[.slice a5 ml.length k5] 24)).heap.size → some q ≠ (Value.slice (some ⟨g, 0, none⟩) (us.length + 1) gc).ownBlock → some q ≠ (Value.slice (some ⟨g8, 0, none⟩) (us.length + 1) cap8).ownBlock → W'.heap[q]? = (w8.alloc (.cells #[.slice a5 ml.length k5] 24)).heap[q]?) → EntsAt W' (.slice a5 ml.length k5) ml := fun W' hW =>
            HF5.out.keep fun q h1 h2 => (hW q (Nat.lt_of_lt_of_le h2 (Nat.le_trans hX5 (Nat.le_trans HBU.out.size (Nat.le_trans HG8.out.size hbB.size)))) (HNE.out q h1) (hne8 q h1 h2)).trans
              ((hbB.block q (Nat.lt_of_lt_of_le h2 (Nat.le_trans hX5 (Nat.le_trans HBU.out.size HG8.out.size)))).trans ((HG8.out.block q (Nat.lt_of_lt_of_le h2 (Nat.le_trans hX5 HBU.out.size)) (HNU.out q h1)).trans ((HBU.out.block q (Nat.lt_of_lt_of_le h2 hX5)).trans (HBX5.out.block q h2))))
          have hT9 := (HT8.out.below hbB).pushE (L := ml) (v := .slice a5 ml.length k5) hV HLLE.out.symm hown9 hgrow9 rfl hat9
          have hbw8 : Below w.heap.size w w8 := ((HBW.out.trans (HBX.out.mono HWZ.out)).trans (HBU.out.mono hwX)).grown HG8.out (Nat.le_trans hwX HBU.out.size) (fun q hq => (HT.out.tu.lt q hq).1)
          have hbw9 : Below w.heap.size w w9 := (hbw8.trans (hbB.mono hw8)).grown hgrow9 (Nat.le_trans hw8 hbB.size) (fun q hq => (HT.out.te.lt q hq).1)
          exact ⟨k + 1, Ls ++ [ml], us ++ [uc], _, _, _, by omega, by go_num, rfl, by simpa using hT9, by simpa using HSTEP1.out, by simp; omega, hbw9⟩
        case measure => simp [intOf]; omega
    · have hde := diff_err HEV.out HLED.out HNB.out
      have HDF := hid (blame_Difference _ _ _ s l L who wr (HS.out.below HBW.out) (HL.out.below HBW.out) HEL.out hw HS1.out HL1.out (Nat.le_trans HL6.out (by decide)))
      have HDP := hid (fun (h : (diffL s l L who).2 = 0) => diff_played h)
      obtain ⟨dl, de, hdl⟩ : ∃ dl de, diffL s l L who = (dl, de) := ⟨_, _, rfl⟩
      simp only [hdl] at HDF HDP hde
      clear hdl
      go_wp2_with fail
      refine HDF.out.mono ?_
      rintro e w5 ⟨ud, he5, hud, hb5⟩
      replace he5 : e = .returned (.tuple #[ud, .int .i64 de]) := he5
      replace hud : ChsAt w5 ud dl := hud
      subst he5
      have HB5 := hid hb5
      have HZ5 := hid (HB5.out.size)
      obtain ⟨da, dc, rfl, -⟩ := hud.open
      rcases hde with rfl | rfl
      case' inl =>
        have HPL := hid (blame_Played _ _ _ s l dl w5 (HS.out.below (HBW.out.trans (hb5.mono HWZ.out))) (HL.out.below (HBW.out.trans (hb5.mono HWZ.out))) hud HS1.out HL1.out)
        rw [HDP.out rfl] at HPL
        clear hud hb5 hcell
        go_wp2_with fail
        refine HPL.out.mono ?_
        rintro e w6 ⟨up, rfl, hup, hb6⟩
        obtain ⟨pa, pc, rfl, -⟩ := hup.open
        have HSL := hid (ref6_SameLibraryE _ _ L w6 hup ((HEL.out.below HB5.out).below hb6))
        have HB6 := hid (HB5.out.trans (hb6.mono HZ5.out))
        clear hup hb6 HPL
        go_wp2_with fail
        refine HSL.out.mono ?_
        rintro e wz ⟨rfl, hb7⟩
        have HBZ := hid (HB6.out.trans (hb7.mono HB6.out.size))
        clear hb7 HSL HB6
      case' inr =>
        obtain ⟨wz, hwz⟩ : ∃ wz, wz = w5 := ⟨_, rfl⟩
        subst hwz
        have HBZ := hid hb5
        clear hud hb5 hcell
      all_goals
        have HBWZ := hid (HBW.out.trans (HBZ.out.mono HWZ.out))
        cases ok
        case false =>
          go_wp2_with fail
          refine (HAW.out _).mono ?_
          rintro e w9 ⟨rfl, hb9⟩
          go_wp2
          go_ret
          exact ⟨rfl, HBWZ.out.trans (hb9.mono HBWZ.out.size)⟩
        case true =>
          go_wp2
          go_loopw [23, 24] (fun nv iv wy => ∃ (j : Nat) (jj : Int) (Lj : List En), j ≤ us.length ∧ iv = .int .i64 jj ∧ (j : Int) = jj + 1 ∧ Ls[j]? = some Lj ∧ EntsAt wy nv Lj ∧ Below wz.heap.size wz wy) (fun _ iv _ => (intOf iv + 1).toNat)
          case atStart => exact ⟨us.length, (us.length : Int) - 1, L, Nat.le_refl _, by go_num, by omega, HLG.out, HEL.out.below HBZ.out, Below.refl _ _⟩
          case round =>
            obtain ⟨wy, rfl⟩ : ∃ wy : World, wy = wr := ⟨_, rfl⟩
            obtain ⟨j, jj, Lj, hj, rfl, hjj, hLj, hEj, hby⟩ := hrel
            have HBY := hid hby
            have HYZ := hid hby.size
            cases j with
            | zero =>
              obtain rfl : jj = -1 := by omega
              clear hjj hEj hby
              go_wp2_with fail
              refine (HAW.out _).mono ?_
              rintro e w9 ⟨rfl, hb9⟩
              go_wp2
              go_ret
              exact ⟨rfl, HBWZ.out.trans ((HBY.out.trans (hb9.mono HYZ.out)).mono HBWZ.out.size)⟩
            | succ m =>
              obtain rfl : jj = (m : Int) := by omega
              have hm : m < us.length := by omega
              have HBYY := hid (HBZ.out.trans (HBY.out.mono HBZ.out.size))
              have hTY := HT.out.below HBYY.out
              obtain ⟨gu, cu, n1, k1, n2, k2, n3, k3, eu, g0, g1, g2, g3, g4, g5, g6, g7, g8, hcg⟩ := hTY.cellU hm
              simp only [Value.slice.injEq] at eu
              obtain ⟨rfl, -, rfl⟩ := eu
              obtain ⟨ja, jc, rfl, -⟩ := hEj.open
              have hmL : m + 1 < Ls.length := by rw [HLLE.out]; omega
              have hLm : m < Ls.length := by omega
              obtain ⟨hLjI, hLjE⟩ := List.getElem?_eq_some_iff.1 hLj
              have hun := HU.out.un rfl m hm hLm hmL
              rw [hLjE] at hun
              obtain ⟨-, hl60⟩ := HU.out.at hLm
              obtain ⟨-, hj60⟩ := HU.out.at hmL
              rw [hLjE] at hj60
              have HMD := hid (blame_Made _ _ _ _ _ s Lj us[m] wy (HS.out.below (HBW.out.trans (HBYY.out.mono HWZ.out))) hEj hcg HS1.out (by omega))
              have HTY := hid hTY
              have HLM := hid (List.getElem?_eq_getElem hLm)
              have HCM := hid (fun (X : World) (hX : Below wy.heap.size wy X) => (hTY.below hX).cellE hLm)
              obtain ⟨u, hu⟩ : ∃ u, us[m] = u := ⟨_, rfl⟩
              obtain ⟨Lm, hLme⟩ : ∃ Lm, Ls[m] = Lm := ⟨_, rfl⟩
              rw [hu] at g0 g1 g2 g3 g4 g5 g6 g7 g8 HMD hun
              rw [hLme] at hun HLM hl60 HCM
              rw [hun] at HMD
              unfold chV at HMD
              have y0 : (0 : Int) ≤ (m : Int) := by omega
              have y1 : (m : Int) < (us.length : Int) := by omega
              clear hu hLme hun hLjE hLjI hcg hEj hTY hjj hby hLj
              go_wp2_with fail
              refine HMD.out.mono ?_
              rintro e w5 ⟨u5, rfl, hF5, hb5⟩
              obtain ⟨a5, k5, rfl, -⟩ := hF5.ents.open
              obtain ⟨gm, cm, am, km, eg, hgm, hcm, hEm⟩ := HCM.out w5 hb5
              simp only [Value.slice.injEq] at eg
              obtain ⟨eg1, -, -⟩ := eg
              cases eg1
              have HF5 := hid hF5.ents
              have HB5 := hid hb5
              have HSL := hid (ref6_SameLibraryE _ _ Lm w5 hF5.ents hEm)
              have y2 : (m : Int) < ((us.length + 1 : Nat) : Int) := by omega
              clear g0 g1 g2 g3 g4 g5 g6 g7 g8 hF5 hb5 hEm HMD
              go_wp2_with fail
              refine HSL.out.mono ?_
              rintro e w6 ⟨rfl, hb6⟩
              have HB6 := hid hb6
              clear hb6 hcm
              go_wp2
              go_roundw
              case rel => exact ⟨m, (m : Int) - 1, Lm, by omega, by go_num, by omega, HLM.out, HF5.out.below HB6.out, HBY.out.trans ((HB5.out.trans (HB6.out.mono HB5.out.size)).mono HYZ.out)⟩
              case measure => simp [intOf]
end Go.Proofs.YtlbjbmpkaniojaaGreat
