/-
  WHAT IT HOLDS: contract of Do of the reference of layer 9 at a change that renames, and at any valid change. Conditions: the arguments read as data; an edition and a valid change.
  WHAT IT HOLDS: the contract of Difference of package blame. Conditions: the arguments read as data; small signs, small libraries.
  WHAT IT HOLDS: contracts of Edition of the reference of layer 9 and of the helper awake9 of the law TopUndone. Conditions: the arguments read as data; small signs, small libraries.
  WHAT IT HOLDS: contracts of slices.ContainsFunc at changes, of valid, listed, Played and At of package blame. Conditions: the arguments read as data; small signs, small libraries.
  WHAT IT HOLDS: contracts of Do at any valid change, of Made, asked, play and Played of the reference of layer 9. Conditions: the arguments read as data; small signs, small libraries.
  WHAT IT HOLDS: contract of Same of the reference of layer 9, and what the reference's Difference does in a round, in plain words. Conditions: the arguments read as data.
  WHAT IT HOLDS: contracts of entry and merge of the reference of layer 9. Conditions: the arguments read as data; editions. Printed by wip/gen_r9q.py.
  WHAT IT HOLDS: contract of authors of package blame: what its map sends the names to. Conditions: the changes read as data and can all be played from the empty edition.
  WHAT IT HOLDS: contracts of marks, whole and Blame of package blame. Conditions: the arguments read as data; small signs.
-/
import Derived.Deep.RegionHeld3
import Derived.BigQuiet
import Derived.Laws.StructEq
import Derived.Test.YtlbjbmpkaniojaaGreatZRBlameMerges35
import Derived.Test.YtlbjbmpkaniojaaGreatZRBlameMerges34
import Derived.Test.YtlbjbmpkaniojaaGreatZRBlameMerges40
import Derived.Test.YtlbjbmpkaniojaaGreatZRBlameMerges31
import Derived.Test.YtlbjbmpkaniojaaGreatZRBlameMerges25
import Derived.Test.YtlbjbmpkaniojaaGreatZRBlameMerges41
import Derived.Test.YtlbjbmpkaniojaaGreatZRBlameMerges33
import Derived.Test.YtlbjbmpkaniojaaGreatZRBlameMerges32
import Derived.Test.YtlbjbmpkaniojaaGreatZRBlameMerges18
import Derived.Test.YtlbjbmpkaniojaaGreatZRBlameMerges38
import Derived.Test.YtlbjbmpkaniojaaGreatZRBlameMerges26
import Derived.Test.YtlbjbmpkaniojaaGreatZRBlameMerges37
import Derived.Test.YtlbjbmpkaniojaaGreatZRBlameMerges23
namespace Go.Proofs.YtlbjbmpkaniojaaGreat
open Go Go.RowKit Go.Maps
theorem EntO.named {w : World} {base : Nat} {vS vU vP : Value} {x : En} (h : EntO w base vS vU vP x) {m : Nm} (hm : m.size ≤ 140737488355328) : EntO w base vS vU vP { x with name := m } := ⟨h.s, h.u, h.p, h.ls, h.lu, h.lp, h.nu, hm, h.n2⟩
theorem EntO.blk {w : World} {base : Nat} {vS vP : Value} {x : En} {a : Option Addr} {n c : Nat} (h : EntO w base vS (.slice a n c) vP x) (h0 : 0 < x.uses.length) : ∃ b, a = some ⟨b, 0, none⟩ ∧ base ≤ b ∧ b < w.heap.size := by
  rcases h.u.2 with ⟨-, h1⟩ | ⟨g, cap, cur, e, hg, h3, h4, -⟩
  · omega
  · cases e; exact ⟨g, rfl, hg, (h.u.lt g rfl).2⟩
end Go.Proofs.YtlbjbmpkaniojaaGreat
namespace Go.Proofs.YtlbjbmpkaniojaaGreat
open Go Go.RowKit Go.Maps
/-- what Difference answers. -/
def DifQ (R : List Chg × Int) (w : World) (e : Ending) (w' : World) : Prop := ∃ u, e = .returned (.tuple #[u, .int .i64 R.2]) ∧ ChsAt w' u R.1 ∧ Below w.heap.size w w'
theorem DifQ.no {R : List Chg × Int} {w w' : World} {er : Int} (hR : R = ([], er)) (h : Below w.heap.size w w') : DifQ R w (.returned (.tuple #[.slice none 0 0, .int .i64 er])) w' := by
  subst hR; exact ⟨_, rfl, ChsAt.nil _, h⟩
end Go.Proofs.YtlbjbmpkaniojaaGreat
namespace Go.Proofs.YtlbjbmpkaniojaaGreat
open Go Go.RowKit Go.Maps
set_option maxHeartbeats 4000000 in
set_option maxRecDepth 100000 in
theorem ref9_Edition (vs vl : Value) (s : Sg) (l : List En) (w : World) (hs : SignAt w vs s) (hl : EntsAt w vl l) (hs1 : s.length ≤ 1000) (hl1 : l.length ≤ 1000) :
    Calls Tryz.prog 25 #[vs, vl] w fun e w' => e = .returned (.bool (edB s l)) ∧ Below w.heap.size w w' := by
  have HS := hid hs
  have HL := hid hl
  obtain ⟨la, lc, rfl, -, ll, -, HC⟩ := hl.open
  have HC' := hid HC
  clear HC hl hs
  go_enter Tryz.func25, Tryz.ntmps25
  go_wp2
  go_loopw [5] (fun i wr => ∃ k q : Nat, i = .int .i64 ((k : Int) + 1) ∧ wr = w.drewN q ∧ (k + 1 ≤ l.length ∨ k = 0) ∧ ∀ j (h : j + 1 < l.length), j < k → ltN (l[j]'(by omega)).name l[j + 1].name) (fun i _ => l.length - (intOf i).toNat)
  case atStart => exact ⟨0, 0, rfl, rfl, Or.inr rfl, fun j h h2 => absurd h2 (by omega)⟩
  case round =>
    obtain ⟨k, q, rfl, hw, hk, hrel⟩ := hrel
    have HW := hid hw
    have HR := hid hrel
    have hbq : Below w.heap.size w wr := hw ▸ below_self_drewN _ _
    clear hrel
    by_cases hlt : k + 1 < l.length
    · obtain ⟨b, o, vS, vu, vp, rfl, c0, -⟩ := HC'.out (k + 1) hlt
      obtain ⟨b', o', uS, uu, up, e', d0, -⟩ := HC'.out k (by omega)
      cases e'
      have f0 := (hbq.cell (World.block_lt_of_cell? _ _ c0)).trans c0
      have g0 := (hbq.cell (World.block_lt_of_cell? _ _ d0)).trans d0
      have HNO := hid (fun h => edB_no (s := s) hlt h)
      have HYES := hid (show ltN (l[k]'(by omega)).name l[k + 1].name → ltN (l[k]'(by omega)).name l[k + 1].name from id)
      obtain ⟨x, hx⟩ : ∃ x, l[k + 1].name = x := ⟨_, rfl⟩
      obtain ⟨y, hy⟩ : ∃ y, (l[k]'(by omega)).name = y := ⟨_, rfl⟩
      have HX := hid hx
      have HY := hid hy
      rw [hx] at f0 HNO
      rw [hy] at g0 HNO
      have q1 : (k : Int) + 1 - 1 = (k : Int) := by omega
      have q2 : IntKind.i64.wrap ((k : Int) + 1 - 1) = (k : Int) := by rw [IntWalk.i64_in _ (by omega)]; omega
      have q7 : IntKind.i64.wrap (k : Int) = (k : Int) := by rw [IntWalk.i64_in _ (by omega)]
      have q3 : ((k : Int) + 1).toNat = k + 1 := by omega
      have q4 : (0 : Int) ≤ (k : Int) + 1 := by omega
      have q5 : (k : Int) + 1 < (l.length : Int) := by omega
      have q6 : (k : Int) < (l.length : Int) := by omega
      clear c0 d0 hx hy hw
      by_cases h2 : ltN y x
      · have q0 := ble' h2
        have H2 := hid h2
        clear h2 HNO
        go_wp2
        go_quiet (fail)
        go_wp2
        go_roundw
        case rel =>
          refine ⟨k + 1, _, by go_num, by rw [HW.out, World.drewN_drewN], Or.inl (by omega), fun j hj hjk => ?_⟩
          by_cases e : j = k
          · subst e; rw [HX.out, HY.out]; exact H2.out
          · exact HR.out j hj (by omega)
        case measure => simp [intOf]; omega
      · have q0 := ble h2
        have HF := hid (HNO.out h2)
        clear h2 HNO
        go_wp2
        go_quiet (fail)
        go_wp2
        go_ret
        exact ⟨ret_bool HF.out.symm, hbq.trans ((below_self_drewN _ _).mono hbq.size)⟩
    · have HF : Hid (edB s l = libB s l) := hid (edB_asc (asc_adj fun i hi => HR.out i hi (by omega)))
      have HV := hid (ref6_Valid _ _ s l wr (HS.out.below hbq) (HL.out.below hbq) hs1 hl1)
      clear hw
      go_wp2_with fail
      refine HV.out.mono ?_
      rintro e w2 ⟨rfl, hb2⟩
      go_wp2
      go_ret
      exact ⟨ret_bool HF.out.symm, hbq.trans (hb2.mono hbq.size)⟩
def sg1 : Sg := [(⟨#[67]⟩, 2)]
theorem sign9 (w : World) (T : TypeId) : SignAt (w.alloc (.cells #[.string ⟨#[67]⟩, .int .i64 2] T)) (.slice (some ⟨w.heap.size, 0, none⟩) 1 1) sg1 := by
  have r1 := World.ownsRow_lit (base := 0) (e := T) (size := 2) w #[.string ⟨#[67]⟩, .int .i64 2] 1 (by omega) (by simp [maxLen]) rfl
  refine ⟨RowK.of_owns r1 (by simp [sg1]), ?_⟩
  intro x hx
  simp [sg1] at hx
  subst hx; simp [ByteArray.size]
end Go.Proofs.YtlbjbmpkaniojaaGreat
namespace Go.Proofs.YtlbjbmpkaniojaaGreat
open Go Go.RowKit Go.Maps
theorem sl_IndexFunc_chs (g : Nat) (lb : Array Value) (eg : ∀ args w, (callFunc g args).run Tryz.prog w = .ok (.enter g args) w) (v : Value) (l : List Chg) (w : World) (hv : ChsAt w v l) (p : Nat → Bool)
    (hp : ∀ (i : Nat) (h : i < l.length) (vs vu vp : Value) (W : World), Below w.heap.size w W → ChgAt W vs vu vp l[i] → Calls Tryz.prog g (#[chV l[i] vs vu vp] ++ lb) W fun e w' => e = .returned (.bool (p i)) ∧ Below W.heap.size W w') :
    Calls Tryz.prog 176 #[v, .func (.func g) #[] lb] w fun e w' => e = .returned (.int .i64 (firstI l.length p)) ∧ Below w.heap.size w w' := by
  obtain ⟨a, cap, rfl, h1, h2, h3, HC⟩ := hv.open
  have HC' := hid HC
  have HP := hid hp
  clear HC hp h3 hv
  go_enter Tryz.func176, Tryz.ntmps176
  go_wp2
  go_loopw [8] (fun i wr => ∃ k : Nat, k ≤ l.length ∧ i = .int .i64 k ∧ Below w.heap.size w wr ∧ ∀ j, j < k → p j = false) (fun i _ => l.length - (intOf i).toNat)
  case atStart => exact ⟨0, by omega, rfl, Below.refl _ _, by simp⟩
  case round =>
    obtain ⟨k, hk, rfl, hb, hrel⟩ := hrel
    have HR := hid hrel
    clear hrel
    by_cases hlt : k < l.length
    · obtain ⟨b, o, vs, vu, vp, rfl, c0, c1, c2, c3, c4, c5, c6, c7, c8, he⟩ := HC'.out k hlt
      have d0 := (hb.cell (World.block_lt_of_cell? _ _ c0)).trans c0
      have d1 := (hb.cell (World.block_lt_of_cell? _ _ c1)).trans c1
      have d2 := (hb.cell (World.block_lt_of_cell? _ _ c2)).trans c2
      have d3 := (hb.cell (World.block_lt_of_cell? _ _ c3)).trans c3
      have d4 := (hb.cell (World.block_lt_of_cell? _ _ c4)).trans c4
      have d5 := (hb.cell (World.block_lt_of_cell? _ _ c5)).trans c5
      have d6 := (hb.cell (World.block_lt_of_cell? _ _ c6)).trans c6
      have d7 := (hb.cell (World.block_lt_of_cell? _ _ c7)).trans c7
      have d8 := (hb.cell (World.block_lt_of_cell? _ _ c8)).trans c8
      have hc := HP.out k hlt vs vu vp wr hb (he.below hb)
      clear c0 c1 c2 c3 c4 c5 c6 c7 c8 he
      obtain ⟨x, hx⟩ : ∃ x, l[k] = x := ⟨_, rfl⟩
      rw [hx] at d0 d1 d2 d3 d4 d5 hc
      unfold chV at hc
      clear hx
      cases h4 : p k
      · rw [h4] at hc
        have HCC := hid hc
        have H4 := hid h4
        clear hc h4
        go_wp2_with (go_at_fn g; refine HCC.out.mono ?_; rintro e w' ⟨rfl, hb1⟩)
        go_roundw
        case rel =>
          refine ⟨k + 1, by omega, by go_num, hb.trans (hb1.mono hb.size), fun j hj => ?_⟩
          by_cases hjk : j = k
          · rw [hjk]; exact H4.out
          · exact HR.out j (by omega)
        case measure => simp [intOf]; omega
      · rw [h4] at hc
        have HCC := hid hc
        have HF := hid (firstI_at hlt h4 HR.out)
        clear hc h4
        go_wp2_with (go_at_fn g; refine HCC.out.mono ?_; rintro e w' ⟨rfl, hb1⟩)
        go_ret
        exact ⟨ret_int HF.out.symm, hb.trans (hb1.mono hb.size)⟩
    · have HF := hid (firstI_no (n := l.length) (p := p) fun j hj => HR.out j (by omega))
      go_wp2
      go_ret
      exact ⟨ret_int HF.out.symm, hb⟩
theorem sl_ContainsFunc_chs (g : Nat) (lb : Array Value) (eg : ∀ args w, (callFunc g args).run Tryz.prog w = .ok (.enter g args) w) (v : Value) (l : List Chg) (w : World) (hv : ChsAt w v l) (p : Nat → Bool)
    (hp : ∀ (i : Nat) (h : i < l.length) (vs vu vp : Value) (W : World), Below w.heap.size w W → ChgAt W vs vu vp l[i] → Calls Tryz.prog g (#[chV l[i] vs vu vp] ++ lb) W fun e w' => e = .returned (.bool (p i)) ∧ Below W.heap.size W w') :
    Calls Tryz.prog 139 #[v, .func (.func g) #[] lb] w fun e w' => e = .returned (.bool ((List.range l.length).any p)) ∧ Below w.heap.size w w' := by
  have HP := hid (sl_IndexFunc_chs g lb eg v l w hv p hp)
  have HF := hid (firstI_any l.length p)
  generalize firstI l.length p = r at HP HF
  clear hp
  obtain ⟨a, cap, rfl, -⟩ := hv.open
  clear hv
  go_enter Tryz.func139, Tryz.ntmps139
  go_wp2_with (go_at_call 176; refine HP.out.mono ?_; rintro e w' ⟨rfl, hb⟩)
  go_ret
  exact ⟨ret_bool HF.out, by assumption⟩
theorem blame_valid1 (p : Nat) (vs vS vU vP : Value) (s : Sg) (c : Chg) (w : World) (hs : SignAt w vs s) (hc : ChgAt w vS vU vP c) (hs1 : s.length ≤ 1000) (hp : w.cell? ⟨p, 0, none⟩ = some vs) :
    Calls Tryz.prog 140 #[chV c vS vU vP, .pointer (some ⟨p, 0, none⟩)] w fun e w' => e = .returned (.bool (!chgB s c)) ∧ Below w.heap.size w w' := by
  obtain ⟨sa, sc, rfl, -⟩ := hc.e.s.open
  obtain ⟨ua, uc, rfl, -⟩ := hc.e.u.open
  obtain ⟨pa, pc, rfl, -⟩ := hc.e.p.open
  have hCB := CB.new w c (.slice sa c.ent.says.length sc) (.slice ua c.ent.uses.length uc) (.slice pa c.ent.proof.length pc) 43
  obtain ⟨V, hV⟩ : ∃ V, w.alloc (.cells #[.int .i64 c.kind, .string c.who, .string c.name, .string c.new, .string c.ent.name, .string c.ent.who, .slice sa c.ent.says.length sc, .slice ua c.ent.uses.length uc, .slice pa c.ent.proof.length pc] 43) = V := ⟨_, rfl⟩
  have hbV : Below w.heap.size w V := hV ▸ (Below.refl _ _).alloc (Nat.le_refl _) _
  rw [hV] at hCB
  have HVA := hid (blame_Valid vs _ _ _ s c V (hs.below hbV) (hc.below hbV) hs1)
  have hp' := (hbV.cell (World.block_lt_of_cell? _ _ hp)).trans hp
  obtain ⟨a, cap, rfl, -⟩ := hs.open
  have HW := hid hV
  have HBV := hid hbV
  unfold chV at HVA ⊢
  obtain ⟨c0, c1, c2, c3, c4, c5, c6, c7, c8⟩ := hCB
  clear hV hbV hc hs hp
  go_enter Tryz.func140, Tryz.ntmps140
  go_wp2_with (rw [HW.out])
  refine HVA.out.mono ?_
  rintro e w1 ⟨rfl, hb1⟩
  go_wp2
  go_ret
  exact ⟨rfl, HBV.out.trans (hb1.mono HBV.out.size)⟩
theorem chs_any (s : Sg) (cs : List Chg) : (List.range cs.length).any (fun i => !chgB s (cs.getD i chg0)) = !cs.all (chgB s) := by
  have e1 : ∀ j (hj : j < cs.length), cs.getD j chg0 = cs[j] := fun j hj => by rw [List.getD_eq_getElem?_getD, List.getElem?_eq_getElem hj]; rfl
  cases h : cs.all (chgB s) with
  | true =>
    rw [List.all_eq_true] at h
    show _ = false
    rw [List.any_eq_false]
    intro i hi
    have hi := List.mem_range.1 hi
    rw [e1 i hi, h _ (List.getElem_mem hi)]; simp
  | false =>
    rw [List.all_eq_false] at h
    obtain ⟨c, hc, h⟩ := h
    obtain ⟨i, hi, rfl⟩ := List.getElem_of_mem hc
    show _ = true
    rw [List.any_eq_true]
    exact ⟨i, List.mem_range.2 hi, by rw [e1 i hi]; simpa using h⟩
set_option maxHeartbeats 1000000 in
theorem blame_valid (vs vc : Value) (s : Sg) (cs : List Chg) (w : World) (hs : SignAt w vs s) (hc : ChsAt w vc cs) (hs1 : s.length ≤ 1000) :
    Calls Tryz.prog 95 #[vs, vc] w fun e w' => e = .returned (.bool (signB s && cs.all (chgB s))) ∧ Below w.heap.size w w' := by
  obtain ⟨sa, sc, rfl, -⟩ := hs.open
  have hbW : Below w.heap.size w (w.alloc (.cells #[.slice sa s.length sc] 23)) := (Below.refl _ _).alloc (Nat.le_refl _) _
  have k0 := box1e w (.slice sa s.length sc) 23
  obtain ⟨W, hW⟩ : ∃ W, w.alloc (.cells #[.slice sa s.length sc] 23) = W := ⟨_, rfl⟩
  rw [hW] at hbW k0
  have HSG := hid (term_ValidSign _ s W (hs.below hbW) hs1)
  have HI := hid (fun (Y : World) (hY : Below W.heap.size W Y) => sl_ContainsFunc_chs 140 #[.pointer (some ⟨w.heap.size, 0, none⟩)] (enters_of Tryz.func140 (by kernel_rfl) rfl) vc cs Y ((hc.below hbW).below hY) (fun i => !chgB s (cs.getD i chg0)) (by
    intro i hi vs vu vp X hX he
    have e1 : cs.getD i chg0 = cs[i] := by rw [List.getD_eq_getElem?_getD, List.getElem?_eq_getElem hi]; rfl
    simp only [e1]
    have hWX : Below W.heap.size W X := hY.trans (hX.mono hY.size)
    exact blame_valid1 w.heap.size _ vs vu vp s cs[i] X ((hs.below hbW).below hWX) he hs1 ((hWX.cell (World.block_lt_of_cell? _ _ k0)).trans k0)))
  rw [chs_any] at HI
  obtain ⟨ca, cc, rfl, -⟩ := hc.open
  have HW := hid hW
  have HB := hid hbW
  clear hs hc hW hbW
  cases h1 : signB s
  · rw [h1] at HSG
    clear h1
    go_enter Tryz.func95, Tryz.ntmps95
    go_wp2_with (rw [HW.out])
    refine HSG.out.mono ?_
    rintro e w1 ⟨rfl, hb1⟩
    go_wp2
    go_ret
    exact ⟨ret_bool rfl, HB.out.trans (hb1.mono HB.out.size)⟩
  · rw [h1] at HSG
    clear h1
    go_enter Tryz.func95, Tryz.ntmps95
    go_wp2_with (rw [HW.out])
    refine HSG.out.mono ?_
    rintro e w1 ⟨rfl, hb1⟩
    have HI1 := hid (HI.out w1 hb1)
    obtain ⟨ab, hab⟩ : ∃ ab, cs.all (chgB s) = ab := ⟨_, rfl⟩
    rw [hab] at HI1
    go_wp2_with fail
    refine HI1.out.mono ?_
    rintro e w2 ⟨rfl, hb2⟩
    have HB2 := hid (HB.out.trans ((hb1.trans (hb2.mono hb1.size)).mono HB.out.size))
    clear hb1 hb2
    go_wp2
    go_ret
    exact ⟨ret_bool (by simp [hab]), HB2.out⟩
theorem blame_listed (vs vc : Value) (s : Sg) (cs : List Chg) (w : World) (hs : SignAt w vs s) (hc : ChsAt w vc cs) (hs1 : s.length ≤ 1000) :
    Calls Tryz.prog 56 #[vs, vc] w fun e w' => e = .returned (.int .i64 (lstL s cs)) ∧ Below w.heap.size w w' := by
  have HV := hid (blame_valid vs vc s cs w hs hc hs1)
  obtain ⟨ca, cc, rfl, -, hl, -⟩ := hc.open
  clear hs hc
  cases h : (signB s && cs.all (chgB s))
  · have HF : Hid (lstL s cs = 1) := hid (by unfold lstL; rw [h]; rfl)
    rw [h] at HV
    clear h
    go_enter Tryz.func56, Tryz.ntmps56
    go_wp2_with (go_at_call 95; refine HV.out.mono ?_; rintro e w1 ⟨rfl, hb1⟩)
    go_ret
    exact ⟨ret_int HF.out.symm, hb1⟩
  · rw [h] at HV
    by_cases h2 : 200 < cs.length
    · have HF : Hid (lstL s cs = 7) := hid (by unfold lstL; rw [if_pos h, if_pos h2])
      have q : (200 : Int) < (cs.length : Int) := by omega
      clear h h2
      go_enter Tryz.func56, Tryz.ntmps56
      go_wp2_with (go_at_call 95; refine HV.out.mono ?_; rintro e w1 ⟨rfl, hb1⟩)
      go_ret
      exact ⟨ret_int HF.out.symm, hb1⟩
    · have HF : Hid (lstL s cs = 0) := hid (by unfold lstL; rw [if_pos h, if_neg h2])
      have q : ¬ (200 : Int) < (cs.length : Int) := by omega
      clear h h2
      go_enter Tryz.func56, Tryz.ntmps56
      go_wp2_with (go_at_call 95; refine HV.out.mono ?_; rintro e w1 ⟨rfl, hb1⟩)
      go_ret
      exact ⟨ret_int HF.out.symm, hb1⟩
end Go.Proofs.YtlbjbmpkaniojaaGreat
namespace Go.Proofs.YtlbjbmpkaniojaaGreat
open Go Go.RowKit Go.Maps
end Go.Proofs.YtlbjbmpkaniojaaGreat
namespace Go.Proofs.YtlbjbmpkaniojaaGreat
open Go Go.RowKit Go.Maps
set_option maxHeartbeats 1000000 in
theorem ref9_Same (vS vU vP uS uU uP : Value) (x y : En) (w : World) (hx : EntAt w vS vU vP x) (hy : EntAt w uS uU uP y) :
    Calls Tryz.prog 36 #[.agg #[.string x.name, .string x.who, vS, vU, vP], .agg #[.string y.name, .string y.who, uS, uU, uP]] w fun e w' => e = .returned (.bool (decide (x = y))) ∧ Below w.heap.size w w' := by
  obtain ⟨sa, sc, rfl, -⟩ := hx.s.open
  obtain ⟨ua, uc, rfl, -⟩ := hx.u.open
  obtain ⟨pa, pc, rfl, -⟩ := hx.p.open
  obtain ⟨sb, sd, rfl, -⟩ := hy.s.open
  obtain ⟨ub, ud, rfl, -⟩ := hy.u.open
  obtain ⟨pb, pd, rfl, -⟩ := hy.p.open
  have E1 := EB.new w x (.slice sa x.says.length sc) (.slice ua x.uses.length uc) (.slice pa x.proof.length pc) 41
  obtain ⟨V, hV⟩ : ∃ V, w.alloc (.cells #[.string x.name, .string x.who, .slice sa x.says.length sc, .slice ua x.uses.length uc, .slice pa x.proof.length pc] 41) = V := ⟨_, rfl⟩
  have hbV : Below w.heap.size w V := hV ▸ (Below.refl _ _).alloc (Nat.le_refl _) _
  rw [hV] at E1
  have E2 := EB.new V y (.slice sb y.says.length sd) (.slice ub y.uses.length ud) (.slice pb y.proof.length pd) 41
  obtain ⟨X, hX⟩ : ∃ X, V.alloc (.cells #[.string y.name, .string y.who, .slice sb y.says.length sd, .slice ub y.uses.length ud, .slice pb y.proof.length pd] 41) = X := ⟨_, rfl⟩
  have hbX : Below V.heap.size V X := hX ▸ (Below.refl _ _).alloc (Nat.le_refl _) _
  rw [hX] at E2
  have E1 := E1.below hbX
  have hb := hbV.trans (hbX.mono hbV.size)
  have HSE := hid (ref6_SameEntry _ _ _ _ _ _ x y X (hx.below hb) (hy.below hb))
  have HW := hid hV
  have HX := hid hX
  have HB := hid hb
  obtain ⟨c0, c1, c2, c3, c4⟩ := E1
  obtain ⟨d0, d1, d2, d3, d4⟩ := E2
  clear hV hX hbV hbX hb hx hy
  go_enter Tryz.func36, Tryz.ntmps36
  go_wp2_with (first | rw [HW.out] | rw [HX.out])
  refine HSE.out.mono ?_
  rintro e w1 ⟨rfl, hb1⟩
  go_wp2
  go_ret
  exact ⟨rfl, HB.out.trans (hb1.mono HB.out.size)⟩
end Go.Proofs.YtlbjbmpkaniojaaGreat
namespace Go.Proofs.YtlbjbmpkaniojaaGreat
open Go Go.RowKit Go.Maps
/-- what entry answers. -/
def LkQ (l : List En) (n : Nm) (w0 w : World) (e : Ending) (w' : World) : Prop := ∃ a1 k1 a2 k2 a3 k3 z, e = .returned (.tuple #[.agg #[.string (lkE l n).name, .string (lkE l n).who, .slice a1 (lkE l n).says.length k1, .slice a2 (lkE l n).uses.length k2, .slice a3 (lkE l n).proof.length k3], .bool z]) ∧ z = (idxN l n).isSome ∧ EntAt w0 (.slice a1 (lkE l n).says.length k1) (.slice a2 (lkE l n).uses.length k2) (.slice a3 (lkE l n).proof.length k3) (lkE l n) ∧ Below w.heap.size w w'
set_option maxHeartbeats 2000000 in
set_option maxRecDepth 100000 in
theorem ref9_entry (v : Value) (l : List En) (n : Nm) (w0 w : World) (hl : EntsAt w0 v l) (hb0 : Below w0.heap.size w0 w) :
    Calls Tryz.prog 151 #[v, .string n] w fun e w' => LkQ l n w0 w e w' := by
  have hBX := BX.new w [.string ⟨#[]⟩, .string ⟨#[]⟩, .slice none 0 0, .slice none 0 0, .slice none 0 0] 41
  obtain ⟨W, hW⟩ : ∃ W, w.alloc (.cells #[.string ⟨#[]⟩, .string ⟨#[]⟩, .slice none 0 0, .slice none 0 0, .slice none 0 0] 41) = W := ⟨_, rfl⟩
  have hW' : w.alloc (.cells ([.string ⟨#[]⟩, .string ⟨#[]⟩, .slice none 0 0, .slice none 0 0, .slice none 0 0] : List Value).toArray 41) = W := hW
  rw [hW'] at hBX
  have hbW : Below w.heap.size w W := hW ▸ (Below.refl _ _).alloc (Nat.le_refl _) _
  have HB0 := hid (hb0.trans (hbW.mono hb0.size))
  have HI := hid (ref6_Index v l n W (hl.below HB0.out))
  have HL0 := hid hl
  obtain ⟨la, lc, rfl, -⟩ := hl.open
  have HWW := hid hW
  have HBW := hid hbW
  have HBX := hid hBX
  have r0 : W.cell? ⟨w.heap.size, 0, none⟩ = some (.string ⟨#[]⟩) := hBX.c 0 (by simp)
  have r1 : W.cell? ⟨w.heap.size, 1, none⟩ = some (.string ⟨#[]⟩) := hBX.c 1 (by simp)
  have r2 : W.cell? ⟨w.heap.size, 2, none⟩ = some (.slice none 0 0) := hBX.c 2 (by simp)
  have r3 : W.cell? ⟨w.heap.size, 3, none⟩ = some (.slice none 0 0) := hBX.c 3 (by simp)
  have r4 : W.cell? ⟨w.heap.size, 4, none⟩ = some (.slice none 0 0) := hBX.c 4 (by simp)
  have f0 := hBX.z 0
  have f1 := hBX.z 1
  have f2 := hBX.z 2
  have f3 := hBX.z 3
  have f4 := hBX.z 4
  clear hW hW' hbW hBX hl
  cases hi : idxN l n with
  | none =>
    have hno : lkE l n = en0 := by unfold lkE; rw [hi]
    rw [idxI_no hi] at HI
    obtain ⟨X, hX⟩ : ∃ X, W.setCells w.heap.size 0 [.string ⟨#[]⟩, .string ⟨#[]⟩, .slice none 0 0, .slice none 0 0, .slice none 0 0] = X := ⟨_, rfl⟩
    have hX8 := BX.sets [.string ⟨#[]⟩, .string ⟨#[]⟩, .slice none 0 0, .slice none 0 0, .slice none 0 0] 0 HBX.out (by simp)
    rw [hX] at hX8
    have hX9 : BX X w.heap.size [.string ⟨#[]⟩, .string ⟨#[]⟩, .slice none 0 0, .slice none 0 0, .slice none 0 0] := hX8
    have HSETS : Hid (((((W.setCell ⟨w.heap.size, 0, none⟩ (.string ⟨#[]⟩)).setCell ⟨w.heap.size, 1, none⟩ (.string ⟨#[]⟩)).setCell ⟨w.heap.size, 2, none⟩ (.slice none 0 0)).setCell ⟨w.heap.size, 3, none⟩ (.slice none 0 0)).setCell ⟨w.heap.size, 4, none⟩ (.slice none 0 0) = X) := hid hX
    have HBF : Hid (Below w.heap.size w X) := hid (hX ▸ blw_setsM HBW.out (Nat.le_refl _) 0 _)
    have c0 : X.cell? ⟨w.heap.size, 0, none⟩ = some (.string ⟨#[]⟩) := hX9.c 0 (by simp)
    have c1 : X.cell? ⟨w.heap.size, 1, none⟩ = some (.string ⟨#[]⟩) := hX9.c 1 (by simp)
    have c2 : X.cell? ⟨w.heap.size, 2, none⟩ = some (.slice none 0 0) := hX9.c 2 (by simp)
    have c3 : X.cell? ⟨w.heap.size, 3, none⟩ = some (.slice none 0 0) := hX9.c 3 (by simp)
    have c4 : X.cell? ⟨w.heap.size, 4, none⟩ = some (.slice none 0 0) := hX9.c 4 (by simp)
    have HQ : Hid (LkQ l n w0 w (.returned (.tuple #[.agg #[.string ⟨#[]⟩, .string ⟨#[]⟩, .slice none 0 0, .slice none 0 0, .slice none 0 0], .bool false])) X) := hid (by
      unfold LkQ
      rw [hno, hi]
      exact ⟨none, 0, none, 0, none, 0, false, rfl, rfl, ⟨Ints.nil _, TxtsAt.nil _, StepsAt.nil _, em_szM, em_szM⟩, HBF.out⟩)
    clear hi hX hX8 hX9
    go_enter Tryz.func151, Tryz.ntmps151
    go_wp2_with (first | (go_at_call 51; rw [HWW.out]; refine HI.out.mono ?_; rintro e w5 ⟨rfl, rfl⟩) | rw [HSETS.out])
    refine bodyPost_ret (v := .tuple #[.agg #[.string ⟨#[]⟩, .string ⟨#[]⟩, .slice none 0 0, .slice none 0 0, .slice none 0 0], .bool false]) ?_ rfl HQ.out
    simp only [results, Tryz.results151]
    go_simp
  | some i =>
    obtain ⟨hil, hin⟩ := idxN_some hi
    have hlk : lkE l n = l[i] := by unfold lkE; rw [hi]; exact getD_at hil
    rw [idxI_some hi] at HI
    obtain ⟨la', lc', e', -, -, -, ZL⟩ := HL0.out.open
    cases e'
    obtain ⟨b, o, vS, vU, vP, rfl, d0, d1, d2, d3, d4, he⟩ := ZL i hil
    replace d0 := celB d0 HB0.out
    replace d1 := celB d1 HB0.out
    replace d2 := celB d2 HB0.out
    replace d3 := celB d3 HB0.out
    replace d4 := celB d4 HB0.out
    obtain ⟨a1, k1, rfl, -⟩ := he.s.open
    obtain ⟨a2, k2, rfl, -⟩ := he.u.open
    obtain ⟨a3, k3, rfl, -⟩ := he.p.open
    have b0 : (0 : Int) ≤ (i : Int) := by omega
    have b1 : ¬ (i : Int) < 0 := by omega
    have b2 : (i : Int) < (l.length : Int) := by omega
    obtain ⟨x, hx⟩ : ∃ x, l[i] = x := ⟨_, rfl⟩
    rw [hx] at d0 d1 d2 d3 d4 he hlk
    obtain ⟨X, hX⟩ : ∃ X, W.setCells w.heap.size 0 [.string x.name, .string x.who, .slice a1 x.says.length k1, .slice a2 x.uses.length k2, .slice a3 x.proof.length k3] = X := ⟨_, rfl⟩
    have hX8 := BX.sets [.string x.name, .string x.who, .slice a1 x.says.length k1, .slice a2 x.uses.length k2, .slice a3 x.proof.length k3] 0 HBX.out (by simp)
    rw [hX] at hX8
    have hX9 : BX X w.heap.size [.string x.name, .string x.who, .slice a1 x.says.length k1, .slice a2 x.uses.length k2, .slice a3 x.proof.length k3] := hX8
    have HSETS : Hid (((((W.setCell ⟨w.heap.size, 0, none⟩ (.string x.name)).setCell ⟨w.heap.size, 1, none⟩ (.string x.who)).setCell ⟨w.heap.size, 2, none⟩ (.slice a1 x.says.length k1)).setCell ⟨w.heap.size, 3, none⟩ (.slice a2 x.uses.length k2)).setCell ⟨w.heap.size, 4, none⟩ (.slice a3 x.proof.length k3) = X) := hid hX
    have HBF : Hid (Below w.heap.size w X) := hid (hX ▸ blw_setsM HBW.out (Nat.le_refl _) 0 _)
    have c0 : X.cell? ⟨w.heap.size, 0, none⟩ = some (.string x.name) := hX9.c 0 (by simp)
    have c1 : X.cell? ⟨w.heap.size, 1, none⟩ = some (.string x.who) := hX9.c 1 (by simp)
    have c2 : X.cell? ⟨w.heap.size, 2, none⟩ = some (.slice a1 x.says.length k1) := hX9.c 2 (by simp)
    have c3 : X.cell? ⟨w.heap.size, 3, none⟩ = some (.slice a2 x.uses.length k2) := hX9.c 3 (by simp)
    have c4 : X.cell? ⟨w.heap.size, 4, none⟩ = some (.slice a3 x.proof.length k3) := hX9.c 4 (by simp)
    have HEX := he
    have HQ : Hid (LkQ l n w0 w (.returned (.tuple #[.agg #[.string x.name, .string x.who, .slice a1 x.says.length k1, .slice a2 x.uses.length k2, .slice a3 x.proof.length k3], .bool true])) X) := hid (by
      unfold LkQ
      rw [hlk, hi]
      refine ⟨a1, k1, a2, k2, a3, k3, true, rfl, rfl, HEX, HBF.out⟩)
    clear hi hlk hX hX8 hX9 ZL he hx
    go_enter Tryz.func151, Tryz.ntmps151
    go_wp2_with (first | (go_at_call 51; rw [HWW.out]; refine HI.out.mono ?_; rintro e w5 ⟨rfl, rfl⟩) | rw [HSETS.out])
    refine bodyPost_ret (v := .tuple #[.agg #[.string x.name, .string x.who, .slice a1 x.says.length k1, .slice a2 x.uses.length k2, .slice a3 x.proof.length k3], .bool true]) ?_ rfl HQ.out
    simp only [results, Tryz.results151]
    go_simp
end Go.Proofs.YtlbjbmpkaniojaaGreat
namespace Go.Proofs.YtlbjbmpkaniojaaGreat
open Go Go.RowKit Go.Maps
def evA (p : Nm × Nm) : Value := .agg #[.string p.1, .string p.2]
abbrev AMap (w : World) (b n : Nat) (m : Nm → Option (Nm × Nm)) : Prop := MapK Tryz.prog 9 Value.string evA w b n m
theorem zero_auth (w : World) : (zeroValue 139).run Tryz.prog w = .ok (evA (em, em)) w := by kernel_rfl
theorem run_fldA (f g : Nm) (w : World) : (Instr.field 139 (.agg #[.string f, .string g]) 0).run Tryz.prog w = .ok (.string f) w := by kernel_rfl
set_option maxHeartbeats 8000000 in
set_option maxRecDepth 100000 in
theorem blame_authors (vc : Value) (s : Sg) (cs : List Chg) (w : World) (hc : ChsAt w vc cs) (hs : signB s = true) (hcs : ∀ c ∈ cs, chgB s c = true) (hp : (playL [] cs 0).2.2 = 0) :
    Calls Tryz.prog 135 #[vc] w fun e w' => e = .returned (.map (some w.heap.size)) ∧ (∃ n, n ≤ cs.length ∧ AMap w' w.heap.size n (mkF (mkAll cs))) ∧ Below w.heap.size w w' := by
  obtain ⟨ca, cc, rfl, -, hcl, -, ZC⟩ := hc.open
  have HCC := hid ZC
  have HIV := hid (fun k hk => mk_inv hs hcs hp k hk)
  have HED := hid (fun k hk => st_ed hs hcs hp k hk)
  have HPL := hid ((play_all cs [] 0 hp).1)
  have HCS := hid hcs
  have HM0 := hid (MapK.made Tryz.prog 9 Value.string evA w)
  have HB0 : Hid (Below w.heap.size w (w.alloc (.map #[] 0))) := hid ((Below.refl _ _).alloc (Nat.le_refl _) _)
  have hmm := @run_makeMap Tryz.prog
  clear ZC hc hs hcs hp
  go_enter Tryz.func135, Tryz.ntmps135
  go_wp2
  clear hmm
  go_loopw [11] (fun kv wr => ∃ k n : Nat, k ≤ cs.length ∧ n ≤ k ∧ kv = .int .i64 k ∧ AMap wr w.heap.size n (mkF (mkAll (cs.take k))) ∧ Below w.heap.size w wr) (fun kv _ => cs.length - (intOf kv).toNat)
  case atStart => exact ⟨0, 0, by omega, by omega, rfl, HM0.out, HB0.out⟩
  case round =>
    clear HM0 HB0
    obtain ⟨k, n, hk, hnk, rfl, hM, hb⟩ := hrel
    have hsz := hb.size
    by_cases hlt : k < cs.length
    · obtain ⟨b, o, vS, vU, vP, rfl, z0, z1, z2, z3, z4, z5, z6, z7, z8, hce⟩ := HCC.out k hlt
      replace z0 := (hb.cell (World.block_lt_of_cell? _ _ z0)).trans z0
      replace z1 := (hb.cell (World.block_lt_of_cell? _ _ z1)).trans z1
      replace z2 := (hb.cell (World.block_lt_of_cell? _ _ z2)).trans z2
      replace z3 := (hb.cell (World.block_lt_of_cell? _ _ z3)).trans z3
      replace z4 := (hb.cell (World.block_lt_of_cell? _ _ z4)).trans z4
      replace z5 := (hb.cell (World.block_lt_of_cell? _ _ z5)).trans z5
      replace z6 := (hb.cell (World.block_lt_of_cell? _ _ z6)).trans z6
      replace z7 := (hb.cell (World.block_lt_of_cell? _ _ z7)).trans z7
      replace z8 := (hb.cell (World.block_lt_of_cell? _ _ z8)).trans z8
      obtain ⟨hl, ha⟩ := edB_iff.1 (HED.out k (by omega))
      have hch := chgB_iff.1 (HCS.out _ (List.getElem_mem hlt))
      have hok := (okC_iff hl hch).1 (HPL.out k hlt)
      have hinv := HIV.out k (by omega)
      have hinv1 := HIV.out (k + 1) (by omega)
      have hstep := mkAll_take hlt
      rw [hstep] at hinv1
      obtain ⟨sa, sk, rfl, -⟩ := hce.e.s.open
      obtain ⟨ta, tk, rfl, -⟩ := hce.e.u.open
      obtain ⟨pa, pk, rfl, -⟩ := hce.e.p.open
      obtain ⟨c, hcx⟩ : ∃ c, cs[k] = c := ⟨_, rfl⟩
      rw [hcx] at z0 z1 z2 z3 z4 z5 z6 z7 z8 hce hch hok hinv1 hstep
      obtain ⟨OL, hOL⟩ : ∃ OL, mkAll (cs.take k) = OL := ⟨_, rfl⟩
      obtain ⟨EL, hEL⟩ : ∃ EL, stL [] (cs.take k) = EL := ⟨_, rfl⟩
      rw [hOL] at hinv hinv1 hstep hM
      rw [hEL] at hinv hok hl
      have HN1 := hid (str_key hce.e.n1)
      have HN2 := hid (str_key hce.n2)
      have HN3 := hid (str_key hce.n3)
      have HCK := hid hch
      have HST := hid hstep
      have HND := hid hinv1.nd
      have HNO := hid hinv.nd
      have HEQ := hid hinv.eq
      have HOKC := hid hok
      have hcb := CB.new wr c (.slice sa c.ent.says.length sk) (.slice ta c.ent.uses.length tk) (.slice pa c.ent.proof.length pk) 43
      obtain ⟨W, hW⟩ : ∃ W, wr.alloc (.cells #[.int .i64 c.kind, .string c.who, .string c.name, .string c.new, .string c.ent.name, .string c.ent.who, .slice sa c.ent.says.length sk, .slice ta c.ent.uses.length tk, .slice pa c.ent.proof.length pk] 43) = W := ⟨_, rfl⟩
      rw [hW] at hcb
      have hbW : Below wr.heap.size wr W := hW ▸ (Below.refl _ _).alloc (Nat.le_refl _) _
      have HBW := hid (hb.trans (hbW.mono hsz))
      have HM := hid (hM.belowS hbW)
      have hkk := hch.kinds
      obtain ⟨kd, hkd⟩ : ∃ kd, c.kind = kd := ⟨_, rfl⟩
      have HKD := hid hkd
      rw [hkd] at z0 hkk
      obtain ⟨g0, g1, g2, g3, g4, g5, g6, g7, g8⟩ := hcb
      rw [hkd] at g0 hW
      have HHW := hid hW
      have y0 : (k : Int) < (cs.length : Int) := by omega
      clear hW hbW hM hb hce hch hok hinv hinv1 hstep hcx hOL hEL hl ha hkd
      rcases hkk with rfl | rfl | rfl | rfl
      · have hno : ∀ v, (c.ent.name, v) ∉ OL := fun v hv => by
          obtain ⟨x, hx, e⟩ := (HEQ.out c.ent.name).1 ⟨v, hv⟩
          cases HOKC.out with
          | add hk' h1 h2 => exact h1 x hx e
          | set hk' => have := HKD.out; omega
          | ren hk' => have := HKD.out; omega
          | drop hk' => have := HKD.out; omega
        have HF := hid (mkF_add HKD.out HND.out HNO.out hno)
        clear hno
        go_wp2_with (first | rw [HHW.out] | (at_mapUpdate; refine wpList_update_mapK rfl _ _ _ 136 rfl (string_keyed Tryz.underlying9) ek_string_inj Tryz.underlying136 rfl HM.out c.ent.name (c.who, c.who) rfl rfl HN1.out ?_; intro w2 hm2 hg2))
        go_roundw
        case rel =>
          rw [HF.out] at hm2
          exact ⟨k + 1, (if (mkF OL c.ent.name).isSome then n else n + 1), by omega, by split <;> omega, by go_num, by rw [HST.out]; exact hm2, HBW.out.grown hg2 HBW.out.size (fun q hq => by cases hq; exact Nat.le_refl _)⟩
        case measure => simp [intOf]; omega
      · obtain ⟨f, g, hin⟩ : ∃ f g, mkF OL c.ent.name = some (f, g) := by
          cases HOKC.out with
          | set hk' h1 h2 =>
            obtain ⟨⟨f, g⟩, hv⟩ := (HEQ.out c.ent.name).2 h1
            exact ⟨f, g, (mkF_iff HNO.out).2 hv⟩
          | add hk' => have := HKD.out; omega
          | ren hk' => have := HKD.out; omega
          | drop hk' => have := HKD.out; omega
        have HF := hid (mkF_set HKD.out HND.out HNO.out hin)
        have HIN := hid hin
        obtain ⟨X, hX⟩ : ∃ X, W.alloc (.cells #[.string f, .string c.who] 139) = X := ⟨_, rfl⟩
        have x0 : X.cell? ⟨W.heap.size, 0, none⟩ = some (.string f) := by rw [← hX, World.cell?_alloc_new]; rfl
        have x1 : X.cell? ⟨W.heap.size, 1, none⟩ = some (.string c.who) := by rw [← hX, World.cell?_alloc_new]; rfl
        have HMX : Hid (AMap X w.heap.size n (mkF OL)) := hid (hX ▸ HM.out.alloc _)
        have hbX : Below W.heap.size W X := hX ▸ (Below.refl _ _).alloc (Nat.le_refl _) _
        have HBX := hid (HBW.out.trans (hbX.mono HBW.out.size))
        have HX := hid hX
        clear hX hbX hin
        have hfd := fun X => run_fldA f g X
        by_cases hgw : g = c.who
        · have q0 : (g.toList == c.who.toList) = true := by rw [bytes_eq]; simpa using hgw
          have HSM : Hid (mkF OL = mkF (mkStep OL c)) := hid (by
            rw [← HF.out]; funext y
            by_cases e : y = c.ent.name
            · rw [if_pos e, e, HIN.out, hgw]
            · rw [if_neg e])
          clear hgw
          go_wp2_with (first | rw [HHW.out] | rw [HX.out] | (at_lookup; refine wpList_lookup_mapK rfl _ _ 136 false rfl (string_keyed Tryz.underlying9) ek_string_inj Tryz.underlying136 (zero_auth _) rfl HM.out c.ent.name rfl HN1.out (.agg #[.string f, .string g]) (by rw [HIN.out]; rfl) ?_) | (at_lookup; refine wpList_lookup_mapK rfl _ _ 136 false rfl (string_keyed Tryz.underlying9) ek_string_inj Tryz.underlying136 (zero_auth _) rfl HMX.out c.ent.name rfl HN1.out (.agg #[.string f, .string g]) (by rw [HIN.out]; rfl) ?_))
          go_roundw
          case rel => exact ⟨k + 1, n, by omega, by omega, by go_num, by rw [HST.out, ← HSM.out]; exact HMX.out, HBX.out⟩
          case measure => simp [intOf]; omega
        · have q0 : (g.toList == c.who.toList) = false := by rw [bytes_eq]; simpa using hgw
          clear hgw
          go_wp2_with (first | rw [HHW.out] | rw [HX.out] | (at_lookup; refine wpList_lookup_mapK rfl _ _ 136 false rfl (string_keyed Tryz.underlying9) ek_string_inj Tryz.underlying136 (zero_auth _) rfl HM.out c.ent.name rfl HN1.out (.agg #[.string f, .string g]) (by rw [HIN.out]; rfl) ?_) | (at_lookup; refine wpList_lookup_mapK rfl _ _ 136 false rfl (string_keyed Tryz.underlying9) ek_string_inj Tryz.underlying136 (zero_auth _) rfl HMX.out c.ent.name rfl HN1.out (.agg #[.string f, .string g]) (by rw [HIN.out]; rfl) ?_) | (at_mapUpdate; refine wpList_update_mapK rfl _ _ _ 136 rfl (string_keyed Tryz.underlying9) ek_string_inj Tryz.underlying136 rfl HMX.out c.ent.name (f, c.who) rfl rfl HN1.out ?_; intro w2 hm2 hg2))
          go_roundw
          case rel =>
            rw [HF.out] at hm2
            exact ⟨k + 1, (if (mkF OL c.ent.name).isSome then n else n + 1), by omega, by split <;> omega, by go_num, by rw [HST.out]; exact hm2, HBX.out.grown hg2 HBX.out.size (fun q hq => by cases hq; exact Nat.le_refl _)⟩
          case measure => simp [intOf]; omega
      · have h3 : (∃ f g, mkF OL c.name = some (f, g)) ∧ ∀ v, (c.new, v) ∉ OL := by
          cases HOKC.out with
          | ren hk' h1 h2 h3 =>
            obtain ⟨⟨f, g⟩, hv⟩ := (HEQ.out c.name).2 h1
            refine ⟨⟨f, g, (mkF_iff HNO.out).2 hv⟩, fun v hv => ?_⟩
            obtain ⟨x, hx, e⟩ := (HEQ.out c.new).1 ⟨v, hv⟩
            exact h2 x hx e
          | add hk' => have := HKD.out; omega
          | set hk' => have := HKD.out; omega
          | drop hk' => have := HKD.out; omega
        obtain ⟨⟨f, g, hin⟩, hnew⟩ := h3
        have hne : c.name ≠ c.new := by
          cases HCK.out with
          | ren h0 h1 hk h2 h3 h4 h5 => exact h4
          | put h0 h1 hk => have := HKD.out; omega
          | drop h0 h1 hk => have := HKD.out; omega
        have HF := hid (mkF_ren HKD.out HND.out HNO.out hin hne hnew)
        have HIN := hid hin
        clear hin hnew hne
        go_wp2_with (first | rw [HHW.out] | (at_lookup; refine wpList_lookup_mapK rfl _ _ 136 false rfl (string_keyed Tryz.underlying9) ek_string_inj Tryz.underlying136 (zero_auth _) rfl HM.out c.name rfl HN2.out (.agg #[.string f, .string g]) (by rw [HIN.out]; rfl) ?_) | (at_mapUpdate; refine wpList_update_mapK rfl _ _ _ 136 rfl (string_keyed Tryz.underlying9) ek_string_inj Tryz.underlying136 rfl HM.out c.new (f, g) rfl rfl HN3.out ?_; intro w2 hm2 hg2; have HM2 := hid hm2; have HG2 := hid hg2; have g0 := HM.out.cell rfl hg2 g0; have g2 := HM.out.cell rfl hg2 g2) | (at_delete; refine wpList_delete_mapK rfl _ _ 136 9 rfl (string_keyed Tryz.underlying9) ek_string_inj Tryz.underlying136 rfl HM2.out c.name rfl HN2.out ?_; intro w3 n3 hm3 hg3 hn3))
        go_roundw
        case rel =>
          rw [HF.out] at hm3
          have hb2 := HBW.out.grown HG2.out HBW.out.size (fun q hq => by cases hq; exact Nat.le_refl _)
          exact ⟨k + 1, n3, by omega, by split at hn3 <;> omega, by go_num, by rw [HST.out]; exact hm3, hb2.grown hg3 hb2.size (fun q hq => by cases hq; exact Nat.le_refl _)⟩
        case measure => simp [intOf]; omega
      · have HF := hid (mkF_drop HKD.out HND.out HNO.out)
        go_wp2_with (first | rw [HHW.out] | (at_delete; refine wpList_delete_mapK rfl _ _ 136 9 rfl (string_keyed Tryz.underlying9) ek_string_inj Tryz.underlying136 rfl HM.out c.name rfl HN2.out ?_; intro w2 n2 hm2 hg2 hn2))
        go_roundw
        case rel =>
          rw [HF.out] at hm2
          exact ⟨k + 1, n2, by omega, by omega, by go_num, by rw [HST.out]; exact hm2, HBW.out.grown hg2 HBW.out.size (fun q hq => by cases hq; exact Nat.le_refl _)⟩
        case measure => simp [intOf]; omega
    · have hkl : k = cs.length := by omega
      subst hkl
      rw [List.take_of_length_le (Nat.le_refl _)] at hM
      have HM := hid hM
      clear hM
      go_wp2
      go_ret
      exact ⟨rfl, ⟨n, hnk, HM.out⟩, hb⟩
end Go.Proofs.YtlbjbmpkaniojaaGreat
namespace Go.Proofs.YtlbjbmpkaniojaaGreat
open Go Go.RowKit Go.Maps
def encM (p : Mk) : List Value := [.string p.1, .string p.2.1, .string p.2.2]
def mkC (l : List Mk) : List Value := l.flatMap encM
theorem mkC_len (l : List Mk) : (mkC l).length = l.length * 3 := by
  unfold mkC
  induction l with
  | nil => rfl
  | cons p l ih => simp [encM, ih]; omega
theorem mkC_get : ∀ (l : List Mk) (j : Nat) (h : j < l.length) (r : Nat), r < 3 → (mkC l)[j * 3 + r]? = (encM l[j])[r]?
  | [], j, h, _, _ => by simp at h
  | p :: l, 0, _, r, hr => by
    show (encM p ++ mkC l)[0 * 3 + r]? = _
    rw [Nat.zero_mul, Nat.zero_add, List.getElem?_append_left (by simp [encM]; exact hr)]
    rfl
  | p :: l, j + 1, h, r, hr => by
    show (encM p ++ mkC l)[(j + 1) * 3 + r]? = _
    have h5 : (encM p).length = 3 := rfl
    rw [List.getElem?_append_right (by rw [h5]; omega), h5, show (j + 1) * 3 + r - 3 = j * 3 + r by omega]
    exact mkC_get l j (by simpa using h) r hr
theorem mkC_snoc (l : List Mk) (x : Mk) : mkC (l ++ [x]) = mkC l ++ encM x := by simp [mkC]
theorem flat_mkC (d : Array Mk) : (Go.Sort.flatK encM 3 d).toList = mkC d.toList := by
  apply List.ext_getElem?
  intro t
  by_cases ht : t < d.size * 3
  · have h1 := Go.Sort.get_flatK encM 3 d t ht
    rw [getElem!_pos _ t (by simpa using ht)] at h1
    rw [Array.getElem?_toList, Array.getElem?_eq_getElem (by simpa using ht), h1]
    have hj : t / 3 < d.size := by omega
    rw [getElem!_pos d _ hj]
    have hm : t % 3 < 3 := Nat.mod_lt _ (by omega)
    have g := mkC_get d.toList (t / 3) (by simpa using hj) (t % 3) hm
    rw [show t / 3 * 3 + t % 3 = t by omega] at g
    rw [g]
    have h5 : t % 3 = 0 ∨ t % 3 = 1 ∨ t % 3 = 2 := by omega
    rcases h5 with e | e | e <;> (rw [e]; simp [encM])
  · rw [Array.getElem?_toList, Array.getElem?_eq_none (by simp; omega), List.getElem?_eq_none (by rw [mkC_len]; simp; omega)]
/-- a list of marks. -/
def MksAt (w : World) (u : Value) (l : List Mk) : Prop := RowK w u 3 l.length (mkC l)
theorem MksAt.nil (w : World) : MksAt w (.slice none 0 0) [] := ⟨rfl, none, 0, rfl, Nat.le_refl _, by simp, fun _ => rfl, fun j u hj => by simp [mkC] at hj⟩
theorem MksAt.below {w w' : World} {u : Value} {l : List Mk} (h : MksAt w u l) (hb : Below w.heap.size w w') : MksAt w' u l := RowK.below h hb
theorem MksAt.open {w : World} {v : Value} {l : List Mk} (h : MksAt w v l) :
    ∃ a cap, v = .slice a l.length cap ∧ l.length ≤ cap ∧ l.length ≤ 140737488355328 ∧
      ∀ j (h : j < l.length), ∃ b o, a = some ⟨b, o, none⟩ ∧ w.cell? ⟨b, o + j * 3, none⟩ = some (.string l[j].1) ∧ w.cell? ⟨b, o + j * 3 + 1, none⟩ = some (.string l[j].2.1) ∧ w.cell? ⟨b, o + j * 3 + 2, none⟩ = some (.string l[j].2.2) := by
  obtain ⟨_, a, cap, h2, h3, h4, h5, h6⟩ := h
  refine ⟨a, cap, h2, h3, h4, fun j hj => ?_⟩
  have key : ∀ r (hr : r < 3) u, (encM l[j])[r]? = some u → ∃ b o, a = some ⟨b, o, none⟩ ∧ w.cell? ⟨b, o + (j * 3 + r), none⟩ = some u := fun r hr u hu => h6 _ _ ((mkC_get l j hj r hr).trans hu)
  obtain ⟨b, o, e0, q0⟩ := key 0 (by omega) _ rfl
  have key2 : ∀ r (hr : r < 3) u, (encM l[j])[r]? = some u → w.cell? ⟨b, o + (j * 3 + r), none⟩ = some u := fun r hr u hu => by
    obtain ⟨b', o', e', q'⟩ := key r hr u hu
    rw [e0] at e'
    cases e'
    exact q'
  exact ⟨b, o, e0, q0, by rw [Nat.add_assoc]; exact key2 1 (by omega) _ rfl, by rw [Nat.add_assoc]; exact key2 2 (by omega) _ rfl⟩
theorem el_mark : ElemAt Tryz.prog 63 (.agg #[.string ⟨#[]⟩, .string ⟨#[]⟩, .string ⟨#[]⟩]) 3 48 := by unfold ElemAt; kernel_rfl
theorem row_one_mk (w : World) (x0 x1 x2 : Value) (t : TypeId) : RowK (w.alloc (.cells #[x0, x1, x2] t)) (.slice (some ⟨w.heap.size, 0, none⟩) 1 1) 3 1 [x0, x1, x2] := by
  refine ⟨rfl, _, _, rfl, Nat.le_refl _, by omega, (fun h => by cases h), fun j u hj => ⟨_, _, rfl, ?_⟩⟩
  rw [World.cell?_alloc_new, Nat.zero_add]
  simpa using hj
set_option maxRecDepth 100000 in
theorem blame_marks1 (x y : Mk) (w : World) :
    Calls Tryz.prog 137 #[.agg #[.string x.1, .string x.2.1, .string x.2.2], .agg #[.string y.1, .string y.2.1, .string y.2.2]] w fun e w' => e = .returned (.int .i64 (cpN x.1 y.1)) ∧ ∃ q os, w' = Go.Sort.grow (w.drewN q) os := by
  have HG := hid (gw2 w (.cells #[.string x.1, .string x.2.1, .string x.2.2] 63) (.cells #[.string y.1, .string y.2.1, .string y.2.2] 63))
  go_enter Tryz.func137, Tryz.ntmps137
  go_wp2_with (go_at_call 117; refine (str_Compare _ _ _).mono ?_; rintro e w' ⟨rfl, rfl⟩)
  go_ret
  exact ⟨rfl, _, _, HG.out⟩
def cpM (a b : Mk) : Int := cpN a.1 b.1
instance : Inhabited Mk := ⟨(em, em, em)⟩
set_option maxRecDepth 100000 in
theorem sort_marks (base g n c : Nat) (l : List Mk) (w : World) (hl : l.length = n) (hn1 : n ≤ 100000) (htop : w.ownsRow base 63 3 (.slice (some ⟨g, 0, none⟩) n c) n (mkC l)) :
    Calls Tryz.prog 136 #[.slice (some ⟨g, 0, none⟩) n c, .func (.func 137) #[] #[]] w fun e w' => ∃ l', e = .returned (.tuple #[]) ∧ w'.ownsRow base 63 3 (.slice (some ⟨g, 0, none⟩) n c) n (mkC l') ∧ l'.length = n ∧ l'.Perm l ∧ l'.Pairwise (fun a b => ¬ ltN b.1 a.1) ∧ Kb (fun k => k = g) w w' := by
  have hblk : g < w.heap.size := (htop.lt g rfl).2
  have hsw : Go.Sort.SWO (ltOf cpM) := {
    irrefl := fun x => by unfold ltOf; exact decide_eq_false (fun h => ltN.irr _ (cpN_lt.1 h))
    trans := fun x y z h1 h2 => by
      unfold ltOf at *; rw [decide_eq_true_eq] at *; exact cpN_lt.2 ((cpN_lt.1 h1).trans (cpN_lt.1 h2))
    ntrans := fun x y z h1 h2 => by
      unfold ltOf cpM at *
      rw [decide_eq_false_iff_not, cpN_lt] at *
      intro h3
      rcases ltN.tri x.1 y.1 with k | k | k
      · exact h1 k
      · rw [k] at h3; exact h2 h3
      · exact h2 (ltN.trans k h3) }
  have hds : l.toArray.size = n := by simpa using hl
  have hH : Go.Sort.HoldsK encM 3 w g 0 l.toArray := fun j hj => by
    have hj : j < n * 3 := by simpa [hl] using hj
    rw [Nat.zero_add]
    have hc := htop.cellAt j hj
    refine ⟨?_, htop.frozenAt j⟩
    rw [hc]
    have e : (Go.Sort.flatK encM 3 l.toArray).toList = mkC l := flat_mkC l.toArray
    rw [← e, Array.getElem?_toList, Array.getElem?_eq_getElem (by simpa [hl] using hj), getElem!_pos _ j (by simpa [hl] using hj)]
    rfl
  have hcon := AnyQ.slices_SortFunc Tryz.sort136 3 (fun w => by kernel_rfl) (fun w => by kernel_rfl) encM (fun _ => rfl) (fun p v hv => by
      simp [encM] at hv
      rcases hv with rfl | rfl | rfl <;> rfl) cpM hsw 137 #[] g 0 c l.toArray w (enters_of Tryz.func137 (by kernel_rfl) rfl)
    (fun m os dk hs x y => blame_marks1 x y _) hH hblk (by omega)
  rw [hds] at hcon
  change Calls Tryz.prog 136 _ _ _ at hcon
  refine hcon.mono ?_
  rintro e w' ⟨rfl, d', m, os, hp, hsd, rfl⟩
  obtain ⟨hps, -, hpp⟩ := hp
  have hds' : d'.size = n := by rw [hps]; exact hds
  have hpp : d'.toList.Perm l := by
    have ex : ∀ (D : Array Mk) (m : Nat), D.size = m → D.extract 0 m = D := fun D m h => by subst h; simp
    have e1 := ex d' n hds'
    have e2 := ex l.toArray n hds
    rw [e1, e2] at hpp
    simpa using hpp
  refine ⟨d'.toList, rfl, ?_, by simpa using hds', hpp, ?_, kb_sort id w g m (Go.Sort.flatK encM 3 d') os⟩
  · rw [← flat_mkC]
    exact own_sortK htop m (Go.Sort.flatK encM 3 d') (by simp [hds']) os
  · rw [List.pairwise_iff_getElem]
    intro i j hi hj hij
    have := hsd i j (Nat.zero_le _) hij (by simpa [hds'] using hj)
    unfold ltOf cpM at this
    rw [decide_eq_false_iff_not, getElem!_pos d' j (by simpa using hj), getElem!_pos d' i (by simpa using hi), cpN_lt] at this
    simpa using this
theorem sort_marks0 (p : Option Addr) (c : Nat) (fv : Value) (w : World) : Calls Tryz.prog 136 #[.slice p 0 c, fv] w fun e w' => e = .returned (.tuple #[]) ∧ w' = w :=
  AnyF.slices_SortFunc_none Tryz.sort136 p c fv w
theorem sort_mks (base : Nat) (u : Value) (l : List Mk) (w : World) (hl1 : l.length ≤ 1000) (h : w.ownsRow base 63 3 u l.length (mkC l)) (hbw : base ≤ w.heap.size) :
    Calls Tryz.prog 136 #[u, .func (.func 137) #[] #[]] w fun e w' => ∃ l', e = .returned (.tuple #[]) ∧ w'.ownsRow base 63 3 u l.length (mkC l') ∧ l'.length = l.length ∧ l'.Perm l ∧ l'.Pairwise (fun a b => ¬ ltN b.1 a.1) ∧ Below base w w' := by
  have h' := h
  rcases h.2 with ⟨hn, h0⟩ | ⟨g, cap, cur, rfl, hg, -⟩
  · obtain ⟨a, c, rfl⟩ := owns_slice h
    rw [h0] at h' ⊢
    refine (sort_marks0 a c _ w).mono ?_
    rintro e w' ⟨rfl, rfl⟩
    exact ⟨l, rfl, h', h0, List.Perm.refl _, by rw [List.eq_nil_of_length_eq_zero h0]; exact List.Pairwise.nil, Below.refl _ _⟩
  · refine (sort_marks base g l.length cap l w rfl (by omega) h').mono ?_
    rintro e w' ⟨l', rfl, h1, h2, h3, h4, h5⟩
    exact ⟨l', rfl, h1, h2, h3, h4, below_of_kb (Below.refl _ _) h5 hg hbw⟩
theorem mkStep_len (o : List Mk) (c : Chg) : (mkStep o c).length ≤ o.length + 1 := by
  unfold mkStep mkAdd
  rw [List.length_append]
  have := List.length_filterMap_le (mk1 c) o
  split <;> simp <;> omega
theorem mkAll_len : ∀ (cs : List Chg) (o : List Mk), (cs.foldl mkStep o).length ≤ o.length + cs.length
  | [], o => by simp
  | c :: cs, o => by
    have h1 := mkAll_len cs (mkStep o c)
    have h2 := mkStep_len o c
    simp only [List.foldl_cons, List.length_cons]; omega
theorem marks_eq {L O : List Mk} (hO : (O.map Prod.fst).Nodup) (hL : (L.map Prod.fst).Nodup) (h1 : ∀ x v, (x, v) ∈ L → mkF O x = some v) (h2 : ∀ x, (mkF O x).isSome = true → x ∈ L.map Prod.fst) {M : List Mk} (hp : M.Perm L) (hs : M.Pairwise fun a b => ¬ ltN b.1 a.1) : M = srMk O := by
  have hn : (M.map Prod.fst).Nodup := (hp.map Prod.fst).nodup_iff.2 hL
  rw [List.Nodup, List.pairwise_map] at hn
  have hasc : AsMk M := (hs.and hn).imp fun {a b} ⟨q1, q2⟩ => by
    rcases ltN.tri a.1 b.1 with k | k | k
    · exact k
    · exact absurd k q2
    · exact absurd k q1
  refine hasc.unique (srMk_asc hO) fun z => ?_
  rw [hp.mem_iff, srMk_mem]
  obtain ⟨x, v⟩ := z
  constructor
  · intro h; exact (mkF_iff hO).1 (h1 x v h)
  · intro h
    have h3 := (mkF_iff hO).2 h
    obtain ⟨⟨a, b⟩, hm, e⟩ := List.mem_map.1 (h2 x (by rw [h3]; rfl))
    have e : a = x := e
    subst e
    have h4 := h1 _ _ hm
    rw [h3] at h4
    cases h4
    exact hm
set_option maxHeartbeats 8000000 in
set_option maxRecDepth 100000 in
theorem blame_marks (vc : Value) (s : Sg) (cs : List Chg) (w : World) (hc : ChsAt w vc cs) (hs : signB s = true) (hcs : ∀ c ∈ cs, chgB s c = true) (hp : (playL [] cs 0).2.2 = 0) (hl : cs.length ≤ 1000) :
    Calls Tryz.prog 91 #[vc] w fun e w' => ∃ u, e = .returned u ∧ MksAt w' u (srMk (mkAll cs)) ∧ Below w.heap.size w w' := by
  have HA := hid (blame_authors vc s cs w hc hs hcs hp)
  have hinv := mk_inv hs hcs hp cs.length (Nat.le_refl _)
  rw [List.take_of_length_le (Nat.le_refl _)] at hinv
  have HNO := hid hinv.nd
  have HAL := hid (show (mkAll cs).length ≤ 1000 from Nat.le_trans (mkAll_len cs []) (by simp; omega))
  obtain ⟨O, hO⟩ : ∃ O, mkAll cs = O := ⟨_, rfl⟩
  rw [hO] at HA HNO HAL ⊢
  clear hc hs hcs hp hinv hO
  go_enter Tryz.func91, Tryz.ntmps91
  go_wp2_with fail
  refine HA.out.mono ?_
  rintro e w1 ⟨rfl, ⟨n, hn, hM⟩, hb1⟩
  have HM := hid hM
  have HB1 := hid hb1
  obtain ⟨D, hD, hLf⟩ := MapK.ownsN hM Tryz.underlying9 (by simp only [maxLen]; omega)
  have HD := hid hD
  have HLF := hid hLf
  have hbm := hM.lt
  clear hM hD hLf HA hb1
  go_wp2_with (first | (at_range; refine wpList_range_own _ rfl _ 136 rfl 9 139 (string_keyed Tryz.underlying9) Tryz.underlying136 heldR w.heap.size n D rfl HD.out ?_; intro w2 hrg hg2 hs2))
  go_frame
  have hw12 : w1.heap.size < w2.heap.size := by omega
  have HRG := hid hrg
  have HM2 := hid (HM.out.kept hg2 (by simp))
  have HB2 := hid (HB1.out.grown hg2 HB1.out.size (fun q hq => by cases hq))
  have HROW := hid (World.ownsRow_nil w2 w2.heap.size 63 3)
  clear hrg hg2 hs2
  go_loopw [3] (fun uo wr => ∃ (left : Lit → Bool) (cnt : Nat) (L : List Mk), wr.ranges Tryz.prog 9 heldR w.heap.size w1.heap.size n D left cnt ∧ LfN left (mkF O) (L.map Prod.fst) ∧ AMap wr w.heap.size n (mkF O) ∧ (∀ x v, (x, v) ∈ L → mkF O x = some v) ∧ (L.map Prod.fst).Nodup ∧
    wr.ownsRow w2.heap.size 63 3 uo L.length (mkC L) ∧ Below w.heap.size w wr ∧ w2.heap.size ≤ wr.heap.size) (fun _ wr => wr.rangeLeft w.heap.size w1.heap.size)
  case atStart => exact ⟨_, _, [], HRG.out, HLF.out, HM2.out, (fun x v h => by cases h), by simp, HROW.out, HB2.out, Nat.le_refl _⟩
  case round =>
    clear HRG HM2 HB2 HROW HLF
    obtain ⟨left, cnt, L, hrg, hlf, hm, hin, hnd, hown, hb, hw2⟩ := hrel
    have hLO : L.length ≤ 1000 := Nat.le_trans (nd_len_le ((List.pairwise_map.1 hnd).imp fun h e => h (congrArg Prod.fst e)) (fun x hx => (mkF_iff HNO.out).1 (hin x.1 x.2 hx))) HAL.out
    have HRG := hid hrg
    have HLF := hid hlf
    have HM := hid hm
    have HIN := hid hin
    have HND := hid hnd
    have HOWN := hid hown
    have HB := hid hb
    obtain ⟨ua, uc, rfl⟩ := owns_slice hown
    clear hrg hlf hm hin hnd hown hb
    go_wp2_with (first
      | (rw [HX.out])
      | (at_next; refine wpList_next_names _ rfl _ rfl 136 9 139 (string_keyed Tryz.underlying9) Tryz.underlying9 Tryz.underlying136 zero_auth w.heap.size w1.heap.size n D left cnt (L.map Prod.fst) rfl HRG.out HM.out HLF.out ?_ ?_; rotate_left; intro x y w7 left7 cnt7 hFx hxV hxs hrg7 hlf7 hM7 hlt7 hg7 hs7 hen; obtain ⟨f, g⟩ := y; simp only [evA] at hen ⊢; have hz7 : w2.heap.size ≤ w7.heap.size := Nat.le_trans hw2 (Nat.le_of_eq hs7.symm); clear hs7; have HRG7 := hid hrg7; have HLF7 := hid hlf7; have HM7 := hid hM7; have HFX := hid hFx; have HXV := hid hxV; have HB7 := hid (HB.out.grown hg7 HB.out.size (fun q hq => by cases hq; exact HB1.out.size)); have HO7 := hid (owns_grown HOWN.out hg7 (fun q hq => by cases hq; exact hw12)); have HCNT := hid hlt7; clear hrg7 hlf7 hM7 hFx hxV hg7 hlt7; obtain ⟨X, hX⟩ : ∃ X, w7.alloc (.cells #[.string f, .string g] 139) = X := ⟨_, rfl⟩; have x0 : X.cell? ⟨w7.heap.size, 0, none⟩ = some (.string f) := (by rw [← hX, World.cell?_alloc_new]; rfl); have x1 : X.cell? ⟨w7.heap.size, 1, none⟩ = some (.string g) := (by rw [← hX, World.cell?_alloc_new]; rfl); have hbX : Below w7.heap.size w7 X := hX ▸ (Below.refl _ _).alloc (Nat.le_refl _) _; have HBX := hid hbX; have hzX : w2.heap.size ≤ X.heap.size := Nat.le_trans hz7 hbX.size; have HX := hid hX; have HROW := hid (row_one_mk X (.string x) (.string f) (.string g) 63); have hownA := (owns_below HO7.out hbX).alloc (.cells #[.string x, .string f, .string g] 63); clear hX hbX; rotate_left; intro hdone)
      | (at_builtin; (refine wpList_append_lie rfl _ _ 59 rfl w2.heap.size 63 el_mark Tryz.underlying59 rfl (by decide) _ L.length (mkC L) rfl hownA _ 1 (encM (x, f, g)) rfl HROW.out (fun u hu => by simp [encM] at hu; rcases hu with rfl | rfl | rfl <;> rfl) (by omega) (by omega) (by omega) (by simp; omega) _ rfl ?_; intro g8 cap8 w8 hown8 hgrow8 hat8 hlt8)))
    · refine (sort_mks w2.heap.size _ L wr hLO HOWN.out hw2).mono ?_
      rintro e w9 ⟨L', rfl, ho9, hlen9, hp9, hs9, hb9⟩
      have HE := hid (marks_eq HNO.out HND.out HIN.out hdone hp9 hs9)
      have HO9 := hid ho9
      have HB9 := hid (HB.out.trans (hb9.mono (Nat.le_trans (Nat.le_of_lt hbm) (Nat.le_of_lt hw12))))
      have HL9 := hid hlen9
      clear ho9 hlen9 hp9 hs9 hb9 hdone
      go_wp2
      go_ret
      refine ⟨_, rfl, ?_, HB9.out⟩
      rw [← HE.out]
      have h := RowK.of_owns HO9.out (by omega)
      unfold MksAt
      rw [HL9.out]
      exact h
    · have hne1 : some w.heap.size ≠ (Value.slice ua L.length uc).ownBlock := fun e => by have := (HOWN.out.lt _ e.symm).1; omega
      have hne2 : some w1.heap.size ≠ (Value.slice ua L.length uc).ownBlock := fun e => by have := (HOWN.out.lt _ e.symm).1; omega
      have hr1 := HRG7.out.alloc (.cells #[.string f, .string g] 139)
      have hm1 := HM7.out.alloc (.cells #[.string f, .string g] 139)
      rw [HX.out] at hr1 hm1
      have hr2 := (hr1.alloc (.cells #[.string x, .string f, .string g] 63)).kept hgrow8 hne1 hne2
      have hm2 := (hm1.alloc (.cells #[.string x, .string f, .string g] 63)).kept hgrow8 hne1
      have hbA : Below X.heap.size X (X.alloc (.cells #[.string x, .string f, .string g] 63)) := (Below.refl _ _).alloc (Nat.le_refl _) _
      have hb8 := ((HB7.out.trans (HBX.out.mono HB7.out.size)).trans (hbA.mono (HB7.out.trans (HBX.out.mono HB7.out.size)).size)).grown hgrow8 (Nat.le_trans (HB7.out.trans (HBX.out.mono HB7.out.size)).size hbA.size) (fun q hq => by have := (HOWN.out.lt _ hq).1; omega)
      refine ⟨⟨left7, cnt7, L ++ [(x, f, g)], hr2, by simpa using HLF7.out, hm2, fun x' v hv => ?_, ?_, ?_, hb8, Nat.le_trans (Nat.le_trans hzX hbA.size) hgrow8.size⟩, ?_⟩
      · rcases List.mem_append.1 hv with hv | hv
        · exact HIN.out _ _ hv
        · simp at hv
          obtain ⟨rfl, rfl⟩ := hv
          exact HFX.out
      · rw [List.map_append, List.nodup_append]
        refine ⟨HND.out, by simp, fun a ha b hb e => ?_⟩
        simp at hb
        subst hb e
        exact HXV.out ha
      · rw [mkC_snoc]; simpa using hown8
      · rw [hr2.left_eq, HRG.out.left_eq]; exact HCNT.out
theorem blameL_1 {s : Sg} {cs : List Chg} (h : lstL s cs ≠ 0) : blameL s cs = ([], lstL s cs) := by unfold blameL; rw [if_neg h]
theorem blameL_2 {s : Sg} {cs : List Chg} (h : lstL s cs = 0) (h2 : (playL [] cs 0).2.2 ≠ 0) : blameL s cs = ([], (playL [] cs 0).2.2) := by unfold blameL; rw [if_pos h, if_neg h2]
theorem blameL_3 {s : Sg} {cs : List Chg} (h : lstL s cs = 0) (h2 : (playL [] cs 0).2.2 = 0) : blameL s cs = (srMk (mkAll cs), 0) := by unfold blameL; rw [if_pos h, if_pos h2]
/-- the edition that changes make, or the error. -/
def wholeL (s : Sg) (cs : List Chg) : List En × Int := if lstL s cs = 0 then ((playL [] cs 0).1, (playL [] cs 0).2.2) else ([], lstL s cs)
theorem blame_whole (vs vc : Value) (s : Sg) (cs : List Chg) (w : World) (hs : SignAt w vs s) (hc : ChsAt w vc cs) (hs1 : s.length ≤ 1000) :
    Calls Tryz.prog 90 #[vs, vc] w fun e w' => ∃ u, e = .returned (.tuple #[u, .int .i64 (wholeL s cs).2]) ∧ EntsAt w' u (wholeL s cs).1 ∧ Below w.heap.size w w' := by
  have HL := hid (blame_listed vs vc s cs w hs hc hs1)
  have HC := hid hc
  obtain ⟨ca, cc, rfl, -⟩ := hc.open
  clear hc hs
  by_cases h2 : lstL s cs = 0
  · have HF : Hid (wholeL s cs = ((playL [] cs 0).1, (playL [] cs 0).2.2)) := hid (by unfold wholeL; rw [if_pos h2])
    have HP := hid (fun (X : World) (hX : Below w.heap.size w X) => blame_played (.slice none 0 0) _ s [] cs X (EntsAt.nil _) (HC.out.below hX) (edB_nil (lstL_ok.1 h2).1) (lstL_ok.1 h2).2.1)
    rw [h2] at HL
    clear h2
    go_enter Tryz.func90, Tryz.ntmps90
    go_wp2_with fail
    refine HL.out.mono ?_
    rintro e w1 ⟨rfl, hb1⟩
    have HP1 := hid (HP.out w1 hb1)
    go_wp2_with fail
    refine HP1.out.mono ?_
    rintro e w2 ⟨u, rfl, hu, hb2⟩
    have HU := hid hu
    have HB2 := hid (hb1.trans (hb2.mono hb1.size))
    obtain ⟨ra, rc, rfl, -⟩ := hu.open
    clear hu hb1 hb2
    go_wp2
    go_ret2
    exact ⟨_, by rw [HF.out]; rfl, by rw [HF.out]; exact HU.out, HB2.out⟩
  · have HF : Hid (wholeL s cs = ([], lstL s cs)) := hid (by unfold wholeL; rw [if_neg h2])
    have n2 : (lstL s cs != 0) = true := by simpa using h2
    obtain ⟨er, her⟩ : ∃ er, lstL s cs = er := ⟨_, rfl⟩
    rw [her] at HF n2 HL
    clear h2 her
    go_enter Tryz.func90, Tryz.ntmps90
    go_wp2_with fail
    refine HL.out.mono ?_
    rintro e w1 ⟨rfl, hb1⟩
    go_wp2
    go_ret2
    exact ⟨_, by rw [HF.out]; rfl, by rw [HF.out]; exact EntsAt.nil _, hb1⟩
theorem blame_Blame (vs vc : Value) (s : Sg) (cs : List Chg) (w : World) (hs : SignAt w vs s) (hc : ChsAt w vc cs) (hs1 : s.length ≤ 1000) :
    Calls Tryz.prog 37 #[vs, vc] w fun e w' => ∃ u, e = .returned (.tuple #[u, .int .i64 (blameL s cs).2]) ∧ MksAt w' u (blameL s cs).1 ∧ Below w.heap.size w w' := by
  have HW := hid (blame_whole vs vc s cs w hs hc hs1)
  have HC := hid hc
  obtain ⟨ca, cc, rfl, -⟩ := hc.open
  clear hc hs
  by_cases h : (wholeL s cs).2 = 0
  · have h3 : lstL s cs = 0 ∧ (playL [] cs 0).2.2 = 0 := by
      unfold wholeL at h
      split at h
      · rename_i h1; exact ⟨h1, h⟩
      · rename_i h1; exact absurd h h1
    have HF := hid (blameL_3 h3.1 h3.2)
    have HM := hid (fun (X : World) (hX : Below w.heap.size w X) => blame_marks _ s cs X (HC.out.below hX) (lstL_ok.1 h3.1).1 (lstL_ok.1 h3.1).2.1 h3.2 (by have := (lstL_ok.1 h3.1).2.2; omega))
    rw [h] at HW
    clear h h3
    go_enter Tryz.func37, Tryz.ntmps37
    go_wp2_with fail
    refine HW.out.mono ?_
    rintro e w1 ⟨u, rfl, -, hb1⟩
    have HM1 := hid (HM.out w1 hb1)
    have HB1 := hid hb1
    clear hb1
    go_wp2_with fail
    refine HM1.out.mono ?_
    rintro e w2 ⟨u2, rfl, hu2, hb2⟩
    have HU := hid hu2
    have HB2 := hid (HB1.out.trans (hb2.mono HB1.out.size))
    obtain ⟨ra, rc, rfl, -⟩ := hu2.open
    clear hu2 hb2
    go_wp2
    go_ret2
    exact ⟨_, by rw [HF.out]; rfl, by rw [HF.out]; exact HU.out, HB2.out⟩
  · have HF : Hid (blameL s cs = ([], (wholeL s cs).2)) := hid (by
      unfold wholeL at h ⊢
      split
      · rename_i h1; rw [if_pos h1] at h; exact blameL_2 h1 h
      · rename_i h1; exact blameL_1 h1)
    have n2 : ((wholeL s cs).2 != 0) = true := by simpa using h
    obtain ⟨er, her⟩ : ∃ er, (wholeL s cs).2 = er := ⟨_, rfl⟩
    rw [her] at HF n2 HW
    clear h her
    go_enter Tryz.func37, Tryz.ntmps37
    go_wp2_with fail
    refine HW.out.mono ?_
    rintro e w1 ⟨u, rfl, -, hb1⟩
    go_wp2
    go_ret2
    exact ⟨_, by rw [HF.out]; rfl, by rw [HF.out]; exact MksAt.nil _, hb1⟩
end Go.Proofs.YtlbjbmpkaniojaaGreat
