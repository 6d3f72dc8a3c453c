/-
  WHAT IT HOLDS: contracts of carried and Carried of package tongue: what a dictionary makes of a term. Conditions: the arguments read as data; small signs.
  WHAT IT HOLDS: contracts of carried and Carried of package tongue. Conditions: the arguments read as data; small signs.
  WHAT IT HOLDS: the plain law of TopCarriedUnify: what is unified, and whether, is carried by a dictionary that is one to one. No program in sight.
  WHAT IT HOLDS: plain theory: what is detached of carried and renamed statements is the carried and renamed detachment. No program in sight.
  WHAT IT HOLDS: plain theory: detaching, carried by a dictionary that is one to one. No program in sight.
-/
import Derived.Test.YtalodmochkodiaaGreatZRTopCarried25
import Derived.Test.YtalodmochkodiaaGreatZRTopCarried19
import Derived.Test.YtalodmochkodiaaGreatZRTopCarried12
import Derived.Test.YtalodmochkodiaaGreatZRTopCarried4
import Derived.Test.YtalodmochkodiaaGreatZRTopCarried17
import Derived.Test.YtalodmochkodiaaGreatZRTopCarried22
import Derived.Test.YtalodmochkodiaaGreatZRTopCarried36
namespace Go.Proofs.YtalodmochkodiaaGreat
open Go Go.RowKit Go.Maps Go.Shelf
theorem grown_set {w : World} {b : Nat} (v : Value) : w.grownBy (w.setCell ⟨b, 0, none⟩ v) (some b) := by
  have h := Kb.setCell (M := fun k => k = b) (A := w) (p := ⟨b, 0, none⟩) v rfl
  exact ⟨h.os, h.tape, h.output, h.size, fun k hk hne => h.same k hk fun e => hne (by rw [e])⟩
theorem grown_cell {w w' : World} {b : Nat} {a : Addr} {v : Value} (h : w.cell? a = some v) (hg : w.grownBy w' (some b)) (hne : b ≠ a.block) : w'.cell? a = some v :=
  (World.cell?_of_block (hg.block _ (World.block_lt_of_cell? _ _ h) (by simpa using fun e => hne e.symm))).trans h
/-- a row is pushed that is newer than the slice of slices, where only one elder block was turned since. -/
theorem NR.pushKept {w0 w w1 : World} {base base' : Nat} {E e : TypeId} {u : Value} {vs : List Value} {gs : List (List Int)} {r : Option Nat} (h0 : NR w0 base E e u vs gs) (hB : w0.heap.size ≤ base') (hbb : base ≤ base') (hb : w0.grownBy w r) (hr : ∀ q, r = some q → q < base) {v : Value} {g : List Int}
    (hv : w.ownsRow base' e 1 v g.length (g.map (Value.int .i64))) {gg cap n : Nat} (hn : n = gs.length)
    (hown : w1.ownsRow base E 1 (.slice (some ⟨gg, 0, none⟩) (n + 1) cap) (n + 1) (vs ++ [v])) (hg : w.grownBy w1 u.ownBlock) {H : Nat} (hH : H = w.heap.size) (hat : u.ownBlock = some gg ∨ gg = H) : NR w1 base E e (.slice (some ⟨gg, 0, none⟩) (n + 1) cap) (vs ++ [v]) (gs ++ [g]) := by
  subst hn
  refine (h0.kept hb hr).push (owns_base hv hbb) (fun q hq v' hv' he => ?_) (fun hne he => ?_) hown hg ?_
  · have h1 := h0.block_lt hv' he
    have h2 := hv.lt q hq
    omega
  · obtain ⟨q, hq⟩ := Option.ne_none_iff_exists'.1 hne
    have h1 := hv.lt q hq
    have h2 := h0.top.lt q (by rw [← he]; exact hq)
    omega
  · rcases hat with ha | ha
    · exact Or.inl (by rw [ha]; rfl)
    · exact Or.inr ⟨gg, rfl, by omega⟩
def fnCr (bt ba bs bw bd : Nat) : Value := .func (.func 344) #[] #[.pointer (some ⟨bt, 0, none⟩), .pointer (some ⟨ba, 0, none⟩), .pointer (some ⟨bs, 0, none⟩), .pointer (some ⟨bw, 0, none⟩), .pointer (some ⟨bd, 0, none⟩)]
/-- what the walk over a term holds. -/
structure CrE (bt ba bs bw bd : Nat) (vt vs vd : Value) (i : Int) (w : World) : Prop where
  t : w.cell? ⟨bt, 0, none⟩ = some vt
  s : w.cell? ⟨bs, 0, none⟩ = some vs
  f : w.cell? ⟨bw, 0, none⟩ = some (fnCr bt ba bs bw bd)
  d : w.cell? ⟨bd, 0, none⟩ = some vd
  a : w.cell? ⟨ba, 0, none⟩ = some (.int .i64 i)
  z : w.frozen? ⟨ba, 0, none⟩ = false
theorem CrE.below {bt ba bs bw bd : Nat} {vt vs vd : Value} {i : Int} {w w' : World} (h : CrE bt ba bs bw bd vt vs vd i w) (hb : Below w.heap.size w w') : CrE bt ba bs bw bd vt vs vd i w' :=
  have lt := World.block_lt_of_cell? _ _ h.a
  ⟨(hb.cell (World.block_lt_of_cell? _ _ h.t)).trans h.t, (hb.cell (World.block_lt_of_cell? _ _ h.s)).trans h.s, (hb.cell (World.block_lt_of_cell? _ _ h.f)).trans h.f, (hb.cell (World.block_lt_of_cell? _ _ h.d)).trans h.d, (hb.cell lt).trans h.a, (hb.frozen lt).trans h.z⟩
/-- other blocks and the own one apart, the cell of the index aside. -/
theorem CrE.turn {bt ba bs bw bd : Nat} {vt vs vd : Value} {i j : Int} {w w' : World} (hne : ba ≠ bt ∧ ba ≠ bs ∧ ba ≠ bw ∧ ba ≠ bd) (h : CrE bt ba bs bw bd vt vs vd i w) (hg : w.grownBy w' (some ba)) (ha : w'.cell? ⟨ba, 0, none⟩ = some (.int .i64 j)) (hz : w'.frozen? ⟨ba, 0, none⟩ = false) : CrE bt ba bs bw bd vt vs vd j w' :=
  ⟨grown_cell h.t hg hne.1, grown_cell h.s hg hne.2.1, grown_cell h.f hg hne.2.2.1, grown_cell h.d hg hne.2.2.2, ha, hz⟩
theorem CrE.set {bt ba bs bw bd : Nat} {vt vs vd : Value} {i : Int} {w : World} (hne : ba ≠ bt ∧ ba ≠ bs ∧ ba ≠ bw ∧ ba ≠ bd) (h : CrE bt ba bs bw bd vt vs vd i w) (j : Int) : CrE bt ba bs bw bd vt vs vd j (w.setCell ⟨ba, 0, none⟩ (.int .i64 j)) := by
  refine h.turn hne (grown_set _) ?_ ?_
  · exact World.cell?_setCell_same _ _ _ h.a
  · rw [World.frozen?_setCell]; exact h.z
theorem CrE.own {bt ba bs bw bd : Nat} {vt vs vd : Value} {i j : Int} {w W W' : World} {r : Option Nat} (h : CrE bt ba bs bw bd vt vs vd i w) (hW : CrE bt ba bs bw bd vt vs vd j W) (hg : W.grownBy W' r) (hr : ∀ q, r = some q → w.heap.size ≤ q) : CrE bt ba bs bw bd vt vs vd j W' := by
  have key : ∀ {a : Addr} {v v' : Value}, w.cell? a = some v → W.cell? a = some v' → W'.heap[a.block]? = W.heap[a.block]? := fun {a v v'} h1 h2 =>
    hg.block _ (World.block_lt_of_cell? _ _ h2) (fun e => by have := hr _ e.symm; have := World.block_lt_of_cell? _ _ h1; omega)
  exact ⟨(World.cell?_of_block (key h.t hW.t)).trans hW.t, (World.cell?_of_block (key h.s hW.s)).trans hW.s, (World.cell?_of_block (key h.f hW.f)).trans hW.f, (World.cell?_of_block (key h.d hW.d)).trans hW.d, (World.cell?_of_block (key h.a hW.a)).trans hW.a, (World.frozen?_of_block (key h.a hW.a)).trans hW.z⟩
def CrP (s : Sg) (d : Dic) (p : List Int) (i : Int) (bt ba bs bw bd : Nat) (vt vs vd : Value) (w : World) (e : Ending) (w' : World) : Prop :=
  ∃ u, e = .returned u ∧ w'.ownsRow w.heap.size 3 1 u (carL s d p).length ((carL s d p).map (Value.int .i64)) ∧ w.grownBy w' (some ba) ∧ CrE bt ba bs bw bd vt vs vd (i + p.length) w'
/-- what is put together of the first arguments. -/
def CrX (s : Sg) (d : Dic) (zs : List (List Int)) (l : List Int) (ton k : Nat) : List Int := (ton : Int) :: ((l.take k).map fun q => (zs.map (carL s d)).getD q.toNat []).flatten
theorem CrX_succ {s : Sg} {d : Dic} {zs : List (List Int)} {l : List Int} {ton k m : Nat} (hk : k < l.length) (hm : l[k] = (m : Int)) (hml : m < zs.length) : CrX s d zs l ton (k + 1) = CrX s d zs l ton k ++ carL s d zs[m] := by
  unfold CrX
  rw [List.take_succ_eq_append_getElem hk, List.map_append, List.flatten_append, hm]
  simp [List.getD_eq_getElem?_getD, hml]
/-- how far the arguments have been carried. -/
def CrA (s : Sg) (d : Dic) (zs : List (List Int)) (i : Nat) (bt ba bs bw bd : Nat) (vt vs vd : Value) (w : World) (u q : Value) (wr : World) : Prop :=
  ∃ (k : Nat) (ws : List Value), k ≤ zs.length ∧ q = .int .i64 k ∧ NR wr w.heap.size 37 3 u ws ((zs.take k).map (carL s d)) ∧ w.grownBy wr (some ba) ∧ CrE bt ba bs bw bd vt vs vd ((i + 1 + (zs.take k).flatten.length : Nat) : Int) wr
set_option maxHeartbeats 4000000 in
set_option maxRecDepth 100000 in
theorem tongue_carried1 (bt ba bs bw bd : Nat) (vt vs vd : Value) (s b : Sg) (d : Dic) (T : List Int) (wb : World) (hs : SignAt wb vs s) (hT : Ints wb vt T) (hd : BindsAt wb vd d) (hok : DicOK s b d) (hne : ba ≠ bt ∧ ba ≠ bs ∧ ba ≠ bw ∧ ba ≠ bd) (hba : wb.heap.size ≤ ba)
    (hTl : T.length ≤ 60) {p : List Int} (hp : IsT s 12 p) : ∀ (i : Nat) (r : List Int) (w : World), T.drop i = p ++ r → Below wb.heap.size wb w → CrE bt ba bs bw bd vt vs vd i w →
      Calls Tryz.prog 344 #[.pointer (some ⟨bt, 0, none⟩), .pointer (some ⟨ba, 0, none⟩), .pointer (some ⟨bs, 0, none⟩), .pointer (some ⟨bw, 0, none⟩), .pointer (some ⟨bd, 0, none⟩)] w (CrP s d p i bt ba bs bw bd vt vs vd w) := by
  obtain ⟨ta, tc, rfl, -, -, -, TC⟩ := hT.open
  obtain ⟨sa, sc, rfl, -, -, -, SC⟩ := hs.open
  obtain ⟨da, dc, rfl, -, -, -, DC⟩ := hd.open
  have TC := hid TC
  have SC := hid SC
  have DC := hid DC
  have HOK := hid hok
  have HNE := hid hne
  obtain ⟨ls1, ls2⟩ := sign_len hok.sa
  clear hT hs hd hok hne
  induction hp with
  | var n h1 h2 =>
    intro i r w hdr hb hE
    have hi : i < T.length := by have := congrArg List.length hdr; simp at this; omega
    have hTi : T[i] = n := by
      have := List.getElem_drop (xs := T) (i := i) (j := 0) (h := by simp; omega)
      simp only [Nat.add_zero] at this
      rw [← this]
      simp [hdr]
    obtain ⟨tb, to, rfl, ct0⟩ := TC.out i hi
    rw [hTi] at ct0
    have ct := (hb.cell (World.block_lt_of_cell? _ _ ct0)).trans ct0
    have et := hE.t
    have ea := hE.a
    have ez := hE.z
    have i0 : (0 : Int) ≤ (i : Int) := by omega
    have i1 : (i : Int) < (T.length : Int) := by omega
    have HE := hid hE
    have hlt := World.block_lt_of_cell? _ _ ea
    have HG := hid (grown_set (w := w) (b := ba) (.int .i64 ((i : Int) + 1)))
    have HE2 := hid (hE.set HNE.out ((i : Int) + 1))
    have e2 := HE2.out.a
    obtain ⟨W1, hW1⟩ : ∃ W1, w.setCell ⟨ba, 0, none⟩ (.int .i64 ((i : Int) + 1)) = W1 := ⟨_, rfl⟩
    rw [hW1] at HG HE2 e2
    have hO := hid (World.ownsRow_lit (base := w.heap.size) (e := 3) (size := 1) W1 #[.int .i64 n] 1 HG.out.size (by simp [maxLen]) rfl)
    have hcv := carL_var s d h2
    have HCV := hid hcv
    clear hE hTi ct0 hdr hcv
    go_enter Tryz.func344, Tryz.ntmps344
    go_wp2
    try rw [hW1]
    go_ret
    refine ⟨_, rfl, ?_, grown_trans HG.out (grown_of_below ((Below.refl _ _).alloc (Nat.le_refl _) _)), ?_⟩
    · rw [HCV.out]; exact hO.out
    · exact HE2.out.below ((Below.refl _ _).alloc (Nat.le_refl _) _)
  | app c zs h1 h2 h3 ih =>
    intro i r w hdr hb hE
    have hi : i < T.length := by have := congrArg List.length hdr; simp at this; omega
    have hTi : T[i] = (c : Int) := by
      have := List.getElem_drop (xs := T) (i := i) (j := 0) (h := by simp; omega)
      simp only [Nat.add_zero] at this
      rw [← this]
      simp [hdr]
    have hdr2 : T.drop (i + 1) = zs.flatten ++ r := by
      rw [← List.tail_drop, hdr]; rfl
    have hzl3 : zs.length ≤ 3 := by have := sign_ar HOK.out.sa h1; rw [arOf_get h1] at h2; omega
    have hTlen : i + 1 + zs.flatten.length + r.length = T.length := by have := congrArg List.length hdr; simp only [List.length_drop, List.length_append, List.length_cons] at this; omega
    obtain ⟨tb, to, rfl, ct0⟩ := TC.out i hi
    rw [hTi] at ct0
    have ct := (hb.cell (World.block_lt_of_cell? _ _ ct0)).trans ct0
    obtain ⟨sb, so, rfl, -, cs0, -⟩ := SC.out c h1
    have hcd : c < d.length := by rw [HOK.out.len]; exact h1
    obtain ⟨db, dof, ud, rfl, cd10, cd20, id0⟩ := DC.out c hcd
    obtain ⟨ton, l, hgd, hto, -, hll, hol, hdc⟩ := HOK.out.at h1
    have hdc' : d[c] = ((ton : Int), l) := by rw [List.getElem?_eq_getElem hcd] at hdc; exact Option.some.inj hdc
    rw [hdc'] at cd10 id0
    simp only at cd10 id0
    obtain ⟨la, lc, rfl, -, -, -, LC⟩ := id0.open
    have har : s[c].2 = (zs.length : Int) := by rw [arOf_get h1] at h2; omega
    rw [har] at cs0
    have hlz : l.length = zs.length := by omega
    have et := hE.t
    have ea := hE.a
    have ez := hE.z
    have es := hE.s
    have i0 : (0 : Int) ≤ (i : Int) := by omega
    have i1 : (i : Int) < (T.length : Int) := by omega
    have hlt := World.block_lt_of_cell? _ _ ea
    have HG := hid (grown_set (w := w) (b := ba) (.int .i64 ((i : Int) + 1)))
    have HE2 := hid (hE.set HNE.out ((i : Int) + 1))
    have e2 := HE2.out.a
    have e2s := HE2.out.s
    obtain ⟨W1, hW1⟩ : ∃ W1, w.setCell ⟨ba, 0, none⟩ (.int .i64 ((i : Int) + 1)) = W1 := ⟨_, rfl⟩
    rw [hW1] at HG HE2 e2 e2s
    have hbW : Below wb.heap.size wb W1 := hb.grown HG.out hb.size (fun q hq => by cases hq; exact hba)
    have cs1 := (hbW.cell (World.block_lt_of_cell? _ _ cs0)).trans cs0
    have HCA := hid (carL_app (d := d) h2 h3)
    rw [hgd] at HCA
    have HIH := hid ih
    have H3 := hid h3
    have HDR2 := hid hdr2
    have HB := hid hb
    have HE0 := hid hE
    have HOL := hid hol
    have HLC := hid LC
    have HIDl := hid id0
    have CD1 := hid cd10
    have CD2 := hid cd20
    have c0 : (0 : Int) ≤ (c : Int) := by omega
    have c1 : (c : Int) < (s.length : Int) := by omega
    have c2 : (c : Int) < (d.length : Int) := by omega
    have hcn : decide ((c : Int) < 0) = false := by simp
    clear hE hTi ct0 hdr hdr2 h3 ih hb hgd hdc hdc' har hol LC id0 cd10 cd20 cs0 hll h2
    go_enter Tryz.func344, Tryz.ntmps344
    go_wp2
    try rw [hW1]
    clear hW1 et ea ez es ct e2
    go_loopw [7, 26] (fun u q wr => CrA s d zs i bt ba bs bw bd _ _ _ w u q wr) (fun _ q _ => zs.length - (intOf q).toNat)
    case atStart => exact ⟨0, [], by omega, rfl, NR.nil _ _ _ _, HG.out, by simpa using HE2.out⟩
    case round =>
      clear cs1 e2s HE2 HG
      obtain ⟨k, ws, hk, rfl, hN, hg, hE⟩ := hrel
      have hsz := hg.size
      have hbr : Below wb.heap.size wb wr := HB.out.grown hg HB.out.size (fun q hq => by cases hq; exact hba)
      have hgl : ((zs.take k).map (carL s d)).length = k := by simp; omega
      by_cases hlt2 : k < zs.length
      · have hzz : zs.flatten = (zs.take k).flatten ++ (zs[k] ++ (zs.drop (k + 1)).flatten) := by
          conv => lhs; rw [← List.take_append_drop k zs, List.flatten_append, List.drop_eq_getElem_cons hlt2, List.flatten_cons]
        have hdr3 : T.drop (i + 1 + (zs.take k).flatten.length) = zs[k] ++ ((zs.drop (k + 1)).flatten ++ r) := by
          rw [← List.drop_drop, HDR2.out, hzz, List.append_assoc, List.drop_left, List.append_assoc]
        have hnext : (zs.take (k + 1)).flatten.length = (zs.take k).flatten.length + zs[k].length := by
          rw [List.take_succ_eq_append_getElem hlt2, List.flatten_append, List.length_append]; simp only [List.flatten_cons, List.flatten_nil, List.append_nil]
        have hmap : (zs.take (k + 1)).map (carL s d) = (zs.take k).map (carL s d) ++ [carL s d zs[k]] := by
          rw [List.take_succ_eq_append_getElem hlt2, List.map_append]; rfl
        have HCALL := hid (HIH.out zs[k] (List.getElem_mem hlt2) _ _ wr hdr3 hbr hE)
        have cw3 : wr.cell? ⟨bw, 0, none⟩ = some (.func (.func 344) #[] #[.pointer (some ⟨bt, 0, none⟩), .pointer (some ⟨ba, 0, none⟩), .pointer (some ⟨bs, 0, none⟩), .pointer (some ⟨bw, 0, none⟩), .pointer (some ⟨bd, 0, none⟩)]) := hE.f
        have HN := hid hN
        have HNEXT := hid hnext
        have HMAP := hid hmap
        have HGL := hid hgl
        have HGR := hid hg
        obtain ⟨z, hz⟩ : ∃ z, zs[k] = z := ⟨_, rfl⟩
        rw [hz] at HCALL HNEXT HMAP
        clear hzz hdr3 hnext hmap hN hgl hz hg hbr
        go_wp2_with fail
        refine HCALL.out.mono ?_
        rintro e w5 ⟨u5, rfl, hown5, hg5, hE5⟩
        obtain ⟨a5, c5, rfl⟩ := ownsRow_slice2 hown5
        have hs5 := hg5.size
        have HE5 := hid hE5
        have htop := (HN.out.kept hg5 (fun q hq => by cases hq; exact hlt)).top
        rw [HGL.out] at htop
        have HTOP := hid htop
        have HO5 := hid hown5
        have HG5 := hid hg5
        clear htop hown5 hg5 hE5
        go_wp2_with (at_builtin; refine wpList_append_lie rfl _ _ 160 rfl w.heap.size 37 el_term Tryz.underlying160 rfl (by decide) _ _ _ rfl (HTOP.out.alloc _) _ 1 [.slice a5 (carL s d z).length c5] rfl (row_one_new _ _ _) (oneCell_one rfl) (by omega) (by omega) (by omega) (by simp; omega) _ rfl ?_; intro g6 c6 w6 hown6 hgrow6 hat6 hlt6)
        have hg5a : wr.grownBy (w5.alloc (.cells #[.slice a5 (carL s d z).length c5] 37)) (some ba) := grown_trans HG5.out (grown_of_below ((Below.refl _ _).alloc (Nat.le_refl _) _))
        have HPUSH := hid (NR.pushKept (g := carL s d z) HN.out (Nat.le_refl _) hsz hg5a (fun q hq => by cases hq; exact hlt) (HO5.out.alloc _) HGL.out.symm hown6 hgrow6 rfl hat6)
        have hob : ∀ q, u7.ownBlock = some q → w.heap.size ≤ q := fun q hq => (HN.out.top.lt q hq).1
        have HG6 := hid (grown_own (grown_trans HGR.out hg5a) hgrow6 hob)
        have hE6 : CrE bt ba bs bw bd (Value.slice (some { block := tb, off := to }) T.length tc) (Value.slice (some { block := sb, off := so }) (List.length s) sc) (Value.slice (some { block := db, off := dof }) (List.length d) dc) _ w6 := HE0.out.own (HE5.out.below ((Below.refl _ _).alloc (Nat.le_refl _) (.cells #[.slice a5 (carL s d z).length c5] 37))) hgrow6 hob
        have HE6 := hid hE6
        clear hgrow6 hat6 hown6 hg5a hE6
        go_wp2
        go_roundw
        case rel => exact ⟨k + 1, _, by omega, by go_num, by rw [HMAP.out]; exact HPUSH.out, HG6.out, by rw [HNEXT.out]; have := HE6.out; rw [show ((i + 1 + ((zs.take k).flatten.length + z.length) : Nat) : Int) = ((i + 1 + (zs.take k).flatten.length : Nat) : Int) + (z.length : Int) from by omega]; exact this⟩
        case measure => simp [intOf]; omega
      · have hkz : k = zs.length := by omega
        subst hkz
        obtain ⟨W3, hW3⟩ : ∃ W3, W3 = wr := ⟨_, rfl⟩
        subst hW3
        rw [List.take_of_length_le (Nat.le_refl _)] at hN hE
        have ed := hE.d
        have cd1 := (hbr.cell (World.block_lt_of_cell? _ _ CD1.out)).trans CD1.out
        have cd2 := (hbr.cell (World.block_lt_of_cell? _ _ CD2.out)).trans CD2.out
        have hbA : Below W3.heap.size W3 (W3.alloc (.cells #[.int .i64 ton] 3)) := (Below.refl _ _).alloc (Nat.le_refl _) _
        have ed2 := (hbA.cell (World.block_lt_of_cell? _ _ ed)).trans ed
        have cd2' := (hbA.cell (World.block_lt_of_cell? _ _ cd2)).trans cd2
        have hO := hid (World.ownsRow_lit (base := W3.heap.size) (e := 3) (size := 1) W3 #[.int .i64 ton] 1 (Nat.le_refl _) (by simp [maxLen]) rfl)
        have HBA := hid hbA
        have HN := hid hN
        have HE := hid hE
        have HGR := hid hg
        have HBR := hid hbr
        have HLZ := hid hlz
        clear hN hE hg hbr hbA hgl hlt2 hk hlz
        go_wp2
        clear ed ed2 cd1 cd2 cd2'
        have hln : l.length ≤ 3 := by have := HLZ.out; omega
        go_loopw [8, 46] (fun u q w2 => ∃ k : Nat, k ≤ l.length ∧ q = .int .i64 k ∧ w2.ownsRow W3.heap.size 3 1 u (CrX s d zs l ton k).length ((CrX s d zs l ton k).map (Value.int .i64)) ∧ Below W3.heap.size W3 w2 ∧ (CrX s d zs l ton k).length ≤ 1 + 60 * k) (fun _ q _ => l.length - (intOf q).toNat)
        case atStart => exact ⟨0, by omega, rfl, by simpa [CrX] using hO.out, HBA.out, by simp [CrX]⟩
        case round =>
          clear hO HBA
          obtain ⟨k, hk, rfl, hown, hb2, hcx⟩ := hrel
          have hs2 := hb2.size
          by_cases hlt3 : k < l.length
          · obtain ⟨lb, lo, rfl, cl0⟩ := HLC.out k hlt3
            obtain ⟨m, hm⟩ : ∃ m : Nat, l[k] = m := ⟨l[k].toNat, by have := (ordB_mem HOL.out).1 (List.getElem_mem hlt3); omega⟩
            have hml : m < zs.length := by have := (ordB_mem HOL.out).1 (List.getElem_mem hlt3); have := HLZ.out; omega
            rw [hm] at cl0
            have cl := ((HBR.out.trans (hb2.mono HBR.out.size)).cell (World.block_lt_of_cell? _ _ cl0)).trans cl0
            have htop := HN.out.top
            rw [List.length_map] at htop
            obtain ⟨ga, gc, rfl, -, -⟩ := owns_some htop (by omega)
            have hwl : ws.length = zs.length := by have := HN.out.len; simpa using this
            have hwm : ws[m]? = some (ws[m]'(by omega)) := List.getElem?_eq_getElem (by omega)
            have hrow := HN.out.row m _ (carL s d zs[m]) hwm (by simp [hml])
            obtain ⟨v, hv⟩ : ∃ v, ws[m]'(by omega) = v := ⟨_, rfl⟩
            rw [hv] at hrow hwm
            obtain ⟨av, cv, rfl⟩ := ownsRow_slice2 hrow
            have hca := htop.cellAt m (by omega)
            rw [hwm] at hca
            have hca2 := (hb2.cell (World.block_lt_of_cell? _ _ hca)).trans hca
            have hcz : (carL s d zs[m]).length ≤ 60 := by
              rw [carL_len HOK.out (H3.out zs[m] (List.getElem_mem hml))]
              have := flat_mem_le (List.getElem_mem hml)
              omega
            have HSRC := hid (RowK.of_owns (owns_below hrow hb2) (by omega))
            have HOWN := hid hown
            have HXS := hid (CrX_succ (s := s) (d := d) (zs := zs) (l := l) (ton := ton) hlt3 hm hml)
            have y0 : (0 : Int) ≤ (m : Int) := by omega
            have y1 : (m : Int) < (zs.length : Int) := by omega
            have hob := hid (fun q hq => (hown.lt q hq).1)
            have HB2 := hid hb2
            clear hown hrow htop hca cl0 hm hv hwm hb2
            go_wp2_with (at_builtin; refine wpList_append_row rfl _ _ 37 rfl W3.heap.size 3 el_int Tryz.underlying37 rfl (by decide) _ _ _ rfl HOWN.out _ (carL s d zs[m]).length ((carL s d zs[m]).map (Value.int .i64)) rfl HSRC.out (ints_one _) (by omega) (by omega) (by omega) ?_; intro v' w4 hown4 hgrow4 _)
            go_roundw
            case rel => exact ⟨k + 1, by omega, by go_num, by rw [HXS.out]; simpa using hown4, HB2.out.grown hgrow4 HB2.out.size hob.out, by rw [HXS.out, List.length_append]; omega⟩
            case measure => simp [intOf]; omega
          · have hkl : k = l.length := by omega
            have HXA : Hid (CrX s d zs l ton k = carL s d ((c : Int) :: zs.flatten)) := hid (by
              rw [HCA.out]
              unfold CrX putW
              rw [hkl, List.take_of_length_le (Nat.le_refl _)])
            have HOWN := hid hown
            clear hown
            go_wp2
            go_ret
            refine ⟨_, rfl, ?_, grown_trans HGR.out (grown_of_below hb2), ?_⟩
            · rw [← HXA.out]; exact owns_base HOWN.out hsz
            · have := HE.out.below hb2
              rw [show (i : Int) + (((c : Int) :: zs.flatten).length : Int) = ((i + 1 + zs.flatten.length : Nat) : Int) from by simp only [List.length_cons]; omega]
              exact this
end Go.Proofs.YtalodmochkodiaaGreat
namespace Go.Proofs.YtalodmochkodiaaGreat
open Go Go.RowKit Go.Maps Go.Shelf
theorem boxF2 (w : World) (x : Value) (tx : TypeId) (W : World) (hb : Below (w.alloc (.cells #[x] tx)).heap.size (w.alloc (.cells #[x] tx)) W) : W.cell? ⟨w.heap.size, 0, none⟩ = some x ∧ W.frozen? ⟨w.heap.size, 0, none⟩ = false := by
  have k1 := cell_new1 w x tx
  have l1 := World.block_lt_of_cell? _ _ k1
  exact ⟨(hb.cell l1).trans k1, by rw [hb.frozen (p := ⟨w.heap.size, 0, none⟩) l1]; exact (Boxed.new w tx x).frozen⟩
theorem box5c (w : World) (x1 x2 x3 x4 x5 : Value) (t1 t2 t3 t4 t5 : TypeId) {W : World} (hW : ((((w.alloc (.cells #[x1] t1)).alloc (.cells #[x2] t2)).alloc (.cells #[x3] t3)).alloc (.cells #[x4] t4)).alloc (.cells #[x5] t5) = W) :
    Below w.heap.size w W ∧ W.heap.size = w.heap.size + 5 ∧ W.cell? ⟨w.heap.size, 0, none⟩ = some x1 ∧ W.cell? ⟨w.heap.size + 1, 0, none⟩ = some x2 ∧ W.cell? ⟨w.heap.size + 1 + 1, 0, none⟩ = some x3 ∧
      (W.cell? ⟨w.heap.size + 1 + 1 + 1, 0, none⟩ = some x4 ∧ W.frozen? ⟨w.heap.size + 1 + 1 + 1, 0, none⟩ = false) ∧ W.cell? ⟨w.heap.size + 1 + 1 + 1 + 1, 0, none⟩ = some x5 := by
  have k1 := cell_new1 w x1 t1
  have k2 := cell_new1 (w.alloc (.cells #[x1] t1)) x2 t2
  have k3 := cell_new1 ((w.alloc (.cells #[x1] t1)).alloc (.cells #[x2] t2)) x3 t3
  have k4 := boxF2 (((w.alloc (.cells #[x1] t1)).alloc (.cells #[x2] t2)).alloc (.cells #[x3] t3)) x4 t4 W (by rw [← hW]; exact (Below.refl _ _).alloc (Nat.le_refl _) _)
  have k5 := cell_new1 ((((w.alloc (.cells #[x1] t1)).alloc (.cells #[x2] t2)).alloc (.cells #[x3] t3)).alloc (.cells #[x4] t4)) x5 t5
  simp only [World.size_alloc] at k2 k3 k4 k5
  refine ⟨?_, ?_, ?_, ?_, ?_, k4, ?_⟩
  · rw [← hW]; exact ((((((Below.refl _ _).alloc (Nat.le_refl _) _).alloc (by simp) _).alloc (by simp; omega) _).alloc (by simp; omega) _).alloc (by simp; omega) _)
  · rw [← hW]; simp only [World.size_alloc]
  · rw [← hW]; exact cell_alloc_keep _ (cell_alloc_keep _ (cell_alloc_keep _ (cell_alloc_keep _ k1)))
  · rw [← hW]; exact cell_alloc_keep _ (cell_alloc_keep _ (cell_alloc_keep _ k2))
  · rw [← hW]; exact cell_alloc_keep _ (cell_alloc_keep _ k3)
  · rw [← hW]; exact k5
set_option maxHeartbeats 1000000 in
set_option maxRecDepth 100000 in
theorem tongue_carried (vs vd vt : Value) (s b : Sg) (d : Dic) (t : List Int) (w : World) (hs : SignAt w vs s) (hT : Ints w vt t) (hd : BindsAt w vd d) (hok : DicOK s b d) (ht : IsT s 12 t) (hl : t.length ≤ 60) :
    Calls Tryz.prog 295 #[vs, vd, vt] w fun e w' => ∃ u, e = .returned u ∧ w'.ownsRow w.heap.size 3 1 u (carL s d t).length ((carL s d t).map (Value.int .i64)) ∧ Below w.heap.size w w' := by
  have HC := hid (fun (W : World) (hb : Below w.heap.size w W) => tongue_carried1 (w.heap.size + 1 + 1) (w.heap.size + 1 + 1 + 1) w.heap.size (w.heap.size + 1 + 1 + 1 + 1) (w.heap.size + 1) vt vs vd s b d t w hs hT hd hok ⟨by omega, by omega, by omega, by omega⟩ (by omega) hl ht 0 [] W (by simp) hb)
  obtain ⟨ta, tc, rfl, -⟩ := hT.open
  obtain ⟨sa, sc, rfl, -⟩ := hs.open
  obtain ⟨da, dc, rfl, -⟩ := hd.open
  clear hs hT hd hok ht
  obtain ⟨W, hW⟩ : ∃ W, (((((w.alloc (.cells #[.slice sa s.length sc] 23)).alloc (.cells #[.slice da d.length dc] 76)).alloc (.cells #[.slice ta t.length tc] 37)).alloc (.cells #[.int .i64 0] 3)).alloc (.cells #[fnCr (w.heap.size + 1 + 1) (w.heap.size + 1 + 1 + 1) w.heap.size (w.heap.size + 1 + 1 + 1 + 1) (w.heap.size + 1)] 176)) = W := ⟨_, rfl⟩
  obtain ⟨b0, bsz, b1, b2, b3, b4, b5⟩ := box5c w _ _ _ _ _ _ _ _ _ _ hW
  have hc := HC.out W b0 ⟨b3, b1, b5, b2, b4.1, b4.2⟩
  have HCC := hid hc
  have HB0 := hid b0
  unfold fnCr at hW
  have HW := hid hW
  have hsz : w.heap.size + 5 ≤ W.heap.size := by omega
  clear hc HC b0 b1 b2 b3 b4 b5 bsz hW
  go_enter Tryz.func295, Tryz.ntmps295
  go_wp2_with fail
  rw [HW.out]
  refine HCC.out.mono ?_
  rintro e w1 ⟨u, rfl, hown, hg, -⟩
  have HO := hid (owns_base hown (show w.heap.size ≤ W.heap.size by omega))
  have HB := hid (HB0.out.grown hg (by omega) (fun q hq => by cases hq; omega))
  clear hown hg
  go_wp2
  go_ret
  exact ⟨_, rfl, HO.out, HB.out⟩
/-- what Carried answers. -/
def carD (a b : Sg) (d : Dic) (t : List Int) : List Int × Int := if dicB a b d && termB a t then (carL a d t, 0) else ([], 1)
set_option maxHeartbeats 1000000 in
theorem tongue_Carried (va vb vd vt : Value) (a b : Sg) (d : Dic) (t : List Int) (w : World) (ha : SignAt w va a) (hb : SignAt w vb b) (hd : BindsAt w vd d) (hT : Ints w vt t) (ha1 : a.length ≤ 1000) (hb1 : b.length ≤ 1000) :
    Calls Tryz.prog 233 #[va, vb, vd, vt] w fun e w' => ∃ u, e = .returned (.tuple #[u, .int .i64 (carD a b d t).2]) ∧ w'.ownsRow w.heap.size 3 1 u (carD a b d t).1.length ((carD a b d t).1.map (Value.int .i64)) ∧ Below w.heap.size w w' := by
  have HV := hid (tongue_Valid va vb vd a b d w ha hb hd ha1 hb1)
  have HT := hid (fun (X : World) (hX : Below w.heap.size w X) => term_Valid' va vt a t X (ha.below hX) (hT.below hX) ha1)
  cases h1 : dicB a b d
  · have HD : Hid (carD a b d t = ([], 1)) := hid (by unfold carD; rw [h1]; rfl)
    rw [h1] at HV
    rw [HD.out]
    clear h1
    go_enter Tryz.func233, Tryz.ntmps233
    go_wp2_with fail
    refine HV.out.mono ?_
    rintro e w1 ⟨rfl, hb1⟩
    go_wp2
    go_ret2
    exact ⟨_, rfl, World.ownsRow_nil _ _ _ _, hb1⟩
  · cases h2 : termB a t
    · have HD : Hid (carD a b d t = ([], 1)) := hid (by unfold carD; rw [h1, h2]; rfl)
      rw [h1] at HV
      rw [h2] at HT
      rw [HD.out]
      clear h1 h2
      go_enter Tryz.func233, Tryz.ntmps233
      go_wp2_with fail
      refine HV.out.mono ?_
      rintro e w1 ⟨rfl, hb1⟩
      go_wp2_with fail
      refine (HT.out _ hb1).mono ?_
      rintro e w2 ⟨rfl, hb2⟩
      go_wp2
      go_ret2
      exact ⟨_, rfl, World.ownsRow_nil _ _ _ _, hb1.trans (hb2.mono hb1.size)⟩
    · have HD : Hid (carD a b d t = (carL a d t, 0)) := hid (by unfold carD; rw [h1, h2]; rfl)
      obtain ⟨-, -, -, f4⟩ := termB_facts h2
      have HCR := hid (fun (X : World) (hX : Below w.heap.size w X) => tongue_carried va vd vt a b d t X (ha.below hX) (hT.below hX) (hd.below hX) (dicB_ok h1) (termB_T h2) f4)
      rw [h1] at HV
      rw [h2] at HT
      rw [HD.out]
      clear h1 h2
      go_enter Tryz.func233, Tryz.ntmps233
      go_wp2_with fail
      refine HV.out.mono ?_
      rintro e w1 ⟨rfl, hb1⟩
      go_wp2_with fail
      refine (HT.out _ hb1).mono ?_
      rintro e w2 ⟨rfl, hb2⟩
      have HB2 := hid (hb1.trans (hb2.mono hb1.size))
      clear hb1 hb2
      go_wp2_with fail
      refine (HCR.out _ HB2.out).mono ?_
      rintro e w3 ⟨u, rfl, hown, hb3⟩
      have HO := hid (owns_base hown HB2.out.size)
      have HB3 := hid (HB2.out.trans (hb3.mono HB2.out.size))
      clear hown hb3
      go_wp2
      go_ret2
      exact ⟨_, rfl, HO.out, HB3.out⟩
end Go.Proofs.YtalodmochkodiaaGreat
namespace Go.Proofs.YtalodmochkodiaaGreat
open Go Go.RowKit Go.Maps
theorem car_term {a b : Sg} {d : Dic} (hd : DicOK a b d) {p : List Int} (hp : termB a p = true) : termB b (carL a d p) = true := by
  obtain ⟨-, -, -, f4⟩ := termB_facts hp
  exact T_termB hd.sb (carL_T hd (termB_T hp)) (by rw [carL_len hd (termB_T hp)]; exact f4)
theorem car_vars_len {a b : Sg} {d : Dic} (hd : DicOK a b d) {m : Int} {t : List Int} (h : IsT a m t) : (varsF [] (carL a d t)).length = (varsF [] t).length := by
  have h1 : ∀ x, x ∈ varsF [] (carL a d t) ↔ x ∈ varsF [] t := by
    intro x
    rw [varsF_mem, varsF_mem]
    constructor
    · rintro (h0 | ⟨h1, h2⟩)
      · simp at h0
      · exact Or.inr ⟨(carL_neg hd h h2).1 h1, h2⟩
    · rintro (h0 | ⟨h1, h2⟩)
      · simp at h0
      · exact Or.inr ⟨(carL_neg hd h h2).2 h1, h2⟩
  have key : ∀ (l k : List Int), l.Nodup → k.Nodup → (∀ x ∈ l, x ∈ k) → l.length ≤ k.length := by
    intro l
    induction l with
    | nil => intro k _ _ _; simp
    | cons y l ih =>
      intro k h1 h2 h3
      have hy := h3 y (by simp)
      obtain ⟨g1, g2⟩ := List.nodup_cons.1 h1
      have := ih (k.erase y) g2 (h2.erase _) (fun x hx => (List.Nodup.mem_erase_iff h2).2 ⟨fun e => g1 (e ▸ hx), h3 x (by simp [hx])⟩)
      rw [List.length_erase_of_mem hy] at this
      have : 0 < k.length := List.length_pos_of_mem hy
      simp; omega
  have a1 := varsF_nodup (carL a d t) [] (by simp)
  have a2 := varsF_nodup t [] (by simp)
  exact Nat.le_antisymm (key _ _ a1 a2 fun x hx => (h1 x).1 hx) (key _ _ a2 a1 fun x hx => (h1 x).2 hx)
theorem car_madeB {a b : Sg} {d : Dic} (hd : DicOK a b d) {m : Int} {t : List Int} (h : IsT a m t) : madeB (carL a d t) = madeB t := by
  unfold madeB
  rw [carL_len hd h, car_vars_len hd h]
end Go.Proofs.YtalodmochkodiaaGreat
namespace Go.Proofs.YtalodmochkodiaaGreat
open Go Go.RowKit Go.Maps
def R24 (s : Sg) (Θ : Int → List Int) : Prop := ∀ v, -24 ≤ v → v < 0 → IsT s 24 (Θ v)
theorem TS_comp {s : Sg} {σ τ : Int → List Int} (hσ : TS s σ) (hτ : R24 s τ) : TS s (fun v => subL σ (τ v)) := by
  obtain ⟨q, h⟩ := hσ
  exact ⟨q, fun v a b => subL_T h (hτ v a b)⟩
theorem car_ren_mgu {a b : Sg} {d : Dic} (hd : OneOK a b d) {x y t : List Int} {m m' : MM} (hx : IsT a 24 x) (hy : IsT a 24 y) (ht : IsT a 24 t) {Θ Θ' : Int → List Int} (hΘ : R24 b Θ) (hΘ' : R24 b Θ')
    (e1 : subL Θ' (subL Θ (carL a d x)) = carL a d x) (e2 : subL Θ' (subL Θ (carL a d y)) = carL a d y) (e3 : subL Θ' (subL Θ (carL a d t)) = carL a d t)
    (h : Mgu a x y m) (h' : Mgu b (subL Θ (carL a d x)) (subL Θ (carL a d y)) m') :
    canonL (fw m' (subL Θ (carL a d t))) = canonL (carL a d (fw m t)) := by
  have T1 : IsT b 24 (fw m' (subL Θ (carL a d t))) := fw_T h'.1 (subL_T hΘ (carL_T hd.toDicOK ht))
  have T0 : IsT a 24 (fw m t) := fw_T h.1 ht
  have T2 : IsT b 24 (carL a d (fw m t)) := carL_T hd.toDicOK T0
  refine inst_alike (s := b) (q := 24) ?_ ?_
  · have hs := carL_TS hd.toDicOK (sg_TS h.1)
    have e := (car_unif hd hx hy (sg_TS h.1)).2 h.sol
    have hc := TS_comp hs hΘ'
    have eq : subL (fun v => subL (fun n => carL a d (sg m n)) (Θ' v)) (subL Θ (carL a d x)) = subL (fun v => subL (fun n => carL a d (sg m n)) (Θ' v)) (subL Θ (carL a d y)) := by
      rw [← subL_comp Θ', ← subL_comp Θ', e1, e2]; exact e
    have g := h'.gen hc eq (subL Θ (carL a d t))
    refine ⟨fun v => subL (fun n => carL a d (sg m n)) (Θ' v), fun n hn h0 => subL_T (fun v p q => carL_T hd.toDicOK (sg_T h.1 p q)) (hΘ' n (T1.vars n hn h0) h0), ?_⟩
    rw [g, ← subL_comp Θ', e3, ← carL_sub24 hd.toDicOK (sg_TS h.1) ht, ← fw_sub h.1]
  · have hc := TS_comp (sg_TS h'.1) hΘ
    obtain ⟨σ, hσ, hst⟩ := TS_lift hd hc
    have e : subL σ x = subL σ y := by
      refine (car_unif hd hx hy hσ).1 ?_
      rw [subL_TS (carL_T hd.toDicOK hx) hst, subL_TS (carL_T hd.toDicOK hy) hst, ← subL_comp Θ, ← subL_comp Θ]
      exact h'.sol
    have g := h.gen hσ e t
    refine ⟨fun v => subL (sg m') (Θ v), fun n hn h0 => subL_T (fun v p q => sg_T h'.1 p q) (hΘ n (T2.vars n hn h0) h0), ?_⟩
    rw [fw_sub h'.1, subL_comp Θ, ← subL_TS T2 hst, ← subL_TS (carL_T hd.toDicOK ht) hst, ← carL_sub24 hd.toDicOK hσ T0, ← carL_sub24 hd.toDicOK hσ ht, g]
theorem car_ren_no {a b : Sg} {d : Dic} (hd : OneOK a b d) {x y : List Int} (hx : IsT a 24 x) (hy : IsT a 24 y) {Θ Θ' : Int → List Int} (hΘ : R24 b Θ) (hΘ' : R24 b Θ')
    (e1 : subL Θ' (subL Θ (carL a d x)) = carL a d x) (e2 : subL Θ' (subL Θ (carL a d y)) = carL a d y) : NoU b (subL Θ (carL a d x)) (subL Θ (carL a d y)) ↔ NoU a x y := by
  constructor
  · intro h σ hσ e
    have hs := carL_TS hd.toDicOK hσ
    have e' := (car_unif hd hx hy hσ).2 e
    refine h _ (TS_comp hs hΘ') ?_
    rw [← subL_comp Θ', ← subL_comp Θ', e1, e2]
    exact e'
  · intro h τ hτ e
    obtain ⟨σ, hσ, hst⟩ := TS_lift hd (TS_comp hτ hΘ)
    refine h σ hσ ((car_unif hd hx hy hσ).1 ?_)
    rw [subL_TS (carL_T hd.toDicOK hx) hst, subL_TS (carL_T hd.toDicOK hy) hst, ← subL_comp Θ, ← subL_comp Θ]
    exact e
/-- a carried answer. -/
def carX (a : Sg) (d : Dic) (p : List Int × Int) : List Int × Int := (if p.2 = 0 then canonL (carL a d p.1) else [], p.2)
theorem car_ren_UR {a b : Sg} {d : Dic} (hd : OneOK a b d) {x y t : List Int} (hx : IsT a 24 x) (hy : IsT a 24 y) (ht : IsT a 24 t) {Θ Θ' : Int → List Int} (hΘ : R24 b Θ) (hΘ' : R24 b Θ')
    (e1 : subL Θ' (subL Θ (carL a d x)) = carL a d x) (e2 : subL Θ' (subL Θ (carL a d y)) = carL a d y) (e3 : subL Θ' (subL Θ (carL a d t)) = carL a d t)
    {p q : List Int × Int} (hp : UR a x y t p) (hq : UR b (subL Θ (carL a d x)) (subL Θ (carL a d y)) (subL Θ (carL a d t)) q) : q = carX a d p := by
  have hno := car_ren_no hd hx hy hΘ hΘ' e1 e2
  rcases hp with ⟨n1, rfl⟩ | ⟨m, hm, hp⟩
  · rcases hq with ⟨n2, rfl⟩ | ⟨m', hm', -⟩
    · rfl
    · exact (hm'.not_no (hno.2 n1)).elim
  · rcases hq with ⟨n2, rfl⟩ | ⟨m', hm', hq⟩
    · exact (hm.not_no (hno.1 n2)).elim
    · have hc := car_ren_mgu hd hx hy ht hΘ hΘ' e1 e2 e3 hm hm'
      have tF := fw_T hm.1 ht
      have hb := (madeB_canon hc).trans (car_madeB hd.toDicOK tF)
      rcases hp with ⟨g1, rfl⟩ | ⟨g1, rfl⟩ <;> rcases hq with ⟨g2, rfl⟩ | ⟨g2, rfl⟩
      · unfold carX
        rw [if_pos rfl, car_canon hd.toDicOK tF, hc]
      · rw [g1, g2] at hb; cases hb
      · rw [g1, g2] at hb; cases hb
      · rfl
/-- the renaming of the variables vs, and back. -/
def reV (vs : List Int) (v : Int) : Int := if v ∈ vs then numV vs v else -1
def baV (vs : List Int) (v : Int) : Int := let x := vs.getD (-v - 1).toNat (-1); if -12 ≤ x ∧ x < 0 then x else -1
theorem reV_range {vs : List Int} (h12 : vs.length ≤ 12) {v : Int} (hv : v < 0) : -12 ≤ reV vs v ∧ reV vs v < 0 := by
  unfold reV numV
  split
  · rename_i h
    have := List.idxOf_lt_length_of_mem h
    omega
  · omega
theorem baV_range (vs : List Int) (v : Int) : -12 ≤ baV vs v ∧ baV vs v < 0 := by
  unfold baV
  simp only
  split <;> omega
theorem baV_reV {vs : List Int} {v : Int} (hm : v ∈ vs) (h1 : -12 ≤ v) (h2 : v < 0) : baV vs (reV vs v) = v := by
  unfold baV reV numV
  rw [if_pos hm, if_pos h2]
  have hi := List.idxOf_lt_length_of_mem hm
  have e : (-(-(vs.idxOf v : Int) - 1) - 1).toNat = vs.idxOf v := by omega
  rw [e]
  have g : vs.getD (vs.idxOf v) (-1) = v := by
    rw [List.getD_eq_getElem?_getD, List.getElem?_eq_getElem hi]
    simp
  simp only [g]
  rw [if_pos ⟨h1, h2⟩]
/-- the renaming of two terms, the other one apart. -/
def reT (P N : List Int) (v : Int) : List Int := if -12 ≤ v then [reV (varsF [] P) v] else [reV (varsF [] N) (v + 12) - 12]
def baT (P N : List Int) (v : Int) : List Int := if -12 ≤ v then [baV (varsF [] P) v] else [baV (varsF [] N) (v + 12) - 12]
theorem reT_24 {s : Sg} {P N : List Int} (hP : (varsF [] P).length ≤ 12) (hN : (varsF [] N).length ≤ 12) : R24 s (reT P N) := by
  intro v h1 h2
  unfold reT
  split
  · have := reV_range hP h2
    exact .var _ (by omega) (by omega)
  · have := reV_range hN (v := v + 12) (by omega)
    exact .var _ (by omega) (by omega)
theorem baT_24 {s : Sg} (P N : List Int) : R24 s (baT P N) := by
  intro v h1 h2
  unfold baT
  split
  · have := baV_range (varsF [] P) v
    exact .var _ (by omega) (by omega)
  · have := baV_range (varsF [] N) (v + 12)
    exact .var _ (by omega) (by omega)
theorem back_sub {Θ Θ' : Int → List Int} {t : List Int} (h : ∀ n ∈ t, n < 0 → subL Θ' (Θ n) = [n]) : subL Θ' (subL Θ t) = t := by
  rw [subL_comp]
  have := subL_congr (σ := fun n => subL Θ' (Θ n)) (τ := fun n => [n]) h
  rw [this, subL_id]
theorem back_one {P N : List Int} (hP12 : (varsF [] P).length ≤ 12) {n : Int} (h1 : -12 ≤ n) (h2 : n < 0) (hm : n ∈ varsF [] P) : subL (baT P N) (reT P N n) = [n] := by
  have r := reV_range hP12 h2
  unfold reT
  rw [if_pos h1, subL_one, if_pos r.2]
  unfold baT
  rw [if_pos r.1, baV_reV hm h1 h2]
theorem back_two {P N : List Int} (hN12 : (varsF [] N).length ≤ 12) {n : Int} (h1 : -12 ≤ n) (h2 : n < 0) (hm : n ∈ varsF [] N) : subL (baT P N) (reT P N (n - 12)) = [n - 12] := by
  have r := reV_range hN12 h2
  unfold reT
  rw [if_neg (by omega), subL_one, show n - 12 + 12 = n by omega, if_pos (by omega)]
  unfold baT
  rw [if_neg (by omega), show reV (varsF [] N) n - 12 + 12 = reV (varsF [] N) n by omega, baV_reV hm h1 h2]
/-- the canonical form of a term, as a renaming. -/
theorem canon_re {s : Sg} {P N : List Int} (hP : IsT s 12 P) : canonL P = subL (reT P N) P := by
  rw [canonL_sub]
  refine subL_congr fun n hn h0 => ?_
  have := hP.vars n hn h0
  unfold reT reV
  rw [if_pos (by omega), if_pos ((varsF_mem P [] n).2 (Or.inr ⟨hn, h0⟩))]
theorem canon_re2 {s : Sg} {P N : List Int} (hN : IsT s 12 N) : aparL (canonL N) = subL (reT P N) (aparL N) := by
  rw [canonL_sub, aparL_sub, aparL_sub N, subL_comp, subL_comp]
  refine subL_congr fun n hn h0 => ?_
  have := hN.vars n hn h0
  have hm : n ∈ varsF [] N := (varsF_mem N [] n).2 (Or.inr ⟨hn, h0⟩)
  have h1 : numV (varsF [] N) n < 0 := numV_neg.2 h0
  rw [subL_one, if_pos h1, subL_one, if_pos (by omega)]
  unfold reT reV
  rw [if_neg (by omega), show n - 12 + 12 = n by omega, if_pos hm]
theorem carL_apar {a b : Sg} {d : Dic} (hd : DicOK a b d) {t : List Int} (h : IsT a 12 t) : carL a d (aparL t) = aparL (carL a d t) := by
  rw [aparL_sub, carL_sub (q := 24) hd h (fun n hn h0 => .var _ (by have := h.vars n hn h0; omega) (by omega)), aparL_sub]
  refine subL_congr fun n hn h0 => ?_
  exact carL_var _ _ (by omega)
end Go.Proofs.YtalodmochkodiaaGreat
namespace Go.Proofs.YtalodmochkodiaaGreat
open Go Go.RowKit Go.Maps
/-- a carried canonical form. -/
def carC (a : Sg) (d : Dic) (t : List Int) : List Int := canonL (carL a d t)
theorem dic_zero {a b : Sg} {d : Dic} (h : dicB a b d = true) : d[0]? = some (0, [0, 1]) := by
  unfold dicB at h
  simp only [Bool.and_eq_true] at h
  obtain ⟨⟨-, h2⟩, -⟩ := h
  cases e : d[0]? with
  | none => rw [e] at h2; cases h2
  | some x =>
    rw [e] at h2
    simp only [Bool.and_eq_true, decide_eq_true_eq] at h2
    obtain ⟨h3, h4⟩ := h2
    rw [show x = (x.1, x.2) from rfl, h3, h4]
theorem ar_zero {a : Sg} (h : signB a = true) : 0 < a.length ∧ arOf a ((0 : Nat) : Int) = 2 := by
  unfold signB at h
  simp only [Bool.and_eq_true] at h
  obtain ⟨⟨h1, h2⟩, -⟩ := h
  have := inB_true.1 h1
  have h0 : 0 < a.length := by omega
  refine ⟨h0, ?_⟩
  rw [List.getElem?_eq_getElem h0] at h2
  unfold arOf
  simp [h0]
  simpa using h2
theorem carL_zero {a b : Sg} {d : Dic} (h : dicB a b d = true) {m : Int} {A B : List Int} (hA : IsT a m A) (hB : IsT a m B) : carL a d (0 :: (A ++ B)) = 0 :: (carL a d A ++ carL a d B) := by
  have e := carL_app (s := a) (d := d) (m := m) (c := 0) (ars := [A, B]) (by rw [(ar_zero (dicB_ok h).sa).2]; rfl) (by intro t ht; simp at ht; rcases ht with rfl | rfl <;> assumption)
  have e2 : ((0 : Nat) : Int) :: [A, B].flatten = 0 :: (A ++ B) := by simp
  rw [e2] at e
  rw [e, List.getD_eq_getElem?_getD, dic_zero h]
  simp [putW]
theorem carL_head {a b : Sg} {d : Dic} (h : oneB a b d = true) {m : Int} {t : List Int} (ht : IsT a m t) : (carL a d t).head? = some 0 ↔ t.head? = some 0 := by
  have hd := oneB_ok h
  have hdic : dicB a b d = true := by unfold oneB at h; simp only [Bool.and_eq_true] at h; exact h.1
  cases ht with
  | var n h1 h2 => rw [carL_var _ _ h2]
  | app c ars h1 h2 h3 =>
    rw [carL_app h2 h3]
    obtain ⟨to, l, e1, -, -, -, -, e2⟩ := hd.toDicOK.at h1
    rw [e1]
    simp only [putW, List.head?_cons, Option.some.injEq]
    constructor
    · intro e0
      rw [e0] at e2
      have := to_inj hd e2 (dic_zero hdic)
      omega
    · intro e0
      have hc : c = 0 := by omega
      subst hc
      rw [dic_zero hdic] at e2
      simp only [Option.some.injEq, Prod.mk.injEq] at e2
      exact e2.1.symm
theorem canonL_head (t : List Int) : (canonL t).head? = some 0 ↔ t.head? = some 0 := by
  cases t with
  | nil => simp [canonL]
  | cons n t =>
    have e : (canonL (n :: t)).head? = some (numV (varsF [] (n :: t)) n) := rfl
    rw [e]
    simp only [List.head?_cons, Option.some.injEq]
    by_cases h : n < 0
    · have := (numV_neg (vs := varsF [] (n :: t))).2 h
      omega
    · unfold numV; rw [if_neg h]
theorem carC_head {a b : Sg} {d : Dic} (h : oneB a b d = true) {m : Int} {t : List Int} (ht : IsT a m t) : (carC a d t).head? = some 0 ↔ t.head? = some 0 := (canonL_head _).trans (carL_head h ht)
theorem carC_term {a b : Sg} {d : Dic} (h : DicOK a b d) {t : List Int} (ht : termB a t = true) : termB b (carC a d t) = true := canon_termC (car_term h ht)
theorem one_dic {a b : Sg} {d : Dic} (h : oneB a b d = true) : dicB a b d = true := by unfold oneB at h; simp only [Bool.and_eq_true] at h; exact h.1
/-- the sides of a carried statement are the carried and renamed sides. -/
theorem carC_sides {a b : Sg} {d : Dic} (h : dicB a b d = true) {A B : List Int} (hA : IsT a 12 A) (hB : IsT a 12 B) (hp : termB a (0 :: (A ++ B)) = true) (N : List Int) {A' B' : List Int} (e : carC a d (0 :: (A ++ B)) = 0 :: (A' ++ B')) (hA' : IsT b 12 A') (hB' : IsT b 12 B') :
    A' = subL (reT (carL a d (0 :: (A ++ B))) N) (carL a d A) ∧ B' = subL (reT (carL a d (0 :: (A ++ B))) N) (carL a d B) := by
  have hd := dicB_ok h
  have tP := termB_T (car_term hd hp)
  have hv := vars_le_m tP
  unfold carC at e
  rw [canon_re (N := N) tP] at e
  obtain ⟨Θ, hΘ⟩ : ∃ Θ, reT (carL a d (0 :: (A ++ B))) N = Θ := ⟨_, rfl⟩
  have hR : ∀ v, -12 ≤ v → v < 0 → IsT b 12 (Θ v) := by
    intro v h1 h2
    rw [← hΘ]
    unfold reT
    rw [if_pos h1]
    have := reV_range hv h2
    exact .var _ (by omega) (by omega)
  rw [hΘ] at e ⊢
  rw [carL_zero h hA hB, subL_cons_app _ (by omega), subL_append] at e
  have tA : IsT b 12 (subL Θ (carL a d A)) := (carL_T hd hA).sub fun n hn h0 => hR n ((carL_T hd hA).vars n hn h0) h0
  have tB : IsT b 12 (subL Θ (carL a d B)) := (carL_T hd hB).sub fun n hn h0 => hR n ((carL_T hd hB).vars n hn h0) h0
  have hu := cut_unique [subL Θ (carL a d A), subL Θ (carL a d B)] [A', B'] [] [] (by intro z hz; simp at hz; rcases hz with rfl | rfl <;> assumption) (by intro z hz; simp at hz; rcases hz with rfl | rfl <;> assumption) rfl (by simpa using e)
  have e1 := hu.1
  simp only [List.cons.injEq, and_true] at e1
  exact ⟨e1.1.symm, e1.2.symm⟩
theorem back_side {b : Sg} {P N : List Int} (hP12 : (varsF [] P).length ≤ 12) {X : List Int} (hX : IsT b 12 X) (hs : ∀ n ∈ X, n < 0 → n ∈ P) : subL (baT P N) (subL (reT P N) X) = X :=
  back_sub fun n hn h0 => back_one hP12 (by have := hX.vars n hn h0; omega) h0 ((varsF_mem P [] n).2 (Or.inr ⟨hs n hn h0, h0⟩))
theorem back_apar {b : Sg} {P N : List Int} (hN12 : (varsF [] N).length ≤ 12) {X : List Int} (hX : IsT b 12 X) (hs : ∀ n ∈ X, n < 0 → n ∈ N) : subL (baT P N) (subL (reT P N) (aparL X)) = aparL X := by
  refine back_sub fun n hn h0 => ?_
  obtain ⟨k, hk, rfl⟩ := List.mem_map.1 hn
  by_cases h : k < 0
  · rw [if_pos h]
    exact back_two hN12 (by have := hX.vars k hk h; omega) h ((varsF_mem N [] k).2 (Or.inr ⟨hs k hk h, h⟩))
  · rw [if_neg h] at h0; exact absurd h0 h
theorem car_det {a b : Sg} {d : Dic} (h : oneB a b d = true) {p n : List Int} (hp : termB a p = true) (hn : termB a n = true) {x y : List Int × Int} (hx : DetR a p n x) (hy : DetR b (carC a d p) (carC a d n) y) : y = carX a d x := by
  have hd := oneB_ok h
  have hdic := one_dic h
  have vP := carC_term hd.toDicOK hp
  have vN := carC_term hd.toDicOK hn
  have hh := carC_head h (termB_T hp)
  rcases hx with ⟨hf, -⟩ | ⟨-, -, ⟨h0, rfl⟩ | ⟨A, B, rfl, tA, tB, hu⟩⟩
  · rw [hp, hn] at hf; cases hf
  · rcases hy with ⟨hf, -⟩ | ⟨-, -, ⟨-, rfl⟩ | ⟨A', B', e, -, -, -⟩⟩
    · rw [vP, vN] at hf; cases hf
    · rfl
    · exact absurd (hh.1 (by rw [e]; rfl)) h0
  · rcases hy with ⟨hf, -⟩ | ⟨-, -, ⟨k0, -⟩ | ⟨A', B', e, tA', tB', hu'⟩⟩
    · rw [vP, vN] at hf; cases hf
    · exact absurd (hh.2 rfl) k0
    · obtain ⟨eA, eB⟩ := carC_sides hdic tA tB hp (carL a d n) e tA' tB'
      have tN := termB_T (car_term hd.toDicOK hn)
      have tP := termB_T (car_term hd.toDicOK hp)
      have eN : aparL (carC a d n) = subL (reT (carL a d (0 :: (A ++ B))) (carL a d n)) (carL a d (aparL n)) := by
        rw [carL_apar hd.toDicOK (termB_T hn)]
        exact canon_re2 tN
      rw [eA, eB, eN] at hu'
      have hPs := carL_zero hdic tA tB
      refine car_ren_UR hd (tA.mono (by omega)) (aparL_T (termB_T hn)) (tB.mono (by omega)) (reT_24 (vars_le_m tP) (vars_le_m tN)) (baT_24 (carL a d (0 :: (A ++ B))) (carL a d n)) ?_ ?_ ?_ hu hu'
      · exact back_side (vars_le_m tP) (carL_T hd.toDicOK tA) fun k hk _ => by rw [hPs]; simp [hk]
      · rw [carL_apar hd.toDicOK (termB_T hn)]
        exact back_apar (vars_le_m tN) tN fun k hk _ => hk
      · exact back_side (vars_le_m tP) (carL_T hd.toDicOK tB) fun k hk _ => by rw [hPs]; simp [hk]
end Go.Proofs.YtalodmochkodiaaGreat
