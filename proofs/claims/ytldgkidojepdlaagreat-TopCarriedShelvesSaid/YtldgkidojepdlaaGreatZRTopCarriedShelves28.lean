/-
  WHAT IT HOLDS: contracts of carried and Carried of package tongue: what a dictionary makes of a term. Conditions: the arguments read as data; small signs.
-/
import Derived.Test.YtldgkidojepdlaaGreatZRTopCarriedShelves27
import Derived.Test.YtldgkidojepdlaaGreatZRTopCarriedShelves15
import Derived.Test.YtldgkidojepdlaaGreatZRTopCarriedShelves9
namespace Go.Proofs.YtldgkidojepdlaaGreat
open Go Go.RowKit Go.Maps Go.Shelf
theorem grown_set {w : World} {b : Nat} (v : Value) : w.grownBy (w.setCell ⟨b, 0, none⟩ v) (some b) := by
  have h := Kb.setCell (M := fun k => k = b) (A := w) (p := ⟨b, 0, none⟩) v rfl
  exact ⟨h.os, h.tape, h.output, h.size, fun k hk hne => h.same k hk fun e => hne (by rw [e])⟩
theorem grown_cell {w w' : World} {b : Nat} {a : Addr} {v : Value} (h : w.cell? a = some v) (hg : w.grownBy w' (some b)) (hne : b ≠ a.block) : w'.cell? a = some v :=
  (World.cell?_of_block (hg.block _ (World.block_lt_of_cell? _ _ h) (by simpa using fun e => hne e.symm))).trans h
/-- a row is pushed that is newer than the slice of slices, where only one elder block was turned since. -/
theorem NR.pushKept {w0 w w1 : World} {base base' : Nat} {E e : TypeId} {u : Value} {vs : List Value} {gs : List (List Int)} {r : Option Nat} (h0 : NR w0 base E e u vs gs) (hB : w0.heap.size ≤ base') (hbb : base ≤ base') (hb : w0.grownBy w r) (hr : ∀ q, r = some q → q < base) {v : Value} {g : List Int}
    (hv : w.ownsRow base' e 1 v g.length (g.map (Value.int .i64))) {gg cap n : Nat} (hn : n = gs.length)
    (hown : w1.ownsRow base E 1 (.slice (some ⟨gg, 0, none⟩) (n + 1) cap) (n + 1) (vs ++ [v])) (hg : w.grownBy w1 u.ownBlock) {H : Nat} (hH : H = w.heap.size) (hat : u.ownBlock = some gg ∨ gg = H) : NR w1 base E e (.slice (some ⟨gg, 0, none⟩) (n + 1) cap) (vs ++ [v]) (gs ++ [g]) := by
  subst hn
  refine (h0.kept hb hr).push (owns_base hv hbb) (fun q hq v' hv' he => ?_) (fun hne he => ?_) hown hg ?_
  · have h1 := h0.block_lt hv' he
    have h2 := hv.lt q hq
    omega
  · obtain ⟨q, hq⟩ := Option.ne_none_iff_exists'.1 hne
    have h1 := hv.lt q hq
    have h2 := h0.top.lt q (by rw [← he]; exact hq)
    omega
  · rcases hat with ha | ha
    · exact Or.inl (by rw [ha]; rfl)
    · exact Or.inr ⟨gg, rfl, by omega⟩
def fnCr (bt ba bs bw bd : Nat) : Value := .func (.func 42) #[] #[.pointer (some ⟨bt, 0, none⟩), .pointer (some ⟨ba, 0, none⟩), .pointer (some ⟨bs, 0, none⟩), .pointer (some ⟨bw, 0, none⟩), .pointer (some ⟨bd, 0, none⟩)]
/-- what the walk over a term holds. -/
structure CrE (bt ba bs bw bd : Nat) (vt vs vd : Value) (i : Int) (w : World) : Prop where
  t : w.cell? ⟨bt, 0, none⟩ = some vt
  s : w.cell? ⟨bs, 0, none⟩ = some vs
  f : w.cell? ⟨bw, 0, none⟩ = some (fnCr bt ba bs bw bd)
  d : w.cell? ⟨bd, 0, none⟩ = some vd
  a : w.cell? ⟨ba, 0, none⟩ = some (.int .i64 i)
  z : w.frozen? ⟨ba, 0, none⟩ = false
theorem CrE.below {bt ba bs bw bd : Nat} {vt vs vd : Value} {i : Int} {w w' : World} (h : CrE bt ba bs bw bd vt vs vd i w) (hb : Below w.heap.size w w') : CrE bt ba bs bw bd vt vs vd i w' :=
  have lt := World.block_lt_of_cell? _ _ h.a
  ⟨(hb.cell (World.block_lt_of_cell? _ _ h.t)).trans h.t, (hb.cell (World.block_lt_of_cell? _ _ h.s)).trans h.s, (hb.cell (World.block_lt_of_cell? _ _ h.f)).trans h.f, (hb.cell (World.block_lt_of_cell? _ _ h.d)).trans h.d, (hb.cell lt).trans h.a, (hb.frozen lt).trans h.z⟩
/-- other blocks and the own one apart, the cell of the index aside. -/
theorem CrE.turn {bt ba bs bw bd : Nat} {vt vs vd : Value} {i j : Int} {w w' : World} (hne : ba ≠ bt ∧ ba ≠ bs ∧ ba ≠ bw ∧ ba ≠ bd) (h : CrE bt ba bs bw bd vt vs vd i w) (hg : w.grownBy w' (some ba)) (ha : w'.cell? ⟨ba, 0, none⟩ = some (.int .i64 j)) (hz : w'.frozen? ⟨ba, 0, none⟩ = false) : CrE bt ba bs bw bd vt vs vd j w' :=
  ⟨grown_cell h.t hg hne.1, grown_cell h.s hg hne.2.1, grown_cell h.f hg hne.2.2.1, grown_cell h.d hg hne.2.2.2, ha, hz⟩
theorem CrE.set {bt ba bs bw bd : Nat} {vt vs vd : Value} {i : Int} {w : World} (hne : ba ≠ bt ∧ ba ≠ bs ∧ ba ≠ bw ∧ ba ≠ bd) (h : CrE bt ba bs bw bd vt vs vd i w) (j : Int) : CrE bt ba bs bw bd vt vs vd j (w.setCell ⟨ba, 0, none⟩ (.int .i64 j)) := by
  refine h.turn hne (grown_set _) ?_ ?_
  · exact World.cell?_setCell_same _ _ _ h.a
  · rw [World.frozen?_setCell]; exact h.z
theorem CrE.own {bt ba bs bw bd : Nat} {vt vs vd : Value} {i j : Int} {w W W' : World} {r : Option Nat} (h : CrE bt ba bs bw bd vt vs vd i w) (hW : CrE bt ba bs bw bd vt vs vd j W) (hg : W.grownBy W' r) (hr : ∀ q, r = some q → w.heap.size ≤ q) : CrE bt ba bs bw bd vt vs vd j W' := by
  have key : ∀ {a : Addr} {v v' : Value}, w.cell? a = some v → W.cell? a = some v' → W'.heap[a.block]? = W.heap[a.block]? := fun {a v v'} h1 h2 =>
    hg.block _ (World.block_lt_of_cell? _ _ h2) (fun e => by have := hr _ e.symm; have := World.block_lt_of_cell? _ _ h1; omega)
  exact ⟨(World.cell?_of_block (key h.t hW.t)).trans hW.t, (World.cell?_of_block (key h.s hW.s)).trans hW.s, (World.cell?_of_block (key h.f hW.f)).trans hW.f, (World.cell?_of_block (key h.d hW.d)).trans hW.d, (World.cell?_of_block (key h.a hW.a)).trans hW.a, (World.frozen?_of_block (key h.a hW.a)).trans hW.z⟩
def CrP (s : Sg) (d : Dic) (p : List Int) (i : Int) (bt ba bs bw bd : Nat) (vt vs vd : Value) (w : World) (e : Ending) (w' : World) : Prop :=
  ∃ u, e = .returned u ∧ w'.ownsRow w.heap.size 3 1 u (carL s d p).length ((carL s d p).map (Value.int .i64)) ∧ w.grownBy w' (some ba) ∧ CrE bt ba bs bw bd vt vs vd (i + p.length) w'
/-- what is put together of the first arguments. -/
def CrX (s : Sg) (d : Dic) (zs : List (List Int)) (l : List Int) (ton k : Nat) : List Int := (ton : Int) :: ((l.take k).map fun q => (zs.map (carL s d)).getD q.toNat []).flatten
theorem CrX_succ {s : Sg} {d : Dic} {zs : List (List Int)} {l : List Int} {ton k m : Nat} (hk : k < l.length) (hm : l[k] = (m : Int)) (hml : m < zs.length) : CrX s d zs l ton (k + 1) = CrX s d zs l ton k ++ carL s d zs[m] := by
  unfold CrX
  rw [List.take_succ_eq_append_getElem hk, List.map_append, List.flatten_append, hm]
  simp [List.getD_eq_getElem?_getD, hml]
/-- how far the arguments have been carried. -/
def CrA (s : Sg) (d : Dic) (zs : List (List Int)) (i : Nat) (bt ba bs bw bd : Nat) (vt vs vd : Value) (w : World) (u q : Value) (wr : World) : Prop :=
  ∃ (k : Nat) (ws : List Value), k ≤ zs.length ∧ q = .int .i64 k ∧ NR wr w.heap.size 29 3 u ws ((zs.take k).map (carL s d)) ∧ w.grownBy wr (some ba) ∧ CrE bt ba bs bw bd vt vs vd ((i + 1 + (zs.take k).flatten.length : Nat) : Int) wr
set_option maxHeartbeats 4000000 in
set_option maxRecDepth 100000 in
theorem tongue_carried1 (bt ba bs bw bd : Nat) (vt vs vd : Value) (s b : Sg) (d : Dic) (T : List Int) (wb : World) (hs : SignAt wb vs s) (hT : Ints wb vt T) (hd : BindsAt wb vd d) (hok : DicOK s b d) (hne : ba ≠ bt ∧ ba ≠ bs ∧ ba ≠ bw ∧ ba ≠ bd) (hba : wb.heap.size ≤ ba)
    (hTl : T.length ≤ 60) {p : List Int} (hp : IsT s 12 p) : ∀ (i : Nat) (r : List Int) (w : World), T.drop i = p ++ r → Below wb.heap.size wb w → CrE bt ba bs bw bd vt vs vd i w →
      Calls Tryz.prog 42 #[.pointer (some ⟨bt, 0, none⟩), .pointer (some ⟨ba, 0, none⟩), .pointer (some ⟨bs, 0, none⟩), .pointer (some ⟨bw, 0, none⟩), .pointer (some ⟨bd, 0, none⟩)] w (CrP s d p i bt ba bs bw bd vt vs vd w) := by
  obtain ⟨ta, tc, rfl, -, -, -, TC⟩ := hT.open
  obtain ⟨sa, sc, rfl, -, -, -, SC⟩ := hs.open
  obtain ⟨da, dc, rfl, -, -, -, DC⟩ := hd.open
  have TC := hid TC
  have SC := hid SC
  have DC := hid DC
  have HOK := hid hok
  have HNE := hid hne
  obtain ⟨ls1, ls2⟩ := sign_len hok.sa
  clear hT hs hd hok hne
  induction hp with
  | var n h1 h2 =>
    intro i r w hdr hb hE
    have hi : i < T.length := by have := congrArg List.length hdr; simp at this; omega
    have hTi : T[i] = n := by
      have := List.getElem_drop (xs := T) (i := i) (j := 0) (h := by simp; omega)
      simp only [Nat.add_zero] at this
      rw [← this]
      simp [hdr]
    obtain ⟨tb, to, rfl, ct0⟩ := TC.out i hi
    rw [hTi] at ct0
    have ct := (hb.cell (World.block_lt_of_cell? _ _ ct0)).trans ct0
    have et := hE.t
    have ea := hE.a
    have ez := hE.z
    have i0 : (0 : Int) ≤ (i : Int) := by omega
    have i1 : (i : Int) < (T.length : Int) := by omega
    have HE := hid hE
    have hlt := World.block_lt_of_cell? _ _ ea
    have HG := hid (grown_set (w := w) (b := ba) (.int .i64 ((i : Int) + 1)))
    have HE2 := hid (hE.set HNE.out ((i : Int) + 1))
    have e2 := HE2.out.a
    obtain ⟨W1, hW1⟩ : ∃ W1, w.setCell ⟨ba, 0, none⟩ (.int .i64 ((i : Int) + 1)) = W1 := ⟨_, rfl⟩
    rw [hW1] at HG HE2 e2
    have hO := hid (World.ownsRow_lit (base := w.heap.size) (e := 3) (size := 1) W1 #[.int .i64 n] 1 HG.out.size (by simp [maxLen]) rfl)
    have hcv := carL_var s d h2
    have HCV := hid hcv
    clear hE hTi ct0 hdr hcv
    go_enter Tryz.func42, Tryz.ntmps42
    go_wp2
    try rw [hW1]
    go_ret
    refine ⟨_, rfl, ?_, grown_trans HG.out (grown_of_below ((Below.refl _ _).alloc (Nat.le_refl _) _)), ?_⟩
    · rw [HCV.out]; exact hO.out
    · exact HE2.out.below ((Below.refl _ _).alloc (Nat.le_refl _) _)
  | app c zs h1 h2 h3 ih =>
    intro i r w hdr hb hE
    have hi : i < T.length := by have := congrArg List.length hdr; simp at this; omega
    have hTi : T[i] = (c : Int) := by
      have := List.getElem_drop (xs := T) (i := i) (j := 0) (h := by simp; omega)
      simp only [Nat.add_zero] at this
      rw [← this]
      simp [hdr]
    have hdr2 : T.drop (i + 1) = zs.flatten ++ r := by
      rw [← List.tail_drop, hdr]; rfl
    have hzl3 : zs.length ≤ 3 := by have := sign_ar HOK.out.sa h1; rw [arOf_get h1] at h2; omega
    have hTlen : i + 1 + zs.flatten.length + r.length = T.length := by have := congrArg List.length hdr; simp only [List.length_drop, List.length_append, List.length_cons] at this; omega
    obtain ⟨tb, to, rfl, ct0⟩ := TC.out i hi
    rw [hTi] at ct0
    have ct := (hb.cell (World.block_lt_of_cell? _ _ ct0)).trans ct0
    obtain ⟨sb, so, rfl, -, cs0, -⟩ := SC.out c h1
    have hcd : c < d.length := by rw [HOK.out.len]; exact h1
    obtain ⟨db, dof, ud, rfl, cd10, cd20, id0⟩ := DC.out c hcd
    obtain ⟨ton, l, hgd, hto, -, hll, hol, hdc⟩ := HOK.out.at h1
    have hdc' : d[c] = ((ton : Int), l) := by rw [List.getElem?_eq_getElem hcd] at hdc; exact Option.some.inj hdc
    rw [hdc'] at cd10 id0
    simp only at cd10 id0
    obtain ⟨la, lc, rfl, -, -, -, LC⟩ := id0.open
    have har : s[c].2 = (zs.length : Int) := by rw [arOf_get h1] at h2; omega
    rw [har] at cs0
    have hlz : l.length = zs.length := by omega
    have et := hE.t
    have ea := hE.a
    have ez := hE.z
    have es := hE.s
    have i0 : (0 : Int) ≤ (i : Int) := by omega
    have i1 : (i : Int) < (T.length : Int) := by omega
    have hlt := World.block_lt_of_cell? _ _ ea
    have HG := hid (grown_set (w := w) (b := ba) (.int .i64 ((i : Int) + 1)))
    have HE2 := hid (hE.set HNE.out ((i : Int) + 1))
    have e2 := HE2.out.a
    have e2s := HE2.out.s
    obtain ⟨W1, hW1⟩ : ∃ W1, w.setCell ⟨ba, 0, none⟩ (.int .i64 ((i : Int) + 1)) = W1 := ⟨_, rfl⟩
    rw [hW1] at HG HE2 e2 e2s
    have hbW : Below wb.heap.size wb W1 := hb.grown HG.out hb.size (fun q hq => by cases hq; exact hba)
    have cs1 := (hbW.cell (World.block_lt_of_cell? _ _ cs0)).trans cs0
    have HCA := hid (carL_app (d := d) h2 h3)
    rw [hgd] at HCA
    have HIH := hid ih
    have H3 := hid h3
    have HDR2 := hid hdr2
    have HB := hid hb
    have HE0 := hid hE
    have HOL := hid hol
    have HLC := hid LC
    have HIDl := hid id0
    have CD1 := hid cd10
    have CD2 := hid cd20
    have c0 : (0 : Int) ≤ (c : Int) := by omega
    have c1 : (c : Int) < (s.length : Int) := by omega
    have c2 : (c : Int) < (d.length : Int) := by omega
    have hcn : decide ((c : Int) < 0) = false := by simp
    clear hE hTi ct0 hdr hdr2 h3 ih hb hgd hdc hdc' har hol LC id0 cd10 cd20 cs0 hll h2
    go_enter Tryz.func42, Tryz.ntmps42
    go_wp2
    try rw [hW1]
    clear hW1 et ea ez es ct e2
    go_loopw [7, 26] (fun u q wr => CrA s d zs i bt ba bs bw bd _ _ _ w u q wr) (fun _ q _ => zs.length - (intOf q).toNat)
    case atStart => exact ⟨0, [], by omega, rfl, NR.nil _ _ _ _, HG.out, by simpa using HE2.out⟩
    case round =>
      clear cs1 e2s HE2 HG
      obtain ⟨k, ws, hk, rfl, hN, hg, hE⟩ := hrel
      have hsz := hg.size
      have hbr : Below wb.heap.size wb wr := HB.out.grown hg HB.out.size (fun q hq => by cases hq; exact hba)
      have hgl : ((zs.take k).map (carL s d)).length = k := by simp; omega
      by_cases hlt2 : k < zs.length
      · have hzz : zs.flatten = (zs.take k).flatten ++ (zs[k] ++ (zs.drop (k + 1)).flatten) := by
          conv => lhs; rw [← List.take_append_drop k zs, List.flatten_append, List.drop_eq_getElem_cons hlt2, List.flatten_cons]
        have hdr3 : T.drop (i + 1 + (zs.take k).flatten.length) = zs[k] ++ ((zs.drop (k + 1)).flatten ++ r) := by
          rw [← List.drop_drop, HDR2.out, hzz, List.append_assoc, List.drop_left, List.append_assoc]
        have hnext : (zs.take (k + 1)).flatten.length = (zs.take k).flatten.length + zs[k].length := by
          rw [List.take_succ_eq_append_getElem hlt2, List.flatten_append, List.length_append]; simp only [List.flatten_cons, List.flatten_nil, List.append_nil]
        have hmap : (zs.take (k + 1)).map (carL s d) = (zs.take k).map (carL s d) ++ [carL s d zs[k]] := by
          rw [List.take_succ_eq_append_getElem hlt2, List.map_append]; rfl
        have HCALL := hid (HIH.out zs[k] (List.getElem_mem hlt2) _ _ wr hdr3 hbr hE)
        have cw3 : wr.cell? ⟨bw, 0, none⟩ = some (.func (.func 42) #[] #[.pointer (some ⟨bt, 0, none⟩), .pointer (some ⟨ba, 0, none⟩), .pointer (some ⟨bs, 0, none⟩), .pointer (some ⟨bw, 0, none⟩), .pointer (some ⟨bd, 0, none⟩)]) := hE.f
        have HN := hid hN
        have HNEXT := hid hnext
        have HMAP := hid hmap
        have HGL := hid hgl
        have HGR := hid hg
        obtain ⟨z, hz⟩ : ∃ z, zs[k] = z := ⟨_, rfl⟩
        rw [hz] at HCALL HNEXT HMAP
        clear hzz hdr3 hnext hmap hN hgl hz hg hbr
        go_wp2_with fail
        refine HCALL.out.mono ?_
        rintro e w5 ⟨u5, rfl, hown5, hg5, hE5⟩
        obtain ⟨a5, c5, rfl⟩ := ownsRow_slice2 hown5
        have hs5 := hg5.size
        have HE5 := hid hE5
        have htop := (HN.out.kept hg5 (fun q hq => by cases hq; exact hlt)).top
        rw [HGL.out] at htop
        have HTOP := hid htop
        have HO5 := hid hown5
        have HG5 := hid hg5
        clear htop hown5 hg5 hE5
        go_wp2_with (at_builtin; refine wpList_append_lie rfl _ _ 27 rfl w.heap.size 29 el_term Tryz.underlying27 rfl (by decide) _ _ _ rfl (HTOP.out.alloc _) _ 1 [.slice a5 (carL s d z).length c5] rfl (row_one_new _ _ _) (oneCell_one rfl) (by omega) (by omega) (by omega) (by simp; omega) _ rfl ?_; intro g6 c6 w6 hown6 hgrow6 hat6 hlt6)
        have hg5a : wr.grownBy (w5.alloc (.cells #[.slice a5 (carL s d z).length c5] 29)) (some ba) := grown_trans HG5.out (grown_of_below ((Below.refl _ _).alloc (Nat.le_refl _) _))
        have HPUSH := hid (NR.pushKept (g := carL s d z) HN.out (Nat.le_refl _) hsz hg5a (fun q hq => by cases hq; exact hlt) (HO5.out.alloc _) HGL.out.symm hown6 hgrow6 rfl hat6)
        have hob : ∀ q, u7.ownBlock = some q → w.heap.size ≤ q := fun q hq => (HN.out.top.lt q hq).1
        have HG6 := hid (grown_own (grown_trans HGR.out hg5a) hgrow6 hob)
        have hE6 : CrE bt ba bs bw bd (Value.slice (some { block := tb, off := to }) T.length tc) (Value.slice (some { block := sb, off := so }) (List.length s) sc) (Value.slice (some { block := db, off := dof }) (List.length d) dc) _ w6 := HE0.out.own (HE5.out.below ((Below.refl _ _).alloc (Nat.le_refl _) (.cells #[.slice a5 (carL s d z).length c5] 29))) hgrow6 hob
        have HE6 := hid hE6
        clear hgrow6 hat6 hown6 hg5a hE6
        go_wp2
        go_roundw
        case rel => exact ⟨k + 1, _, by omega, by go_num, by rw [HMAP.out]; exact HPUSH.out, HG6.out, by rw [HNEXT.out]; have := HE6.out; rw [show ((i + 1 + ((zs.take k).flatten.length + z.length) : Nat) : Int) = ((i + 1 + (zs.take k).flatten.length : Nat) : Int) + (z.length : Int) from by omega]; exact this⟩
        case measure => simp [intOf]; omega
      · have hkz : k = zs.length := by omega
        subst hkz
        obtain ⟨W3, hW3⟩ : ∃ W3, W3 = wr := ⟨_, rfl⟩
        subst hW3
        rw [List.take_of_length_le (Nat.le_refl _)] at hN hE
        have ed := hE.d
        have cd1 := (hbr.cell (World.block_lt_of_cell? _ _ CD1.out)).trans CD1.out
        have cd2 := (hbr.cell (World.block_lt_of_cell? _ _ CD2.out)).trans CD2.out
        have hbA : Below W3.heap.size W3 (W3.alloc (.cells #[.int .i64 ton] 3)) := (Below.refl _ _).alloc (Nat.le_refl _) _
        have ed2 := (hbA.cell (World.block_lt_of_cell? _ _ ed)).trans ed
        have cd2' := (hbA.cell (World.block_lt_of_cell? _ _ cd2)).trans cd2
        have hO := hid (World.ownsRow_lit (base := W3.heap.size) (e := 3) (size := 1) W3 #[.int .i64 ton] 1 (Nat.le_refl _) (by simp [maxLen]) rfl)
        have HBA := hid hbA
        have HN := hid hN
        have HE := hid hE
        have HGR := hid hg
        have HBR := hid hbr
        have HLZ := hid hlz
        clear hN hE hg hbr hbA hgl hlt2 hk hlz
        go_wp2
        clear ed ed2 cd1 cd2 cd2'
        have hln : l.length ≤ 3 := by have := HLZ.out; omega
        go_loopw [8, 46] (fun u q w2 => ∃ k : Nat, k ≤ l.length ∧ q = .int .i64 k ∧ w2.ownsRow W3.heap.size 3 1 u (CrX s d zs l ton k).length ((CrX s d zs l ton k).map (Value.int .i64)) ∧ Below W3.heap.size W3 w2 ∧ (CrX s d zs l ton k).length ≤ 1 + 60 * k) (fun _ q _ => l.length - (intOf q).toNat)
        case atStart => exact ⟨0, by omega, rfl, by simpa [CrX] using hO.out, HBA.out, by simp [CrX]⟩
        case round =>
          clear hO HBA
          obtain ⟨k, hk, rfl, hown, hb2, hcx⟩ := hrel
          have hs2 := hb2.size
          by_cases hlt3 : k < l.length
          · obtain ⟨lb, lo, rfl, cl0⟩ := HLC.out k hlt3
            obtain ⟨m, hm⟩ : ∃ m : Nat, l[k] = m := ⟨l[k].toNat, by have := (ordB_mem HOL.out).1 (List.getElem_mem hlt3); omega⟩
            have hml : m < zs.length := by have := (ordB_mem HOL.out).1 (List.getElem_mem hlt3); have := HLZ.out; omega
            rw [hm] at cl0
            have cl := ((HBR.out.trans (hb2.mono HBR.out.size)).cell (World.block_lt_of_cell? _ _ cl0)).trans cl0
            have htop := HN.out.top
            rw [List.length_map] at htop
            obtain ⟨ga, gc, rfl, -, -⟩ := owns_some htop (by omega)
            have hwl : ws.length = zs.length := by have := HN.out.len; simpa using this
            have hwm : ws[m]? = some (ws[m]'(by omega)) := List.getElem?_eq_getElem (by omega)
            have hrow := HN.out.row m _ (carL s d zs[m]) hwm (by simp [hml])
            obtain ⟨v, hv⟩ : ∃ v, ws[m]'(by omega) = v := ⟨_, rfl⟩
            rw [hv] at hrow hwm
            obtain ⟨av, cv, rfl⟩ := ownsRow_slice2 hrow
            have hca := htop.cellAt m (by omega)
            rw [hwm] at hca
            have hca2 := (hb2.cell (World.block_lt_of_cell? _ _ hca)).trans hca
            have hcz : (carL s d zs[m]).length ≤ 60 := by
              rw [carL_len HOK.out (H3.out zs[m] (List.getElem_mem hml))]
              have := flat_mem_le (List.getElem_mem hml)
              omega
            have HSRC := hid (RowK.of_owns (owns_below hrow hb2) (by omega))
            have HOWN := hid hown
            have HXS := hid (CrX_succ (s := s) (d := d) (zs := zs) (l := l) (ton := ton) hlt3 hm hml)
            have y0 : (0 : Int) ≤ (m : Int) := by omega
            have y1 : (m : Int) < (zs.length : Int) := by omega
            have hob := hid (fun q hq => (hown.lt q hq).1)
            have HB2 := hid hb2
            clear hown hrow htop hca cl0 hm hv hwm hb2
            go_wp2_with (at_builtin; refine wpList_append_row rfl _ _ 29 rfl W3.heap.size 3 el_int Tryz.underlying29 rfl (by decide) _ _ _ rfl HOWN.out _ (carL s d zs[m]).length ((carL s d zs[m]).map (Value.int .i64)) rfl HSRC.out (ints_one _) (by omega) (by omega) (by omega) ?_; intro v' w4 hown4 hgrow4 _)
            go_roundw
            case rel => exact ⟨k + 1, by omega, by go_num, by rw [HXS.out]; simpa using hown4, HB2.out.grown hgrow4 HB2.out.size hob.out, by rw [HXS.out, List.length_append]; omega⟩
            case measure => simp [intOf]; omega
          · have hkl : k = l.length := by omega
            have HXA : Hid (CrX s d zs l ton k = carL s d ((c : Int) :: zs.flatten)) := hid (by
              rw [HCA.out]
              unfold CrX putW
              rw [hkl, List.take_of_length_le (Nat.le_refl _)])
            have HOWN := hid hown
            clear hown
            go_wp2
            go_ret
            refine ⟨_, rfl, ?_, grown_trans HGR.out (grown_of_below hb2), ?_⟩
            · rw [← HXA.out]; exact owns_base HOWN.out hsz
            · have := HE.out.below hb2
              rw [show (i : Int) + (((c : Int) :: zs.flatten).length : Int) = ((i + 1 + zs.flatten.length : Nat) : Int) from by simp only [List.length_cons]; omega]
              exact this
end Go.Proofs.YtldgkidojepdlaaGreat
