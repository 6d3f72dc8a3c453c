/-
  WHAT IT HOLDS: the walk of the law BlameMakes: it returns true. Conditions: the arguments read as data.
-/
import Derived.Deep.RegionHeld3
import Derived.Test.YtlbjbmpkaniojaaGreatZRBlameMakes44
import Derived.Test.YtlbjbmpkaniojaaGreatZRBlameMakes34
import Derived.Test.YtlbjbmpkaniojaaGreatZRBlameMakes36
import Derived.Test.YtlbjbmpkaniojaaGreatZRBlameMakes46
import Derived.Test.YtlbjbmpkaniojaaGreatZRBlameMakes32
import Derived.Test.YtlbjbmpkaniojaaGreatZRBlameMakes43
namespace Go.Proofs.YtlbjbmpkaniojaaGreat
open Go Go.RowKit Go.Maps
theorem makes_back {s : Sg} {l : List En} {c : Chg} (h : (undoL s l c).2 = 0) : (madeL s l c).2 = 0 ∧ madeL s (madeL s l c).1 (undoL s l c).1 = (l, 0) ∧ edB s (madeL s l c).1 = true := by
  have hm : (madeL s l c).2 = 0 := by
    refine Classical.byContradiction fun hn => ?_
    rw [undoL_er hn] at h
    exact hn h
  obtain ⟨h1, h2, h3⟩ := made_ed hm
  have hd : doL l c = ((madeL s l c).1, 0) := by rw [← madeL_yes h1 h2]; exact Prod.ext rfl hm
  obtain ⟨k1, k2⟩ := undo_back h1 h2 hd (u := (undoL s l c).1) (Prod.ext rfl h)
  exact ⟨hm, by rw [madeL_yes h3 k1]; exact k2, h3⟩
theorem und_sm2 (s : Sg) (l : List En) (c : Chg) : (undoL s l c).1.who.size ≤ 140737488355328 ∧ (undoL s l c).1.name.size ≤ 140737488355328 ∧ (undoL s l c).1.new.size ≤ 140737488355328 := by
  have key : ∀ {n : Nm}, nmB n = true → n.size ≤ 140737488355328 := fun h => by have := (nmB_len h).2; omega
  have e0 : (em : Nm).size ≤ 140737488355328 := by decide
  have e1 : chg0.who.size ≤ 140737488355328 ∧ chg0.name.size ≤ 140737488355328 ∧ chg0.new.size ≤ 140737488355328 := by decide
  by_cases hm : (madeL s l c).2 = 0
  · obtain ⟨h1, h2, h3⟩ := undoL_ok hm
    by_cases h : (undoL s l c).2 = 0
    · have hd : doL l c = ((madeL s l c).1, 0) := by rw [← madeL_yes h1 h2]; exact Prod.ext rfl hm
      have hk := (undo_back h1 h2 hd (u := (undoL s l c).1) (Prod.ext rfl h)).1
      cases chgB_iff.1 hk with
      | put h0 h1 hk h2 h3 h4 => exact ⟨key h1, by rw [h2]; exact e0, by rw [h3]; exact e0⟩
      | ren h0 h1 hk h2 h3 h4 h5 => exact ⟨key h1, key h2, key h3⟩
      | drop h0 h1 hk h2 h3 h5 => exact ⟨key h1, key h2, by rw [h3]; exact e0⟩
    · rw [h3] at h ⊢
      split
      · exact e1
      · rename_i hn; rw [if_neg hn] at h; exact absurd rfl h
  · rw [undoL_er hm]
    exact e1
theorem chs_one {w : World} {c : Chg} {vS vU vP : Value} {T : TypeId} (h : ChgAt w vS vU vP c) : ChsAt (w.alloc (.cells #[.int .i64 c.kind, .string c.who, .string c.name, .string c.new, .string c.ent.name, .string c.ent.who, vS, vU, vP] T)) (.slice (some ⟨w.heap.size, 0, none⟩) 1 1) [c] :=
  chs_lit (l := [c]) (vs := [(vS, vU, vP)]) rfl rfl (by simp) (fun j h1 h2 => by
    have : j = 0 := by simpa using h1
    subst this
    exact h)
set_option maxHeartbeats 8000000 in
set_option maxRecDepth 100000 in
theorem walk_BlameMakes (vs vl vS vU vP : Value) (s : Sg) (l : List En) (c : Chg) (w : World) (hs : SignAt w vs s) (hl : EntsAt w vl l) (hc : ChgAt w vS vU vP c) :
    Calls Tryz.prog 5 #[vs, vl, chV c vS vU vP] w fun e w' => e = .returned (.bool true) ∧ Below w.heap.size w w' := by
  obtain ⟨sp, sc0, rfl, -, hsl, -⟩ := hs.open
  obtain ⟨lp, lc, rfl, -, hll, -⟩ := hl.open
  obtain ⟨sa, sc, rfl, -⟩ := hc.e.s.open
  obtain ⟨ua, uc, rfl, -⟩ := hc.e.u.open
  obtain ⟨pa, pc, rfl, -⟩ := hc.e.p.open
  have hCB := CB.new w c (.slice sa c.ent.says.length sc) (.slice ua c.ent.uses.length uc) (.slice pa c.ent.proof.length pc) 43
  obtain ⟨V, hV⟩ : ∃ V, w.alloc (.cells #[.int .i64 c.kind, .string c.who, .string c.name, .string c.new, .string c.ent.name, .string c.ent.who, .slice sa c.ent.says.length sc, .slice ua c.ent.uses.length uc, .slice pa c.ent.proof.length pc] 43) = V := ⟨_, rfl⟩
  have hbV : Below w.heap.size w V := hV ▸ (Below.refl _ _).alloc (Nat.le_refl _) _
  rw [hV] at hCB
  have HAW := hid (law9_awake V)
  have HS := hid (hs.below hbV)
  have HL := hid (hl.below hbV)
  have HC := hid (hc.below hbV)
  have HW := hid hV
  have HBV := hid hbV
  have HCB := hid hCB
  have HHV := hid (fun (X : World) (hX : Below V.heap.size V X) => law9_heavy _ _ s l X (HS.out.below hX) (HL.out.below hX))
  have HMN := hid (fun (X : World) (hX : Below V.heap.size V X) (v : Value) (hv : ChsAt X v [c]) => law9_many v [c] X hv)
  unfold chV
  clear hV hbV hCB hs hl hc
  go_enter Tryz.func5, Tryz.ntmps5
  go_wp2_with (rw [HW.out])
  refine HAW.out.mono ?_
  rintro e w1 ⟨rfl, hb1⟩
  have HB1 := hid hb1
  have HH1 := hid (HHV.out w1 hb1)
  clear hb1 HAW HHV
  go_wp2_with fail
  refine HH1.out.mono ?_
  rintro e w2 ⟨z, rfl, hz, hb2⟩
  have HB2 := hid (HB1.out.trans (hb2.mono HB1.out.size))
  clear hb2 HH1
  cases z
  case true =>
    go_wp2
    go_ret
    exact ⟨rfl, HBV.out.trans (HB2.out.mono HBV.out.size)⟩
  obtain ⟨hs20, hl70⟩ := hz rfl
  have hbA : Below w2.heap.size w2 (w2.alloc (.cells #[.int .i64 c.kind, .string c.who, .string c.name, .string c.new, .string c.ent.name, .string c.ent.who, .slice sa c.ent.says.length sc, .slice ua c.ent.uses.length uc, .slice pa c.ent.proof.length pc] 43)) := (Below.refl _ _).alloc (Nat.le_refl _) _
  have HBA := hid (HB2.out.trans (hbA.mono HB2.out.size))
  have HM2 := hid (HMN.out _ HBA.out _ (chs_one (HC.out.below HB2.out)))
  obtain ⟨c0, c1, c2, c3, c4, c5, c6, c7, c8⟩ := HCB.out.below HB2.out
  clear HMN hz hbA
  go_wp2_with fail
  refine HM2.out.mono ?_
  rintro e w3 ⟨z2, rfl, -, hb3⟩
  have HB3 := hid (HBA.out.trans (hb3.mono HBA.out.size))
  clear hb3 HM2 c0 c1 c2 c3 c4 c5 c6 c7 c8
  cases z2
  case true =>
    go_wp2
    go_ret
    exact ⟨rfl, HBV.out.trans (HB3.out.mono HBV.out.size)⟩
  have hs1 : s.length ≤ 1000 := by omega
  have hl1 : l.length ≤ 1000 := by omega
  have HSB := hid (blame_Sorted _ _ s l w3 (HS.out.below HB3.out) (HL.out.below HB3.out) hs1 hl1)
  have HSR := hid (fun (X : World) (hX : Below V.heap.size V X) => ref9_Sorted _ _ s l X (HS.out.below hX) (HL.out.below hX) hs1 hl1)
  have HEB := hid (fun (X : World) (hX : Below V.heap.size V X) => blame_Edition _ _ s l X (HS.out.below hX) (HL.out.below hX) hs1 hl1)
  have HER := hid (fun (X : World) (hX : Below V.heap.size V X) => ref9_Edition _ _ s l X (HS.out.below hX) (HL.out.below hX) hs1 hl1)
  have HVB := hid (fun (X : World) (hX : Below V.heap.size V X) => blame_Valid _ _ _ _ s c X (HS.out.below hX) (HC.out.below hX) hs1)
  have HVR := hid (fun (X : World) (hX : Below V.heap.size V X) => ref9_Valid _ _ _ _ s c X (HS.out.below hX) (HC.out.below hX) hs1)
  have HMB := hid (fun (X : World) (hX : Below V.heap.size V X) => blame_Made _ _ _ _ _ s l c X (HS.out.below hX) (HL.out.below hX) (HC.out.below hX) hs1 hl1)
  have HMR := hid (fun (X : World) (hX : Below V.heap.size V X) => ref9_Made _ _ _ _ _ s l c X (HS.out.below hX) (HL.out.below hX) (HC.out.below hX) hs1 hl1)
  have HUB := hid (fun (X : World) (hX : Below V.heap.size V X) => blame_Undone _ _ _ _ _ s l c X (HS.out.below hX) (HL.out.below hX) (HC.out.below hX) hs1 hl1)
  have HUR := hid (fun (X : World) (hX : Below V.heap.size V X) => ref9_Undone _ _ _ _ _ s l c X (HS.out.below hX) (HL.out.below hX) (HC.out.below hX) hs1 hl1)
  unfold chV at HVB HVR HMB HMR HUB HUR
  obtain ⟨eb, heb⟩ : ∃ eb, edB s l = eb := ⟨_, rfl⟩
  obtain ⟨vb, hvb⟩ : ∃ vb, chgB s c = vb := ⟨_, rfl⟩
  obtain ⟨S, se, hse⟩ : ∃ S se, srtL s l = (S, se) := ⟨_, _, rfl⟩
  obtain ⟨M, me, hme⟩ : ∃ M me, madeL s l c = (M, me) := ⟨_, _, rfl⟩
  obtain ⟨u, ue, hue⟩ : ∃ u ue, undoL s l c = (u, ue) := ⟨_, _, rfl⟩
  have HMK := hid (makes_back (s := s) (l := l) (c := c))
  have HUS := hid (und_sm2 s l c)
  have HQB := hid (fun (M' : List En) (hM : M'.length ≤ 1000) (a : Value) (u' : Chg) (b1 b2 b3 : Value) (X : World) (hX : Below V.heap.size V X) (ha : EntsAt X a M') (hu : ChgAt X b1 b2 b3 u') => blame_Made _ a b1 b2 b3 s M' u' X (HS.out.below hX) ha hu hs1 hM)
  have HEM := hid (fun (M' : List En) (hM : M'.length ≤ 1000) (a : Value) (X : World) (hX : Below V.heap.size V X) (ha : EntsAt X a M') => blame_Edition _ a s M' X (HS.out.below hX) ha hs1 hM)
  simp only [heb] at HEB HER
  simp only [hvb] at HVB HVR
  rw [hse] at HSB
  simp only [hse] at HSR
  simp only [hme] at HMB HMR HMK
  simp only [hue] at HUB HUR HMK HUS
  clear heb hvb hse hme hue
  go_wp2_with fail
  refine HSB.out.mono ?_
  rintro e w4 ⟨v4, rfl, hv4, hb4⟩
  have HB4 := hid (HB3.out.trans (hb4.mono HB3.out.size))
  have HV4 := hid hv4
  obtain ⟨a4, k4, rfl, -⟩ := hv4.open
  have HSR4 := hid (HSR.out w4 HB4.out)
  clear hb4 hv4 HSB HSR
  go_wp2_with fail
  refine HSR4.out.mono ?_
  rintro e w5 ⟨v5, rfl, hv5, hb5⟩
  have HB5 := hid (HB4.out.trans (hb5.mono HB4.out.size))
  have HV4 := hid (HV4.out.below hb5)
  have HV5 := hid hv5
  obtain ⟨a5, k5, rfl, -⟩ := hv5.open
  obtain ⟨c0, c1, c2, c3, c4, c5, c6, c7, c8⟩ := HCB.out.below HB5.out
  have hbz0 : Below w5.heap.size w5 w5 := Below.refl _ _
  have hvz : w5.heap.size ≤ w5.heap.size := Nat.le_refl _
  clear hb5 hv5 HSR4
  have n1 : (eb != eb) = false := by simp
  have n2 : (vb != vb) = false := by simp
  have n3 : (se != se) = false := by simp
  have HEB5 := hid (fun (X : World) (hX : Below w5.heap.size w5 X) => HEB.out X (HB5.out.trans (hX.mono HB5.out.size)))
  have HER5 := hid (fun (X : World) (hX : Below w5.heap.size w5 X) => HER.out X (HB5.out.trans (hX.mono HB5.out.size)))
  have HVB5 := hid (fun (X : World) (hX : Below w5.heap.size w5 X) => HVB.out X (HB5.out.trans (hX.mono HB5.out.size)))
  have HVR5 := hid (fun (X : World) (hX : Below w5.heap.size w5 X) => HVR.out X (HB5.out.trans (hX.mono HB5.out.size)))
  have HSM5 := hid (fun (X : World) (hX : Below w5.heap.size w5 X) => ref6_SameLibraryE _ _ S X (HV4.out.below hX) (HV5.out.below hX))
  have C0 := hid c0
  have C1 := hid c1
  have C2 := hid c2
  have C3 := hid c3
  have C4 := hid c4
  have C5 := hid c5
  have C6 := hid c6
  have C7 := hid c7
  have C8 := hid c8
  go_wp2
  go_region_held3 (fun w' => w'.cell? ⟨w.heap.size, 0, none⟩ = some (.int .i64 c.kind) ∧ w'.cell? ⟨w.heap.size, 1, none⟩ = some (.string c.who) ∧ w'.cell? ⟨w.heap.size, 2, none⟩ = some (.string c.name) ∧ w'.cell? ⟨w.heap.size, 3, none⟩ = some (.string c.new) ∧ w'.cell? ⟨w.heap.size, 4, none⟩ = some (.string c.ent.name) ∧ w'.cell? ⟨w.heap.size, 5, none⟩ = some (.string c.ent.who) ∧ w'.cell? ⟨w.heap.size, 6, none⟩ = some (.slice sa c.ent.says.length sc) ∧ w'.cell? ⟨w.heap.size, 7, none⟩ = some (.slice ua c.ent.uses.length uc) ∧ w'.cell? ⟨w.heap.size, 8, none⟩ = some (.slice pa c.ent.proof.length pc))
    (first | exact ⟨by assumption, by assumption, by assumption, by assumption, by assumption, by assumption, by assumption, by assumption, by assumption⟩ | go_keep)
    (first
      | (go_at_call 24; (with_reducible refine (HEB5.out _ (by (repeat (first | with_reducible assumption | with_reducible exact Below.refl _ _ | with_reducible exact below_self_drewN _ _ | with_reducible refine Below.drew ?_ | with_reducible refine below_drewN ?_ _ | (with_reducible refine Below.alloc ?_ ?_ _; rotate_left; focus (first | (simp; done) | omega | (simp; omega))))))).mono ?_); rintro e wz ⟨rfl, hbz⟩; have hbr : Below w5.heap.size w5 wz := Below.trans (by (repeat (first | with_reducible assumption | with_reducible exact Below.refl _ _ | with_reducible exact below_self_drewN _ _ | with_reducible refine Below.drew ?_ | with_reducible refine below_drewN ?_ _ | (with_reducible refine Below.alloc ?_ ?_ _; rotate_left; focus (first | (simp; done) | omega | (simp; omega)))))) (hbz.mono (by (first | (simp; done) | omega | (simp; omega)))); have hvz := hbr.size; have c0 := (hbr.cell (World.block_lt_of_cell? _ _ C0.out)).trans C0.out; have c1 := (hbr.cell (World.block_lt_of_cell? _ _ C1.out)).trans C1.out; have c2 := (hbr.cell (World.block_lt_of_cell? _ _ C2.out)).trans C2.out; have c3 := (hbr.cell (World.block_lt_of_cell? _ _ C3.out)).trans C3.out; have c4 := (hbr.cell (World.block_lt_of_cell? _ _ C4.out)).trans C4.out; have c5 := (hbr.cell (World.block_lt_of_cell? _ _ C5.out)).trans C5.out; have c6 := (hbr.cell (World.block_lt_of_cell? _ _ C6.out)).trans C6.out; have c7 := (hbr.cell (World.block_lt_of_cell? _ _ C7.out)).trans C7.out; have c8 := (hbr.cell (World.block_lt_of_cell? _ _ C8.out)).trans C8.out)
      | (go_at_call 25; (with_reducible refine (HER5.out _ (by (repeat (first | with_reducible assumption | with_reducible exact Below.refl _ _ | with_reducible exact below_self_drewN _ _ | with_reducible refine Below.drew ?_ | with_reducible refine below_drewN ?_ _ | (with_reducible refine Below.alloc ?_ ?_ _; rotate_left; focus (first | (simp; done) | omega | (simp; omega))))))).mono ?_); rintro e wz ⟨rfl, hbz⟩; have hbr : Below w5.heap.size w5 wz := Below.trans (by (repeat (first | with_reducible assumption | with_reducible exact Below.refl _ _ | with_reducible exact below_self_drewN _ _ | with_reducible refine Below.drew ?_ | with_reducible refine below_drewN ?_ _ | (with_reducible refine Below.alloc ?_ ?_ _; rotate_left; focus (first | (simp; done) | omega | (simp; omega)))))) (hbz.mono (by (first | (simp; done) | omega | (simp; omega)))); have hvz := hbr.size; have c0 := (hbr.cell (World.block_lt_of_cell? _ _ C0.out)).trans C0.out; have c1 := (hbr.cell (World.block_lt_of_cell? _ _ C1.out)).trans C1.out; have c2 := (hbr.cell (World.block_lt_of_cell? _ _ C2.out)).trans C2.out; have c3 := (hbr.cell (World.block_lt_of_cell? _ _ C3.out)).trans C3.out; have c4 := (hbr.cell (World.block_lt_of_cell? _ _ C4.out)).trans C4.out; have c5 := (hbr.cell (World.block_lt_of_cell? _ _ C5.out)).trans C5.out; have c6 := (hbr.cell (World.block_lt_of_cell? _ _ C6.out)).trans C6.out; have c7 := (hbr.cell (World.block_lt_of_cell? _ _ C7.out)).trans C7.out; have c8 := (hbr.cell (World.block_lt_of_cell? _ _ C8.out)).trans C8.out)
      | (go_at_call 26; (with_reducible refine (HVB5.out _ (by (repeat (first | with_reducible assumption | with_reducible exact Below.refl _ _ | with_reducible exact below_self_drewN _ _ | with_reducible refine Below.drew ?_ | with_reducible refine below_drewN ?_ _ | (with_reducible refine Below.alloc ?_ ?_ _; rotate_left; focus (first | (simp; done) | omega | (simp; omega))))))).mono ?_); rintro e wz ⟨rfl, hbz⟩; have hbr : Below w5.heap.size w5 wz := Below.trans (by (repeat (first | with_reducible assumption | with_reducible exact Below.refl _ _ | with_reducible exact below_self_drewN _ _ | with_reducible refine Below.drew ?_ | with_reducible refine below_drewN ?_ _ | (with_reducible refine Below.alloc ?_ ?_ _; rotate_left; focus (first | (simp; done) | omega | (simp; omega)))))) (hbz.mono (by (first | (simp; done) | omega | (simp; omega)))); have hvz := hbr.size; have c0 := (hbr.cell (World.block_lt_of_cell? _ _ C0.out)).trans C0.out; have c1 := (hbr.cell (World.block_lt_of_cell? _ _ C1.out)).trans C1.out; have c2 := (hbr.cell (World.block_lt_of_cell? _ _ C2.out)).trans C2.out; have c3 := (hbr.cell (World.block_lt_of_cell? _ _ C3.out)).trans C3.out; have c4 := (hbr.cell (World.block_lt_of_cell? _ _ C4.out)).trans C4.out; have c5 := (hbr.cell (World.block_lt_of_cell? _ _ C5.out)).trans C5.out; have c6 := (hbr.cell (World.block_lt_of_cell? _ _ C6.out)).trans C6.out; have c7 := (hbr.cell (World.block_lt_of_cell? _ _ C7.out)).trans C7.out; have c8 := (hbr.cell (World.block_lt_of_cell? _ _ C8.out)).trans C8.out)
      | (go_at_call 27; (with_reducible refine (HVR5.out _ (by (repeat (first | with_reducible assumption | with_reducible exact Below.refl _ _ | with_reducible exact below_self_drewN _ _ | with_reducible refine Below.drew ?_ | with_reducible refine below_drewN ?_ _ | (with_reducible refine Below.alloc ?_ ?_ _; rotate_left; focus (first | (simp; done) | omega | (simp; omega))))))).mono ?_); rintro e wz ⟨rfl, hbz⟩; have hbr : Below w5.heap.size w5 wz := Below.trans (by (repeat (first | with_reducible assumption | with_reducible exact Below.refl _ _ | with_reducible exact below_self_drewN _ _ | with_reducible refine Below.drew ?_ | with_reducible refine below_drewN ?_ _ | (with_reducible refine Below.alloc ?_ ?_ _; rotate_left; focus (first | (simp; done) | omega | (simp; omega)))))) (hbz.mono (by (first | (simp; done) | omega | (simp; omega)))); have hvz := hbr.size; have c0 := (hbr.cell (World.block_lt_of_cell? _ _ C0.out)).trans C0.out; have c1 := (hbr.cell (World.block_lt_of_cell? _ _ C1.out)).trans C1.out; have c2 := (hbr.cell (World.block_lt_of_cell? _ _ C2.out)).trans C2.out; have c3 := (hbr.cell (World.block_lt_of_cell? _ _ C3.out)).trans C3.out; have c4 := (hbr.cell (World.block_lt_of_cell? _ _ C4.out)).trans C4.out; have c5 := (hbr.cell (World.block_lt_of_cell? _ _ C5.out)).trans C5.out; have c6 := (hbr.cell (World.block_lt_of_cell? _ _ C6.out)).trans C6.out; have c7 := (hbr.cell (World.block_lt_of_cell? _ _ C7.out)).trans C7.out; have c8 := (hbr.cell (World.block_lt_of_cell? _ _ C8.out)).trans C8.out)
      | (go_at_call 17; (with_reducible refine (HSM5.out _ (by (repeat (first | with_reducible assumption | with_reducible exact Below.refl _ _ | with_reducible exact below_self_drewN _ _ | with_reducible refine Below.drew ?_ | with_reducible refine below_drewN ?_ _ | (with_reducible refine Below.alloc ?_ ?_ _; rotate_left; focus (first | (simp; done) | omega | (simp; omega))))))).mono ?_); rintro e wz ⟨rfl, hbz⟩; have hbr : Below w5.heap.size w5 wz := Below.trans (by (repeat (first | with_reducible assumption | with_reducible exact Below.refl _ _ | with_reducible exact below_self_drewN _ _ | with_reducible refine Below.drew ?_ | with_reducible refine below_drewN ?_ _ | (with_reducible refine Below.alloc ?_ ?_ _; rotate_left; focus (first | (simp; done) | omega | (simp; omega)))))) (hbz.mono (by (first | (simp; done) | omega | (simp; omega)))); have hvz := hbr.size; have c0 := (hbr.cell (World.block_lt_of_cell? _ _ C0.out)).trans C0.out; have c1 := (hbr.cell (World.block_lt_of_cell? _ _ C1.out)).trans C1.out; have c2 := (hbr.cell (World.block_lt_of_cell? _ _ C2.out)).trans C2.out; have c3 := (hbr.cell (World.block_lt_of_cell? _ _ C3.out)).trans C3.out; have c4 := (hbr.cell (World.block_lt_of_cell? _ _ C4.out)).trans C4.out; have c5 := (hbr.cell (World.block_lt_of_cell? _ _ C5.out)).trans C5.out; have c6 := (hbr.cell (World.block_lt_of_cell? _ _ C6.out)).trans C6.out; have c7 := (hbr.cell (World.block_lt_of_cell? _ _ C7.out)).trans C7.out; have c8 := (hbr.cell (World.block_lt_of_cell? _ _ C8.out)).trans C8.out))
  have HB6 := hid (HB5.out.trans (hbr.mono HB5.out.size))
  obtain ⟨w6, hw6⟩ : ∃ w6, wz = w6 := ⟨_, rfl⟩
  subst hw6
  have HMB6 := hid (HMB.out _ HB6.out)
  clear hbr hbz hvz hbz0 HEB HER HVB HVR HMB HEB5 HER5 HVB5 HVR5 HSM5 n1 n2
  go_wp2_with fail
  refine HMB6.out.mono ?_
  rintro e w7 ⟨v7, rfl, hv7, hb7⟩
  have HB7 := hid (HB6.out.trans (hb7.mono HB6.out.size))
  have HV7 := hid hv7.ents
  obtain ⟨a7, k7, rfl, -⟩ := HV7.out.open
  clear c0 c1 c2 c3 c4 c5 c6 c7 c8
  obtain ⟨c0, c1, c2, c3, c4, c5, c6, c7, c8⟩ := HCB.out.below HB7.out
  have HMR7 := hid (HMR.out w7 HB7.out)
  clear hv7 hb7 HMB6 HMR
  go_wp2_with fail
  refine HMR7.out.mono ?_
  rintro e w8 ⟨v8, rfl, hv8, hb8⟩
  have HB8 := hid (HB7.out.trans (hb8.mono HB7.out.size))
  have HV7 := hid (HV7.out.below hb8)
  have HV8 := hid hv8
  obtain ⟨a8, k8, rfl, -⟩ := HV8.out.open
  clear c0 c1 c2 c3 c4 c5 c6 c7 c8
  obtain ⟨c0, c1, c2, c3, c4, c5, c6, c7, c8⟩ := HCB.out.below HB8.out
  have HUB8 := hid (HUB.out w8 HB8.out)
  clear hv8 hb8 HMR7 HUB
  go_wp2_with fail
  refine HUB8.out.mono ?_
  rintro e w9 ⟨vS9, vU9, vP9, he, hO, hb⟩
  replace hO : EntO w9 _ vS9 vU9 vP9 u.ent := hO
  obtain ⟨sa9, sk9, rfl⟩ := owns_slice hO.s
  obtain ⟨ta9, tk9, rfl⟩ := owns_slice hO.u
  obtain ⟨pa9, pk9, rfl⟩ := owns_slice hO.p
  replace he : e = .returned (.tuple #[.agg #[.int .i64 u.kind, .string u.who, .string u.name, .string u.new, .string u.ent.name, .string u.ent.who, .slice sa9 u.ent.says.length sk9, .slice ta9 u.ent.uses.length tk9, .slice pa9 u.ent.proof.length pk9], .int .i64 ue]) := he
  subst he
  have hcb := CB.new w9 u (.slice sa9 u.ent.says.length sk9) (.slice ta9 u.ent.uses.length tk9) (.slice pa9 u.ent.proof.length pk9) 43
  obtain ⟨X9, hX⟩ : ∃ X, w9.alloc (.cells #[.int .i64 u.kind, .string u.who, .string u.name, .string u.new, .string u.ent.name, .string u.ent.who, .slice sa9 u.ent.says.length sk9, .slice ta9 u.ent.uses.length tk9, .slice pa9 u.ent.proof.length pk9] 43) = X := ⟨_, rfl⟩
  rw [hX] at hcb
  have hbX : Below w9.heap.size w9 X9 := hX ▸ (Below.refl _ _).alloc (Nat.le_refl _) _
  have HX9 := hid hX
  have HN9 := hid (hb.trans (hbX.mono hb.size))
  have HB9 := hid (HB8.out.trans (HN9.out.mono HB8.out.size))
  have HCG9 : Hid (ChgAt X9 (.slice sa9 u.ent.says.length sk9) (.slice ta9 u.ent.uses.length tk9) (.slice pa9 u.ent.proof.length pk9) u) := hid ⟨hO.ent.below hbX, HUS.out.1, HUS.out.2.1, HUS.out.2.2⟩
  have HCB9 := hid hcb
  clear hO hb hX hbX hcb
  clear c0 c1 c2 c3 c4 c5 c6 c7 c8
  obtain ⟨c0, c1, c2, c3, c4, c5, c6, c7, c8⟩ := HCB.out.below HB9.out
  have HV7 := hid (HV7.out.below HN9.out)
  have HV8 := hid (HV8.out.below HN9.out)
  have HUR9 := hid (HUR.out X9 HB9.out)
  clear HUB8 HUR
  go_wp2_with (rw [HX9.out])
  refine HUR9.out.mono ?_
  rintro e w10 ⟨vS10, vU10, vP10, he, hO, hb⟩
  replace hO : EntO w10 _ vS10 vU10 vP10 u.ent := hO
  obtain ⟨sa10, sk10, rfl⟩ := owns_slice hO.s
  obtain ⟨ta10, tk10, rfl⟩ := owns_slice hO.u
  obtain ⟨pa10, pk10, rfl⟩ := owns_slice hO.p
  replace he : e = .returned (.tuple #[.agg #[.int .i64 u.kind, .string u.who, .string u.name, .string u.new, .string u.ent.name, .string u.ent.who, .slice sa10 u.ent.says.length sk10, .slice ta10 u.ent.uses.length tk10, .slice pa10 u.ent.proof.length pk10], .int .i64 ue]) := he
  subst he
  have hcb := CB.new w10 u (.slice sa10 u.ent.says.length sk10) (.slice ta10 u.ent.uses.length tk10) (.slice pa10 u.ent.proof.length pk10) 43
  obtain ⟨X10, hX⟩ : ∃ X, w10.alloc (.cells #[.int .i64 u.kind, .string u.who, .string u.name, .string u.new, .string u.ent.name, .string u.ent.who, .slice sa10 u.ent.says.length sk10, .slice ta10 u.ent.uses.length tk10, .slice pa10 u.ent.proof.length pk10] 43) = X := ⟨_, rfl⟩
  rw [hX] at hcb
  have hbX : Below w10.heap.size w10 X10 := hX ▸ (Below.refl _ _).alloc (Nat.le_refl _) _
  have HX10 := hid hX
  have HN10 := hid (hb.trans (hbX.mono hb.size))
  have HB10 := hid (HB9.out.trans (HN10.out.mono HB9.out.size))
  have HCG10 : Hid (ChgAt X10 (.slice sa10 u.ent.says.length sk10) (.slice ta10 u.ent.uses.length tk10) (.slice pa10 u.ent.proof.length pk10) u) := hid ⟨hO.ent.below hbX, HUS.out.1, HUS.out.2.1, HUS.out.2.2⟩
  have HCB10 := hid hcb
  clear hO hb hX hbX hcb
  clear c0 c1 c2 c3 c4 c5 c6 c7 c8
  have HCB9 := hid (HCB9.out.below HN10.out)
  have HCG9 := hid (HCG9.out.below HN10.out)
  have HV7 := hid (HV7.out.below HN10.out)
  have HSL := hid (ref6_SameLibraryE _ _ M X10 HV7.out (HV8.out.below HN10.out))
  have n4 : (me != me) = false := by simp
  have n5 : (ue != ue) = false := by simp
  clear HUR9
  go_wp2_with (rw [HX10.out])
  refine HSL.out.mono ?_
  rintro e w11 ⟨rfl, hb11⟩
  have HB11 := hid (HB10.out.trans (hb11.mono HB10.out.size))
  have HV7 := hid (HV7.out.below hb11)
  have HCB9 := hid (HCB9.out.below hb11)
  have HCG9 := hid (HCG9.out.below hb11)
  obtain ⟨c0, c1, c2, c3, c4, c5, c6, c7, c8⟩ := HCB9.out
  obtain ⟨d0, d1, d2, d3, d4, d5, d6, d7, d8⟩ := HCB10.out.below hb11
  have HSC := hid (ref9_SameChangeE _ _ _ _ _ _ u w11 HCG9.out (HCG10.out.below hb11))
  unfold chV at HSC
  clear hb11 HSL
  go_wp2_with fail
  refine HSC.out.mono ?_
  rintro e w12 ⟨rfl, hb12⟩
  have HB12 := hid (HB11.out.trans (hb12.mono HB11.out.size))
  have HV7 := hid (HV7.out.below hb12)
  have HCB9 := hid (HCB9.out.below hb12)
  have HCG9 := hid (HCG9.out.below hb12)
  clear hb12 HSC c0 c1 c2 c3 c4 c5 c6 c7 c8 d0 d1 d2 d3 d4 d5 d6 d7 d8
  by_cases h0 : ue = 0
  case neg =>
    have n6 : (ue != 0) = true := by simpa using h0
    clear h0
    go_wp2
    go_ret
    exact ⟨rfl, HBV.out.trans (HB12.out.mono HBV.out.size)⟩
  subst h0
  obtain ⟨hm0, hm1, hm2⟩ := HMK.out rfl
  subst hm0
  have hM1 : M.length ≤ 1000 := by have := (edB_iff.1 hm2).1.len; omega
  have HQ12 := hid (HQB.out M hM1 _ u _ _ _ w12 HB12.out HV7.out HCG9.out)
  have HEM1 := hid (fun (X : World) (hX : Below w12.heap.size w12 X) => HEM.out M hM1 _ X (HB12.out.trans (hX.mono HB12.out.size)) (HV7.out.below hX))
  rw [hm1] at HQ12
  simp only [hm2] at HEM1
  unfold chV at HQ12
  obtain ⟨c0, c1, c2, c3, c4, c5, c6, c7, c8⟩ := HCB9.out
  clear hm1 hm2 HQB HEM HMK
  go_wp2_with fail
  refine HQ12.out.mono ?_
  rintro e w13 ⟨v13, rfl, hv13, hb13⟩
  have HB13 := hid (HB12.out.trans (hb13.mono HB12.out.size))
  have HSL := hid (ref6_SameLibraryE _ _ l w13 hv13.ents (HL.out.below HB13.out))
  have HN13 := hid hb13
  obtain ⟨a13, k13, rfl, -⟩ := hv13.ents.open
  clear hv13 hb13 HQ12 c0 c1 c2 c3 c4 c5 c6 c7 c8
  go_wp2_with fail
  refine HSL.out.mono ?_
  rintro e w14 ⟨rfl, hb14⟩
  have HB14 := hid (HB13.out.trans (hb14.mono HB13.out.size))
  have HE14 := hid (HEM1.out w14 (HN13.out.trans (hb14.mono HN13.out.size)))
  clear hb14 HSL
  go_wp2_with fail
  refine HE14.out.mono ?_
  rintro e w15 ⟨rfl, hb15⟩
  have HB15 := hid (HB14.out.trans (hb15.mono HB14.out.size))
  clear hb15 HE14
  go_wp2
  go_ret
  exact ⟨rfl, HBV.out.trans (HB15.out.mono HBV.out.size)⟩
end Go.Proofs.YtlbjbmpkaniojaaGreat
