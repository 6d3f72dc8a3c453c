/-
  WHAT IT HOLDS: contracts of made and Made of package blame. Conditions: the arguments read as data; small libraries.
  WHAT IT HOLDS: contracts of Made and Undone of package blame. Conditions: the arguments read as data; small signs, small libraries.
  WHAT IT HOLDS: how the two lists lie that Difference of package blame works on: the changes that are put out, and the edition that they turn. No program's walk in sight.
-/
import Derived.Test.YtlbjbmpkaniojaaGreatZRBlameMerges35
import Derived.Test.YtlbjbmpkaniojaaGreatZRBlameMerges31
import Derived.Test.YtlbjbmpkaniojaaGreatZRBlameMerges33
import Derived.Test.YtlbjbmpkaniojaaGreatZRBlameMerges34
import Derived.Test.YtlbjbmpkaniojaaGreatZRBlameMerges25
namespace Go.Proofs.YtlbjbmpkaniojaaGreat
open Go Go.RowKit Go.Maps
theorem EnS.mono {w : World} {base base' : Nat} {u : Value} {vs : List V3} {l : List En} (h : EnS w base u vs l) (hb : base' ≤ base) : EnS w base' u vs l := ⟨owns_base h.top hb, h.len, h.rd⟩
theorem FrB.mono {base base' : Nat} {vs : List V3} (h : FrB base vs) (hb : base' ≤ base) : FrB base' vs := fun v hv q hq => Nat.le_trans hb (h v hv q hq)
/-- a library that lies whole in blocks from 'base' on. -/
def EntsF (w : World) (base : Nat) (u : Value) (l : List En) : Prop := ∃ vs, EnS w base u vs l ∧ FrB base vs ∧ l.length ≤ 1000
theorem rowK_block {w W' : World} {v : Value} {k n : Nat} {xs : List Value} (h : RowK w v k n xs) (hs : ∀ q, v.ownBlock = some q → q < w.heap.size → W'.heap[q]? = w.heap[q]?) : RowK W' v k n xs := by
  obtain ⟨h1, a, cap, h2, h3, h4, h5, h6⟩ := h
  refine ⟨h1, a, cap, h2, h3, h4, h5, fun j u hj => ?_⟩
  obtain ⟨b, o, e, hc⟩ := h6 j u hj
  subst e
  exact ⟨b, o, rfl, (World.cell?_of_block (hs b (by rw [h2]; rfl) (World.block_lt_of_cell? _ _ hc))).trans hc⟩
theorem EntAt.blocks {w W' : World} {vS vU vP : Value} {x : En} (h : EntAt w vS vU vP x) (hs : ∀ q, (vS.ownBlock = some q ∨ vU.ownBlock = some q ∨ vP.ownBlock = some q) → q < w.heap.size → W'.heap[q]? = w.heap[q]?) : EntAt W' vS vU vP x :=
  ⟨rowK_block h.s fun q hq => hs q (Or.inl hq), ⟨rowK_block h.u.1 fun q hq => hs q (Or.inr (Or.inl hq)), h.u.2⟩, rowK_block h.p fun q hq => hs q (Or.inr (Or.inr hq)), h.n1, h.n2⟩
theorem EntsF.ents {w : World} {base : Nat} {u : Value} {l : List En} (h : EntsF w base u l) : EntsAt w u l := by
  obtain ⟨vs, h1, h2, h3⟩ := h
  exact ⟨vs, h1.ents h3⟩
theorem EntsF.nil (w : World) (base : Nat) : EntsF w base (.slice none 0 0) [] := ⟨[], EnS.nil _ _, (fun v hv => by cases hv), by simp⟩
theorem EntsF.mono {w : World} {base base' : Nat} {u : Value} {l : List En} (h : EntsF w base u l) (hb : base' ≤ base) : EntsF w base' u l := by
  obtain ⟨vs, h1, h2, h3⟩ := h
  exact ⟨vs, h1.mono hb, h2.mono hb, h3⟩
/-- it reads as it did wherever the blocks from 'base' on are as they were. -/
theorem EntsF.keep {w W' : World} {base : Nat} {u : Value} {l : List En} (h : EntsF w base u l) (hs : ∀ q, base ≤ q → q < w.heap.size → W'.heap[q]? = w.heap[q]?) : EntsAt W' u l := by
  obtain ⟨vs, h1, h2, h3⟩ := h
  have e := h1.ents h3
  refine ⟨vs, rowK_block e.1 fun q hq => hs q (h1.top.lt q hq).1, h1.len, fun j hj hj' => ?_⟩
  exact (e.2.2 j hj hj').blocks fun q hq => hs q (h2 _ (List.getElem_mem hj') q hq)
theorem addL_len (l : List En) (c : Chg) : (addL l c).1.length ≤ l.length + 1 := by unfold addL; split; simp; split; simp; simp
theorem setL_len (l : List En) (c : Chg) : (setL l c).1.length ≤ l.length + 1 := by unfold setL; split; simp; split; simp; simp
theorem dropL_len (l : List En) (c : Chg) : (dropL l c).1.length ≤ l.length + 1 := by
  unfold dropL
  split
  · simp
  split
  · simp
  · have := (List.eraseIdx_sublist l ‹Nat›).length_le
    show (l.eraseIdx _).length ≤ _
    omega
theorem renaL_len (l : List En) (c : Chg) : (renaL l c).1.length ≤ l.length + 1 := by unfold renaL; split; simp; split; simp; simp
set_option maxHeartbeats 4000000 in
set_option maxRecDepth 100000 in
theorem blame_made1 (vl : Value) (l : List En) (c : Chg) (vS vU vP : Value) (w : World) (hl : EntsAt w vl l) (hc : ChgAt w vS vU vP c) (hk : c.kind = 1) (hl60 : l.length ≤ 60) (hok : ∀ x ∈ l, EnSm x) (hsm : 1 ≤ 2 → EnSm c.ent) :
    Calls Tryz.prog 61 #[vl, chV c vS vU vP] w fun e w' => ∃ u L, e = .returned (.tuple #[u, .int .i64 (addL l c).2]) ∧ EntsF w' w.heap.size u L ∧ L.Perm (addL l c).1 ∧ (L.Pairwise fun a b => ¬ ltN b.name a.name) ∧ Below w.heap.size w w' := by
  obtain ⟨ck, cw, cn, cm, ce⟩ := c
  have hk : ck = 1 := hk
  subst hk
  obtain ⟨sa, sc, rfl, -⟩ := hc.e.s.open
  obtain ⟨ua, uc, rfl, -⟩ := hc.e.u.open
  obtain ⟨pa, pc, rfl, -⟩ := hc.e.p.open
  unfold chV
  simp only
  have hCB := CB.new w ⟨1, cw, cn, cm, ce⟩ (.slice sa ce.says.length sc) (.slice ua ce.uses.length uc) (.slice pa ce.proof.length pc) 43
  simp only at hCB
  obtain ⟨V, hV⟩ : ∃ V, w.alloc (.cells #[.int .i64 1, .string cw, .string cn, .string cm, .string ce.name, .string ce.who, .slice sa ce.says.length sc, .slice ua ce.uses.length uc, .slice pa ce.proof.length pc] 43) = V := ⟨_, rfl⟩
  have hbV : Below w.heap.size w V := hV ▸ (Below.refl _ _).alloc (Nat.le_refl _) _
  have HVZ := hid (show V.heap.size = w.heap.size + 1 by rw [← hV]; simp)
  rw [hV] at hCB
  have HW := hid hV
  clear hV
  have HCO := hid (fun (X : World) (hX : Below w.heap.size w X) => blame_copies vl l X (hl.below hX) (by omega) hok)
  have HC := hid hc
  -- the array of functions
  obtain ⟨A, hA⟩ : ∃ A, V.alloc (.cells #[.nilFunc, .func (.func 110) #[] #[], .func (.func 111) #[] #[], .func (.func 112) #[] #[], .func (.func 113) #[] #[]] 122) = A := ⟨_, rfl⟩
  have hbA : Below V.heap.size V A := hA ▸ (Below.refl _ _).alloc (Nat.le_refl _) _
  have hf : A.cell? ⟨V.heap.size, 1, none⟩ = some (.func (.func 110) #[] #[]) := by rw [← hA, World.cell?_alloc_new]; rfl
  have hbw := hbV.trans (hbA.mono hbV.size)
  have hcA := hCB.below hbA
  have HA := hid hA
  have HCOA := hid (fun (X : World) (hX : Below A.heap.size A X) => HCO.out X (hbw.trans (hX.mono hbw.size)))
  have HCA := hid hcA
  have HBW := hid hbw
  have HFN := hid hf
  have HCK := hid (fun (X : World) (hX : Below A.heap.size A X) => And.intro (hcA.below hX) ((hX.cell (World.block_lt_of_cell? _ _ hf)).trans hf))
  have c0 : A.cell? ⟨w.heap.size, 0, none⟩ = some (.int .i64 1) := hcA.c0
  have c1 : A.cell? ⟨w.heap.size, 1, none⟩ = some (.string cw) := hcA.c1
  have c2 : A.cell? ⟨w.heap.size, 2, none⟩ = some (.string cn) := hcA.c2
  have c3 : A.cell? ⟨w.heap.size, 3, none⟩ = some (.string cm) := hcA.c3
  have c4 : A.cell? ⟨w.heap.size, 4, none⟩ = some (.string ce.name) := hcA.c4
  have c5 : A.cell? ⟨w.heap.size, 5, none⟩ = some (.string ce.who) := hcA.c5
  have c6 : A.cell? ⟨w.heap.size, 6, none⟩ = some (.slice sa ce.says.length sc) := hcA.c6
  have c7 : A.cell? ⟨w.heap.size, 7, none⟩ = some (.slice ua ce.uses.length uc) := hcA.c7
  have c8 : A.cell? ⟨w.heap.size, 8, none⟩ = some (.slice pa ce.proof.length pc) := hcA.c8
  obtain ⟨la, lc, rfl, -⟩ := hl.open
  have hAz : w.heap.size < A.heap.size := World.block_lt_of_cell? _ _ HCA.out.c0
  have hAz2 : V.heap.size < A.heap.size := World.block_lt_of_cell? _ _ hf
  have HSZ := hid (And.intro hAz hAz2)
  clear hA hbA hbw hcA hCB hbV hl hc HCO hAz hAz2
  go_enter Tryz.func61, Tryz.ntmps61
  go_wp2_with (first | rw [HW.out] | rw [HA.out])
  go_region_held3 (fun w' => w'.cell? ⟨w.heap.size, 0, none⟩ = some (.int .i64 1) ∧ w'.cell? ⟨w.heap.size, 1, none⟩ = some (.string cw) ∧ w'.cell? ⟨w.heap.size, 2, none⟩ = some (.string cn) ∧ w'.cell? ⟨w.heap.size, 3, none⟩ = some (.string cm) ∧ w'.cell? ⟨w.heap.size, 4, none⟩ = some (.string ce.name) ∧ w'.cell? ⟨w.heap.size, 5, none⟩ = some (.string ce.who) ∧ w'.cell? ⟨w.heap.size, 6, none⟩ = some (.slice sa ce.says.length sc) ∧ w'.cell? ⟨w.heap.size, 7, none⟩ = some (.slice ua ce.uses.length uc) ∧ w'.cell? ⟨w.heap.size, 8, none⟩ = some (.slice pa ce.proof.length pc) ∧ w'.cell? ⟨V.heap.size, 1, none⟩ = some (.func (.func 110) #[] #[]))
      (first | exact ⟨by assumption, by assumption, by assumption, by assumption, by assumption, by assumption, by assumption, by assumption, by assumption, by assumption⟩ | go_keep)
      (first
      | (go_at_call 65; (with_reducible refine (HCOA.out _ (by (repeat (first | with_reducible assumption | with_reducible exact Below.refl _ _ | with_reducible exact below_self_drewN _ _ | with_reducible refine Below.drew ?_ | with_reducible refine below_drewN ?_ _ | (with_reducible refine Below.alloc ?_ ?_ _; rotate_left; focus (first | (simp; done) | omega | (simp; omega))))))).mono ?_); rintro e wz ⟨ue, vvs, rfl, hEz, hbz⟩; have hbr : Below A.heap.size A wz := Below.trans (by (repeat (first | with_reducible assumption | with_reducible exact Below.refl _ _ | with_reducible exact below_self_drewN _ _ | with_reducible refine Below.drew ?_ | with_reducible refine below_drewN ?_ _ | (with_reducible refine Below.alloc ?_ ?_ _; rotate_left; focus (first | (simp; done) | omega | (simp; omega)))))) (hbz.mono (by (first | (simp; done) | omega | (simp; omega)))); obtain ⟨⟨c0, c1, c2, c3, c4, c5, c6, c7, c8⟩, hf⟩ := HCK.out wz hbr; simp only at c0 c1 c2 c3 c4 c5 c6 c7 c8)
      | (go_at_call 110; (refine (blame_add A.heap.size ue vvs l ⟨1, cw, cn, cm, ce⟩ (.slice sa ce.says.length sc) (.slice ua ce.uses.length uc) (.slice pa ce.proof.length pc) wz (hEz.below (by (repeat (first | with_reducible assumption | with_reducible exact Below.refl _ _ | with_reducible exact below_self_drewN _ _ | with_reducible refine Below.drew ?_ | with_reducible refine below_drewN ?_ _ | (with_reducible refine Below.alloc ?_ ?_ _; rotate_left; focus (first | (simp; done) | omega | (simp; omega))))))) (HC.out.below (HBW.out.trans (hbr.mono HBW.out.size))) (by have := hbr.size; omega) hl60 (hsm (by omega))).mono ?_); rintro e wy ⟨ur, vvr, rfl, hS, hby, hfr⟩; obtain ⟨⟨c0, c1, c2, c3, c4, c5, c6, c7, c8⟩, hf⟩ := HCK.out wy ((hbr.trans hby)); simp only at c0 c1 c2 c3 c4 c5 c6 c7 c8))
  have hzA : A.heap.size ≤ wy.heap.size := Nat.le_trans hbr.size hby.size
  have HBY := hid ((HBW.out.trans (hbr.mono HBW.out.size)).trans (hby.mono HBW.out.size))
  have HSO := hid (sort_row A.heap.size ur vvr _ wy (by have := addL_len l ⟨1, cw, cn, cm, ce⟩; omega) hS hzA)
  have HLN := hid (addL_len l ⟨1, cw, cn, cm, ce⟩)
  have HZ := hid HBW.out.size
  have HFR := hid hfr
  obtain ⟨ra, rc, rfl⟩ := hS.slice
  clear hS hEz hbz hbr hby c0 c1 c2 c3 c4 c5 c6 c7 c8 hf HCOA HCA HFN HCK HSZ hzA
  go_wp2_with fail
  refine HSO.out.mono ?_
  rintro e w5 ⟨vs5, L5, rfl, hS5, hp5, hs5, hb5, hv5⟩
  have HS5 : Hid (EntsF w5 w.heap.size _ L5) := hid ⟨vs5, hS5.mono HZ.out, (HFR.out.sub hv5).mono HZ.out, by rw [hp5.length_eq]; have := HLN.out; omega⟩
  have HP5 := hid (And.intro hp5 hs5)
  have HB5 := hid (HBY.out.trans (hb5.mono HZ.out))
  have hle := hp5.length_eq
  clear hS5 hp5 hs5 hb5
  go_wp2
  go_ret2
  exact ⟨_, L5, rfl, HS5.out, HP5.out.1, HP5.out.2, HB5.out⟩
set_option maxHeartbeats 4000000 in
set_option maxRecDepth 100000 in
theorem blame_made2 (vl : Value) (l : List En) (c : Chg) (vS vU vP : Value) (w : World) (hl : EntsAt w vl l) (hc : ChgAt w vS vU vP c) (hk : c.kind = 2) (hl60 : l.length ≤ 60) (hok : ∀ x ∈ l, EnSm x) (hsm : 2 ≤ 2 → EnSm c.ent) :
    Calls Tryz.prog 61 #[vl, chV c vS vU vP] w fun e w' => ∃ u L, e = .returned (.tuple #[u, .int .i64 (setL l c).2]) ∧ EntsF w' w.heap.size u L ∧ L.Perm (setL l c).1 ∧ (L.Pairwise fun a b => ¬ ltN b.name a.name) ∧ Below w.heap.size w w' := by
  obtain ⟨ck, cw, cn, cm, ce⟩ := c
  have hk : ck = 2 := hk
  subst hk
  obtain ⟨sa, sc, rfl, -⟩ := hc.e.s.open
  obtain ⟨ua, uc, rfl, -⟩ := hc.e.u.open
  obtain ⟨pa, pc, rfl, -⟩ := hc.e.p.open
  unfold chV
  simp only
  have hCB := CB.new w ⟨2, cw, cn, cm, ce⟩ (.slice sa ce.says.length sc) (.slice ua ce.uses.length uc) (.slice pa ce.proof.length pc) 43
  simp only at hCB
  obtain ⟨V, hV⟩ : ∃ V, w.alloc (.cells #[.int .i64 2, .string cw, .string cn, .string cm, .string ce.name, .string ce.who, .slice sa ce.says.length sc, .slice ua ce.uses.length uc, .slice pa ce.proof.length pc] 43) = V := ⟨_, rfl⟩
  have hbV : Below w.heap.size w V := hV ▸ (Below.refl _ _).alloc (Nat.le_refl _) _
  have HVZ := hid (show V.heap.size = w.heap.size + 1 by rw [← hV]; simp)
  rw [hV] at hCB
  have HW := hid hV
  clear hV
  have HCO := hid (fun (X : World) (hX : Below w.heap.size w X) => blame_copies vl l X (hl.below hX) (by omega) hok)
  have HC := hid hc
  -- the array of functions
  obtain ⟨A, hA⟩ : ∃ A, V.alloc (.cells #[.nilFunc, .func (.func 110) #[] #[], .func (.func 111) #[] #[], .func (.func 112) #[] #[], .func (.func 113) #[] #[]] 122) = A := ⟨_, rfl⟩
  have hbA : Below V.heap.size V A := hA ▸ (Below.refl _ _).alloc (Nat.le_refl _) _
  have hf : A.cell? ⟨V.heap.size, 2, none⟩ = some (.func (.func 111) #[] #[]) := by rw [← hA, World.cell?_alloc_new]; rfl
  have hbw := hbV.trans (hbA.mono hbV.size)
  have hcA := hCB.below hbA
  have HA := hid hA
  have HCOA := hid (fun (X : World) (hX : Below A.heap.size A X) => HCO.out X (hbw.trans (hX.mono hbw.size)))
  have HCA := hid hcA
  have HBW := hid hbw
  have HFN := hid hf
  have HCK := hid (fun (X : World) (hX : Below A.heap.size A X) => And.intro (hcA.below hX) ((hX.cell (World.block_lt_of_cell? _ _ hf)).trans hf))
  have c0 : A.cell? ⟨w.heap.size, 0, none⟩ = some (.int .i64 2) := hcA.c0
  have c1 : A.cell? ⟨w.heap.size, 1, none⟩ = some (.string cw) := hcA.c1
  have c2 : A.cell? ⟨w.heap.size, 2, none⟩ = some (.string cn) := hcA.c2
  have c3 : A.cell? ⟨w.heap.size, 3, none⟩ = some (.string cm) := hcA.c3
  have c4 : A.cell? ⟨w.heap.size, 4, none⟩ = some (.string ce.name) := hcA.c4
  have c5 : A.cell? ⟨w.heap.size, 5, none⟩ = some (.string ce.who) := hcA.c5
  have c6 : A.cell? ⟨w.heap.size, 6, none⟩ = some (.slice sa ce.says.length sc) := hcA.c6
  have c7 : A.cell? ⟨w.heap.size, 7, none⟩ = some (.slice ua ce.uses.length uc) := hcA.c7
  have c8 : A.cell? ⟨w.heap.size, 8, none⟩ = some (.slice pa ce.proof.length pc) := hcA.c8
  obtain ⟨la, lc, rfl, -⟩ := hl.open
  have hAz : w.heap.size < A.heap.size := World.block_lt_of_cell? _ _ HCA.out.c0
  have hAz2 : V.heap.size < A.heap.size := World.block_lt_of_cell? _ _ hf
  have HSZ := hid (And.intro hAz hAz2)
  clear hA hbA hbw hcA hCB hbV hl hc HCO hAz hAz2
  go_enter Tryz.func61, Tryz.ntmps61
  go_wp2_with (first | rw [HW.out] | rw [HA.out])
  go_region_held3 (fun w' => w'.cell? ⟨w.heap.size, 0, none⟩ = some (.int .i64 2) ∧ w'.cell? ⟨w.heap.size, 1, none⟩ = some (.string cw) ∧ w'.cell? ⟨w.heap.size, 2, none⟩ = some (.string cn) ∧ w'.cell? ⟨w.heap.size, 3, none⟩ = some (.string cm) ∧ w'.cell? ⟨w.heap.size, 4, none⟩ = some (.string ce.name) ∧ w'.cell? ⟨w.heap.size, 5, none⟩ = some (.string ce.who) ∧ w'.cell? ⟨w.heap.size, 6, none⟩ = some (.slice sa ce.says.length sc) ∧ w'.cell? ⟨w.heap.size, 7, none⟩ = some (.slice ua ce.uses.length uc) ∧ w'.cell? ⟨w.heap.size, 8, none⟩ = some (.slice pa ce.proof.length pc) ∧ w'.cell? ⟨V.heap.size, 2, none⟩ = some (.func (.func 111) #[] #[]))
      (first | exact ⟨by assumption, by assumption, by assumption, by assumption, by assumption, by assumption, by assumption, by assumption, by assumption, by assumption⟩ | go_keep)
      (first
      | (go_at_call 65; (with_reducible refine (HCOA.out _ (by (repeat (first | with_reducible assumption | with_reducible exact Below.refl _ _ | with_reducible exact below_self_drewN _ _ | with_reducible refine Below.drew ?_ | with_reducible refine below_drewN ?_ _ | (with_reducible refine Below.alloc ?_ ?_ _; rotate_left; focus (first | (simp; done) | omega | (simp; omega))))))).mono ?_); rintro e wz ⟨ue, vvs, rfl, hEz, hbz⟩; have hbr : Below A.heap.size A wz := Below.trans (by (repeat (first | with_reducible assumption | with_reducible exact Below.refl _ _ | with_reducible exact below_self_drewN _ _ | with_reducible refine Below.drew ?_ | with_reducible refine below_drewN ?_ _ | (with_reducible refine Below.alloc ?_ ?_ _; rotate_left; focus (first | (simp; done) | omega | (simp; omega)))))) (hbz.mono (by (first | (simp; done) | omega | (simp; omega)))); obtain ⟨⟨c0, c1, c2, c3, c4, c5, c6, c7, c8⟩, hf⟩ := HCK.out wz hbr; simp only at c0 c1 c2 c3 c4 c5 c6 c7 c8)
      | (go_at_call 111; (refine (blame_set A.heap.size ue vvs l ⟨2, cw, cn, cm, ce⟩ (.slice sa ce.says.length sc) (.slice ua ce.uses.length uc) (.slice pa ce.proof.length pc) wz (hEz.below (by (repeat (first | with_reducible assumption | with_reducible exact Below.refl _ _ | with_reducible exact below_self_drewN _ _ | with_reducible refine Below.drew ?_ | with_reducible refine below_drewN ?_ _ | (with_reducible refine Below.alloc ?_ ?_ _; rotate_left; focus (first | (simp; done) | omega | (simp; omega))))))) (HC.out.below (HBW.out.trans (hbr.mono HBW.out.size))) (by have := hbr.size; omega) hl60 (hsm (by omega))).mono ?_); rintro e wy ⟨ur, vvr, rfl, hS, hby, hfr⟩; obtain ⟨⟨c0, c1, c2, c3, c4, c5, c6, c7, c8⟩, hf⟩ := HCK.out wy ((hbr.trans hby)); simp only at c0 c1 c2 c3 c4 c5 c6 c7 c8))
  have hzA : A.heap.size ≤ wy.heap.size := Nat.le_trans hbr.size hby.size
  have HBY := hid ((HBW.out.trans (hbr.mono HBW.out.size)).trans (hby.mono HBW.out.size))
  have HSO := hid (sort_row A.heap.size ur vvr _ wy (by have := setL_len l ⟨2, cw, cn, cm, ce⟩; omega) hS hzA)
  have HLN := hid (setL_len l ⟨2, cw, cn, cm, ce⟩)
  have HZ := hid HBW.out.size
  have HFR := hid hfr
  obtain ⟨ra, rc, rfl⟩ := hS.slice
  clear hS hEz hbz hbr hby c0 c1 c2 c3 c4 c5 c6 c7 c8 hf HCOA HCA HFN HCK HSZ hzA
  go_wp2_with fail
  refine HSO.out.mono ?_
  rintro e w5 ⟨vs5, L5, rfl, hS5, hp5, hs5, hb5, hv5⟩
  have HS5 : Hid (EntsF w5 w.heap.size _ L5) := hid ⟨vs5, hS5.mono HZ.out, (HFR.out.sub hv5).mono HZ.out, by rw [hp5.length_eq]; have := HLN.out; omega⟩
  have HP5 := hid (And.intro hp5 hs5)
  have HB5 := hid (HBY.out.trans (hb5.mono HZ.out))
  have hle := hp5.length_eq
  clear hS5 hp5 hs5 hb5
  go_wp2
  go_ret2
  exact ⟨_, L5, rfl, HS5.out, HP5.out.1, HP5.out.2, HB5.out⟩
set_option maxHeartbeats 4000000 in
set_option maxRecDepth 100000 in
theorem blame_made3 (vl : Value) (l : List En) (c : Chg) (vS vU vP : Value) (w : World) (hl : EntsAt w vl l) (hc : ChgAt w vS vU vP c) (hk : c.kind = 3) (hl60 : l.length ≤ 60) (hok : ∀ x ∈ l, EnSm x) (hsm : 3 ≤ 2 → EnSm c.ent) :
    Calls Tryz.prog 61 #[vl, chV c vS vU vP] w fun e w' => ∃ u L, e = .returned (.tuple #[u, .int .i64 (renaL l c).2]) ∧ EntsF w' w.heap.size u L ∧ L.Perm (renaL l c).1 ∧ (L.Pairwise fun a b => ¬ ltN b.name a.name) ∧ Below w.heap.size w w' := by
  obtain ⟨ck, cw, cn, cm, ce⟩ := c
  have hk : ck = 3 := hk
  subst hk
  obtain ⟨sa, sc, rfl, -⟩ := hc.e.s.open
  obtain ⟨ua, uc, rfl, -⟩ := hc.e.u.open
  obtain ⟨pa, pc, rfl, -⟩ := hc.e.p.open
  unfold chV
  simp only
  have hCB := CB.new w ⟨3, cw, cn, cm, ce⟩ (.slice sa ce.says.length sc) (.slice ua ce.uses.length uc) (.slice pa ce.proof.length pc) 43
  simp only at hCB
  obtain ⟨V, hV⟩ : ∃ V, w.alloc (.cells #[.int .i64 3, .string cw, .string cn, .string cm, .string ce.name, .string ce.who, .slice sa ce.says.length sc, .slice ua ce.uses.length uc, .slice pa ce.proof.length pc] 43) = V := ⟨_, rfl⟩
  have hbV : Below w.heap.size w V := hV ▸ (Below.refl _ _).alloc (Nat.le_refl _) _
  have HVZ := hid (show V.heap.size = w.heap.size + 1 by rw [← hV]; simp)
  rw [hV] at hCB
  have HW := hid hV
  clear hV
  have HCO := hid (fun (X : World) (hX : Below w.heap.size w X) => blame_copies vl l X (hl.below hX) (by omega) hok)
  have HC := hid hc
  -- the array of functions
  obtain ⟨A, hA⟩ : ∃ A, V.alloc (.cells #[.nilFunc, .func (.func 110) #[] #[], .func (.func 111) #[] #[], .func (.func 112) #[] #[], .func (.func 113) #[] #[]] 122) = A := ⟨_, rfl⟩
  have hbA : Below V.heap.size V A := hA ▸ (Below.refl _ _).alloc (Nat.le_refl _) _
  have hf : A.cell? ⟨V.heap.size, 3, none⟩ = some (.func (.func 112) #[] #[]) := by rw [← hA, World.cell?_alloc_new]; rfl
  have hbw := hbV.trans (hbA.mono hbV.size)
  have hcA := hCB.below hbA
  have HA := hid hA
  have HCOA := hid (fun (X : World) (hX : Below A.heap.size A X) => HCO.out X (hbw.trans (hX.mono hbw.size)))
  have HCA := hid hcA
  have HBW := hid hbw
  have HFN := hid hf
  have HCK := hid (fun (X : World) (hX : Below A.heap.size A X) => And.intro (hcA.below hX) ((hX.cell (World.block_lt_of_cell? _ _ hf)).trans hf))
  have c0 : A.cell? ⟨w.heap.size, 0, none⟩ = some (.int .i64 3) := hcA.c0
  have c1 : A.cell? ⟨w.heap.size, 1, none⟩ = some (.string cw) := hcA.c1
  have c2 : A.cell? ⟨w.heap.size, 2, none⟩ = some (.string cn) := hcA.c2
  have c3 : A.cell? ⟨w.heap.size, 3, none⟩ = some (.string cm) := hcA.c3
  have c4 : A.cell? ⟨w.heap.size, 4, none⟩ = some (.string ce.name) := hcA.c4
  have c5 : A.cell? ⟨w.heap.size, 5, none⟩ = some (.string ce.who) := hcA.c5
  have c6 : A.cell? ⟨w.heap.size, 6, none⟩ = some (.slice sa ce.says.length sc) := hcA.c6
  have c7 : A.cell? ⟨w.heap.size, 7, none⟩ = some (.slice ua ce.uses.length uc) := hcA.c7
  have c8 : A.cell? ⟨w.heap.size, 8, none⟩ = some (.slice pa ce.proof.length pc) := hcA.c8
  obtain ⟨la, lc, rfl, -⟩ := hl.open
  have hAz : w.heap.size < A.heap.size := World.block_lt_of_cell? _ _ HCA.out.c0
  have hAz2 : V.heap.size < A.heap.size := World.block_lt_of_cell? _ _ hf
  have HSZ := hid (And.intro hAz hAz2)
  clear hA hbA hbw hcA hCB hbV hl hc HCO hAz hAz2
  go_enter Tryz.func61, Tryz.ntmps61
  go_wp2_with (first | rw [HW.out] | rw [HA.out])
  go_region_held3 (fun w' => w'.cell? ⟨w.heap.size, 0, none⟩ = some (.int .i64 3) ∧ w'.cell? ⟨w.heap.size, 1, none⟩ = some (.string cw) ∧ w'.cell? ⟨w.heap.size, 2, none⟩ = some (.string cn) ∧ w'.cell? ⟨w.heap.size, 3, none⟩ = some (.string cm) ∧ w'.cell? ⟨w.heap.size, 4, none⟩ = some (.string ce.name) ∧ w'.cell? ⟨w.heap.size, 5, none⟩ = some (.string ce.who) ∧ w'.cell? ⟨w.heap.size, 6, none⟩ = some (.slice sa ce.says.length sc) ∧ w'.cell? ⟨w.heap.size, 7, none⟩ = some (.slice ua ce.uses.length uc) ∧ w'.cell? ⟨w.heap.size, 8, none⟩ = some (.slice pa ce.proof.length pc) ∧ w'.cell? ⟨V.heap.size, 3, none⟩ = some (.func (.func 112) #[] #[]))
      (first | exact ⟨by assumption, by assumption, by assumption, by assumption, by assumption, by assumption, by assumption, by assumption, by assumption, by assumption⟩ | go_keep)
      (first
      | (go_at_call 65; (with_reducible refine (HCOA.out _ (by (repeat (first | with_reducible assumption | with_reducible exact Below.refl _ _ | with_reducible exact below_self_drewN _ _ | with_reducible refine Below.drew ?_ | with_reducible refine below_drewN ?_ _ | (with_reducible refine Below.alloc ?_ ?_ _; rotate_left; focus (first | (simp; done) | omega | (simp; omega))))))).mono ?_); rintro e wz ⟨ue, vvs, rfl, hEz, hbz⟩; have hbr : Below A.heap.size A wz := Below.trans (by (repeat (first | with_reducible assumption | with_reducible exact Below.refl _ _ | with_reducible exact below_self_drewN _ _ | with_reducible refine Below.drew ?_ | with_reducible refine below_drewN ?_ _ | (with_reducible refine Below.alloc ?_ ?_ _; rotate_left; focus (first | (simp; done) | omega | (simp; omega)))))) (hbz.mono (by (first | (simp; done) | omega | (simp; omega)))); obtain ⟨⟨c0, c1, c2, c3, c4, c5, c6, c7, c8⟩, hf⟩ := HCK.out wz hbr; simp only at c0 c1 c2 c3 c4 c5 c6 c7 c8)
      | (go_at_call 112; (refine (blame_rename A.heap.size ue vvs l ⟨3, cw, cn, cm, ce⟩ (.slice sa ce.says.length sc) (.slice ua ce.uses.length uc) (.slice pa ce.proof.length pc) wz (hEz.below (by (repeat (first | with_reducible assumption | with_reducible exact Below.refl _ _ | with_reducible exact below_self_drewN _ _ | with_reducible refine Below.drew ?_ | with_reducible refine below_drewN ?_ _ | (with_reducible refine Below.alloc ?_ ?_ _; rotate_left; focus (first | (simp; done) | omega | (simp; omega))))))) (HC.out.below (HBW.out.trans (hbr.mono HBW.out.size))) (by have := hbr.size; omega) hl60 ).mono ?_); rintro e wy ⟨ur, vvr, rfl, hS, hby, hfr⟩; obtain ⟨⟨c0, c1, c2, c3, c4, c5, c6, c7, c8⟩, hf⟩ := HCK.out wy ((hbr.trans hby)); simp only at c0 c1 c2 c3 c4 c5 c6 c7 c8))
  have hzA : A.heap.size ≤ wy.heap.size := Nat.le_trans hbr.size hby.size
  have HBY := hid ((HBW.out.trans (hbr.mono HBW.out.size)).trans (hby.mono HBW.out.size))
  have HSO := hid (sort_row A.heap.size ur vvr _ wy (by have := renaL_len l ⟨3, cw, cn, cm, ce⟩; omega) hS hzA)
  have HLN := hid (renaL_len l ⟨3, cw, cn, cm, ce⟩)
  have HZ := hid HBW.out.size
  have HFR := hid hfr
  obtain ⟨ra, rc, rfl⟩ := hS.slice
  clear hS hEz hbz hbr hby c0 c1 c2 c3 c4 c5 c6 c7 c8 hf HCOA HCA HFN HCK HSZ hzA
  go_wp2_with fail
  refine HSO.out.mono ?_
  rintro e w5 ⟨vs5, L5, rfl, hS5, hp5, hs5, hb5, hv5⟩
  have HS5 : Hid (EntsF w5 w.heap.size _ L5) := hid ⟨vs5, hS5.mono HZ.out, (HFR.out.sub hv5).mono HZ.out, by rw [hp5.length_eq]; have := HLN.out; omega⟩
  have HP5 := hid (And.intro hp5 hs5)
  have HB5 := hid (HBY.out.trans (hb5.mono HZ.out))
  have hle := hp5.length_eq
  clear hS5 hp5 hs5 hb5
  go_wp2
  go_ret2
  exact ⟨_, L5, rfl, HS5.out, HP5.out.1, HP5.out.2, HB5.out⟩
set_option maxHeartbeats 4000000 in
set_option maxRecDepth 100000 in
theorem blame_made4 (vl : Value) (l : List En) (c : Chg) (vS vU vP : Value) (w : World) (hl : EntsAt w vl l) (hc : ChgAt w vS vU vP c) (hk : c.kind = 4) (hl60 : l.length ≤ 60) (hok : ∀ x ∈ l, EnSm x) (hsm : 4 ≤ 2 → EnSm c.ent) :
    Calls Tryz.prog 61 #[vl, chV c vS vU vP] w fun e w' => ∃ u L, e = .returned (.tuple #[u, .int .i64 (dropL l c).2]) ∧ EntsF w' w.heap.size u L ∧ L.Perm (dropL l c).1 ∧ (L.Pairwise fun a b => ¬ ltN b.name a.name) ∧ Below w.heap.size w w' := by
  obtain ⟨ck, cw, cn, cm, ce⟩ := c
  have hk : ck = 4 := hk
  subst hk
  obtain ⟨sa, sc, rfl, -⟩ := hc.e.s.open
  obtain ⟨ua, uc, rfl, -⟩ := hc.e.u.open
  obtain ⟨pa, pc, rfl, -⟩ := hc.e.p.open
  unfold chV
  simp only
  have hCB := CB.new w ⟨4, cw, cn, cm, ce⟩ (.slice sa ce.says.length sc) (.slice ua ce.uses.length uc) (.slice pa ce.proof.length pc) 43
  simp only at hCB
  obtain ⟨V, hV⟩ : ∃ V, w.alloc (.cells #[.int .i64 4, .string cw, .string cn, .string cm, .string ce.name, .string ce.who, .slice sa ce.says.length sc, .slice ua ce.uses.length uc, .slice pa ce.proof.length pc] 43) = V := ⟨_, rfl⟩
  have hbV : Below w.heap.size w V := hV ▸ (Below.refl _ _).alloc (Nat.le_refl _) _
  have HVZ := hid (show V.heap.size = w.heap.size + 1 by rw [← hV]; simp)
  rw [hV] at hCB
  have HW := hid hV
  clear hV
  have HCO := hid (fun (X : World) (hX : Below w.heap.size w X) => blame_copies vl l X (hl.below hX) (by omega) hok)
  have HC := hid hc
  -- the array of functions
  obtain ⟨A, hA⟩ : ∃ A, V.alloc (.cells #[.nilFunc, .func (.func 110) #[] #[], .func (.func 111) #[] #[], .func (.func 112) #[] #[], .func (.func 113) #[] #[]] 122) = A := ⟨_, rfl⟩
  have hbA : Below V.heap.size V A := hA ▸ (Below.refl _ _).alloc (Nat.le_refl _) _
  have hf : A.cell? ⟨V.heap.size, 4, none⟩ = some (.func (.func 113) #[] #[]) := by rw [← hA, World.cell?_alloc_new]; rfl
  have hbw := hbV.trans (hbA.mono hbV.size)
  have hcA := hCB.below hbA
  have HA := hid hA
  have HCOA := hid (fun (X : World) (hX : Below A.heap.size A X) => HCO.out X (hbw.trans (hX.mono hbw.size)))
  have HCA := hid hcA
  have HBW := hid hbw
  have HFN := hid hf
  have HCK := hid (fun (X : World) (hX : Below A.heap.size A X) => And.intro (hcA.below hX) ((hX.cell (World.block_lt_of_cell? _ _ hf)).trans hf))
  have c0 : A.cell? ⟨w.heap.size, 0, none⟩ = some (.int .i64 4) := hcA.c0
  have c1 : A.cell? ⟨w.heap.size, 1, none⟩ = some (.string cw) := hcA.c1
  have c2 : A.cell? ⟨w.heap.size, 2, none⟩ = some (.string cn) := hcA.c2
  have c3 : A.cell? ⟨w.heap.size, 3, none⟩ = some (.string cm) := hcA.c3
  have c4 : A.cell? ⟨w.heap.size, 4, none⟩ = some (.string ce.name) := hcA.c4
  have c5 : A.cell? ⟨w.heap.size, 5, none⟩ = some (.string ce.who) := hcA.c5
  have c6 : A.cell? ⟨w.heap.size, 6, none⟩ = some (.slice sa ce.says.length sc) := hcA.c6
  have c7 : A.cell? ⟨w.heap.size, 7, none⟩ = some (.slice ua ce.uses.length uc) := hcA.c7
  have c8 : A.cell? ⟨w.heap.size, 8, none⟩ = some (.slice pa ce.proof.length pc) := hcA.c8
  obtain ⟨la, lc, rfl, -⟩ := hl.open
  have hAz : w.heap.size < A.heap.size := World.block_lt_of_cell? _ _ HCA.out.c0
  have hAz2 : V.heap.size < A.heap.size := World.block_lt_of_cell? _ _ hf
  have HSZ := hid (And.intro hAz hAz2)
  clear hA hbA hbw hcA hCB hbV hl hc HCO hAz hAz2
  go_enter Tryz.func61, Tryz.ntmps61
  go_wp2_with (first | rw [HW.out] | rw [HA.out])
  go_region_held3 (fun w' => w'.cell? ⟨w.heap.size, 0, none⟩ = some (.int .i64 4) ∧ w'.cell? ⟨w.heap.size, 1, none⟩ = some (.string cw) ∧ w'.cell? ⟨w.heap.size, 2, none⟩ = some (.string cn) ∧ w'.cell? ⟨w.heap.size, 3, none⟩ = some (.string cm) ∧ w'.cell? ⟨w.heap.size, 4, none⟩ = some (.string ce.name) ∧ w'.cell? ⟨w.heap.size, 5, none⟩ = some (.string ce.who) ∧ w'.cell? ⟨w.heap.size, 6, none⟩ = some (.slice sa ce.says.length sc) ∧ w'.cell? ⟨w.heap.size, 7, none⟩ = some (.slice ua ce.uses.length uc) ∧ w'.cell? ⟨w.heap.size, 8, none⟩ = some (.slice pa ce.proof.length pc) ∧ w'.cell? ⟨V.heap.size, 4, none⟩ = some (.func (.func 113) #[] #[]))
      (first | exact ⟨by assumption, by assumption, by assumption, by assumption, by assumption, by assumption, by assumption, by assumption, by assumption, by assumption⟩ | go_keep)
      (first
      | (go_at_call 65; (with_reducible refine (HCOA.out _ (by (repeat (first | with_reducible assumption | with_reducible exact Below.refl _ _ | with_reducible exact below_self_drewN _ _ | with_reducible refine Below.drew ?_ | with_reducible refine below_drewN ?_ _ | (with_reducible refine Below.alloc ?_ ?_ _; rotate_left; focus (first | (simp; done) | omega | (simp; omega))))))).mono ?_); rintro e wz ⟨ue, vvs, rfl, hEz, hbz⟩; have hbr : Below A.heap.size A wz := Below.trans (by (repeat (first | with_reducible assumption | with_reducible exact Below.refl _ _ | with_reducible exact below_self_drewN _ _ | with_reducible refine Below.drew ?_ | with_reducible refine below_drewN ?_ _ | (with_reducible refine Below.alloc ?_ ?_ _; rotate_left; focus (first | (simp; done) | omega | (simp; omega)))))) (hbz.mono (by (first | (simp; done) | omega | (simp; omega)))); obtain ⟨⟨c0, c1, c2, c3, c4, c5, c6, c7, c8⟩, hf⟩ := HCK.out wz hbr; simp only at c0 c1 c2 c3 c4 c5 c6 c7 c8)
      | (go_at_call 113; (refine (blame_drop A.heap.size ue vvs l ⟨4, cw, cn, cm, ce⟩ (.slice sa ce.says.length sc) (.slice ua ce.uses.length uc) (.slice pa ce.proof.length pc) wz (hEz.below (by (repeat (first | with_reducible assumption | with_reducible exact Below.refl _ _ | with_reducible exact below_self_drewN _ _ | with_reducible refine Below.drew ?_ | with_reducible refine below_drewN ?_ _ | (with_reducible refine Below.alloc ?_ ?_ _; rotate_left; focus (first | (simp; done) | omega | (simp; omega))))))) (HC.out.below (HBW.out.trans (hbr.mono HBW.out.size))) (by have := hbr.size; omega) hl60 ).mono ?_); rintro e wy ⟨ur, vvr, rfl, hS, hby, hfr⟩; obtain ⟨⟨c0, c1, c2, c3, c4, c5, c6, c7, c8⟩, hf⟩ := HCK.out wy ((hbr.trans hby)); simp only at c0 c1 c2 c3 c4 c5 c6 c7 c8))
  have hzA : A.heap.size ≤ wy.heap.size := Nat.le_trans hbr.size hby.size
  have HBY := hid ((HBW.out.trans (hbr.mono HBW.out.size)).trans (hby.mono HBW.out.size))
  have HSO := hid (sort_row A.heap.size ur vvr _ wy (by have := dropL_len l ⟨4, cw, cn, cm, ce⟩; omega) hS hzA)
  have HLN := hid (dropL_len l ⟨4, cw, cn, cm, ce⟩)
  have HZ := hid HBW.out.size
  have HFR := hid hfr
  obtain ⟨ra, rc, rfl⟩ := hS.slice
  clear hS hEz hbz hbr hby c0 c1 c2 c3 c4 c5 c6 c7 c8 hf HCOA HCA HFN HCK HSZ hzA
  go_wp2_with fail
  refine HSO.out.mono ?_
  rintro e w5 ⟨vs5, L5, rfl, hS5, hp5, hs5, hb5, hv5⟩
  have HS5 : Hid (EntsF w5 w.heap.size _ L5) := hid ⟨vs5, hS5.mono HZ.out, (HFR.out.sub hv5).mono HZ.out, by rw [hp5.length_eq]; have := HLN.out; omega⟩
  have HP5 := hid (And.intro hp5 hs5)
  have HB5 := hid (HBY.out.trans (hb5.mono HZ.out))
  have hle := hp5.length_eq
  clear hS5 hp5 hs5 hb5
  go_wp2
  go_ret2
  exact ⟨_, L5, rfl, HS5.out, HP5.out.1, HP5.out.2, HB5.out⟩
theorem blame_made (vl : Value) (s : Sg) (l : List En) (c : Chg) (vS vU vP : Value) (w : World) (hl : EntsAt w vl l) (hc : ChgAt w vS vU vP c) (h : edB s l = true) (h' : chgB s c = true) :
    Calls Tryz.prog 61 #[vl, chV c vS vU vP] w fun e w' => ∃ u, e = .returned (.tuple #[u, .int .i64 (doL l c).2]) ∧ EntsF w' w.heap.size u (doL l c).1 ∧ Below w.heap.size w w' := by
  obtain ⟨L, A⟩ := edB_iff.1 h
  have C := chgB_iff.1 h'
  have hok : ∀ x ∈ l, EnSm x := fun x hx => ent_sm (entryB_iff.2 (L.ents x hx))
  have hsm : c.kind ≤ 2 → EnSm c.ent := fun hk => by
    cases C with
    | put h0 h1 hk h2 h3 h4 => exact ent_sm (entryB_iff.2 h4)
    | ren h0 h1 hk' => omega
    | drop h0 h1 hk' => omega
  rcases C.kinds with hk | hk | hk | hk
  · have P := pre_add h h' hk
    refine (blame_made1 vl l c vS vU vP w hl hc hk L.len hok fun _ => hsm (by omega)).mono ?_
    rintro e w' ⟨u, M, rfl, h1, h2, h3, h4⟩
    rw [P.2 M h2 h3] at h1
    exact ⟨u, by rw [P.1], h1, h4⟩
  · have P := pre_set h h' hk
    refine (blame_made2 vl l c vS vU vP w hl hc hk L.len hok fun _ => hsm (by omega)).mono ?_
    rintro e w' ⟨u, M, rfl, h1, h2, h3, h4⟩
    rw [P.2 M h2 h3] at h1
    exact ⟨u, by rw [P.1], h1, h4⟩
  · have P := pre_ren h h' hk
    refine (blame_made3 vl l c vS vU vP w hl hc hk L.len hok fun h => by omega).mono ?_
    rintro e w' ⟨u, M, rfl, h1, h2, h3, h4⟩
    rw [P.2 M h2 h3] at h1
    exact ⟨u, by rw [P.1], h1, h4⟩
  · have P := pre_drop h h' hk
    refine (blame_made4 vl l c vS vU vP w hl hc hk L.len hok fun h => by omega).mono ?_
    rintro e w' ⟨u, M, rfl, h1, h2, h3, h4⟩
    rw [P.2 M h2 h3] at h1
    exact ⟨u, by rw [P.1], h1, h4⟩
end Go.Proofs.YtlbjbmpkaniojaaGreat
namespace Go.Proofs.YtlbjbmpkaniojaaGreat
open Go Go.RowKit Go.Maps
/-- a change of the call's own: what its entry holds lies in blocks from 'base' on. -/
def UnQ (base : Nat) (R : Chg × Int) (w : World) (e : Ending) (w' : World) : Prop := ∃ vS vU vP, e = .returned (.tuple #[chV R.1 vS vU vP, .int .i64 R.2]) ∧ EntO w' base vS vU vP R.1.ent ∧ Below base w w'
theorem UnQ.mk {base : Nat} {R : Chg × Int} {w w' : World} {e : Ending} (c : Chg) (er : Int) (vS vU vP : Value) (hR : R = (c, er)) (h1 : e = .returned (.tuple #[chV c vS vU vP, .int .i64 er])) (h2 : EntO w' base vS vU vP c.ent) (h3 : Below base w w') : UnQ base R w e w' := by
  subst hR; exact ⟨vS, vU, vP, h1, h2, h3⟩
theorem BX.drew {w : World} {b : Nat} {xs : List Value} (h : BX w b xs) : BX w.drew b xs := ⟨h.c, h.z⟩
def z9 : List Value := [.int .i64 0, .string ⟨#[]⟩, .string ⟨#[]⟩, .string ⟨#[]⟩, .string ⟨#[]⟩, .string ⟨#[]⟩, .slice none 0 0, .slice none 0 0, .slice none 0 0]
end Go.Proofs.YtlbjbmpkaniojaaGreat
namespace Go.Proofs.YtlbjbmpkaniojaaGreat
open Go Go.RowKit Go.Maps
/-- the blocks of an entry. -/
def blkV (v : V3) (q : Nat) : Prop := v.1.ownBlock = some q ∨ v.2.1.ownBlock = some q ∨ v.2.2.ownBlock = some q
/-- a list of changes of the call's own, all that it holds in blocks from 'base' on. -/
structure ChO (w : World) (base : Nat) (u : Value) (vs : List V3) (l : List Chg) : Prop where
  top : w.ownsRow base 43 9 u l.length (chsC l vs)
  len : vs.length = l.length
  rd : ∀ (j : Nat) (h : j < l.length) (h' : j < vs.length), ChgAt w vs[j].1 vs[j].2.1 vs[j].2.2 l[j]
  av : ∀ v ∈ vs, ∀ q, blkV v q → base ≤ q ∧ q < w.heap.size ∧ some q ≠ u.ownBlock
theorem ChO.nil (w : World) (base : Nat) : ChO w base (.slice none 0 0) [] [] := ⟨World.ownsRow_nil _ _ _ _, rfl, fun j h => by simp at h, fun v hv => by cases hv⟩
theorem ChO.slice {w : World} {base : Nat} {u : Value} {vs : List V3} {l : List Chg} (h : ChO w base u vs l) : ∃ a c, u = .slice a l.length c := owns_slice h.top
theorem ChgAt.blocks {w W' : World} {v : V3} {c : Chg} (h : ChgAt w v.1 v.2.1 v.2.2 c) (hs : ∀ q, blkV v q → q < w.heap.size → W'.heap[q]? = w.heap[q]?) : ChgAt W' v.1 v.2.1 v.2.2 c := ⟨h.e.blocks hs, h.n1, h.n2, h.n3⟩
/-- kept where the blocks from 'base' on are as they were. -/
theorem ChO.keep {w W' : World} {base : Nat} {u : Value} {vs : List V3} {l : List Chg} (h : ChO w base u vs l) (hs : ∀ q, base ≤ q → q < w.heap.size → W'.heap[q]? = w.heap[q]?) (hz : w.heap.size ≤ W'.heap.size) : ChO W' base u vs l :=
  ⟨owns_blocks h.top fun q h1 h2 _ => hs q h1 h2, h.len, fun j h1 h2 => (h.rd j h1 h2).blocks fun q hq hlt => hs q (h.av _ (List.getElem_mem h2) q hq).1 hlt, fun v hv q hq => ⟨(h.av v hv q hq).1, Nat.lt_of_lt_of_le (h.av v hv q hq).2.1 hz, (h.av v hv q hq).2.2⟩⟩
theorem ChO.below {w w' : World} {base : Nat} {u : Value} {vs : List V3} {l : List Chg} (h : ChO w base u vs l) (hb : Below w.heap.size w w') : ChO w' base u vs l := h.keep (fun q _ hq => hb.block q hq) hb.size
theorem ChO.push {w w2 : World} {base : Nat} {u : Value} {vs : List V3} {l : List Chg} (h : ChO w base u vs l) {x : Chg} {v : V3}
    (hx : ChgAt w v.1 v.2.1 v.2.2 x) (hv : ∀ q, blkV v q → base ≤ q ∧ q < w.heap.size ∧ some q ≠ u.ownBlock)
    {g cap n : Nat} (hn : n = l.length) (hown : w2.ownsRow base 43 9 (.slice (some ⟨g, 0, none⟩) (n + 1) cap) (n + 1) (chsC l vs ++ chC x v)) (hg : w.grownBy w2 u.ownBlock) {H : Nat} (hH : H = w.heap.size) (hat : u.ownBlock = some g ∨ g = H) :
    ChO w2 base (.slice (some ⟨g, 0, none⟩) (n + 1) cap) (vs ++ [v]) (l ++ [x]) := by
  subst hn
  have hav : ∀ z ∈ vs ++ [v], ∀ q, blkV z q → base ≤ q ∧ q < w.heap.size ∧ some q ≠ u.ownBlock := by
    intro z hz q hq
    rcases List.mem_append.1 hz with hz | hz
    · exact h.av z hz q hq
    · simp at hz; subst hz; exact hv q hq
  have hsame : ∀ z ∈ vs ++ [v], ∀ q, blkV z q → q < w.heap.size → w2.heap[q]? = w.heap[q]? := fun z hz q hq hlt => hg.block q hlt (hav z hz q hq).2.2
  refine ⟨by rw [chsC_snoc _ _ _ _ h.len]; simpa using hown, by simp [h.len], fun j hj hj' => ?_, fun z hz q hq => ?_⟩
  · have hz := List.getElem_mem hj'
    have key : ∀ (c : Chg), ChgAt w (vs ++ [v])[j].1 (vs ++ [v])[j].2.1 (vs ++ [v])[j].2.2 c → ChgAt w2 (vs ++ [v])[j].1 (vs ++ [v])[j].2.1 (vs ++ [v])[j].2.2 c := fun c hc => hc.blocks (hsame _ hz)
    refine key _ ?_
    by_cases hlt : j < l.length
    · have hv : j < vs.length := by rw [h.len]; exact hlt
      rw [List.getElem_append_left hlt, List.getElem_append_left hv]
      exact h.rd j hlt hv
    · have e : j = l.length := by simp at hj; omega
      subst e
      have e1 : (l ++ [x])[l.length] = x := by simp
      have e2 : (vs ++ [v])[l.length] = v := by rw [List.getElem_append_right (by rw [h.len]; exact Nat.le_refl _)]; simp [h.len]
      rw [e1, e2]
      exact hx
  · obtain ⟨a1, a2, a3⟩ := hav z hz q hq
    refine ⟨a1, Nat.lt_of_lt_of_le a2 hg.size, fun e => ?_⟩
    have e : q = g := Option.some.inj e
    rcases hat with ha | ha
    · exact a3 (by rw [ha, e])
    · omega
/-- a copy lies in blocks of its own. -/
theorem EntO.av {w : World} {b base : Nat} {u : Value} {v : V3} {x : En} {n : Nat} {xs : List Value} (h : EntO w b v.1 v.2.1 v.2.2 x) (hb : base ≤ b) (hu : w.ownsRow base 43 9 u n xs) : ∀ q, blkV v q → base ≤ q ∧ q < w.heap.size ∧ some q ≠ u.ownBlock := by
  intro q hq
  rcases hq with hq | hq | hq
  · exact ⟨Nat.le_trans hb (h.s.lt q hq).1, (h.s.lt q hq).2, fun e => owns_ne h.s hu (by decide) hq e.symm⟩
  · exact ⟨Nat.le_trans hb (h.u.lt q hq).1, (h.u.lt q hq).2, fun e => owns_ne h.u hu (by decide) hq e.symm⟩
  · exact ⟨Nat.le_trans hb (h.p.lt q hq).1, (h.p.lt q hq).2, fun e => owns_ne h.p hu (by decide) hq e.symm⟩
/-- the edition that is turned: its row is the call's own, what it holds lies in blocks that were there in wn. -/
structure NowS (wn w : World) (base : Nat) (u : Value) (vs : List V3) (l : List En) : Prop where
  top : w.ownsRow base 41 5 u l.length (ensC l vs)
  len : vs.length = l.length
  rd : ∀ W' : World, (∀ q, q < wn.heap.size → some q ≠ u.ownBlock → W'.heap[q]? = wn.heap[q]?) → ∀ (j : Nat) (h : j < l.length) (h' : j < vs.length), EntAt W' vs[j].1 vs[j].2.1 vs[j].2.2 l[j]
  ag : ∀ q, q < wn.heap.size → some q ≠ u.ownBlock → w.heap[q]? = wn.heap[q]?
  sz : wn.heap.size ≤ w.heap.size
  bl : ∀ q, u.ownBlock = some q → q < wn.heap.size
theorem NowS.toS {wn w : World} {base : Nat} {u : Value} {vs : List V3} {l : List En} (h : NowS wn w base u vs l) : EnS w base u vs l :=
  ⟨h.top, h.len, fun W' hW => h.rd W' fun q hq hne => (hW q (Nat.lt_of_lt_of_le hq h.sz) hne).trans (h.ag q hq hne)⟩
theorem NowS.ents {wn w : World} {base : Nat} {u : Value} {vs : List V3} {l : List En} (h : NowS wn w base u vs l) (hl : l.length ≤ 1000) : EntsAt w u l := ⟨vs, h.toS.ents hl⟩
/-- kept where the blocks of wn are as they were. -/
theorem NowS.keep {wn w W' : World} {base : Nat} {u : Value} {vs : List V3} {l : List En} (h : NowS wn w base u vs l) (hs : ∀ q, q < wn.heap.size → W'.heap[q]? = w.heap[q]?) (hz : w.heap.size ≤ W'.heap.size) : NowS wn W' base u vs l :=
  ⟨owns_blocks h.top fun q _ _ hq => hs q (h.bl q hq), h.len, h.rd, fun q hq hne => (hs q hq).trans (h.ag q hq hne), Nat.le_trans h.sz hz, h.bl⟩
theorem NowS.below {wn w w' : World} {base : Nat} {u : Value} {vs : List V3} {l : List En} (h : NowS wn w base u vs l) (hb : Below w.heap.size w w') : NowS wn w' base u vs l := h.keep (fun q hq => hb.block q (Nat.lt_of_lt_of_le hq h.sz)) hb.size
theorem NowS.set {wn w : World} {base g n c : Nat} {vs : List V3} {l : List En} (h : NowS wn w base (.slice (some ⟨g, 0, none⟩) n c) vs l) (hn : n = l.length) {j : Nat} (hj : j < l.length) {x : En} {v : V3}
    (hx : ∀ W' : World, (∀ q, q < wn.heap.size → q ≠ g → W'.heap[q]? = wn.heap[q]?) → EntAt W' v.1 v.2.1 v.2.2 x) :
    NowS wn (w.setCells g (j * 5) (enC x v)) base (.slice (some ⟨g, 0, none⟩) n c) (vs.set j v) (l.set j x) ∧ Kb (fun q => q = g) w (w.setCells g (j * 5) (enC x v)) := by
  subst hn
  obtain ⟨h1, h2⟩ := owns_over (enC x v) (j * 5) w _ h.top
  refine ⟨⟨?_, by simp [h.len], fun W' hW k hk hk' => ?_, fun q hq hne => ?_, Nat.le_trans h.sz h2.size, h.bl⟩, h2⟩
  · rw [ensC_set l vs h.len j hj, List.length_set]
    exact h1
  · have hk0 : k < l.length := by simpa using hk
    have hk1 : k < vs.length := by rw [h.len]; exact hk0
    by_cases e : j = k
    · subst e
      rw [List.getElem_set_self, List.getElem_set_self]
      exact hx W' fun q hq hne => hW q hq fun e => hne (Option.some.inj e)
    · rw [List.getElem_set_ne (by omega), List.getElem_set_ne (by omega)]
      exact h.rd W' hW k hk0 hk1
  · exact (h2.same q (Nat.lt_of_lt_of_le hq h.sz) fun e => hne (by rw [e]; rfl)).trans (h.ag q hq hne)
theorem NowS.erase {wn w w' : World} {base g n c m : Nat} {vs : List V3} {l : List En} (h : NowS wn w base (.slice (some ⟨g, 0, none⟩) n c) vs l) (hn : n = l.length) {i : Nat} (hi : i < l.length) (hm : m = (l.eraseIdx i).length)
    (hS : EnS w' base (.slice (some ⟨g, 0, none⟩) m c) (vs.eraseIdx i) (l.eraseIdx i)) (hk : Kb (fun q => q = g) w w') :
    NowS wn w' base (.slice (some ⟨g, 0, none⟩) m c) (vs.eraseIdx i) (l.eraseIdx i) := by
  subst hn
  have hlen : (l.eraseIdx i).length = l.length - 1 := List.length_eraseIdx_of_lt hi
  refine ⟨hS.top, hS.len, fun W' hW k hk1 hk2 => ?_, fun q hq hne => (hk.same q (Nat.lt_of_lt_of_le hq h.sz) fun e => hne (by rw [e]; rfl)).trans (h.ag q hq hne), Nat.le_trans h.sz hk.size, h.bl⟩
  rw [hlen] at hk1
  rw [List.getElem_eraseIdx, List.getElem_eraseIdx]
  split
  · exact h.rd W' hW k (by omega) (by rw [h.len]; omega)
  · exact h.rd W' hW (k + 1) (by omega) (by rw [h.len]; omega)
end Go.Proofs.YtlbjbmpkaniojaaGreat
