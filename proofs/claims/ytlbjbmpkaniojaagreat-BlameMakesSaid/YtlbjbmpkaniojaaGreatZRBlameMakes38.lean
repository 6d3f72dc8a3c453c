/-
  WHAT IT HOLDS: contracts of made and Made of package blame. Conditions: the arguments read as data; small libraries.
-/
import Derived.Test.YtlbjbmpkaniojaaGreatZRBlameMakes36
import Derived.Test.YtlbjbmpkaniojaaGreatZRBlameMakes34
namespace Go.Proofs.YtlbjbmpkaniojaaGreat
open Go Go.RowKit Go.Maps
theorem EnS.mono {w : World} {base base' : Nat} {u : Value} {vs : List V3} {l : List En} (h : EnS w base u vs l) (hb : base' ≤ base) : EnS w base' u vs l := ⟨owns_base h.top hb, h.len, h.rd⟩
theorem FrB.mono {base base' : Nat} {vs : List V3} (h : FrB base vs) (hb : base' ≤ base) : FrB base' vs := fun v hv q hq => Nat.le_trans hb (h v hv q hq)
/-- a library that lies whole in blocks from 'base' on. -/
def EntsF (w : World) (base : Nat) (u : Value) (l : List En) : Prop := ∃ vs, EnS w base u vs l ∧ FrB base vs ∧ l.length ≤ 1000
theorem rowK_block {w W' : World} {v : Value} {k n : Nat} {xs : List Value} (h : RowK w v k n xs) (hs : ∀ q, v.ownBlock = some q → q < w.heap.size → W'.heap[q]? = w.heap[q]?) : RowK W' v k n xs := by
  obtain ⟨h1, a, cap, h2, h3, h4, h5, h6⟩ := h
  refine ⟨h1, a, cap, h2, h3, h4, h5, fun j u hj => ?_⟩
  obtain ⟨b, o, e, hc⟩ := h6 j u hj
  subst e
  exact ⟨b, o, rfl, (World.cell?_of_block (hs b (by rw [h2]; rfl) (World.block_lt_of_cell? _ _ hc))).trans hc⟩
theorem EntAt.blocks {w W' : World} {vS vU vP : Value} {x : En} (h : EntAt w vS vU vP x) (hs : ∀ q, (vS.ownBlock = some q ∨ vU.ownBlock = some q ∨ vP.ownBlock = some q) → q < w.heap.size → W'.heap[q]? = w.heap[q]?) : EntAt W' vS vU vP x :=
  ⟨rowK_block h.s fun q hq => hs q (Or.inl hq), ⟨rowK_block h.u.1 fun q hq => hs q (Or.inr (Or.inl hq)), h.u.2⟩, rowK_block h.p fun q hq => hs q (Or.inr (Or.inr hq)), h.n1, h.n2⟩
theorem EntsF.ents {w : World} {base : Nat} {u : Value} {l : List En} (h : EntsF w base u l) : EntsAt w u l := by
  obtain ⟨vs, h1, h2, h3⟩ := h
  exact ⟨vs, h1.ents h3⟩
theorem EntsF.nil (w : World) (base : Nat) : EntsF w base (.slice none 0 0) [] := ⟨[], EnS.nil _ _, (fun v hv => by cases hv), by simp⟩
theorem EntsF.mono {w : World} {base base' : Nat} {u : Value} {l : List En} (h : EntsF w base u l) (hb : base' ≤ base) : EntsF w base' u l := by
  obtain ⟨vs, h1, h2, h3⟩ := h
  exact ⟨vs, h1.mono hb, h2.mono hb, h3⟩
/-- it reads as it did wherever the blocks from 'base' on are as they were. -/
theorem EntsF.keep {w W' : World} {base : Nat} {u : Value} {l : List En} (h : EntsF w base u l) (hs : ∀ q, base ≤ q → q < w.heap.size → W'.heap[q]? = w.heap[q]?) : EntsAt W' u l := by
  obtain ⟨vs, h1, h2, h3⟩ := h
  have e := h1.ents h3
  refine ⟨vs, rowK_block e.1 fun q hq => hs q (h1.top.lt q hq).1, h1.len, fun j hj hj' => ?_⟩
  exact (e.2.2 j hj hj').blocks fun q hq => hs q (h2 _ (List.getElem_mem hj') q hq)
theorem addL_len (l : List En) (c : Chg) : (addL l c).1.length ≤ l.length + 1 := by unfold addL; split; simp; split; simp; simp
theorem setL_len (l : List En) (c : Chg) : (setL l c).1.length ≤ l.length + 1 := by unfold setL; split; simp; split; simp; simp
theorem dropL_len (l : List En) (c : Chg) : (dropL l c).1.length ≤ l.length + 1 := by
  unfold dropL
  split
  · simp
  split
  · simp
  · have := (List.eraseIdx_sublist l ‹Nat›).length_le
    show (l.eraseIdx _).length ≤ _
    omega
theorem renaL_len (l : List En) (c : Chg) : (renaL l c).1.length ≤ l.length + 1 := by unfold renaL; split; simp; split; simp; simp
set_option maxHeartbeats 4000000 in
set_option maxRecDepth 100000 in
theorem blame_made1 (vl : Value) (l : List En) (c : Chg) (vS vU vP : Value) (w : World) (hl : EntsAt w vl l) (hc : ChgAt w vS vU vP c) (hk : c.kind = 1) (hl60 : l.length ≤ 60) (hok : ∀ x ∈ l, EnSm x) (hsm : 1 ≤ 2 → EnSm c.ent) :
    Calls Tryz.prog 61 #[vl, chV c vS vU vP] w fun e w' => ∃ u L, e = .returned (.tuple #[u, .int .i64 (addL l c).2]) ∧ EntsF w' w.heap.size u L ∧ L.Perm (addL l c).1 ∧ (L.Pairwise fun a b => ¬ ltN b.name a.name) ∧ Below w.heap.size w w' := by
  obtain ⟨ck, cw, cn, cm, ce⟩ := c
  have hk : ck = 1 := hk
  subst hk
  obtain ⟨sa, sc, rfl, -⟩ := hc.e.s.open
  obtain ⟨ua, uc, rfl, -⟩ := hc.e.u.open
  obtain ⟨pa, pc, rfl, -⟩ := hc.e.p.open
  unfold chV
  simp only
  have hCB := CB.new w ⟨1, cw, cn, cm, ce⟩ (.slice sa ce.says.length sc) (.slice ua ce.uses.length uc) (.slice pa ce.proof.length pc) 43
  simp only at hCB
  obtain ⟨V, hV⟩ : ∃ V, w.alloc (.cells #[.int .i64 1, .string cw, .string cn, .string cm, .string ce.name, .string ce.who, .slice sa ce.says.length sc, .slice ua ce.uses.length uc, .slice pa ce.proof.length pc] 43) = V := ⟨_, rfl⟩
  have hbV : Below w.heap.size w V := hV ▸ (Below.refl _ _).alloc (Nat.le_refl _) _
  have HVZ := hid (show V.heap.size = w.heap.size + 1 by rw [← hV]; simp)
  rw [hV] at hCB
  have HW := hid hV
  clear hV
  have HCO := hid (fun (X : World) (hX : Below w.heap.size w X) => blame_copies vl l X (hl.below hX) (by omega) hok)
  have HC := hid hc
  -- the array of functions
  obtain ⟨A, hA⟩ : ∃ A, V.alloc (.cells #[.nilFunc, .func (.func 110) #[] #[], .func (.func 111) #[] #[], .func (.func 112) #[] #[], .func (.func 113) #[] #[]] 122) = A := ⟨_, rfl⟩
  have hbA : Below V.heap.size V A := hA ▸ (Below.refl _ _).alloc (Nat.le_refl _) _
  have hf : A.cell? ⟨V.heap.size, 1, none⟩ = some (.func (.func 110) #[] #[]) := by rw [← hA, World.cell?_alloc_new]; rfl
  have hbw := hbV.trans (hbA.mono hbV.size)
  have hcA := hCB.below hbA
  have HA := hid hA
  have HCOA := hid (fun (X : World) (hX : Below A.heap.size A X) => HCO.out X (hbw.trans (hX.mono hbw.size)))
  have HCA := hid hcA
  have HBW := hid hbw
  have HFN := hid hf
  have HCK := hid (fun (X : World) (hX : Below A.heap.size A X) => And.intro (hcA.below hX) ((hX.cell (World.block_lt_of_cell? _ _ hf)).trans hf))
  have c0 : A.cell? ⟨w.heap.size, 0, none⟩ = some (.int .i64 1) := hcA.c0
  have c1 : A.cell? ⟨w.heap.size, 1, none⟩ = some (.string cw) := hcA.c1
  have c2 : A.cell? ⟨w.heap.size, 2, none⟩ = some (.string cn) := hcA.c2
  have c3 : A.cell? ⟨w.heap.size, 3, none⟩ = some (.string cm) := hcA.c3
  have c4 : A.cell? ⟨w.heap.size, 4, none⟩ = some (.string ce.name) := hcA.c4
  have c5 : A.cell? ⟨w.heap.size, 5, none⟩ = some (.string ce.who) := hcA.c5
  have c6 : A.cell? ⟨w.heap.size, 6, none⟩ = some (.slice sa ce.says.length sc) := hcA.c6
  have c7 : A.cell? ⟨w.heap.size, 7, none⟩ = some (.slice ua ce.uses.length uc) := hcA.c7
  have c8 : A.cell? ⟨w.heap.size, 8, none⟩ = some (.slice pa ce.proof.length pc) := hcA.c8
  obtain ⟨la, lc, rfl, -⟩ := hl.open
  have hAz : w.heap.size < A.heap.size := World.block_lt_of_cell? _ _ HCA.out.c0
  have hAz2 : V.heap.size < A.heap.size := World.block_lt_of_cell? _ _ hf
  have HSZ := hid (And.intro hAz hAz2)
  clear hA hbA hbw hcA hCB hbV hl hc HCO hAz hAz2
  go_enter Tryz.func61, Tryz.ntmps61
  go_wp2_with (first | rw [HW.out] | rw [HA.out])
  go_region_held3 (fun w' => w'.cell? ⟨w.heap.size, 0, none⟩ = some (.int .i64 1) ∧ w'.cell? ⟨w.heap.size, 1, none⟩ = some (.string cw) ∧ w'.cell? ⟨w.heap.size, 2, none⟩ = some (.string cn) ∧ w'.cell? ⟨w.heap.size, 3, none⟩ = some (.string cm) ∧ w'.cell? ⟨w.heap.size, 4, none⟩ = some (.string ce.name) ∧ w'.cell? ⟨w.heap.size, 5, none⟩ = some (.string ce.who) ∧ w'.cell? ⟨w.heap.size, 6, none⟩ = some (.slice sa ce.says.length sc) ∧ w'.cell? ⟨w.heap.size, 7, none⟩ = some (.slice ua ce.uses.length uc) ∧ w'.cell? ⟨w.heap.size, 8, none⟩ = some (.slice pa ce.proof.length pc) ∧ w'.cell? ⟨V.heap.size, 1, none⟩ = some (.func (.func 110) #[] #[]))
      (first | exact ⟨by assumption, by assumption, by assumption, by assumption, by assumption, by assumption, by assumption, by assumption, by assumption, by assumption⟩ | go_keep)
      (first
      | (go_at_call 65; (with_reducible refine (HCOA.out _ (by (repeat (first | with_reducible assumption | with_reducible exact Below.refl _ _ | with_reducible exact below_self_drewN _ _ | with_reducible refine Below.drew ?_ | with_reducible refine below_drewN ?_ _ | (with_reducible refine Below.alloc ?_ ?_ _; rotate_left; focus (first | (simp; done) | omega | (simp; omega))))))).mono ?_); rintro e wz ⟨ue, vvs, rfl, hEz, hbz⟩; have hbr : Below A.heap.size A wz := Below.trans (by (repeat (first | with_reducible assumption | with_reducible exact Below.refl _ _ | with_reducible exact below_self_drewN _ _ | with_reducible refine Below.drew ?_ | with_reducible refine below_drewN ?_ _ | (with_reducible refine Below.alloc ?_ ?_ _; rotate_left; focus (first | (simp; done) | omega | (simp; omega)))))) (hbz.mono (by (first | (simp; done) | omega | (simp; omega)))); obtain ⟨⟨c0, c1, c2, c3, c4, c5, c6, c7, c8⟩, hf⟩ := HCK.out wz hbr; simp only at c0 c1 c2 c3 c4 c5 c6 c7 c8)
      | (go_at_call 110; (refine (blame_add A.heap.size ue vvs l ⟨1, cw, cn, cm, ce⟩ (.slice sa ce.says.length sc) (.slice ua ce.uses.length uc) (.slice pa ce.proof.length pc) wz (hEz.below (by (repeat (first | with_reducible assumption | with_reducible exact Below.refl _ _ | with_reducible exact below_self_drewN _ _ | with_reducible refine Below.drew ?_ | with_reducible refine below_drewN ?_ _ | (with_reducible refine Below.alloc ?_ ?_ _; rotate_left; focus (first | (simp; done) | omega | (simp; omega))))))) (HC.out.below (HBW.out.trans (hbr.mono HBW.out.size))) (by have := hbr.size; omega) hl60 (hsm (by omega))).mono ?_); rintro e wy ⟨ur, vvr, rfl, hS, hby, hfr⟩; obtain ⟨⟨c0, c1, c2, c3, c4, c5, c6, c7, c8⟩, hf⟩ := HCK.out wy ((hbr.trans hby)); simp only at c0 c1 c2 c3 c4 c5 c6 c7 c8))
  have hzA : A.heap.size ≤ wy.heap.size := Nat.le_trans hbr.size hby.size
  have HBY := hid ((HBW.out.trans (hbr.mono HBW.out.size)).trans (hby.mono HBW.out.size))
  have HSO := hid (sort_row A.heap.size ur vvr _ wy (by have := addL_len l ⟨1, cw, cn, cm, ce⟩; omega) hS hzA)
  have HLN := hid (addL_len l ⟨1, cw, cn, cm, ce⟩)
  have HZ := hid HBW.out.size
  have HFR := hid hfr
  obtain ⟨ra, rc, rfl⟩ := hS.slice
  clear hS hEz hbz hbr hby c0 c1 c2 c3 c4 c5 c6 c7 c8 hf HCOA HCA HFN HCK HSZ hzA
  go_wp2_with fail
  refine HSO.out.mono ?_
  rintro e w5 ⟨vs5, L5, rfl, hS5, hp5, hs5, hb5, hv5⟩
  have HS5 : Hid (EntsF w5 w.heap.size _ L5) := hid ⟨vs5, hS5.mono HZ.out, (HFR.out.sub hv5).mono HZ.out, by rw [hp5.length_eq]; have := HLN.out; omega⟩
  have HP5 := hid (And.intro hp5 hs5)
  have HB5 := hid (HBY.out.trans (hb5.mono HZ.out))
  have hle := hp5.length_eq
  clear hS5 hp5 hs5 hb5
  go_wp2
  go_ret2
  exact ⟨_, L5, rfl, HS5.out, HP5.out.1, HP5.out.2, HB5.out⟩
set_option maxHeartbeats 4000000 in
set_option maxRecDepth 100000 in
theorem blame_made2 (vl : Value) (l : List En) (c : Chg) (vS vU vP : Value) (w : World) (hl : EntsAt w vl l) (hc : ChgAt w vS vU vP c) (hk : c.kind = 2) (hl60 : l.length ≤ 60) (hok : ∀ x ∈ l, EnSm x) (hsm : 2 ≤ 2 → EnSm c.ent) :
    Calls Tryz.prog 61 #[vl, chV c vS vU vP] w fun e w' => ∃ u L, e = .returned (.tuple #[u, .int .i64 (setL l c).2]) ∧ EntsF w' w.heap.size u L ∧ L.Perm (setL l c).1 ∧ (L.Pairwise fun a b => ¬ ltN b.name a.name) ∧ Below w.heap.size w w' := by
  obtain ⟨ck, cw, cn, cm, ce⟩ := c
  have hk : ck = 2 := hk
  subst hk
  obtain ⟨sa, sc, rfl, -⟩ := hc.e.s.open
  obtain ⟨ua, uc, rfl, -⟩ := hc.e.u.open
  obtain ⟨pa, pc, rfl, -⟩ := hc.e.p.open
  unfold chV
  simp only
  have hCB := CB.new w ⟨2, cw, cn, cm, ce⟩ (.slice sa ce.says.length sc) (.slice ua ce.uses.length uc) (.slice pa ce.proof.length pc) 43
  simp only at hCB
  obtain ⟨V, hV⟩ : ∃ V, w.alloc (.cells #[.int .i64 2, .string cw, .string cn, .string cm, .string ce.name, .string ce.who, .slice sa ce.says.length sc, .slice ua ce.uses.length uc, .slice pa ce.proof.length pc] 43) = V := ⟨_, rfl⟩
  have hbV : Below w.heap.size w V := hV ▸ (Below.refl _ _).alloc (Nat.le_refl _) _
  have HVZ := hid (show V.heap.size = w.heap.size + 1 by rw [← hV]; simp)
  rw [hV] at hCB
  have HW := hid hV
  clear hV
  have HCO := hid (fun (X : World) (hX : Below w.heap.size w X) => blame_copies vl l X (hl.below hX) (by omega) hok)
  have HC := hid hc
  -- the array of functions
  obtain ⟨A, hA⟩ : ∃ A, V.alloc (.cells #[.nilFunc, .func (.func 110) #[] #[], .func (.func 111) #[] #[], .func (.func 112) #[] #[], .func (.func 113) #[] #[]] 122) = A := ⟨_, rfl⟩
  have hbA : Below V.heap.size V A := hA ▸ (Below.refl _ _).alloc (Nat.le_refl _) _
  have hf : A.cell? ⟨V.heap.size, 2, none⟩ = some (.func (.func 111) #[] #[]) := by rw [← hA, World.cell?_alloc_new]; rfl
  have hbw := hbV.trans (hbA.mono hbV.size)
  have hcA := hCB.below hbA
  have HA := hid hA
  have HCOA := hid (fun (X : World) (hX : Below A.heap.size A X) => HCO.out X (hbw.trans (hX.mono hbw.size)))
  have HCA := hid hcA
  have HBW := hid hbw
  have HFN := hid hf
  have HCK := hid (fun (X : World) (hX : Below A.heap.size A X) => And.intro (hcA.below hX) ((hX.cell (World.block_lt_of_cell? _ _ hf)).trans hf))
  have c0 : A.cell? ⟨w.heap.size, 0, none⟩ = some (.int .i64 2) := hcA.c0
  have c1 : A.cell? ⟨w.heap.size, 1, none⟩ = some (.string cw) := hcA.c1
  have c2 : A.cell? ⟨w.heap.size, 2, none⟩ = some (.string cn) := hcA.c2
  have c3 : A.cell? ⟨w.heap.size, 3, none⟩ = some (.string cm) := hcA.c3
  have c4 : A.cell? ⟨w.heap.size, 4, none⟩ = some (.string ce.name) := hcA.c4
  have c5 : A.cell? ⟨w.heap.size, 5, none⟩ = some (.string ce.who) := hcA.c5
  have c6 : A.cell? ⟨w.heap.size, 6, none⟩ = some (.slice sa ce.says.length sc) := hcA.c6
  have c7 : A.cell? ⟨w.heap.size, 7, none⟩ = some (.slice ua ce.uses.length uc) := hcA.c7
  have c8 : A.cell? ⟨w.heap.size, 8, none⟩ = some (.slice pa ce.proof.length pc) := hcA.c8
  obtain ⟨la, lc, rfl, -⟩ := hl.open
  have hAz : w.heap.size < A.heap.size := World.block_lt_of_cell? _ _ HCA.out.c0
  have hAz2 : V.heap.size < A.heap.size := World.block_lt_of_cell? _ _ hf
  have HSZ := hid (And.intro hAz hAz2)
  clear hA hbA hbw hcA hCB hbV hl hc HCO hAz hAz2
  go_enter Tryz.func61, Tryz.ntmps61
  go_wp2_with (first | rw [HW.out] | rw [HA.out])
  go_region_held3 (fun w' => w'.cell? ⟨w.heap.size, 0, none⟩ = some (.int .i64 2) ∧ w'.cell? ⟨w.heap.size, 1, none⟩ = some (.string cw) ∧ w'.cell? ⟨w.heap.size, 2, none⟩ = some (.string cn) ∧ w'.cell? ⟨w.heap.size, 3, none⟩ = some (.string cm) ∧ w'.cell? ⟨w.heap.size, 4, none⟩ = some (.string ce.name) ∧ w'.cell? ⟨w.heap.size, 5, none⟩ = some (.string ce.who) ∧ w'.cell? ⟨w.heap.size, 6, none⟩ = some (.slice sa ce.says.length sc) ∧ w'.cell? ⟨w.heap.size, 7, none⟩ = some (.slice ua ce.uses.length uc) ∧ w'.cell? ⟨w.heap.size, 8, none⟩ = some (.slice pa ce.proof.length pc) ∧ w'.cell? ⟨V.heap.size, 2, none⟩ = some (.func (.func 111) #[] #[]))
      (first | exact ⟨by assumption, by assumption, by assumption, by assumption, by assumption, by assumption, by assumption, by assumption, by assumption, by assumption⟩ | go_keep)
      (first
      | (go_at_call 65; (with_reducible refine (HCOA.out _ (by (repeat (first | with_reducible assumption | with_reducible exact Below.refl _ _ | with_reducible exact below_self_drewN _ _ | with_reducible refine Below.drew ?_ | with_reducible refine below_drewN ?_ _ | (with_reducible refine Below.alloc ?_ ?_ _; rotate_left; focus (first | (simp; done) | omega | (simp; omega))))))).mono ?_); rintro e wz ⟨ue, vvs, rfl, hEz, hbz⟩; have hbr : Below A.heap.size A wz := Below.trans (by (repeat (first | with_reducible assumption | with_reducible exact Below.refl _ _ | with_reducible exact below_self_drewN _ _ | with_reducible refine Below.drew ?_ | with_reducible refine below_drewN ?_ _ | (with_reducible refine Below.alloc ?_ ?_ _; rotate_left; focus (first | (simp; done) | omega | (simp; omega)))))) (hbz.mono (by (first | (simp; done) | omega | (simp; omega)))); obtain ⟨⟨c0, c1, c2, c3, c4, c5, c6, c7, c8⟩, hf⟩ := HCK.out wz hbr; simp only at c0 c1 c2 c3 c4 c5 c6 c7 c8)
      | (go_at_call 111; (refine (blame_set A.heap.size ue vvs l ⟨2, cw, cn, cm, ce⟩ (.slice sa ce.says.length sc) (.slice ua ce.uses.length uc) (.slice pa ce.proof.length pc) wz (hEz.below (by (repeat (first | with_reducible assumption | with_reducible exact Below.refl _ _ | with_reducible exact below_self_drewN _ _ | with_reducible refine Below.drew ?_ | with_reducible refine below_drewN ?_ _ | (with_reducible refine Below.alloc ?_ ?_ _; rotate_left; focus (first | (simp; done) | omega | (simp; omega))))))) (HC.out.below (HBW.out.trans (hbr.mono HBW.out.size))) (by have := hbr.size; omega) hl60 (hsm (by omega))).mono ?_); rintro e wy ⟨ur, vvr, rfl, hS, hby, hfr⟩; obtain ⟨⟨c0, c1, c2, c3, c4, c5, c6, c7, c8⟩, hf⟩ := HCK.out wy ((hbr.trans hby)); simp only at c0 c1 c2 c3 c4 c5 c6 c7 c8))
  have hzA : A.heap.size ≤ wy.heap.size := Nat.le_trans hbr.size hby.size
  have HBY := hid ((HBW.out.trans (hbr.mono HBW.out.size)).trans (hby.mono HBW.out.size))
  have HSO := hid (sort_row A.heap.size ur vvr _ wy (by have := setL_len l ⟨2, cw, cn, cm, ce⟩; omega) hS hzA)
  have HLN := hid (setL_len l ⟨2, cw, cn, cm, ce⟩)
  have HZ := hid HBW.out.size
  have HFR := hid hfr
  obtain ⟨ra, rc, rfl⟩ := hS.slice
  clear hS hEz hbz hbr hby c0 c1 c2 c3 c4 c5 c6 c7 c8 hf HCOA HCA HFN HCK HSZ hzA
  go_wp2_with fail
  refine HSO.out.mono ?_
  rintro e w5 ⟨vs5, L5, rfl, hS5, hp5, hs5, hb5, hv5⟩
  have HS5 : Hid (EntsF w5 w.heap.size _ L5) := hid ⟨vs5, hS5.mono HZ.out, (HFR.out.sub hv5).mono HZ.out, by rw [hp5.length_eq]; have := HLN.out; omega⟩
  have HP5 := hid (And.intro hp5 hs5)
  have HB5 := hid (HBY.out.trans (hb5.mono HZ.out))
  have hle := hp5.length_eq
  clear hS5 hp5 hs5 hb5
  go_wp2
  go_ret2
  exact ⟨_, L5, rfl, HS5.out, HP5.out.1, HP5.out.2, HB5.out⟩
set_option maxHeartbeats 4000000 in
set_option maxRecDepth 100000 in
theorem blame_made3 (vl : Value) (l : List En) (c : Chg) (vS vU vP : Value) (w : World) (hl : EntsAt w vl l) (hc : ChgAt w vS vU vP c) (hk : c.kind = 3) (hl60 : l.length ≤ 60) (hok : ∀ x ∈ l, EnSm x) (hsm : 3 ≤ 2 → EnSm c.ent) :
    Calls Tryz.prog 61 #[vl, chV c vS vU vP] w fun e w' => ∃ u L, e = .returned (.tuple #[u, .int .i64 (renaL l c).2]) ∧ EntsF w' w.heap.size u L ∧ L.Perm (renaL l c).1 ∧ (L.Pairwise fun a b => ¬ ltN b.name a.name) ∧ Below w.heap.size w w' := by
  obtain ⟨ck, cw, cn, cm, ce⟩ := c
  have hk : ck = 3 := hk
  subst hk
  obtain ⟨sa, sc, rfl, -⟩ := hc.e.s.open
  obtain ⟨ua, uc, rfl, -⟩ := hc.e.u.open
  obtain ⟨pa, pc, rfl, -⟩ := hc.e.p.open
  unfold chV
  simp only
  have hCB := CB.new w ⟨3, cw, cn, cm, ce⟩ (.slice sa ce.says.length sc) (.slice ua ce.uses.length uc) (.slice pa ce.proof.length pc) 43
  simp only at hCB
  obtain ⟨V, hV⟩ : ∃ V, w.alloc (.cells #[.int .i64 3, .string cw, .string cn, .string cm, .string ce.name, .string ce.who, .slice sa ce.says.length sc, .slice ua ce.uses.length uc, .slice pa ce.proof.length pc] 43) = V := ⟨_, rfl⟩
  have hbV : Below w.heap.size w V := hV ▸ (Below.refl _ _).alloc (Nat.le_refl _) _
  have HVZ := hid (show V.heap.size = w.heap.size + 1 by rw [← hV]; simp)
  rw [hV] at hCB
  have HW := hid hV
  clear hV
  have HCO := hid (fun (X : World) (hX : Below w.heap.size w X) => blame_copies vl l X (hl.below hX) (by omega) hok)
  have HC := hid hc
  -- the array of functions
  obtain ⟨A, hA⟩ : ∃ A, V.alloc (.cells #[.nilFunc, .func (.func 110) #[] #[], .func (.func 111) #[] #[], .func (.func 112) #[] #[], .func (.func 113) #[] #[]] 122) = A := ⟨_, rfl⟩
  have hbA : Below V.heap.size V A := hA ▸ (Below.refl _ _).alloc (Nat.le_refl _) _
  have hf : A.cell? ⟨V.heap.size, 3, none⟩ = some (.func (.func 112) #[] #[]) := by rw [← hA, World.cell?_alloc_new]; rfl
  have hbw := hbV.trans (hbA.mono hbV.size)
  have hcA := hCB.below hbA
  have HA := hid hA
  have HCOA := hid (fun (X : World) (hX : Below A.heap.size A X) => HCO.out X (hbw.trans (hX.mono hbw.size)))
  have HCA := hid hcA
  have HBW := hid hbw
  have HFN := hid hf
  have HCK := hid (fun (X : World) (hX : Below A.heap.size A X) => And.intro (hcA.below hX) ((hX.cell (World.block_lt_of_cell? _ _ hf)).trans hf))
  have c0 : A.cell? ⟨w.heap.size, 0, none⟩ = some (.int .i64 3) := hcA.c0
  have c1 : A.cell? ⟨w.heap.size, 1, none⟩ = some (.string cw) := hcA.c1
  have c2 : A.cell? ⟨w.heap.size, 2, none⟩ = some (.string cn) := hcA.c2
  have c3 : A.cell? ⟨w.heap.size, 3, none⟩ = some (.string cm) := hcA.c3
  have c4 : A.cell? ⟨w.heap.size, 4, none⟩ = some (.string ce.name) := hcA.c4
  have c5 : A.cell? ⟨w.heap.size, 5, none⟩ = some (.string ce.who) := hcA.c5
  have c6 : A.cell? ⟨w.heap.size, 6, none⟩ = some (.slice sa ce.says.length sc) := hcA.c6
  have c7 : A.cell? ⟨w.heap.size, 7, none⟩ = some (.slice ua ce.uses.length uc) := hcA.c7
  have c8 : A.cell? ⟨w.heap.size, 8, none⟩ = some (.slice pa ce.proof.length pc) := hcA.c8
  obtain ⟨la, lc, rfl, -⟩ := hl.open
  have hAz : w.heap.size < A.heap.size := World.block_lt_of_cell? _ _ HCA.out.c0
  have hAz2 : V.heap.size < A.heap.size := World.block_lt_of_cell? _ _ hf
  have HSZ := hid (And.intro hAz hAz2)
  clear hA hbA hbw hcA hCB hbV hl hc HCO hAz hAz2
  go_enter Tryz.func61, Tryz.ntmps61
  go_wp2_with (first | rw [HW.out] | rw [HA.out])
  go_region_held3 (fun w' => w'.cell? ⟨w.heap.size, 0, none⟩ = some (.int .i64 3) ∧ w'.cell? ⟨w.heap.size, 1, none⟩ = some (.string cw) ∧ w'.cell? ⟨w.heap.size, 2, none⟩ = some (.string cn) ∧ w'.cell? ⟨w.heap.size, 3, none⟩ = some (.string cm) ∧ w'.cell? ⟨w.heap.size, 4, none⟩ = some (.string ce.name) ∧ w'.cell? ⟨w.heap.size, 5, none⟩ = some (.string ce.who) ∧ w'.cell? ⟨w.heap.size, 6, none⟩ = some (.slice sa ce.says.length sc) ∧ w'.cell? ⟨w.heap.size, 7, none⟩ = some (.slice ua ce.uses.length uc) ∧ w'.cell? ⟨w.heap.size, 8, none⟩ = some (.slice pa ce.proof.length pc) ∧ w'.cell? ⟨V.heap.size, 3, none⟩ = some (.func (.func 112) #[] #[]))
      (first | exact ⟨by assumption, by assumption, by assumption, by assumption, by assumption, by assumption, by assumption, by assumption, by assumption, by assumption⟩ | go_keep)
      (first
      | (go_at_call 65; (with_reducible refine (HCOA.out _ (by (repeat (first | with_reducible assumption | with_reducible exact Below.refl _ _ | with_reducible exact below_self_drewN _ _ | with_reducible refine Below.drew ?_ | with_reducible refine below_drewN ?_ _ | (with_reducible refine Below.alloc ?_ ?_ _; rotate_left; focus (first | (simp; done) | omega | (simp; omega))))))).mono ?_); rintro e wz ⟨ue, vvs, rfl, hEz, hbz⟩; have hbr : Below A.heap.size A wz := Below.trans (by (repeat (first | with_reducible assumption | with_reducible exact Below.refl _ _ | with_reducible exact below_self_drewN _ _ | with_reducible refine Below.drew ?_ | with_reducible refine below_drewN ?_ _ | (with_reducible refine Below.alloc ?_ ?_ _; rotate_left; focus (first | (simp; done) | omega | (simp; omega)))))) (hbz.mono (by (first | (simp; done) | omega | (simp; omega)))); obtain ⟨⟨c0, c1, c2, c3, c4, c5, c6, c7, c8⟩, hf⟩ := HCK.out wz hbr; simp only at c0 c1 c2 c3 c4 c5 c6 c7 c8)
      | (go_at_call 112; (refine (blame_rename A.heap.size ue vvs l ⟨3, cw, cn, cm, ce⟩ (.slice sa ce.says.length sc) (.slice ua ce.uses.length uc) (.slice pa ce.proof.length pc) wz (hEz.below (by (repeat (first | with_reducible assumption | with_reducible exact Below.refl _ _ | with_reducible exact below_self_drewN _ _ | with_reducible refine Below.drew ?_ | with_reducible refine below_drewN ?_ _ | (with_reducible refine Below.alloc ?_ ?_ _; rotate_left; focus (first | (simp; done) | omega | (simp; omega))))))) (HC.out.below (HBW.out.trans (hbr.mono HBW.out.size))) (by have := hbr.size; omega) hl60 ).mono ?_); rintro e wy ⟨ur, vvr, rfl, hS, hby, hfr⟩; obtain ⟨⟨c0, c1, c2, c3, c4, c5, c6, c7, c8⟩, hf⟩ := HCK.out wy ((hbr.trans hby)); simp only at c0 c1 c2 c3 c4 c5 c6 c7 c8))
  have hzA : A.heap.size ≤ wy.heap.size := Nat.le_trans hbr.size hby.size
  have HBY := hid ((HBW.out.trans (hbr.mono HBW.out.size)).trans (hby.mono HBW.out.size))
  have HSO := hid (sort_row A.heap.size ur vvr _ wy (by have := renaL_len l ⟨3, cw, cn, cm, ce⟩; omega) hS hzA)
  have HLN := hid (renaL_len l ⟨3, cw, cn, cm, ce⟩)
  have HZ := hid HBW.out.size
  have HFR := hid hfr
  obtain ⟨ra, rc, rfl⟩ := hS.slice
  clear hS hEz hbz hbr hby c0 c1 c2 c3 c4 c5 c6 c7 c8 hf HCOA HCA HFN HCK HSZ hzA
  go_wp2_with fail
  refine HSO.out.mono ?_
  rintro e w5 ⟨vs5, L5, rfl, hS5, hp5, hs5, hb5, hv5⟩
  have HS5 : Hid (EntsF w5 w.heap.size _ L5) := hid ⟨vs5, hS5.mono HZ.out, (HFR.out.sub hv5).mono HZ.out, by rw [hp5.length_eq]; have := HLN.out; omega⟩
  have HP5 := hid (And.intro hp5 hs5)
  have HB5 := hid (HBY.out.trans (hb5.mono HZ.out))
  have hle := hp5.length_eq
  clear hS5 hp5 hs5 hb5
  go_wp2
  go_ret2
  exact ⟨_, L5, rfl, HS5.out, HP5.out.1, HP5.out.2, HB5.out⟩
set_option maxHeartbeats 4000000 in
set_option maxRecDepth 100000 in
theorem blame_made4 (vl : Value) (l : List En) (c : Chg) (vS vU vP : Value) (w : World) (hl : EntsAt w vl l) (hc : ChgAt w vS vU vP c) (hk : c.kind = 4) (hl60 : l.length ≤ 60) (hok : ∀ x ∈ l, EnSm x) (hsm : 4 ≤ 2 → EnSm c.ent) :
    Calls Tryz.prog 61 #[vl, chV c vS vU vP] w fun e w' => ∃ u L, e = .returned (.tuple #[u, .int .i64 (dropL l c).2]) ∧ EntsF w' w.heap.size u L ∧ L.Perm (dropL l c).1 ∧ (L.Pairwise fun a b => ¬ ltN b.name a.name) ∧ Below w.heap.size w w' := by
  obtain ⟨ck, cw, cn, cm, ce⟩ := c
  have hk : ck = 4 := hk
  subst hk
  obtain ⟨sa, sc, rfl, -⟩ := hc.e.s.open
  obtain ⟨ua, uc, rfl, -⟩ := hc.e.u.open
  obtain ⟨pa, pc, rfl, -⟩ := hc.e.p.open
  unfold chV
  simp only
  have hCB := CB.new w ⟨4, cw, cn, cm, ce⟩ (.slice sa ce.says.length sc) (.slice ua ce.uses.length uc) (.slice pa ce.proof.length pc) 43
  simp only at hCB
  obtain ⟨V, hV⟩ : ∃ V, w.alloc (.cells #[.int .i64 4, .string cw, .string cn, .string cm, .string ce.name, .string ce.who, .slice sa ce.says.length sc, .slice ua ce.uses.length uc, .slice pa ce.proof.length pc] 43) = V := ⟨_, rfl⟩
  have hbV : Below w.heap.size w V := hV ▸ (Below.refl _ _).alloc (Nat.le_refl _) _
  have HVZ := hid (show V.heap.size = w.heap.size + 1 by rw [← hV]; simp)
  rw [hV] at hCB
  have HW := hid hV
  clear hV
  have HCO := hid (fun (X : World) (hX : Below w.heap.size w X) => blame_copies vl l X (hl.below hX) (by omega) hok)
  have HC := hid hc
  -- the array of functions
  obtain ⟨A, hA⟩ : ∃ A, V.alloc (.cells #[.nilFunc, .func (.func 110) #[] #[], .func (.func 111) #[] #[], .func (.func 112) #[] #[], .func (.func 113) #[] #[]] 122) = A := ⟨_, rfl⟩
  have hbA : Below V.heap.size V A := hA ▸ (Below.refl _ _).alloc (Nat.le_refl _) _
  have hf : A.cell? ⟨V.heap.size, 4, none⟩ = some (.func (.func 113) #[] #[]) := by rw [← hA, World.cell?_alloc_new]; rfl
  have hbw := hbV.trans (hbA.mono hbV.size)
  have hcA := hCB.below hbA
  have HA := hid hA
  have HCOA := hid (fun (X : World) (hX : Below A.heap.size A X) => HCO.out X (hbw.trans (hX.mono hbw.size)))
  have HCA := hid hcA
  have HBW := hid hbw
  have HFN := hid hf
  have HCK := hid (fun (X : World) (hX : Below A.heap.size A X) => And.intro (hcA.below hX) ((hX.cell (World.block_lt_of_cell? _ _ hf)).trans hf))
  have c0 : A.cell? ⟨w.heap.size, 0, none⟩ = some (.int .i64 4) := hcA.c0
  have c1 : A.cell? ⟨w.heap.size, 1, none⟩ = some (.string cw) := hcA.c1
  have c2 : A.cell? ⟨w.heap.size, 2, none⟩ = some (.string cn) := hcA.c2
  have c3 : A.cell? ⟨w.heap.size, 3, none⟩ = some (.string cm) := hcA.c3
  have c4 : A.cell? ⟨w.heap.size, 4, none⟩ = some (.string ce.name) := hcA.c4
  have c5 : A.cell? ⟨w.heap.size, 5, none⟩ = some (.string ce.who) := hcA.c5
  have c6 : A.cell? ⟨w.heap.size, 6, none⟩ = some (.slice sa ce.says.length sc) := hcA.c6
  have c7 : A.cell? ⟨w.heap.size, 7, none⟩ = some (.slice ua ce.uses.length uc) := hcA.c7
  have c8 : A.cell? ⟨w.heap.size, 8, none⟩ = some (.slice pa ce.proof.length pc) := hcA.c8
  obtain ⟨la, lc, rfl, -⟩ := hl.open
  have hAz : w.heap.size < A.heap.size := World.block_lt_of_cell? _ _ HCA.out.c0
  have hAz2 : V.heap.size < A.heap.size := World.block_lt_of_cell? _ _ hf
  have HSZ := hid (And.intro hAz hAz2)
  clear hA hbA hbw hcA hCB hbV hl hc HCO hAz hAz2
  go_enter Tryz.func61, Tryz.ntmps61
  go_wp2_with (first | rw [HW.out] | rw [HA.out])
  go_region_held3 (fun w' => w'.cell? ⟨w.heap.size, 0, none⟩ = some (.int .i64 4) ∧ w'.cell? ⟨w.heap.size, 1, none⟩ = some (.string cw) ∧ w'.cell? ⟨w.heap.size, 2, none⟩ = some (.string cn) ∧ w'.cell? ⟨w.heap.size, 3, none⟩ = some (.string cm) ∧ w'.cell? ⟨w.heap.size, 4, none⟩ = some (.string ce.name) ∧ w'.cell? ⟨w.heap.size, 5, none⟩ = some (.string ce.who) ∧ w'.cell? ⟨w.heap.size, 6, none⟩ = some (.slice sa ce.says.length sc) ∧ w'.cell? ⟨w.heap.size, 7, none⟩ = some (.slice ua ce.uses.length uc) ∧ w'.cell? ⟨w.heap.size, 8, none⟩ = some (.slice pa ce.proof.length pc) ∧ w'.cell? ⟨V.heap.size, 4, none⟩ = some (.func (.func 113) #[] #[]))
      (first | exact ⟨by assumption, by assumption, by assumption, by assumption, by assumption, by assumption, by assumption, by assumption, by assumption, by assumption⟩ | go_keep)
      (first
      | (go_at_call 65; (with_reducible refine (HCOA.out _ (by (repeat (first | with_reducible assumption | with_reducible exact Below.refl _ _ | with_reducible exact below_self_drewN _ _ | with_reducible refine Below.drew ?_ | with_reducible refine below_drewN ?_ _ | (with_reducible refine Below.alloc ?_ ?_ _; rotate_left; focus (first | (simp; done) | omega | (simp; omega))))))).mono ?_); rintro e wz ⟨ue, vvs, rfl, hEz, hbz⟩; have hbr : Below A.heap.size A wz := Below.trans (by (repeat (first | with_reducible assumption | with_reducible exact Below.refl _ _ | with_reducible exact below_self_drewN _ _ | with_reducible refine Below.drew ?_ | with_reducible refine below_drewN ?_ _ | (with_reducible refine Below.alloc ?_ ?_ _; rotate_left; focus (first | (simp; done) | omega | (simp; omega)))))) (hbz.mono (by (first | (simp; done) | omega | (simp; omega)))); obtain ⟨⟨c0, c1, c2, c3, c4, c5, c6, c7, c8⟩, hf⟩ := HCK.out wz hbr; simp only at c0 c1 c2 c3 c4 c5 c6 c7 c8)
      | (go_at_call 113; (refine (blame_drop A.heap.size ue vvs l ⟨4, cw, cn, cm, ce⟩ (.slice sa ce.says.length sc) (.slice ua ce.uses.length uc) (.slice pa ce.proof.length pc) wz (hEz.below (by (repeat (first | with_reducible assumption | with_reducible exact Below.refl _ _ | with_reducible exact below_self_drewN _ _ | with_reducible refine Below.drew ?_ | with_reducible refine below_drewN ?_ _ | (with_reducible refine Below.alloc ?_ ?_ _; rotate_left; focus (first | (simp; done) | omega | (simp; omega))))))) (HC.out.below (HBW.out.trans (hbr.mono HBW.out.size))) (by have := hbr.size; omega) hl60 ).mono ?_); rintro e wy ⟨ur, vvr, rfl, hS, hby, hfr⟩; obtain ⟨⟨c0, c1, c2, c3, c4, c5, c6, c7, c8⟩, hf⟩ := HCK.out wy ((hbr.trans hby)); simp only at c0 c1 c2 c3 c4 c5 c6 c7 c8))
  have hzA : A.heap.size ≤ wy.heap.size := Nat.le_trans hbr.size hby.size
  have HBY := hid ((HBW.out.trans (hbr.mono HBW.out.size)).trans (hby.mono HBW.out.size))
  have HSO := hid (sort_row A.heap.size ur vvr _ wy (by have := dropL_len l ⟨4, cw, cn, cm, ce⟩; omega) hS hzA)
  have HLN := hid (dropL_len l ⟨4, cw, cn, cm, ce⟩)
  have HZ := hid HBW.out.size
  have HFR := hid hfr
  obtain ⟨ra, rc, rfl⟩ := hS.slice
  clear hS hEz hbz hbr hby c0 c1 c2 c3 c4 c5 c6 c7 c8 hf HCOA HCA HFN HCK HSZ hzA
  go_wp2_with fail
  refine HSO.out.mono ?_
  rintro e w5 ⟨vs5, L5, rfl, hS5, hp5, hs5, hb5, hv5⟩
  have HS5 : Hid (EntsF w5 w.heap.size _ L5) := hid ⟨vs5, hS5.mono HZ.out, (HFR.out.sub hv5).mono HZ.out, by rw [hp5.length_eq]; have := HLN.out; omega⟩
  have HP5 := hid (And.intro hp5 hs5)
  have HB5 := hid (HBY.out.trans (hb5.mono HZ.out))
  have hle := hp5.length_eq
  clear hS5 hp5 hs5 hb5
  go_wp2
  go_ret2
  exact ⟨_, L5, rfl, HS5.out, HP5.out.1, HP5.out.2, HB5.out⟩
theorem blame_made (vl : Value) (s : Sg) (l : List En) (c : Chg) (vS vU vP : Value) (w : World) (hl : EntsAt w vl l) (hc : ChgAt w vS vU vP c) (h : edB s l = true) (h' : chgB s c = true) :
    Calls Tryz.prog 61 #[vl, chV c vS vU vP] w fun e w' => ∃ u, e = .returned (.tuple #[u, .int .i64 (doL l c).2]) ∧ EntsF w' w.heap.size u (doL l c).1 ∧ Below w.heap.size w w' := by
  obtain ⟨L, A⟩ := edB_iff.1 h
  have C := chgB_iff.1 h'
  have hok : ∀ x ∈ l, EnSm x := fun x hx => ent_sm (entryB_iff.2 (L.ents x hx))
  have hsm : c.kind ≤ 2 → EnSm c.ent := fun hk => by
    cases C with
    | put h0 h1 hk h2 h3 h4 => exact ent_sm (entryB_iff.2 h4)
    | ren h0 h1 hk' => omega
    | drop h0 h1 hk' => omega
  rcases C.kinds with hk | hk | hk | hk
  · have P := pre_add h h' hk
    refine (blame_made1 vl l c vS vU vP w hl hc hk L.len hok fun _ => hsm (by omega)).mono ?_
    rintro e w' ⟨u, M, rfl, h1, h2, h3, h4⟩
    rw [P.2 M h2 h3] at h1
    exact ⟨u, by rw [P.1], h1, h4⟩
  · have P := pre_set h h' hk
    refine (blame_made2 vl l c vS vU vP w hl hc hk L.len hok fun _ => hsm (by omega)).mono ?_
    rintro e w' ⟨u, M, rfl, h1, h2, h3, h4⟩
    rw [P.2 M h2 h3] at h1
    exact ⟨u, by rw [P.1], h1, h4⟩
  · have P := pre_ren h h' hk
    refine (blame_made3 vl l c vS vU vP w hl hc hk L.len hok fun h => by omega).mono ?_
    rintro e w' ⟨u, M, rfl, h1, h2, h3, h4⟩
    rw [P.2 M h2 h3] at h1
    exact ⟨u, by rw [P.1], h1, h4⟩
  · have P := pre_drop h h' hk
    refine (blame_made4 vl l c vS vU vP w hl hc hk L.len hok fun h => by omega).mono ?_
    rintro e w' ⟨u, M, rfl, h1, h2, h3, h4⟩
    rw [P.2 M h2 h3] at h1
    exact ⟨u, by rw [P.1], h1, h4⟩
end Go.Proofs.YtlbjbmpkaniojaaGreat
