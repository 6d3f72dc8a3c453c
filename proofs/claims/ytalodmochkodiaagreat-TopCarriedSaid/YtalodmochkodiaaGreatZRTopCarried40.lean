/-
  WHAT IT HOLDS: the contract of copied of package carry. Conditions: the argument reads as data; it is small.
  WHAT IT HOLDS: the contract of copied of the reference of layer 8. Conditions: the argument reads as data; it is small.
  WHAT IT HOLDS: how a library of the call's own memory lies while it grows; contracts of each of package carry. Conditions: the arguments read as data; small signs, small libraries; the function value that is handed in does what f says to an entry of the call's own.
-/
import Derived.Test.YtalodmochkodiaaGreatZRTopCarried38
import Derived.Test.YtalodmochkodiaaGreatZRTopCarried39
import Derived.Test.YtalodmochkodiaaGreatZRTopCarried30
import Derived.Test.YtalodmochkodiaaGreatZRTopCarried19
namespace Go.Proofs.YtalodmochkodiaaGreat
open Go Go.RowKit Go.Maps
/-- an entry of the call's own memory: its slices lie in blocks from 'base' on. -/
structure EntO (w : World) (base : Nat) (vS vU vP : Value) (x : En) : Prop where
  s : w.ownsRow base 3 1 vS x.says.length (x.says.map (Value.int .i64))
  u : w.ownsRow base 9 1 vU x.uses.length (x.uses.map Value.string)
  p : w.ownsRow base 123 3 vP x.proof.length (stC x.proof)
  ls : x.says.length ≤ 1000
  lu : x.uses.length ≤ 1000
  lp : x.proof.length ≤ 1000
  nu : ∀ n ∈ x.uses, n.size ≤ 140737488355328
  n1 : x.name.size ≤ 140737488355328
  n2 : x.who.size ≤ 140737488355328
theorem EntO.ent {w : World} {base : Nat} {vS vU vP : Value} {x : En} (h : EntO w base vS vU vP x) : EntAt w vS vU vP x :=
  ⟨Ints.of_owns h.s (by have := h.ls; omega), ⟨RowK.of_owns h.u (by have := h.lu; omega), h.nu⟩, RowK.of_owns h.p (by have := h.lp; omega), h.n1, h.n2⟩
theorem EntO.blocks {w W' : World} {base base' : Nat} {vS vU vP : Value} {x : En} (h : EntO w base vS vU vP x) (hb : base' ≤ base) (hs : ∀ q, base ≤ q → q < w.heap.size → W'.heap[q]? = w.heap[q]?) : EntO W' base' vS vU vP x :=
  ⟨owns_base (owns_blocks h.s fun q h1 h2 _ => hs q h1 h2) hb, owns_base (owns_blocks h.u fun q h1 h2 _ => hs q h1 h2) hb, owns_base (owns_blocks h.p fun q h1 h2 _ => hs q h1 h2) hb, h.ls, h.lu, h.lp, h.nu, h.n1, h.n2⟩
/-- the value of an entry of the call's own. -/
def EnO (w : World) (base : Nat) (v : Value) (x : En) : Prop := ∃ vS vU vP, v = .agg #[.string x.name, .string x.who, vS, vU, vP] ∧ EntO w base vS vU vP x
theorem C5.set3 {w : World} {b : Nat} {x0 x1 x2 x3 x4 : Value} (h : C5 w b x0 x1 x2 x3 x4) (y2 y3 y4 : Value) : C5 (((w.setCell ⟨b, 2, none⟩ y2).setCell ⟨b, 3, none⟩ y3).setCell ⟨b, 4, none⟩ y4) b x0 x1 y2 y3 y4 := by
  have e : ((w.setCell ⟨b, 2, none⟩ y2).setCell ⟨b, 3, none⟩ y3).setCell ⟨b, 4, none⟩ y4 = w.setCells b 2 [y2, y3, y4] := rfl
  have hin := World.cell?_setCells_in b [y2, y3, y4] 2 w (by
    intro j hj
    match j, hj with
    | 0, _ => show (w.cell? ⟨b, 2, none⟩).isSome = true; rw [h.c2]; rfl
    | 1, _ => show (w.cell? ⟨b, 3, none⟩).isSome = true; rw [h.c3]; rfl
    | 2, _ => show (w.cell? ⟨b, 4, none⟩).isSome = true; rw [h.c4]; rfl)
  have hout := fun (o : Nat) (ho : o < 2) => World.cell?_setCells_out b [y2, y3, y4] 2 w ⟨b, o, none⟩ (fun _ _ => Or.inl ho)
  have hf := fun j => World.frozen?_setCells b [y2, y3, y4] 2 w ⟨b, j, none⟩
  rw [e]
  exact ⟨(hout 0 (by omega)).trans h.c0, (hout 1 (by omega)).trans h.c1, hin 0 (by simp), hin 1 (by simp), hin 2 (by simp), (hf 0).trans h.z0, (hf 1).trans h.z1, (hf 2).trans h.z2, (hf 3).trans h.z3, (hf 4).trans h.z4⟩
set_option maxHeartbeats 2000000 in
set_option maxRecDepth 100000 in
theorem carry_copied (vS vU vP : Value) (x : En) (w : World) (he : EntAt w vS vU vP x) (h0 : 0 < x.says.length) (ls : x.says.length ≤ 1000) (lu : x.uses.length ≤ 1000) (lp : x.proof.length ≤ 1000) :
    Calls Tryz.prog 227 #[.agg #[.string x.name, .string x.who, vS, vU, vP]] w fun e w' => ∃ v, e = .returned v ∧ EnO w' w.heap.size v x ∧ Below w.heap.size w w' := by
  obtain ⟨sa, sc, rfl, -⟩ := he.s.open
  obtain ⟨ua, uc, rfl, -⟩ := he.u.open
  obtain ⟨pa, pc, rfl, -⟩ := he.p.open
  have hC5 := C5.new w (.string x.name) (.string x.who) (.slice sa x.says.length sc) (.slice ua x.uses.length uc) (.slice pa x.proof.length pc) 41
  have hbV : Below w.heap.size w (w.alloc (.cells #[.string x.name, .string x.who, .slice sa x.says.length sc, .slice ua x.uses.length uc, .slice pa x.proof.length pc] 41)) := (Below.refl _ _).alloc (Nat.le_refl _) _
  obtain ⟨V, hV⟩ : ∃ V, w.alloc (.cells #[.string x.name, .string x.who, .slice sa x.says.length sc, .slice ua x.uses.length uc, .slice pa x.proof.length pc] 41) = V := ⟨_, rfl⟩
  have hVz : V.heap.size = w.heap.size + 1 := by rw [← hV]; simp
  rw [hV] at hC5 hbV
  have hR5 := C5.new V (.string ⟨#[]⟩) (.string ⟨#[]⟩) (.slice none 0 0) (.slice none 0 0) (.slice none 0 0) 41
  have hbX : Below V.heap.size V (V.alloc (.cells #[.string ⟨#[]⟩, .string ⟨#[]⟩, .slice none 0 0, .slice none 0 0, .slice none 0 0] 41)) := (Below.refl _ _).alloc (Nat.le_refl _) _
  obtain ⟨X, hX⟩ : ∃ X, V.alloc (.cells #[.string ⟨#[]⟩, .string ⟨#[]⟩, .slice none 0 0, .slice none 0 0, .slice none 0 0] 41) = X := ⟨_, rfl⟩
  have hXz : X.heap.size = w.heap.size + 1 + 1 := by rw [← hX, World.size_alloc, hVz]
  rw [hX] at hR5 hbX
  rw [hVz] at hR5
  have C1 := hC5.below hbX
  have C2 := hR5
  have hb := hbV.trans (hbX.mono hbV.size)
  have HE := hid (he.below hb)
  have hXe : (w.alloc (.cells #[.string x.name, .string x.who, .slice sa x.says.length sc, .slice ua x.uses.length uc, .slice pa x.proof.length pc] 41)).alloc (.cells #[.string ⟨#[]⟩, .string ⟨#[]⟩, .slice none 0 0, .slice none 0 0, .slice none 0 0] 41) = X := by rw [hV, hX]
  have HXE := hid hXe
  have HB := hid hb
  have HXZ := hid hXz
  have HC1 := hid C1
  have HC2 := hid C2
  have HN := hid he.n1
  have HN2 := hid he.n2
  have HNU := hid he.u.2
  have HSC := hid (fun (W : World) (hW : Below X.heap.size X W) => sl_CloneT _ _ W (HE.out.s.below hW) h0 ls)
  have HUC := hid (fun (W : World) (hW : Below X.heap.size X W) => sl_Clone_strs _ _ _ W (HE.out.u.1.below hW) (strs_one x.uses) lu)
  have HPC := hid (fun (W : World) (hW : Below X.heap.size X W) => sl_Clone_steps _ _ _ W (HE.out.p.below hW) (stC_one x.proof) lp)
  clear hC5 hbV hV hVz hbX hX hXz hR5 hb he hXe C1 C2
  go_enter Tryz.func227, Tryz.ntmps227
  go_wp2_with fail
  rw [HXE.out]
  have hbZ : Below X.heap.size X X := Below.refl _ _
  obtain ⟨-, -, c2, c3, c4, -, -, -, -, -⟩ := HC1.out
  refine anyK.beginS (S := fun w' => w'.cell? ⟨w.heap.size, 2, none⟩ = some (.slice sa x.says.length sc) ∧ w'.cell? ⟨w.heap.size, 3, none⟩ = some (.slice ua x.uses.length uc) ∧ w'.cell? ⟨w.heap.size, 4, none⟩ = some (.slice pa x.proof.length pc)) (k := 10) (by kernel_rfl) ?_ (fun hHeld => ?_)
  · exact ⟨c2, c3, c4⟩
  refine anyK.take (i := 0) (oi := { dst := some 3, op := Op.fieldAddr 41 (Operand.tmp 1) 2, type := 0, pos := _, after := _, guard := none }) (v := ?_) rfl (by kernel_rfl) (by kernel_rfl) (by kernel_rfl) (by kernel_rfl) (by kernel_rfl) (by decide) (fun _ _ _ h => h) (Or.inl ⟨by rfl, ?_⟩) hHeld ?_
  rotate_left
  · (intro w hSw; (try dsimp only at hSw); go_simp; (try with_reducible rfl))
  (try simp only [Act.put, List.setIfInBounds_toArray, List.set_cons_zero, List.set_cons_succ])
  refine anyK.take (i := 1) (oi := { dst := some 4, op := Op.load 37 (Operand.tmp 3), type := 37, pos := _, after := _, guard := none }) (v := ?_) rfl (by kernel_rfl) (by kernel_rfl) (by kernel_rfl) (by kernel_rfl) (by kernel_rfl) (by decide) (fun _ _ _ h => h) (Or.inl ⟨by rfl, ?_⟩) hHeld ?_
  rotate_left
  · (intro w hSw; (try dsimp only at hSw); go_simp; (try with_reducible rfl))
  (try simp only [Act.put, List.setIfInBounds_toArray, List.set_cons_zero, List.set_cons_succ])
  refine anyK.take (i := 3) (oi := { dst := some 6, op := Op.fieldAddr 41 (Operand.tmp 1) 3, type := 0, pos := _, after := _, guard := none }) (v := ?_) rfl (by kernel_rfl) (by kernel_rfl) (by kernel_rfl) (by kernel_rfl) (by kernel_rfl) (by decide) (fun _ _ _ h => h) (Or.inl ⟨by rfl, ?_⟩) hHeld ?_
  rotate_left
  · (intro w hSw; (try dsimp only at hSw); go_simp; (try with_reducible rfl))
  (try simp only [Act.put, List.setIfInBounds_toArray, List.set_cons_zero, List.set_cons_succ])
  refine anyK.take (i := 4) (oi := { dst := some 7, op := Op.load 38 (Operand.tmp 6), type := 38, pos := _, after := _, guard := none }) (v := ?_) rfl (by kernel_rfl) (by kernel_rfl) (by kernel_rfl) (by kernel_rfl) (by kernel_rfl) (by decide) (fun _ _ _ h => h) (Or.inl ⟨by rfl, ?_⟩) hHeld ?_
  rotate_left
  · (intro w hSw; (try dsimp only at hSw); go_simp; (try with_reducible rfl))
  (try simp only [Act.put, List.setIfInBounds_toArray, List.set_cons_zero, List.set_cons_succ])
  refine anyK.take (i := 6) (oi := { dst := some 9, op := Op.fieldAddr 41 (Operand.tmp 1) 4, type := 0, pos := _, after := _, guard := none }) (v := ?_) rfl (by kernel_rfl) (by kernel_rfl) (by kernel_rfl) (by kernel_rfl) (by kernel_rfl) (by decide) (fun _ _ _ h => h) (Or.inl ⟨by rfl, ?_⟩) hHeld ?_
  rotate_left
  · (intro w hSw; (try dsimp only at hSw); go_simp; (try with_reducible rfl))
  (try simp only [Act.put, List.setIfInBounds_toArray, List.set_cons_zero, List.set_cons_succ])
  refine anyK.take (i := 7) (oi := { dst := some 10, op := Op.load 39 (Operand.tmp 9), type := 39, pos := _, after := _, guard := none }) (v := ?_) rfl (by kernel_rfl) (by kernel_rfl) (by kernel_rfl) (by kernel_rfl) (by kernel_rfl) (by decide) (fun _ _ _ h => h) (Or.inl ⟨by rfl, ?_⟩) hHeld ?_
  rotate_left
  · (intro w hSw; (try dsimp only at hSw); go_simp; (try with_reducible rfl))
  (try simp only [Act.put, List.setIfInBounds_toArray, List.set_cons_zero, List.set_cons_succ])
  refine anyK.one (i := 2) (o := { dst := some 5, op := Op.call { callee := Callee.value (Operand.func 210), args := #[Operand.tmp 4], argTypes := #[37] }, type := 37, pos := _, after := _, guard := none }) (by kernel_rfl) rfl (fun K hK => ?_)
  (try go_simp)
  (go_at_call 210; refine (HSC.out _ (by first | exact hbZ | exact hbZ.drew | exact below_drewN hbZ _)).mono ?_; rintro e wz ⟨u1, rfl, o1, hb1⟩; have o1 := owns_base (b' := X.heap.size) o1 (by first | exact hbZ.size | (simp; done) | exact Nat.le_refl _); obtain ⟨a1, k1, rfl⟩ := owns_slice o1; have hbZ := Below.trans (show Below X.heap.size X _ from (by first | exact hbZ | exact hbZ.drew | exact below_drewN hbZ _)) (hb1.mono (by first | exact hbZ.size | (simp; exact hbZ.size))); obtain ⟨_, _, c2, c3, c4, _, _, z2, z3, z4⟩ := HC1.out.below hbZ)
  refine hK.out _ _ (fun _ => ?_) ?_
  · exact ⟨c2, c3, c4⟩
  clear hHeld
  have hHeld := (by exact ⟨c2, c3, c4⟩ : (fun w' => w'.cell? ⟨w.heap.size, 2, none⟩ = some (.slice sa x.says.length sc) ∧ w'.cell? ⟨w.heap.size, 3, none⟩ = some (.slice ua x.uses.length uc) ∧ w'.cell? ⟨w.heap.size, 4, none⟩ = some (.slice pa x.proof.length pc)) wz)
  clear hK K
  (try simp only [Act.put, List.setIfInBounds_toArray, List.set_cons_zero, List.set_cons_succ])
  refine anyK.take (i := 9) (oi := { dst := some 12, op := Op.fieldAddr 41 (Operand.tmp 1) 2, type := 0, pos := _, after := _, guard := none }) (v := ?_) rfl (by kernel_rfl) (by kernel_rfl) (by kernel_rfl) (by kernel_rfl) (by kernel_rfl) (by decide) (fun _ _ _ h => h) (Or.inl ⟨by rfl, ?_⟩) hHeld ?_
  rotate_left
  · (intro w hSw; (try dsimp only at hSw); go_simp; (try with_reducible rfl))
  (try simp only [Act.put, List.setIfInBounds_toArray, List.set_cons_zero, List.set_cons_succ])
  refine anyK.one (i := 5) (o := { dst := some 8, op := Op.call { callee := Callee.value (Operand.func 159), args := #[Operand.tmp 7], argTypes := #[38] }, type := 38, pos := _, after := _, guard := none }) (by kernel_rfl) rfl (fun K hK => ?_)
  (try go_simp)
  (go_at_call 159; refine (HUC.out _ (by first | exact hbZ | exact hbZ.drew | exact below_drewN hbZ _)).mono ?_; rintro e wz ⟨u2, rfl, o2, hb1⟩; have o2 := owns_base (b' := X.heap.size) o2 (by first | exact hbZ.size | (simp; done) | exact Nat.le_refl _); obtain ⟨a2, k2, rfl⟩ := owns_slice o2; have o1 := owns_below o1 hb1; have hbZ := Below.trans (show Below X.heap.size X _ from (by first | exact hbZ | exact hbZ.drew | exact below_drewN hbZ _)) (hb1.mono (by first | exact hbZ.size | (simp; exact hbZ.size))); obtain ⟨_, _, c2, c3, c4, _, _, z2, z3, z4⟩ := HC1.out.below hbZ)
  refine hK.out _ _ (fun _ => ?_) ?_
  · exact ⟨c2, c3, c4⟩
  clear hHeld
  have hHeld := (by exact ⟨c2, c3, c4⟩ : (fun w' => w'.cell? ⟨w.heap.size, 2, none⟩ = some (.slice sa x.says.length sc) ∧ w'.cell? ⟨w.heap.size, 3, none⟩ = some (.slice ua x.uses.length uc) ∧ w'.cell? ⟨w.heap.size, 4, none⟩ = some (.slice pa x.proof.length pc)) wz)
  clear hK K
  (try simp only [Act.put, List.setIfInBounds_toArray, List.set_cons_zero, List.set_cons_succ])
  refine anyK.one (i := 8) (o := { dst := some 11, op := Op.call { callee := Callee.value (Operand.func 211), args := #[Operand.tmp 10], argTypes := #[39] }, type := 39, pos := _, after := _, guard := none }) (by kernel_rfl) rfl (fun K hK => ?_)
  (try go_simp)
  (go_at_call 211; refine (HPC.out _ (by first | exact hbZ | exact hbZ.drew | exact below_drewN hbZ _)).mono ?_; rintro e wz ⟨u3, rfl, o3, hb1⟩; have o3 := owns_base (b' := X.heap.size) o3 (by first | exact hbZ.size | (simp; done) | exact Nat.le_refl _); obtain ⟨a3, k3, rfl⟩ := owns_slice o3; have o1 := owns_below o1 hb1; have o2 := owns_below o2 hb1; have hbZ := Below.trans (show Below X.heap.size X _ from (by first | exact hbZ | exact hbZ.drew | exact below_drewN hbZ _)) (hb1.mono (by first | exact hbZ.size | (simp; exact hbZ.size))); obtain ⟨_, _, c2, c3, c4, _, _, z2, z3, z4⟩ := HC1.out.below hbZ)
  refine hK.out _ _ (fun _ => ?_) ?_
  · exact ⟨c2, c3, c4⟩
  clear hHeld
  have hHeld := (by exact ⟨c2, c3, c4⟩ : (fun w' => w'.cell? ⟨w.heap.size, 2, none⟩ = some (.slice sa x.says.length sc) ∧ w'.cell? ⟨w.heap.size, 3, none⟩ = some (.slice ua x.uses.length uc) ∧ w'.cell? ⟨w.heap.size, 4, none⟩ = some (.slice pa x.proof.length pc)) wz)
  clear hK K
  (try simp only [Act.put, List.setIfInBounds_toArray, List.set_cons_zero, List.set_cons_succ])
  refine anyK.one (i := 10) (o := { dst := none, op := Op.store 37 (Operand.tmp 12) (Operand.tmp 5), type := 0, pos := _, after := _, guard := none }) (by kernel_rfl) rfl (fun K hK => ?_)
  (try go_simp)
  refine hK.out _ _ (fun h => absurd h (by decide)) ?_
  clear hK K
  (try simp only [Act.put, List.setIfInBounds_toArray, List.set_cons_zero, List.set_cons_succ])
  refine anyK.one (i := 11) (o := { dst := some 13, op := Op.fieldAddr 41 (Operand.tmp 1) 3, type := 0, pos := _, after := _, guard := none }) (by kernel_rfl) rfl (fun K hK => ?_)
  (try go_simp)
  refine hK.out _ _ (fun h => absurd h (by decide)) ?_
  clear hK K
  (try simp only [Act.put, List.setIfInBounds_toArray, List.set_cons_zero, List.set_cons_succ])
  refine anyK.one (i := 12) (o := { dst := none, op := Op.store 38 (Operand.tmp 13) (Operand.tmp 8), type := 0, pos := _, after := _, guard := none }) (by kernel_rfl) rfl (fun K hK => ?_)
  (try go_simp)
  refine hK.out _ _ (fun h => absurd h (by decide)) ?_
  clear hK K
  (try simp only [Act.put, List.setIfInBounds_toArray, List.set_cons_zero, List.set_cons_succ])
  refine anyK.one (i := 13) (o := { dst := some 14, op := Op.fieldAddr 41 (Operand.tmp 1) 4, type := 0, pos := _, after := _, guard := none }) (by kernel_rfl) rfl (fun K hK => ?_)
  (try go_simp)
  refine hK.out _ _ (fun h => absurd h (by decide)) ?_
  clear hK K
  (try simp only [Act.put, List.setIfInBounds_toArray, List.set_cons_zero, List.set_cons_succ])
  refine anyK.one (i := 14) (o := { dst := none, op := Op.store 39 (Operand.tmp 14) (Operand.tmp 11), type := 0, pos := _, after := _, guard := none }) (by kernel_rfl) rfl (fun K hK => ?_)
  (try go_simp)
  refine hK.out _ _ (fun h => absurd h (by decide)) ?_
  clear hK K
  (try simp only [Act.put, List.setIfInBounds_toArray, List.set_cons_zero, List.set_cons_succ])
  refine anyK.done (by kernel_rfl) ?_ _
  have hXw := HXZ.out
  have hzz := hbZ.size
  have C1z := HC1.out.below hbZ
  have C2z := HC2.out.below hbZ
  have D1 := hid (C1z.set3 (.slice a1 x.says.length k1) (.slice a2 x.uses.length k2) (.slice a3 x.proof.length k3))
  obtain ⟨W3, hW3⟩ : ∃ W3, ((wz.setCell ⟨w.heap.size, 2, none⟩ (.slice a1 x.says.length k1)).setCell ⟨w.heap.size, 3, none⟩ (.slice a2 x.uses.length k2)).setCell ⟨w.heap.size, 4, none⟩ (.slice a3 x.proof.length k3) = W3 := ⟨_, rfl⟩
  have hg3 : ∀ k, k ≠ w.heap.size → W3.heap[k]? = wz.heap[k]? := fun k hk => by
    rw [← hW3, Below.heap_setCell _ _ _ _ hk, Below.heap_setCell _ _ _ _ hk, Below.heap_setCell _ _ _ _ hk]
  have hb3 : Below w.heap.size w W3 := hW3 ▸ ((((HB.out.trans (hbZ.mono HB.out.size)).setCell (p := ⟨w.heap.size, 2, none⟩) (Nat.le_refl _) _).setCell (p := ⟨w.heap.size, 3, none⟩) (Nat.le_refl _) _).setCell (p := ⟨w.heap.size, 4, none⟩) (Nat.le_refl _) _)
  have D2 := hid (C2z.block (hg3 (w.heap.size + 1) (by omega)))
  rw [hW3] at D1 ⊢
  obtain ⟨c0, c1, c2, c3, c4, z0, z1, z2, z3, z4⟩ := D1.out
  obtain ⟨d0, d1, d2, d3, d4, y0, y1, y2, y3, y4⟩ := D2.out
  have HG3 := hid hg3
  have HB3 := hid hb3
  clear hg3 hb3 hW3 C1z C2z hHeld
  go_wp2
  (try simp only [Exit.inBlock, Exit.then])
  clear c0 c1 c2 c3 c4 z0 z1 z2 z3 z4 d0 d1 d2 d3 d4 y0 y1 y2 y3 y4
  obtain ⟨c0, c1, c2, c3, c4, -, -, -, -, -⟩ := D2.out.store (.string x.name) (.string x.who) (.slice a1 x.says.length k1) (.slice a2 x.uses.length k2) (.slice a3 x.proof.length k3)
  have hall : ∀ q, X.heap.size ≤ q → (set5 W3 (w.heap.size + 1) (.string x.name) (.string x.who) (.slice a1 x.says.length k1) (.slice a2 x.uses.length k2) (.slice a3 x.proof.length k3)).heap[q]? = wz.heap[q]? := fun q hq => by rw [heap_set5 _ _ _ _ _ _ _ (by omega), HG3.out q (by omega)]
  have hO : EntO wz X.heap.size (.slice a1 x.says.length k1) (.slice a2 x.uses.length k2) (.slice a3 x.proof.length k3) x := ⟨o1, o2, o3, ls, lu, lp, HNU.out, HN.out, HN2.out⟩
  have hF := hO.blocks (base' := w.heap.size) (by omega) fun q hq _ => hall q hq
  refine bodyPost_ret (v := .agg #[.string x.name, .string x.who, .slice a1 x.says.length k1, .slice a2 x.uses.length k2, .slice a3 x.proof.length k3]) ?_ rfl ⟨_, rfl, ⟨_, _, _, rfl, hF⟩, set5_below HB3.out (by omega) _ _ _ _ _⟩
  unfold set5 at c0 c1 c2 c3 c4
  clear hall hO hF
  simp only [results, Tryz.results227]
  go_simp
end Go.Proofs.YtalodmochkodiaaGreat
namespace Go.Proofs.YtalodmochkodiaaGreat
open Go Go.RowKit Go.Maps
theorem C5.set_2 {w : World} {b : Nat} {x0 x1 x2 x3 x4 : Value} (h : C5 w b x0 x1 x2 x3 x4) (y : Value) : C5 (w.setCell ⟨b, 2, none⟩ y) b x0 x1 y x3 x4 := by
  refine ⟨?_, ?_, World.cell?_setCell_same _ _ _ h.c2, ?_, ?_, ?_, ?_, ?_, ?_, ?_⟩
  · rw [World.cell?_setCell_other _ _ _ _ (by simp)]; exact h.c0
  · rw [World.cell?_setCell_other _ _ _ _ (by simp)]; exact h.c1
  · rw [World.cell?_setCell_other _ _ _ _ (by simp)]; exact h.c3
  · rw [World.cell?_setCell_other _ _ _ _ (by simp)]; exact h.c4
  · rw [World.frozen?_setCell]; exact h.z0
  · rw [World.frozen?_setCell]; exact h.z1
  · rw [World.frozen?_setCell]; exact h.z2
  · rw [World.frozen?_setCell]; exact h.z3
  · rw [World.frozen?_setCell]; exact h.z4
end Go.Proofs.YtalodmochkodiaaGreat
namespace Go.Proofs.YtalodmochkodiaaGreat
open Go Go.RowKit Go.Maps
/-- a row of entries of the call's own; what the entries hold does not lie in the row's own block. -/
structure EnS (w : World) (base : Nat) (u : Value) (vs : List V3) (l : List En) : Prop where
  top : w.ownsRow base 41 5 u l.length (ensC l vs)
  len : vs.length = l.length
  rd : ∀ W' : World, (∀ q, q < w.heap.size → some q ≠ u.ownBlock → W'.heap[q]? = w.heap[q]?) → ∀ (j : Nat) (h : j < l.length) (h' : j < vs.length), EntAt W' vs[j].1 vs[j].2.1 vs[j].2.2 l[j]
theorem EnS.nil (w : World) (base : Nat) : EnS w base (.slice none 0 0) [] [] := ⟨World.ownsRow_nil _ _ _ _, rfl, fun _ _ j h => by simp at h⟩
theorem EnS.below {w w' : World} {base : Nat} {u : Value} {vs : List V3} {l : List En} (h : EnS w base u vs l) (hb : Below w.heap.size w w') : EnS w' base u vs l :=
  ⟨owns_below h.top hb, h.len, fun W' hW => h.rd W' fun q hq hne => (hW q (Nat.lt_of_lt_of_le hq hb.size) hne).trans (hb.block q hq)⟩
theorem EnS.ents {w : World} {base : Nat} {u : Value} {vs : List V3} {l : List En} (h : EnS w base u vs l) (hl : l.length ≤ 1000) : EntsV w u vs l :=
  ⟨RowK.of_owns h.top (by omega), h.len, h.rd w fun _ _ _ => rfl⟩
theorem ensC_snoc (l : List En) (x : En) (vs : List V3) (v : V3) (h : vs.length = l.length) : ensC (l ++ [x]) (vs ++ [v]) = ensC l vs ++ enC x v := by
  rw [ensC_append l [x] vs [v] h]
  simp [ensC]
theorem EnS.push {w w1 w2 : World} {base : Nat} {u : Value} {vs : List V3} {l : List En} (h : EnS w base u vs l) (hb : Below w.heap.size w w1) {x : En} {v : V3}
    (hx : ∀ W' : World, (∀ q, q < w1.heap.size → some q ≠ u.ownBlock → W'.heap[q]? = w1.heap[q]?) → EntAt W' v.1 v.2.1 v.2.2 x)
    {g cap n : Nat} (hn : n = l.length) (hown : w2.ownsRow base 41 5 (.slice (some ⟨g, 0, none⟩) (n + 1) cap) (n + 1) (ensC l vs ++ enC x v)) (hg : w1.grownBy w2 u.ownBlock) {H : Nat} (hH : H = w1.heap.size) (hat : u.ownBlock = some g ∨ g = H) :
    EnS w2 base (.slice (some ⟨g, 0, none⟩) (n + 1) cap) (vs ++ [v]) (l ++ [x]) := by
  subst hn
  have hb1 := h.below hb
  have key : ∀ W' : World, (∀ q, q < w2.heap.size → some q ≠ (Value.slice (some ⟨g, 0, none⟩) (l.length + 1) cap).ownBlock → W'.heap[q]? = w2.heap[q]?) → ∀ q, q < w1.heap.size → some q ≠ u.ownBlock → W'.heap[q]? = w1.heap[q]? := by
    intro W' hW q hq hne
    rw [hW q (Nat.lt_of_lt_of_le hq hg.size) ?_, hg.block q hq hne]
    intro e
    have e : q = g := Option.some.inj e
    rcases hat with ha | ha
    · exact hne (by rw [ha, e])
    · omega
  refine ⟨by rw [ensC_snoc _ _ _ _ h.len]; simpa using hown, by simp [h.len], fun W' hW j hj hj' => ?_⟩
  have k1 := key W' hW
  by_cases hlt : j < l.length
  · have hv : j < vs.length := by rw [h.len]; exact hlt
    rw [List.getElem_append_left hlt, List.getElem_append_left hv]
    exact hb1.rd W' k1 j hlt hv
  · have e : j = l.length := by simp at hj; omega
    subst e
    have e1 : (l ++ [x])[l.length] = x := by simp
    have e2 : (vs ++ [v])[l.length] = v := by rw [List.getElem_append_right (by rw [h.len]; exact Nat.le_refl _)]; simp [h.len]
    rw [e1, e2]
    exact hx W' k1
theorem EnS.slice {w : World} {base : Nat} {u : Value} {vs : List V3} {l : List En} (h : EnS w base u vs l) : ∃ a c, u = .slice a l.length c := owns_slice h.top
/-- the one entry that an append is handed. -/
theorem row_one_ent (w : World) (x0 x1 x2 x3 x4 : Value) (t : TypeId) : RowK (w.alloc (.cells #[x0, x1, x2, x3, x4] t)) (.slice (some ⟨w.heap.size, 0, none⟩) 1 1) 5 1 [x0, x1, x2, x3, x4] := by
  refine ⟨rfl, _, _, rfl, Nat.le_refl _, by omega, (fun h => by cases h), fun j u hj => ⟨_, _, rfl, ?_⟩⟩
  rw [World.cell?_alloc_new, Nat.zero_add]
  simpa using hj
theorem enC_one (x : En) (a b c : Option Addr) (n m k n' m' k' : Nat) : ∀ u ∈ enC x (.slice a n n', .slice b m m', .slice c k k'), u.oneCell' = true := by
  intro u hu
  simp [enC] at hu
  rcases hu with rfl | rfl | rfl | rfl | rfl <;> rfl
/-- what an entry is asked to be, to be copied. -/
def EnSm (x : En) : Prop := 0 < x.says.length ∧ x.says.length ≤ 1000 ∧ x.uses.length ≤ 1000 ∧ x.proof.length ≤ 1000
set_option maxHeartbeats 2000000 in
set_option maxRecDepth 100000 in
theorem carry_each (fg : Nat) (lb : Array Value) (eg : ∀ args w, (callFunc fg args).run Tryz.prog w = .ok (.enter fg args) w) (vl : Value) (l : List En) (f : En → En) (w : World) (hl : EntsAt w vl l) (hl1 : l.length ≤ 1000) (hok : ∀ x ∈ l, EnSm x)
    (hf : ∀ (i : Nat) (h : i < l.length) (W : World) (v : Value) (B : Nat), w.heap.size ≤ B → B ≤ W.heap.size → Below w.heap.size w W → EnO W B v l[i] → Calls Tryz.prog fg (#[v] ++ lb) W fun e w' => ∃ v', e = .returned v' ∧ EnO w' B v' (f l[i]) ∧ Below B W w') :
    Calls Tryz.prog 135 #[vl, .func (.func fg) #[] lb] w fun e w' => ∃ u vs, e = .returned u ∧ EnS w' w.heap.size u vs (l.map f) ∧ Below w.heap.size w w' := by
  obtain ⟨la, lc, rfl, -, ll, -, HC⟩ := hl.open
  have HC' := hid HC
  have HF := hid hf
  have HOK := hid hok
  have h00 := hid (EnS.nil w w.heap.size)
  clear HC hl hf hok
  go_enter Tryz.func135, Tryz.ntmps135
  go_wp2
  go_loopw [5, 10] (fun u kv wr => ∃ (k : Nat) (vs : List V3), k ≤ l.length ∧ kv = .int .i64 k ∧ EnS wr w.heap.size u vs ((l.take k).map f) ∧ Below w.heap.size w wr) (fun _ kv _ => l.length - (intOf kv).toNat)
  case atStart => exact ⟨0, [], by omega, rfl, by simpa using h00.out, Below.refl _ _⟩
  case round =>
    clear h00
    obtain ⟨k, vs, hk, rfl, hE, hb⟩ := hrel
    have hsz := hb.size
    by_cases hlt : k < l.length
    · obtain ⟨b, o, vS, vu, vp, rfl, c0, c1, c2, c3, c4, he⟩ := HC'.out k hlt
      have he' := he.below hb
      obtain ⟨sa, sc, rfl, -⟩ := he'.s.open
      obtain ⟨ua, uc, rfl, -⟩ := he'.u.open
      obtain ⟨pa, pc, rfl, -⟩ := he'.p.open
      have d0 := (hb.cell (World.block_lt_of_cell? _ _ c0)).trans c0
      have d1 := (hb.cell (World.block_lt_of_cell? _ _ c1)).trans c1
      have d2 := (hb.cell (World.block_lt_of_cell? _ _ c2)).trans c2
      have d3 := (hb.cell (World.block_lt_of_cell? _ _ c3)).trans c3
      have d4 := (hb.cell (World.block_lt_of_cell? _ _ c4)).trans c4
      obtain ⟨s0, s1, s2, s3⟩ := HOK.out _ (List.getElem_mem hlt)
      have HFK := hid (HF.out k hlt)
      have HTK := hid (show (l.take (k + 1)).map f = (l.take k).map f ++ [f l[k]] from by rw [List.take_succ_eq_append_getElem hlt, List.map_append]; rfl)
      have hlen : ((l.take k).map f).length = k := by simp; omega
      obtain ⟨x, hx⟩ : ∃ x, l[k] = x := ⟨_, rfl⟩
      rw [hx] at d0 d1 d2 d3 d4 he' s0 s1 s2 s3 HFK HTK
      obtain ⟨y, hy⟩ : ∃ y, f x = y := ⟨_, rfl⟩
      rw [hy] at HFK HTK
      obtain ⟨L, hL⟩ : ∃ L, (l.take k).map f = L := ⟨_, rfl⟩
      rw [hL] at hE HTK hlen
      clear c0 c1 c2 c3 c4 he hx hy hL
      have EB0 := EB.new wr x (.slice sa x.says.length sc) (.slice ua x.uses.length uc) (.slice pa x.proof.length pc) 41
      obtain ⟨W, hW⟩ : ∃ W, wr.alloc (.cells #[.string x.name, .string x.who, .slice sa x.says.length sc, .slice ua x.uses.length uc, .slice pa x.proof.length pc] 41) = W := ⟨_, rfl⟩
      have hbr : Below wr.heap.size wr W := hW ▸ (Below.refl _ _).alloc (Nat.le_refl _) _
      rw [hW] at EB0
      have HCP := hid (carry_copied (.slice sa x.says.length sc) (.slice ua x.uses.length uc) (.slice pa x.proof.length pc) x W (he'.below hbr) s0 s1 s2 s3)
      have HHW := hid hW
      have HBR := hid hbr
      have HE := hid hE
      have HB := hid hb
      clear EB0 hW hbr hE hb he'
      go_wp2_with fail
      rw [HHW.out]
      refine HCP.out.mono ?_
      rintro e w1 ⟨v, rfl, hO, hb1⟩
      have hbW := HB.out.trans (HBR.out.mono hsz)
      have hbw1 := hbW.trans (hb1.mono hbW.size)
      have HFF := hid (HFK.out w1 v W.heap.size hbW.size hb1.size hbw1 hO)
      have HB1 := hid hb1
      have HSW := hid hbW.size
      clear hO hb1 hbW hbw1
      go_wp2_with fail
      go_at_fn fg
      refine HFF.out.mono ?_
      rintro e w2 ⟨v', rfl, ⟨vS, vU, vP, rfl, hO⟩, hb2⟩
      have hbW2 : Below W.heap.size W w2 := HB1.out.trans hb2
      have hbr2 : Below wr.heap.size wr w2 := HBR.out.trans (hbW2.mono HBR.out.size)
      have hbw2 := HB.out.trans (hbr2.mono hsz)
      obtain ⟨a1, k1, rfl⟩ := owns_slice hO.s
      obtain ⟨a2, k2, rfl⟩ := owns_slice hO.u
      obtain ⟨a3, k3, rfl⟩ := owns_slice hO.p
      have HE2 := hid (HE.out.below hbr2)
      have HO2 := hid hO
      have HB2 := hid hbw2
      have HSZ2 := hid hbw2.size
      have HU := hid HE.out.top.lt
      have hown2 := HE2.out.top
      rw [hlen] at hown2
      have hownA := hown2.alloc (.cells #[.string y.name, .string y.who, .slice a1 y.says.length k1, .slice a2 y.uses.length k2, .slice a3 y.proof.length k3] 41)
      have HROW := hid (row_one_ent w2 (.string y.name) (.string y.who) (.slice a1 y.says.length k1) (.slice a2 y.uses.length k2) (.slice a3 y.proof.length k3) 41)
      have HRS := hid HBR.out.size
      have hwz := hbw2.size
      clear hO hb2 hbW2 hbw2 hown2
      go_wp2_with (at_builtin; refine wpList_append_lie rfl _ _ 24 rfl w.heap.size 41 el_ent Tryz.underlying24 rfl (by decide) u5 k (ensC L vs) rfl hownA _ 1 (enC y (.slice a1 y.says.length k1, .slice a2 y.uses.length k2, .slice a3 y.proof.length k3)) rfl HROW.out (enC_one _ _ _ _ _ _ _ _ _ _) (by omega) (by omega) (by omega) (by simp; omega) _ rfl ?_; intro g cap w4 hown4 hgrow4 hat4 hlt4)
      go_roundw
      case rel =>
        refine ⟨k + 1, vs ++ [(.slice a1 y.says.length k1, .slice a2 y.uses.length k2, .slice a3 y.proof.length k3)], by omega, by go_num, ?_, (HB2.out.alloc HSZ2.out _).grown hgrow4 (by simp; have := HSZ2.out; omega) (fun q hq => (HU.out q hq).1)⟩
        rw [HTK.out]
        exact HE2.out.push (w1 := w2.alloc _) ((Below.refl _ _).alloc (Nat.le_refl _) _) (fun W' hW' => (HO2.out.blocks (base' := 0) (Nat.zero_le _) fun q h1 h2 => (hW' q (by simp; omega) (fun e => by
          have := (HU.out q e.symm).2
          have := HRS.out
          omega)).trans (Below.heap_alloc _ _ _ h2)).ent) hlen.symm hown4 hgrow4 rfl hat4
      case measure => simp [intOf]; omega
    · have hkl : k = l.length := by omega
      subst hkl
      rw [List.take_of_length_le (Nat.le_refl _)] at hE
      have HE := hid hE
      clear hE
      go_wp2
      go_ret
      exact ⟨_, vs, rfl, HE.out, hb⟩
end Go.Proofs.YtalodmochkodiaaGreat
