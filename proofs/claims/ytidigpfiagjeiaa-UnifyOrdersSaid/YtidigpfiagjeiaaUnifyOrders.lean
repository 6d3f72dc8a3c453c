/-
  WHAT IT HOLDS: the walk of the law UnifyOrders.
-/
import Derived.Test.YtidigpfiagjeiaaAwk2
import Derived.Test.YtidigpfiagjeiaaRow2
import Derived.Test.YtidigpfiagjeiaaRef1b
namespace Go.Proofs.Ytidigpfiagjeiaa
open Go Go.RowKit Go.Maps
theorem chainB {P : Program} {f : FuncId} {args : Array Value} {WB W : World} {R : Ending → Prop} (hb : Below WB.heap.size WB W) (h : Calls P f args W fun e w' => R e ∧ Below W.heap.size W w') : Calls P f args W fun e w' => R e ∧ Below WB.heap.size WB w' :=
  h.mono fun _ _ ⟨h1, h2⟩ => ⟨h1, hb.trans (h2.mono hb.size)⟩
set_option maxHeartbeats 1000000 in
theorem walk_UnifyOrders (vs v0 v1 v2 : Value) (s : Sg) (l0 l1 l2 : List Int) (w : World) (hs : SignAt w vs s) (h0 : Ints w v0 l0) (h1 : Ints w v1 l1) (h2 : Ints w v2 l2) :
    Calls Try.prog 4 #[vs, .agg #[v0, v1, v2]] w fun e w' => e = .returned (.bool true) ∧ Below w.heap.size w w' := by
  obtain ⟨a0, k0, he0, -⟩ := h0.open
  obtain ⟨a1, k1, he1, -⟩ := h1.open
  obtain ⟨a2, k2, he2, -⟩ := h2.open
  subst he0 he1 he2
  obtain ⟨W, hW⟩ : ∃ W, w.alloc (.cells #[.slice a0 l0.length k0, .slice a1 l1.length k1, .slice a2 l2.length k2] 26) = W := ⟨_, rfl⟩
  have hb : Below w.heap.size w W := hW ▸ (Below.refl _ _).alloc (Nat.le_refl _) _
  have c0 : W.cell? ⟨w.heap.size, 0, none⟩ = some (.slice a0 l0.length k0) := by rw [← hW, World.cell?_alloc_new]; rfl
  have c1 : W.cell? ⟨w.heap.size, 1, none⟩ = some (.slice a1 l1.length k1) := by rw [← hW, World.cell?_alloc_new]; rfl
  have c2 : W.cell? ⟨w.heap.size, 2, none⟩ = some (.slice a2 l2.length k2) := by rw [← hW, World.cell?_alloc_new]; rfl
  have q0 := h0.below hb
  have q1 := h1.below hb
  have q2 := h2.below hb
  have qs := hs.below hb
  have HT := hid (terms_lit3 q0 q1 q2 25)
  have hb2 : Below W.heap.size W (W.alloc (.cells #[.slice a0 l0.length k0, .slice a1 l1.length k1, .slice a2 l2.length k2] 25)) := (Below.refl _ _).alloc (Nat.le_refl _) _
  have HSM := hid (law1_Small vs _ s _ _ (qs.below hb2) HT.out)
  have HB := hid hb
  have HB2 := hid hb2
  clear HT hb hb2 hs h0 h1 h2
  go_enter Try.func4, Try.ntmps4
  go_wp2_with fail
  refine HSM.out.mono ?_
  rintro e w1 ⟨rfl, rfl⟩
  cases hsm : smallB s [l0, l1, l2]
  · clear hW
    go_wp2_with fail
    refine (law2_awake _).mono ?_
    rintro e w2 ⟨rfl, hb3⟩
    have HB3 := hid (HB.out.trans ((HB2.out.trans (hb3.mono HB2.out.size)).mono HB.out.size))
    clear hb3
    go_wp2
    go_ret
    exact ⟨rfl, HB3.out⟩
  · have hs40 : s.length ≤ 1000 := by simp [smallB] at hsm; omega
    clear hsm
    have HI := hid (fun (X : World) (hX : Below W.heap.size W X) (u v : Value) (a b : List Int) (ra : Ints W u a) (rb : Ints W v b) => chainB hX (unify_Instance vs u v s a b X (qs.below hX) (ra.below hX) (rb.below hX) hs40))
    clear HSM hW
    go_wp2_with fail
    go_region_held3 (fun w' => w'.cell? ⟨w.heap.size, 0, none⟩ = some (.slice a0 l0.length k0) ∧ w'.cell? ⟨w.heap.size, 1, none⟩ = some (.slice a1 l1.length k1) ∧ w'.cell? ⟨w.heap.size, 2, none⟩ = some (.slice a2 l2.length k2)) (first | exact ⟨by assumption, by assumption, by assumption⟩ | go_keep)
      (first | (go_at_call 17; with_reducible refine (HI.out _ (by first | exact hbZ | exact hbZ.drew | exact HB2.out | exact HB2.out.drew) _ _ _ _ (by assumption) (by assumption)).mono ?_; rintro e wz ⟨rfl, hbZ⟩; have d0 := (hbZ.cell (World.block_lt_of_cell? _ _ c0)).trans c0; have d1 := (hbZ.cell (World.block_lt_of_cell? _ _ c1)).trans c1; have d2 := (hbZ.cell (World.block_lt_of_cell? _ _ c2)).trans c2))
    have HV := hid (fun (X : World) (hX : Below W.heap.size W X) => chainB hX (term_Valid' vs _ s l0 X (qs.below hX) (q0.below hX) hs40))
    have HAL : alikeB s l0 l1 = (instB s l0 l1 && instB s l1 l0) := by
      cases h : alikeB s l0 l1
      · cases h2 : (instB s l0 l1 && instB s l1 l0)
        · rfl
        · rw [Bool.and_eq_true] at h2
          rw [alikeB_iff.2 h2] at h; cases h
      · have := alikeB_iff.1 h
        rw [this.1, this.2]; rfl
    have HA := hid (fun (X : World) (hX : Below W.heap.size W X) => chainB hX (term_Alike vs _ _ s l0 l1 X (qs.below hX) (q0.below hX) (q1.below hX) hs40))
    have HW := hid (fun (X : World) (hX : Below W.heap.size W X) => chainB hX (law2_awake X))
    have hI0 := fun (X : World) (hX : Below W.heap.size W X) => chainB hX (unify_Instance vs _ _ s l0 l0 X (qs.below hX) (q0.below hX) (q0.below hX) hs40)
    rw [instB_refl] at hI0
    rw [HAL] at HA
    have HI0 := hid hI0
    have HTR := hid (fun (x : instB s l0 l1 = true) (y : instB s l1 l2 = true) => instB_trans x y)
    clear HI hI0 HAL
    generalize instB s l0 l1 = b1 at *
    generalize instB s l1 l2 = b2 at *
    generalize instB s l0 l2 = b3 at *
    generalize instB s l1 l0 = b4 at *
    generalize termB s l0 = b5 at *
    have hno : ¬ (b1 = true ∧ b2 = true ∧ b3 = false) := by
      rintro ⟨x, y, z⟩
      have := HTR.out x y
      rw [z] at this; cases this
    clear HTR
    cases b1
    · clear hno
      go_wp2_with fail
      refine wp_region_held_drew (S := fun w' => w'.cell? ⟨w.heap.size, 0, none⟩ = some (.slice a0 l0.length k0) ∧ w'.cell? ⟨w.heap.size, 1, none⟩ = some (.slice a1 l1.length k1)) (by kernel_rfl) ?_ (fun hHeld => ?_)
      · exact ⟨d0, d1⟩
      refine wpAnyH_take (i := 0) (oi := { dst := some 52, op := Op.move (Operand.tmp 0), type := 23, pos := _, after := _, guard := none }) (v := ?_) rfl (by kernel_rfl) (by kernel_rfl) (by kernel_rfl) (fun _ _ _ h => h) (Or.inl ⟨by rfl, ?_⟩) hHeld ?_
      rotate_left
      · (intro w hSw; (try dsimp only at hSw); go_simp; (try with_reducible rfl))
      (try simp only [Act.put, List.setIfInBounds_toArray, List.set_cons_zero, List.set_cons_succ])
      refine wpAnyH_take (i := 1) (oi := { dst := some 53, op := Op.indexAddr 26 (Operand.tmp 3) (Operand.const (Value.int IntKind.i64 0)), type := 0, pos := _, after := _, guard := none }) (v := ?_) rfl (by kernel_rfl) (by kernel_rfl) (by kernel_rfl) (fun _ _ _ h => h) (Or.inl ⟨by rfl, ?_⟩) hHeld ?_
      rotate_left
      · (intro w hSw; (try dsimp only at hSw); go_simp; (try with_reducible rfl))
      (try simp only [Act.put, List.setIfInBounds_toArray, List.set_cons_zero, List.set_cons_succ])
      refine wpAnyH_take (i := 2) (oi := { dst := some 54, op := Op.load 25 (Operand.tmp 53), type := 25, pos := _, after := _, guard := none }) (v := ?_) rfl (by kernel_rfl) (by kernel_rfl) (by kernel_rfl) (fun _ _ _ h => h) (Or.inl ⟨by rfl, ?_⟩) hHeld ?_
      rotate_left
      · (intro w hSw; (try dsimp only at hSw); go_simp; (try with_reducible rfl))
      (try simp only [Act.put, List.setIfInBounds_toArray, List.set_cons_zero, List.set_cons_succ])
      refine wpAnyH_take (i := 3) (oi := { dst := some 55, op := Op.indexAddr 26 (Operand.tmp 3) (Operand.const (Value.int IntKind.i64 0)), type := 0, pos := _, after := _, guard := none }) (v := ?_) rfl (by kernel_rfl) (by kernel_rfl) (by kernel_rfl) (fun _ _ _ h => h) (Or.inl ⟨by rfl, ?_⟩) hHeld ?_
      rotate_left
      · (intro w hSw; (try dsimp only at hSw); go_simp; (try with_reducible rfl))
      (try simp only [Act.put, List.setIfInBounds_toArray, List.set_cons_zero, List.set_cons_succ])
      refine wpAnyH_take (i := 4) (oi := { dst := some 56, op := Op.load 25 (Operand.tmp 55), type := 25, pos := _, after := _, guard := none }) (v := ?_) rfl (by kernel_rfl) (by kernel_rfl) (by kernel_rfl) (fun _ _ _ h => h) (Or.inl ⟨by rfl, ?_⟩) hHeld ?_
      rotate_left
      · (intro w hSw; (try dsimp only at hSw); go_simp; (try with_reducible rfl))
      (try simp only [Act.put, List.setIfInBounds_toArray, List.set_cons_zero, List.set_cons_succ])
      refine wpAnyH_take (i := 6) (oi := { dst := some 58, op := Op.move (Operand.tmp 0), type := 23, pos := _, after := _, guard := none }) (v := ?_) rfl (by kernel_rfl) (by kernel_rfl) (by kernel_rfl) (fun _ _ _ h => h) (Or.inl ⟨by rfl, ?_⟩) hHeld ?_
      rotate_left
      · (intro w hSw; (try dsimp only at hSw); go_simp; (try with_reducible rfl))
      (try simp only [Act.put, List.setIfInBounds_toArray, List.set_cons_zero, List.set_cons_succ])
      refine wpAnyH_take (i := 7) (oi := { dst := some 59, op := Op.indexAddr 26 (Operand.tmp 3) (Operand.const (Value.int IntKind.i64 0)), type := 0, pos := _, after := _, guard := none }) (v := ?_) rfl (by kernel_rfl) (by kernel_rfl) (by kernel_rfl) (fun _ _ _ h => h) (Or.inl ⟨by rfl, ?_⟩) hHeld ?_
      rotate_left
      · (intro w hSw; (try dsimp only at hSw); go_simp; (try with_reducible rfl))
      (try simp only [Act.put, List.setIfInBounds_toArray, List.set_cons_zero, List.set_cons_succ])
      refine wpAnyH_take (i := 8) (oi := { dst := some 60, op := Op.load 25 (Operand.tmp 59), type := 25, pos := _, after := _, guard := none }) (v := ?_) rfl (by kernel_rfl) (by kernel_rfl) (by kernel_rfl) (fun _ _ _ h => h) (Or.inl ⟨by rfl, ?_⟩) hHeld ?_
      rotate_left
      · (intro w hSw; (try dsimp only at hSw); go_simp; (try with_reducible rfl))
      (try simp only [Act.put, List.setIfInBounds_toArray, List.set_cons_zero, List.set_cons_succ])
      refine wpAnyH_ready (rs := [5]) (by kernel_rfl) (by simp) ?_
      refine AllReadyH.cons (o := { dst := some 57, op := Op.call { callee := Callee.value (Operand.func 17), args := #[Operand.tmp 52, Operand.tmp 54, Operand.tmp 56], argTypes := #[23, 25, 25] }, type := 4, pos := _, after := _, guard := none }) rfl (fun K hK => ?_) AllReadyH.nil
      (try go_simp)
      (refine (HI0.out _ (by first | exact hbZ | exact hbZ.drew | exact below_drewN hbZ _)).mono ?_; rintro e wz ⟨rfl, hbZ⟩; have d0 := (hbZ.cell (World.block_lt_of_cell? _ _ c0)).trans c0; have d1 := (hbZ.cell (World.block_lt_of_cell? _ _ c1)).trans c1)
      refine hK.out _ _ ?_ (fun hHeld => ?_)
      · exact ⟨d0, d1⟩
      clear hK K
      (try simp only [Act.put, List.setIfInBounds_toArray, List.set_cons_zero, List.set_cons_succ])
      refine wpAnyH_ready (rs := [9]) (by kernel_rfl) (by simp) ?_
      refine AllReadyH.cons (o := { dst := some 61, op := Op.call { callee := Callee.value (Operand.func 21), args := #[Operand.tmp 58, Operand.tmp 60], argTypes := #[23, 25] }, type := 4, pos := _, after := _, guard := none }) rfl (fun K hK => ?_) AllReadyH.nil
      (try go_simp)
      (refine (HV.out _ (by first | exact hbZ | exact hbZ.drew | exact below_drewN hbZ _)).mono ?_; rintro e wz ⟨rfl, hbZ⟩; have d0 := (hbZ.cell (World.block_lt_of_cell? _ _ c0)).trans c0; have d1 := (hbZ.cell (World.block_lt_of_cell? _ _ c1)).trans c1)
      refine hK.out _ _ ?_ (fun hHeld => ?_)
      · exact ⟨d0, d1⟩
      clear hK K
      (try simp only [Act.put, List.setIfInBounds_toArray, List.set_cons_zero, List.set_cons_succ])
      refine wpAnyH_take (i := 10) (oi := { dst := some 62, op := Op.binOp BinOp.eql 4 (Operand.tmp 57) (Operand.tmp 61) 4, type := 4, pos := _, after := _, guard := none }) (v := ?_) rfl (by kernel_rfl) (by kernel_rfl) (by kernel_rfl) (fun _ _ _ h => h) (Or.inl ⟨by rfl, ?_⟩) hHeld ?_
      rotate_left
      · (intro w hSw; (try dsimp only at hSw); go_simp; (try with_reducible rfl))
      (try simp only [Act.put, List.setIfInBounds_toArray, List.set_cons_zero, List.set_cons_succ])
      refine wpAnyH_take (i := 11) (oi := { dst := some 63, op := Op.move (Operand.tmp 62), type := 4, pos := _, after := _, guard := none }) (v := ?_) rfl (by kernel_rfl) (by kernel_rfl) (by kernel_rfl) (fun _ _ _ h => h) (Or.inl ⟨by rfl, ?_⟩) hHeld ?_
      rotate_left
      · (intro w hSw; (try dsimp only at hSw); go_simp; (try with_reducible rfl))
      (try simp only [Act.put, List.setIfInBounds_toArray, List.set_cons_zero, List.set_cons_succ])
      refine wpAnyH_take (i := 12) (oi := { dst := some 64, op := Op.move (Operand.tmp 5), type := 4, pos := _, after := _, guard := some (11, true) }) (v := ?_) rfl (by kernel_rfl) (by kernel_rfl) (by kernel_rfl) (fun _ _ _ h => h) (Or.inl ⟨by rfl, ?_⟩) hHeld ?_
      rotate_left
      · (intro w hSw; (try dsimp only at hSw); go_simp; (try with_reducible rfl))
      (try simp only [Act.put, List.setIfInBounds_toArray, List.set_cons_zero, List.set_cons_succ])
      refine wpAnyH_take (i := 13) (oi := { dst := some 65, op := Op.move (Operand.tmp 64), type := 4, pos := _, after := _, guard := some (11, true) }) (v := ?_) rfl (by kernel_rfl) (by kernel_rfl) (by kernel_rfl) (fun _ _ _ h => h) (Or.inl ⟨by rfl, ?_⟩) hHeld ?_
      rotate_left
      · (intro w hSw; (try dsimp only at hSw); go_simp; (try with_reducible rfl))
      (try simp only [Act.put, List.setIfInBounds_toArray, List.set_cons_zero, List.set_cons_succ])
      refine wpAnyH_take (i := 14) (oi := { dst := some 66, op := Op.move (Operand.tmp 8), type := 4, pos := _, after := _, guard := some (13, true) }) (v := undef) rfl (by kernel_rfl) (by kernel_rfl) (by kernel_rfl) (fun _ _ _ h => h) (Or.inr ⟨by rfl, rfl⟩) hHeld ?_
      (try simp only [Act.put, List.setIfInBounds_toArray, List.set_cons_zero, List.set_cons_succ])
      refine wpAnyH_take (i := 15) (oi := { dst := some 67, op := Op.pick (Operand.tmp 65) (Operand.tmp 66) (Operand.const (Value.bool false)), type := 4, pos := _, after := _, guard := some (11, true) }) (v := ?_) rfl (by kernel_rfl) (by kernel_rfl) (by kernel_rfl) (fun _ _ _ h => h) (Or.inl ⟨by rfl, ?_⟩) hHeld ?_
      rotate_left
      · (intro w hSw; (try dsimp only at hSw); go_simp; (try with_reducible rfl))
      (try simp only [Act.put, List.setIfInBounds_toArray, List.set_cons_zero, List.set_cons_succ])
      refine wpAnyH_take (i := 16) (oi := { dst := some 68, op := Op.move (Operand.tmp 0), type := 23, pos := _, after := _, guard := some (11, true) }) (v := ?_) rfl (by kernel_rfl) (by kernel_rfl) (by kernel_rfl) (fun _ _ _ h => h) (Or.inl ⟨by rfl, ?_⟩) hHeld ?_
      rotate_left
      · (intro w hSw; (try dsimp only at hSw); go_simp; (try with_reducible rfl))
      (try simp only [Act.put, List.setIfInBounds_toArray, List.set_cons_zero, List.set_cons_succ])
      refine wpAnyH_take (i := 17) (oi := { dst := some 69, op := Op.indexAddr 26 (Operand.tmp 3) (Operand.const (Value.int IntKind.i64 0)), type := 0, pos := _, after := _, guard := some (11, true) }) (v := ?_) rfl (by kernel_rfl) (by kernel_rfl) (by kernel_rfl) (fun _ _ _ h => h) (Or.inl ⟨by rfl, ?_⟩) hHeld ?_
      rotate_left
      · (intro w hSw; (try dsimp only at hSw); go_simp; (try with_reducible rfl))
      (try simp only [Act.put, List.setIfInBounds_toArray, List.set_cons_zero, List.set_cons_succ])
      refine wpAnyH_take (i := 18) (oi := { dst := some 70, op := Op.load 25 (Operand.tmp 69), type := 25, pos := _, after := _, guard := some (11, true) }) (v := ?_) rfl (by kernel_rfl) (by kernel_rfl) (by kernel_rfl) (fun _ _ _ h => h) (Or.inl ⟨by rfl, ?_⟩) hHeld ?_
      rotate_left
      · (intro w hSw; (try dsimp only at hSw); go_simp; (try with_reducible rfl))
      (try simp only [Act.put, List.setIfInBounds_toArray, List.set_cons_zero, List.set_cons_succ])
      refine wpAnyH_take (i := 19) (oi := { dst := some 71, op := Op.indexAddr 26 (Operand.tmp 3) (Operand.const (Value.int IntKind.i64 1)), type := 0, pos := _, after := _, guard := some (11, true) }) (v := ?_) rfl (by kernel_rfl) (by kernel_rfl) (by kernel_rfl) (fun _ _ _ h => h) (Or.inl ⟨by rfl, ?_⟩) hHeld ?_
      rotate_left
      · (intro w hSw; (try dsimp only at hSw); go_simp; (try with_reducible rfl))
      (try simp only [Act.put, List.setIfInBounds_toArray, List.set_cons_zero, List.set_cons_succ])
      refine wpAnyH_take (i := 20) (oi := { dst := some 72, op := Op.load 25 (Operand.tmp 71), type := 25, pos := _, after := _, guard := some (11, true) }) (v := ?_) rfl (by kernel_rfl) (by kernel_rfl) (by kernel_rfl) (fun _ _ _ h => h) (Or.inl ⟨by rfl, ?_⟩) hHeld ?_
      rotate_left
      · (intro w hSw; (try dsimp only at hSw); go_simp; (try with_reducible rfl))
      (try simp only [Act.put, List.setIfInBounds_toArray, List.set_cons_zero, List.set_cons_succ])
      refine wpAnyH_ready (rs := [21]) (by kernel_rfl) (by simp) ?_
      refine AllReadyH.cons (o := { dst := some 73, op := Op.call { callee := Callee.value (Operand.func 22), args := #[Operand.tmp 68, Operand.tmp 70, Operand.tmp 72], argTypes := #[23, 25, 25] }, type := 4, pos := _, after := _, guard := some (11, true) }) rfl (fun K hK => ?_) AllReadyH.nil
      (try go_simp)
      (refine (HA.out _ (by first | exact hbZ | exact hbZ.drew | exact below_drewN hbZ _)).mono ?_; rintro e wz ⟨rfl, hbZ⟩; have d0 := (hbZ.cell (World.block_lt_of_cell? _ _ c0)).trans c0; have d1 := (hbZ.cell (World.block_lt_of_cell? _ _ c1)).trans c1)
      refine hK.out _ _ ?_ (fun hHeld => ?_)
      · exact ⟨d0, d1⟩
      clear hK K
      (try simp only [Act.put, List.setIfInBounds_toArray, List.set_cons_zero, List.set_cons_succ])
      refine wpAnyH_take (i := 22) (oi := { dst := some 74, op := Op.binOp BinOp.eql 4 (Operand.tmp 67) (Operand.tmp 73) 4, type := 4, pos := _, after := _, guard := some (11, true) }) (v := ?_) rfl (by kernel_rfl) (by kernel_rfl) (by kernel_rfl) (fun _ _ _ h => h) (Or.inl ⟨by rfl, ?_⟩) hHeld ?_
      rotate_left
      · (intro w hSw; (try dsimp only at hSw); go_simp; (try with_reducible rfl))
      (try simp only [Act.put, List.setIfInBounds_toArray, List.set_cons_zero, List.set_cons_succ])
      refine wpAnyH_take (i := 23) (oi := { dst := some 75, op := Op.pick (Operand.tmp 63) (Operand.tmp 74) (Operand.const (Value.bool false)), type := 4, pos := _, after := _, guard := none }) (v := ?_) rfl (by kernel_rfl) (by kernel_rfl) (by kernel_rfl) (fun _ _ _ h => h) (Or.inl ⟨by rfl, ?_⟩) hHeld ?_
      rotate_left
      · (intro w hSw; (try dsimp only at hSw); go_simp; (try with_reducible rfl))
      (try simp only [Act.put, List.setIfInBounds_toArray, List.set_cons_zero, List.set_cons_succ])
      refine wpAnyH_take (i := 24) (oi := { dst := some 76, op := Op.move (Operand.tmp 75), type := 4, pos := _, after := _, guard := none }) (v := ?_) rfl (by kernel_rfl) (by kernel_rfl) (by kernel_rfl) (fun _ _ _ h => h) (Or.inl ⟨by rfl, ?_⟩) hHeld ?_
      rotate_left
      · (intro w hSw; (try dsimp only at hSw); go_simp; (try with_reducible rfl))
      (try simp only [Act.put, List.setIfInBounds_toArray, List.set_cons_zero, List.set_cons_succ])
      refine wpAnyH_ready (rs := [25]) (by kernel_rfl) (by simp) ?_
      refine AllReadyH.cons (o := { dst := some 77, op := Op.call { callee := Callee.value (Operand.func 16), args := #[], argTypes := #[] }, type := 4, pos := _, after := _, guard := some (24, true) }) rfl (fun K hK => ?_) AllReadyH.nil
      (try go_simp)
      (refine (HW.out _ (by first | exact hbZ | exact hbZ.drew | exact below_drewN hbZ _)).mono ?_; rintro e wz ⟨rfl, hbZ⟩; have d0 := (hbZ.cell (World.block_lt_of_cell? _ _ c0)).trans c0; have d1 := (hbZ.cell (World.block_lt_of_cell? _ _ c1)).trans c1)
      refine hK.out _ _ ?_ (fun hHeld => ?_)
      · exact ⟨d0, d1⟩
      clear hK K
      (try simp only [Act.put, List.setIfInBounds_toArray, List.set_cons_zero, List.set_cons_succ])
      refine wpAnyH_take (i := 26) (oi := { dst := some 78, op := Op.pick (Operand.tmp 76) (Operand.tmp 77) (Operand.const (Value.bool false)), type := 4, pos := _, after := _, guard := none }) (v := ?_) rfl (by kernel_rfl) (by kernel_rfl) (by kernel_rfl) (fun _ _ _ h => h) (Or.inl ⟨by rfl, ?_⟩) hHeld ?_
      rotate_left
      · (intro w hSw; (try dsimp only at hSw); go_simp; (try with_reducible rfl))
      (try simp only [Act.put, List.setIfInBounds_toArray, List.set_cons_zero, List.set_cons_succ])
      refine wpAnyH_take (i := 27) (oi := { dst := some 4, op := Op.assign (Operand.tmp 78), type := 4, pos := _, after := _, guard := none }) (v := ?_) rfl (by kernel_rfl) (by kernel_rfl) (by kernel_rfl) (fun _ _ _ h => h) (Or.inl ⟨by rfl, ?_⟩) hHeld ?_
      rotate_left
      · (intro w hSw; (try dsimp only at hSw); go_simp; (try with_reducible rfl))
      (try simp only [Act.put, List.setIfInBounds_toArray, List.set_cons_zero, List.set_cons_succ])
      refine wpAnyH_done (by kernel_rfl) ?_ _
      go_wp2
      go_ret
      exact ⟨rfl, HB.out.trans (hbZ.mono HB.out.size)⟩
    · have hb23 : (b2 = true ∧ b3 = true) ∨ b2 = false := by cases b2 <;> cases b3 <;> simp_all
      clear hno
      rcases hb23 with ⟨rfl, rfl⟩ | rfl <;> cases b4
      all_goals
         go_wp2_with fail
         go_region_held3 (fun w' => w'.cell? ⟨w.heap.size, 0, none⟩ = some (.slice a0 l0.length k0) ∧ w'.cell? ⟨w.heap.size, 1, none⟩ = some (.slice a1 l1.length k1)) (first | exact ⟨by assumption, by assumption⟩ | go_keep)
           (first
             | (go_at_call 17; with_reducible refine (HI0.out _ (by first | exact hbZ | exact hbZ.drew)).mono ?_; rintro e wz ⟨rfl, hbZ⟩; have d0 := (hbZ.cell (World.block_lt_of_cell? _ _ c0)).trans c0; have d1 := (hbZ.cell (World.block_lt_of_cell? _ _ c1)).trans c1)
             | (go_at_call 21; with_reducible refine (HV.out _ (by first | exact hbZ | exact hbZ.drew)).mono ?_; rintro e wz ⟨rfl, hbZ⟩; have d0 := (hbZ.cell (World.block_lt_of_cell? _ _ c0)).trans c0; have d1 := (hbZ.cell (World.block_lt_of_cell? _ _ c1)).trans c1)
             | (go_at_call 22; with_reducible refine (HA.out _ (by first | exact hbZ | exact hbZ.drew)).mono ?_; rintro e wz ⟨rfl, hbZ⟩; have d0 := (hbZ.cell (World.block_lt_of_cell? _ _ c0)).trans c0; have d1 := (hbZ.cell (World.block_lt_of_cell? _ _ c1)).trans c1)
             | (go_at_call 16; with_reducible refine (HW.out _ (by first | exact hbZ | exact hbZ.drew)).mono ?_; rintro e wz ⟨rfl, hbZ⟩; have d0 := (hbZ.cell (World.block_lt_of_cell? _ _ c0)).trans c0; have d1 := (hbZ.cell (World.block_lt_of_cell? _ _ c1)).trans c1))
         go_wp2
         go_ret
         exact ⟨rfl, HB.out.trans (hbZ.mono HB.out.size)⟩
end Go.Proofs.Ytidigpfiagjeiaa
