/-
  WHAT IT HOLDS: contract of ValidBinds of the reference of layer 2. Conditions: the arguments read as data.
-/
import Derived.Test.YtidigpfiagjeiaaZRUnifyUnifies31
import Derived.Test.YtidigpfiagjeiaaZRUnifyUnifies35
namespace Go.Proofs.Ytidigpfiagjeiaa
open Go Go.RowKit Go.Maps
theorem bnds_signF {s : Sg} {l : BL} (h : signB s = false) : bndsB s l = false := by unfold bndsB; rw [h]; rfl
set_option maxHeartbeats 4000000 in
set_option maxRecDepth 100000 in
theorem ref2_ValidBinds (vs v : Value) (s : Sg) (l : BL) (w : World) (hs : SignAt w vs s) (hv : BindsAt w v l) :
    Calls Try.prog 40 #[vs, v] w fun e w' => e = .returned (.bool (bndsB s l)) ∧ Below w.heap.size w w' := by
  obtain ⟨a, cap, rfl, h1, h2, -, HC⟩ := hv.open
  have HC' := hid HC
  have HS := hid hs
  have HVS := hid (ref1_ValidSign vs s w hs)
  clear HC hs hv
  cases hsg : signB s
  · have HF := hid (bnds_signF (l := l) hsg)
    simp only [hsg] at HVS
    clear hsg
    go_enter Try.func40, Try.ntmps40
    go_wp2_with fail
    refine HVS.out.mono ?_
    rintro e w1 ⟨rfl, n1, rfl⟩
    go_wp2
    go_ret
    exact ⟨ret_bool HF.out.symm, below_self_drewN w n1⟩
  have HSG := hid hsg
  simp only [hsg] at HVS
  clear hsg
  go_enter Try.func40, Try.ntmps40
  go_wp2_with fail
  refine HVS.out.mono ?_
  rintro e w1 ⟨rfl, n1, rfl⟩
  have HB1 := hid (below_self_drewN w n1)
  generalize w.drewN n1 = w1 at *
  go_wp2_with fail
  go_loopw [5] (fun kv wr => ∃ k : Nat, k ≤ l.length ∧ kv = .int .i64 k ∧ Below w.heap.size w wr ∧ ∀ j, j < k → bndB s l j = true) (fun kv _ => l.length - (intOf kv).toNat)
  case atStart => exact ⟨0, by omega, rfl, HB1.out, by simp⟩
  case round =>
    obtain ⟨k, hk, rfl, hb, hrel⟩ := hrel
    have HR := hid hrel
    have hsz := hb.size
    clear hrel
    by_cases hlt : k < l.length
    · obtain ⟨cb, co, u, rfl, c10, c20, i0⟩ := HC'.out k hlt
      have c0 := (hb.cell (World.block_lt_of_cell? _ _ c10)).trans c10
      have c1 := (hb.cell (World.block_lt_of_cell? _ _ c20)).trans c20
      have HNO := hid (fun hn => bnds_false hlt (bnd_no (s := s) hlt hn))
      have HYES := hid (bndB_at (s := s) hlt).2
      have hprev : 0 < k → ∃ (j : Nat) (y : Int), k = j + 1 ∧ j < l.length ∧ (∀ h, l[k - 1]'h = (y, (l[k - 1]'h).2)) ∧ wr.cell? ⟨cb, co + j * 2, none⟩ = some (.int .i64 y) := by
        intro h0
        obtain ⟨cb', co', u', he, c3, _⟩ := HC'.out (k - 1) (by omega)
        simp only [Option.some.injEq, Addr.mk.injEq] at he
        obtain ⟨rfl, rfl, _⟩ := he
        exact ⟨k - 1, l[k - 1].1, by omega, by omega, fun _ => rfl, (hb.cell (World.block_lt_of_cell? _ _ c3)).trans c3⟩
      have hie := i0.below hb
      obtain ⟨x, hx⟩ : ∃ x, l[k].1 = x := ⟨_, rfl⟩
      obtain ⟨p, hp⟩ : ∃ p, l[k].2 = p := ⟨_, rfl⟩
      rw [hx] at c0
      rw [hp] at hie
      rw [hx, hp] at HNO HYES
      have HIP := hid hie
      obtain ⟨ua, uc, rfl, -⟩ := hie.open
      have HP := hid hprev
      clear c10 c20 i0 hie hprev hx hp
      have HVA := hid (fun X (hX : Below wr.heap.size wr X) => (ref1_Valid vs (.slice ua p.length uc) s p X ((HS.out.below hb).below hX) (HIP.out.below hX)).mono (R' := fun e w' => e = .returned (.bool (termB s p)) ∧ Below wr.heap.size wr w') (fun e w' ⟨q1, n, q2⟩ => ⟨q1, by rw [q2]; exact below_drewN hX n⟩))
      have HSM := hid (fun X uv (hX : Below wr.heap.size wr X) (hu : Ints X uv [-x - 1]) => (ref1_Same (.slice ua p.length uc) uv p [-x - 1] X (HIP.out.below hX) hu).mono (R' := fun e w' => e = .returned (.bool (decide (p = [-x - 1]))) ∧ Below wr.heap.size wr w') (fun e w' ⟨q1, n, q2⟩ => ⟨q1, by rw [q2]; exact below_drewN hX n⟩))
      have hHIN := fun X => ref2_within x 0 11 X
      have hki0 : (0 : Int) ≤ (k : Int) := by omega
      have hki1 : (k : Int) < (l.length : Int) := by omega
      have HB := hid hb
      clear HIP hb
      go_wp2_with fail
      have d0 := c0
      have d1 := c1
      have hbZ := Below.refl wr.heap.size wr
      cases hin : inB x 0 11
      · have HF := hid (HNO.out (fun hh => by have := inB_true.2 hh.1; rw [hin] at this; cases this))
        simp only [hin] at hHIN
        have HIN := hid hHIN
        clear hHIN hin
        refine wp_region_held_drew (S := fun w' => w'.cell? ⟨cb, co + k * 2, none⟩ = some (.int .i64 x) ∧ w'.cell? ⟨cb, co + k * 2 + 1, none⟩ = some (.slice ua p.length uc)) (by kernel_rfl) ?_ (fun hHeld => ?_)
        · first | exact ⟨d0, d1, d2⟩ | exact ⟨d0, d1⟩
        refine wpAnyH_take (i := 0) (oi := { dst := some 15, op := Op.move (Operand.tmp 1), type := 39, pos := _, after := _, guard := none }) (v := ?_) rfl (by kernel_rfl) (by kernel_rfl) (by kernel_rfl) (fun _ _ _ h => h) (Or.inl ⟨by rfl, ?_⟩) hHeld ?_
        rotate_left
        · (intro w hSw; (try dsimp only at hSw); go_simp; (try with_reducible rfl))
        (try simp only [Act.put, List.setIfInBounds_toArray, List.set_cons_zero, List.set_cons_succ])
        refine wpAnyH_take (i := 1) (oi := { dst := some 16, op := Op.move (Operand.tmp 5), type := 3, pos := _, after := _, guard := none }) (v := ?_) rfl (by kernel_rfl) (by kernel_rfl) (by kernel_rfl) (fun _ _ _ h => h) (Or.inl ⟨by rfl, ?_⟩) hHeld ?_
        rotate_left
        · (intro w hSw; (try dsimp only at hSw); go_simp; (try with_reducible rfl))
        (try simp only [Act.put, List.setIfInBounds_toArray, List.set_cons_zero, List.set_cons_succ])
        refine wpAnyH_take (i := 2) (oi := { dst := some 17, op := Op.indexAddr 39 (Operand.tmp 15) (Operand.tmp 16), type := 0, pos := _, after := _, guard := none }) (v := ?_) rfl (by kernel_rfl) (by kernel_rfl) (by kernel_rfl) (fun _ _ _ h => h) (Or.inl ⟨by rfl, ?_⟩) hHeld ?_
        rotate_left
        · (intro w hSw; (try dsimp only at hSw); go_simp; (try with_reducible rfl))
        (try simp only [Act.put, List.setIfInBounds_toArray, List.set_cons_zero, List.set_cons_succ])
        refine wpAnyH_take (i := 3) (oi := { dst := some 18, op := Op.fieldAddr 61 (Operand.tmp 17) 0, type := 0, pos := _, after := _, guard := none }) (v := ?_) rfl (by kernel_rfl) (by kernel_rfl) (by kernel_rfl) (fun _ _ _ h => h) (Or.inl ⟨by rfl, ?_⟩) hHeld ?_
        rotate_left
        · (intro w hSw; (try dsimp only at hSw); go_simp; (try with_reducible rfl))
        (try simp only [Act.put, List.setIfInBounds_toArray, List.set_cons_zero, List.set_cons_succ])
        refine wpAnyH_take (i := 4) (oi := { dst := some 19, op := Op.load 3 (Operand.tmp 18), type := 3, pos := _, after := _, guard := none }) (v := ?_) rfl (by kernel_rfl) (by kernel_rfl) (by kernel_rfl) (fun _ _ _ h => h) (Or.inl ⟨by rfl, ?_⟩) hHeld ?_
        rotate_left
        · (intro w hSw; (try dsimp only at hSw); go_simp; (try with_reducible rfl))
        (try simp only [Act.put, List.setIfInBounds_toArray, List.set_cons_zero, List.set_cons_succ])
        refine wpAnyH_ready (rs := [5]) (by kernel_rfl) (by simp) ?_
        refine AllReadyH.cons (o := { dst := some 20, op := Op.call { callee := Callee.value (Operand.func 84), args := #[Operand.tmp 19, Operand.const (Value.int IntKind.i64 0), Operand.const (Value.int IntKind.i64 11)], argTypes := #[3, 3, 3] }, type := 4, pos := _, after := _, guard := none }) rfl (fun K hK => ?_) AllReadyH.nil
        (try go_simp)
        (refine (HIN.out _).mono ?_; rintro e wz ⟨rfl, rfl⟩)
        refine hK.out _ _ ?_ (fun hHeld => ?_)
        · first | exact ⟨d0, d1, d2⟩ | exact ⟨d0, d1⟩
        clear hK K
        (try simp only [Act.put, List.setIfInBounds_toArray, List.set_cons_zero, List.set_cons_succ])
        refine wpAnyH_take (i := 6) (oi := { dst := some 21, op := Op.unOp UnOp.not 4 (Operand.tmp 20), type := 4, pos := _, after := _, guard := none }) (v := ?_) rfl (by kernel_rfl) (by kernel_rfl) (by kernel_rfl) (fun _ _ _ h => h) (Or.inl ⟨by rfl, ?_⟩) hHeld ?_
        rotate_left
        · (intro w hSw; (try dsimp only at hSw); go_simp; (try with_reducible rfl))
        (try simp only [Act.put, List.setIfInBounds_toArray, List.set_cons_zero, List.set_cons_succ])
        refine wpAnyH_take (i := 7) (oi := { dst := some 22, op := Op.move (Operand.tmp 21), type := 4, pos := _, after := _, guard := none }) (v := ?_) rfl (by kernel_rfl) (by kernel_rfl) (by kernel_rfl) (fun _ _ _ h => h) (Or.inl ⟨by rfl, ?_⟩) hHeld ?_
        rotate_left
        · (intro w hSw; (try dsimp only at hSw); go_simp; (try with_reducible rfl))
        (try simp only [Act.put, List.setIfInBounds_toArray, List.set_cons_zero, List.set_cons_succ])
        refine wpAnyH_take (i := 8) (oi := { dst := some 23, op := Op.move (Operand.tmp 5), type := 3, pos := _, after := _, guard := some (7, false) }) (v := undef) rfl (by kernel_rfl) (by kernel_rfl) (by kernel_rfl) (fun _ _ _ h => h) (Or.inr ⟨by rfl, rfl⟩) hHeld ?_
        (try simp only [Act.put, List.setIfInBounds_toArray, List.set_cons_zero, List.set_cons_succ])
        refine wpAnyH_take (i := 9) (oi := { dst := some 24, op := Op.binOp BinOp.gtr 3 (Operand.tmp 23) (Operand.const (Value.int IntKind.i64 0)) 3, type := 4, pos := _, after := _, guard := some (7, false) }) (v := undef) rfl (by kernel_rfl) (by kernel_rfl) (by kernel_rfl) (fun _ _ _ h => h) (Or.inr ⟨by rfl, rfl⟩) hHeld ?_
        (try simp only [Act.put, List.setIfInBounds_toArray, List.set_cons_zero, List.set_cons_succ])
        refine wpAnyH_take (i := 10) (oi := { dst := some 25, op := Op.move (Operand.tmp 24), type := 4, pos := _, after := _, guard := some (7, false) }) (v := undef) rfl (by kernel_rfl) (by kernel_rfl) (by kernel_rfl) (fun _ _ _ h => h) (Or.inr ⟨by rfl, rfl⟩) hHeld ?_
        (try simp only [Act.put, List.setIfInBounds_toArray, List.set_cons_zero, List.set_cons_succ])
        refine wpAnyH_take (i := 11) (oi := { dst := some 26, op := Op.move (Operand.tmp 1), type := 39, pos := _, after := _, guard := some (10, true) }) (v := undef) rfl (by kernel_rfl) (by kernel_rfl) (by kernel_rfl) (fun _ _ _ h => h) (Or.inr ⟨by rfl, rfl⟩) hHeld ?_
        (try simp only [Act.put, List.setIfInBounds_toArray, List.set_cons_zero, List.set_cons_succ])
        refine wpAnyH_take (i := 12) (oi := { dst := some 27, op := Op.move (Operand.tmp 5), type := 3, pos := _, after := _, guard := some (10, true) }) (v := undef) rfl (by kernel_rfl) (by kernel_rfl) (by kernel_rfl) (fun _ _ _ h => h) (Or.inr ⟨by rfl, rfl⟩) hHeld ?_
        (try simp only [Act.put, List.setIfInBounds_toArray, List.set_cons_zero, List.set_cons_succ])
        refine wpAnyH_take (i := 13) (oi := { dst := some 28, op := Op.indexAddr 39 (Operand.tmp 26) (Operand.tmp 27), type := 0, pos := _, after := _, guard := some (10, true) }) (v := undef) rfl (by kernel_rfl) (by kernel_rfl) (by kernel_rfl) (fun _ _ _ h => h) (Or.inr ⟨by rfl, rfl⟩) hHeld ?_
        (try simp only [Act.put, List.setIfInBounds_toArray, List.set_cons_zero, List.set_cons_succ])
        refine wpAnyH_take (i := 14) (oi := { dst := some 29, op := Op.fieldAddr 61 (Operand.tmp 28) 0, type := 0, pos := _, after := _, guard := some (10, true) }) (v := undef) rfl (by kernel_rfl) (by kernel_rfl) (by kernel_rfl) (fun _ _ _ h => h) (Or.inr ⟨by rfl, rfl⟩) hHeld ?_
        (try simp only [Act.put, List.setIfInBounds_toArray, List.set_cons_zero, List.set_cons_succ])
        refine wpAnyH_take (i := 15) (oi := { dst := some 30, op := Op.load 3 (Operand.tmp 29), type := 3, pos := _, after := _, guard := some (10, true) }) (v := undef) rfl (by kernel_rfl) (by kernel_rfl) (by kernel_rfl) (fun _ _ _ h => h) (Or.inr ⟨by rfl, rfl⟩) hHeld ?_
        (try simp only [Act.put, List.setIfInBounds_toArray, List.set_cons_zero, List.set_cons_succ])
        refine wpAnyH_take (i := 16) (oi := { dst := some 31, op := Op.move (Operand.tmp 1), type := 39, pos := _, after := _, guard := some (10, true) }) (v := undef) rfl (by kernel_rfl) (by kernel_rfl) (by kernel_rfl) (fun _ _ _ h => h) (Or.inr ⟨by rfl, rfl⟩) hHeld ?_
        (try simp only [Act.put, List.setIfInBounds_toArray, List.set_cons_zero, List.set_cons_succ])
        refine wpAnyH_take (i := 17) (oi := { dst := some 32, op := Op.move (Operand.tmp 5), type := 3, pos := _, after := _, guard := some (10, true) }) (v := undef) rfl (by kernel_rfl) (by kernel_rfl) (by kernel_rfl) (fun _ _ _ h => h) (Or.inr ⟨by rfl, rfl⟩) hHeld ?_
        (try simp only [Act.put, List.setIfInBounds_toArray, List.set_cons_zero, List.set_cons_succ])
        refine wpAnyH_take (i := 18) (oi := { dst := some 33, op := Op.binOp BinOp.sub 3 (Operand.tmp 32) (Operand.const (Value.int IntKind.i64 1)) 3, type := 3, pos := _, after := _, guard := some (10, true) }) (v := undef) rfl (by kernel_rfl) (by kernel_rfl) (by kernel_rfl) (fun _ _ _ h => h) (Or.inr ⟨by rfl, rfl⟩) hHeld ?_
        (try simp only [Act.put, List.setIfInBounds_toArray, List.set_cons_zero, List.set_cons_succ])
        refine wpAnyH_take (i := 19) (oi := { dst := some 34, op := Op.indexAddr 39 (Operand.tmp 31) (Operand.tmp 33), type := 0, pos := _, after := _, guard := some (10, true) }) (v := undef) rfl (by kernel_rfl) (by kernel_rfl) (by kernel_rfl) (fun _ _ _ h => h) (Or.inr ⟨by rfl, rfl⟩) hHeld ?_
        (try simp only [Act.put, List.setIfInBounds_toArray, List.set_cons_zero, List.set_cons_succ])
        refine wpAnyH_take (i := 20) (oi := { dst := some 35, op := Op.fieldAddr 61 (Operand.tmp 34) 0, type := 0, pos := _, after := _, guard := some (10, true) }) (v := undef) rfl (by kernel_rfl) (by kernel_rfl) (by kernel_rfl) (fun _ _ _ h => h) (Or.inr ⟨by rfl, rfl⟩) hHeld ?_
        (try simp only [Act.put, List.setIfInBounds_toArray, List.set_cons_zero, List.set_cons_succ])
        refine wpAnyH_take (i := 21) (oi := { dst := some 36, op := Op.load 3 (Operand.tmp 35), type := 3, pos := _, after := _, guard := some (10, true) }) (v := undef) rfl (by kernel_rfl) (by kernel_rfl) (by kernel_rfl) (fun _ _ _ h => h) (Or.inr ⟨by rfl, rfl⟩) hHeld ?_
        (try simp only [Act.put, List.setIfInBounds_toArray, List.set_cons_zero, List.set_cons_succ])
        refine wpAnyH_take (i := 22) (oi := { dst := some 37, op := Op.binOp BinOp.leq 3 (Operand.tmp 30) (Operand.tmp 36) 3, type := 4, pos := _, after := _, guard := some (10, true) }) (v := undef) rfl (by kernel_rfl) (by kernel_rfl) (by kernel_rfl) (fun _ _ _ h => h) (Or.inr ⟨by rfl, rfl⟩) hHeld ?_
        (try simp only [Act.put, List.setIfInBounds_toArray, List.set_cons_zero, List.set_cons_succ])
        refine wpAnyH_take (i := 23) (oi := { dst := some 38, op := Op.pick (Operand.tmp 25) (Operand.tmp 37) (Operand.const (Value.bool false)), type := 4, pos := _, after := _, guard := some (7, false) }) (v := undef) rfl (by kernel_rfl) (by kernel_rfl) (by kernel_rfl) (fun _ _ _ h => h) (Or.inr ⟨by rfl, rfl⟩) hHeld ?_
        (try simp only [Act.put, List.setIfInBounds_toArray, List.set_cons_zero, List.set_cons_succ])
        refine wpAnyH_take (i := 24) (oi := { dst := some 39, op := Op.pick (Operand.tmp 22) (Operand.const (Value.bool true)) (Operand.tmp 38), type := 4, pos := _, after := _, guard := none }) (v := ?_) rfl (by kernel_rfl) (by kernel_rfl) (by kernel_rfl) (fun _ _ _ h => h) (Or.inl ⟨by rfl, ?_⟩) hHeld ?_
        rotate_left
        · (intro w hSw; (try dsimp only at hSw); go_simp; (try with_reducible rfl))
        (try simp only [Act.put, List.setIfInBounds_toArray, List.set_cons_zero, List.set_cons_succ])
        refine wpAnyH_take (i := 25) (oi := { dst := some 40, op := Op.move (Operand.tmp 39), type := 4, pos := _, after := _, guard := none }) (v := ?_) rfl (by kernel_rfl) (by kernel_rfl) (by kernel_rfl) (fun _ _ _ h => h) (Or.inl ⟨by rfl, ?_⟩) hHeld ?_
        rotate_left
        · (intro w hSw; (try dsimp only at hSw); go_simp; (try with_reducible rfl))
        (try simp only [Act.put, List.setIfInBounds_toArray, List.set_cons_zero, List.set_cons_succ])
        refine wpAnyH_take (i := 26) (oi := { dst := some 41, op := Op.move (Operand.tmp 0), type := 23, pos := _, after := _, guard := some (25, false) }) (v := undef) rfl (by kernel_rfl) (by kernel_rfl) (by kernel_rfl) (fun _ _ _ h => h) (Or.inr ⟨by rfl, rfl⟩) hHeld ?_
        (try simp only [Act.put, List.setIfInBounds_toArray, List.set_cons_zero, List.set_cons_succ])
        refine wpAnyH_take (i := 27) (oi := { dst := some 42, op := Op.move (Operand.tmp 1), type := 39, pos := _, after := _, guard := some (25, false) }) (v := undef) rfl (by kernel_rfl) (by kernel_rfl) (by kernel_rfl) (fun _ _ _ h => h) (Or.inr ⟨by rfl, rfl⟩) hHeld ?_
        (try simp only [Act.put, List.setIfInBounds_toArray, List.set_cons_zero, List.set_cons_succ])
        refine wpAnyH_take (i := 28) (oi := { dst := some 43, op := Op.move (Operand.tmp 5), type := 3, pos := _, after := _, guard := some (25, false) }) (v := undef) rfl (by kernel_rfl) (by kernel_rfl) (by kernel_rfl) (fun _ _ _ h => h) (Or.inr ⟨by rfl, rfl⟩) hHeld ?_
        (try simp only [Act.put, List.setIfInBounds_toArray, List.set_cons_zero, List.set_cons_succ])
        refine wpAnyH_take (i := 29) (oi := { dst := some 44, op := Op.indexAddr 39 (Operand.tmp 42) (Operand.tmp 43), type := 0, pos := _, after := _, guard := some (25, false) }) (v := undef) rfl (by kernel_rfl) (by kernel_rfl) (by kernel_rfl) (fun _ _ _ h => h) (Or.inr ⟨by rfl, rfl⟩) hHeld ?_
        (try simp only [Act.put, List.setIfInBounds_toArray, List.set_cons_zero, List.set_cons_succ])
        refine wpAnyH_take (i := 30) (oi := { dst := some 45, op := Op.fieldAddr 61 (Operand.tmp 44) 1, type := 0, pos := _, after := _, guard := some (25, false) }) (v := undef) rfl (by kernel_rfl) (by kernel_rfl) (by kernel_rfl) (fun _ _ _ h => h) (Or.inr ⟨by rfl, rfl⟩) hHeld ?_
        (try simp only [Act.put, List.setIfInBounds_toArray, List.set_cons_zero, List.set_cons_succ])
        refine wpAnyH_take (i := 31) (oi := { dst := some 46, op := Op.load 25 (Operand.tmp 45), type := 25, pos := _, after := _, guard := some (25, false) }) (v := undef) rfl (by kernel_rfl) (by kernel_rfl) (by kernel_rfl) (fun _ _ _ h => h) (Or.inr ⟨by rfl, rfl⟩) hHeld ?_
        (try simp only [Act.put, List.setIfInBounds_toArray, List.set_cons_zero, List.set_cons_succ])
        refine wpAnyH_take (i := 32) (oi := { dst := some 47, op := Op.call { callee := Callee.value (Operand.func 69), args := #[Operand.tmp 41, Operand.tmp 46], argTypes := #[23, 25] }, type := 4, pos := _, after := _, guard := some (25, false) }) (v := undef) rfl (by kernel_rfl) (by kernel_rfl) (by kernel_rfl) (fun _ _ _ h => h) (Or.inr ⟨by rfl, rfl⟩) hHeld ?_
        (try simp only [Act.put, List.setIfInBounds_toArray, List.set_cons_zero, List.set_cons_succ])
        refine wpAnyH_take (i := 33) (oi := { dst := some 48, op := Op.unOp UnOp.not 4 (Operand.tmp 47), type := 4, pos := _, after := _, guard := some (25, false) }) (v := undef) rfl (by kernel_rfl) (by kernel_rfl) (by kernel_rfl) (fun _ _ _ h => h) (Or.inr ⟨by rfl, rfl⟩) hHeld ?_
        (try simp only [Act.put, List.setIfInBounds_toArray, List.set_cons_zero, List.set_cons_succ])
        refine wpAnyH_take (i := 34) (oi := { dst := some 49, op := Op.pick (Operand.tmp 40) (Operand.const (Value.bool true)) (Operand.tmp 48), type := 4, pos := _, after := _, guard := none }) (v := ?_) rfl (by kernel_rfl) (by kernel_rfl) (by kernel_rfl) (fun _ _ _ h => h) (Or.inl ⟨by rfl, ?_⟩) hHeld ?_
        rotate_left
        · (intro w hSw; (try dsimp only at hSw); go_simp; (try with_reducible rfl))
        (try simp only [Act.put, List.setIfInBounds_toArray, List.set_cons_zero, List.set_cons_succ])
        refine wpAnyH_take (i := 35) (oi := { dst := some 50, op := Op.move (Operand.tmp 49), type := 4, pos := _, after := _, guard := none }) (v := ?_) rfl (by kernel_rfl) (by kernel_rfl) (by kernel_rfl) (fun _ _ _ h => h) (Or.inl ⟨by rfl, ?_⟩) hHeld ?_
        rotate_left
        · (intro w hSw; (try dsimp only at hSw); go_simp; (try with_reducible rfl))
        (try simp only [Act.put, List.setIfInBounds_toArray, List.set_cons_zero, List.set_cons_succ])
        refine wpAnyH_take (i := 36) (oi := { dst := some 51, op := Op.move (Operand.tmp 1), type := 39, pos := _, after := _, guard := some (35, false) }) (v := undef) rfl (by kernel_rfl) (by kernel_rfl) (by kernel_rfl) (fun _ _ _ h => h) (Or.inr ⟨by rfl, rfl⟩) hHeld ?_
        (try simp only [Act.put, List.setIfInBounds_toArray, List.set_cons_zero, List.set_cons_succ])
        refine wpAnyH_take (i := 37) (oi := { dst := some 52, op := Op.move (Operand.tmp 5), type := 3, pos := _, after := _, guard := some (35, false) }) (v := undef) rfl (by kernel_rfl) (by kernel_rfl) (by kernel_rfl) (fun _ _ _ h => h) (Or.inr ⟨by rfl, rfl⟩) hHeld ?_
        (try simp only [Act.put, List.setIfInBounds_toArray, List.set_cons_zero, List.set_cons_succ])
        refine wpAnyH_take (i := 38) (oi := { dst := some 53, op := Op.indexAddr 39 (Operand.tmp 51) (Operand.tmp 52), type := 0, pos := _, after := _, guard := some (35, false) }) (v := undef) rfl (by kernel_rfl) (by kernel_rfl) (by kernel_rfl) (fun _ _ _ h => h) (Or.inr ⟨by rfl, rfl⟩) hHeld ?_
        (try simp only [Act.put, List.setIfInBounds_toArray, List.set_cons_zero, List.set_cons_succ])
        refine wpAnyH_take (i := 39) (oi := { dst := some 54, op := Op.fieldAddr 61 (Operand.tmp 53) 1, type := 0, pos := _, after := _, guard := some (35, false) }) (v := undef) rfl (by kernel_rfl) (by kernel_rfl) (by kernel_rfl) (fun _ _ _ h => h) (Or.inr ⟨by rfl, rfl⟩) hHeld ?_
        (try simp only [Act.put, List.setIfInBounds_toArray, List.set_cons_zero, List.set_cons_succ])
        refine wpAnyH_take (i := 40) (oi := { dst := some 55, op := Op.load 25 (Operand.tmp 54), type := 25, pos := _, after := _, guard := some (35, false) }) (v := undef) rfl (by kernel_rfl) (by kernel_rfl) (by kernel_rfl) (fun _ _ _ h => h) (Or.inr ⟨by rfl, rfl⟩) hHeld ?_
        (try simp only [Act.put, List.setIfInBounds_toArray, List.set_cons_zero, List.set_cons_succ])
        refine wpAnyH_take (i := 41) (oi := { dst := some 56, op := Op.move (Operand.tmp 1), type := 39, pos := _, after := _, guard := some (35, false) }) (v := undef) rfl (by kernel_rfl) (by kernel_rfl) (by kernel_rfl) (fun _ _ _ h => h) (Or.inr ⟨by rfl, rfl⟩) hHeld ?_
        (try simp only [Act.put, List.setIfInBounds_toArray, List.set_cons_zero, List.set_cons_succ])
        refine wpAnyH_take (i := 42) (oi := { dst := some 57, op := Op.move (Operand.tmp 5), type := 3, pos := _, after := _, guard := some (35, false) }) (v := undef) rfl (by kernel_rfl) (by kernel_rfl) (by kernel_rfl) (fun _ _ _ h => h) (Or.inr ⟨by rfl, rfl⟩) hHeld ?_
        (try simp only [Act.put, List.setIfInBounds_toArray, List.set_cons_zero, List.set_cons_succ])
        refine wpAnyH_take (i := 43) (oi := { dst := some 58, op := Op.indexAddr 39 (Operand.tmp 56) (Operand.tmp 57), type := 0, pos := _, after := _, guard := some (35, false) }) (v := undef) rfl (by kernel_rfl) (by kernel_rfl) (by kernel_rfl) (fun _ _ _ h => h) (Or.inr ⟨by rfl, rfl⟩) hHeld ?_
        (try simp only [Act.put, List.setIfInBounds_toArray, List.set_cons_zero, List.set_cons_succ])
        refine wpAnyH_take (i := 44) (oi := { dst := some 59, op := Op.fieldAddr 61 (Operand.tmp 58) 0, type := 0, pos := _, after := _, guard := some (35, false) }) (v := undef) rfl (by kernel_rfl) (by kernel_rfl) (by kernel_rfl) (fun _ _ _ h => h) (Or.inr ⟨by rfl, rfl⟩) hHeld ?_
        (try simp only [Act.put, List.setIfInBounds_toArray, List.set_cons_zero, List.set_cons_succ])
        refine wpAnyH_take (i := 45) (oi := { dst := some 60, op := Op.load 3 (Operand.tmp 59), type := 3, pos := _, after := _, guard := some (35, false) }) (v := undef) rfl (by kernel_rfl) (by kernel_rfl) (by kernel_rfl) (fun _ _ _ h => h) (Or.inr ⟨by rfl, rfl⟩) hHeld ?_
        (try simp only [Act.put, List.setIfInBounds_toArray, List.set_cons_zero, List.set_cons_succ])
        refine wpAnyH_take (i := 46) (oi := { dst := some 61, op := Op.call { callee := Callee.value (Operand.func 87), args := #[Operand.tmp 60], argTypes := #[3] }, type := 25, pos := _, after := _, guard := some (35, false) }) (v := undef) rfl (by kernel_rfl) (by kernel_rfl) (by kernel_rfl) (fun _ _ _ h => h) (Or.inr ⟨by rfl, rfl⟩) hHeld ?_
        (try simp only [Act.put, List.setIfInBounds_toArray, List.set_cons_zero, List.set_cons_succ])
        refine wpAnyH_take (i := 47) (oi := { dst := some 62, op := Op.call { callee := Callee.value (Operand.func 24), args := #[Operand.tmp 55, Operand.tmp 61], argTypes := #[25, 25] }, type := 4, pos := _, after := _, guard := some (35, false) }) (v := undef) rfl (by kernel_rfl) (by kernel_rfl) (by kernel_rfl) (fun _ _ _ h => h) (Or.inr ⟨by rfl, rfl⟩) hHeld ?_
        (try simp only [Act.put, List.setIfInBounds_toArray, List.set_cons_zero, List.set_cons_succ])
        refine wpAnyH_take (i := 48) (oi := { dst := some 63, op := Op.pick (Operand.tmp 50) (Operand.const (Value.bool true)) (Operand.tmp 62), type := 4, pos := _, after := _, guard := none }) (v := ?_) rfl (by kernel_rfl) (by kernel_rfl) (by kernel_rfl) (fun _ _ _ h => h) (Or.inl ⟨by rfl, ?_⟩) hHeld ?_
        rotate_left
        · (intro w hSw; (try dsimp only at hSw); go_simp; (try with_reducible rfl))
        (try simp only [Act.put, List.setIfInBounds_toArray, List.set_cons_zero, List.set_cons_succ])
        refine wpAnyH_done (by kernel_rfl) ?_ _
        go_wp2
        go_ret
        exact ⟨ret_bool HF.out.symm, HB.out.trans ((by first | exact hbZ | exact below_drewN hbZ 1 : Below wr.heap.size wr _).mono HB.out.size)⟩
      · simp only [hin] at hHIN
        have hxr := inB_true.1 hin
        have hx0 : -1000 ≤ x := by omega
        have hx1 : x ≤ 1000 := by omega
        have HVR := hid (fun X (hX : Below wr.heap.size wr X) => (ref2_Variable x X (by omega) (by omega)).mono (R' := fun e w' => ∃ u, e = .returned u ∧ Ints w' u [-x - 1] ∧ Below wr.heap.size wr w') (fun e w' ⟨u, q1, q2, q3⟩ => ⟨u, q1, Ints.of_owns q2 (by simp), hX.trans (q3.mono hX.size)⟩))
        have hxx := hid hxr
        have HIN := hid hHIN
        clear hHIN hin hxr
        by_cases hk0 : 0 < k
        · obtain ⟨j, y, hj, hjl, hy, c2⟩ := HP.out hk0
          have HY := hid hy
          have HJ := hid hj
          have d2 := c2
          have hji0 : (0 : Int) ≤ (j : Int) := by omega
          have hji1 : (j : Int) < (l.length : Int) := by omega
          have hkd : decide ((0 : Int) < (k : Int)) = true := by simpa using hk0
          have hkw : IntKind.i64.wrap ((k : Int) - 1) = (j : Int) := by rw [hj]; have := IntWalk.i64_in (((j + 1 : Nat) : Int) - 1) ⟨by omega, by omega⟩; omega
          have HK0 := hid hk0
          clear hj hy HP
          have hkn : decide (0 < k) = true := by simpa using hk0
          by_cases hle : x ≤ y
          · have hled : decide (x ≤ y) = true := by simpa using hle
            have HF := hid (HNO.out (fun hh => by have h9 := hh.2.1 HK0.out; rw [HY.out] at h9; simp only at h9; omega))
            clear hle
            refine wp_region_held_drew (S := fun w' => w'.cell? ⟨cb, co + k * 2, none⟩ = some (.int .i64 x) ∧ w'.cell? ⟨cb, co + k * 2 + 1, none⟩ = some (.slice ua p.length uc) ∧ w'.cell? ⟨cb, co + j * 2, none⟩ = some (.int .i64 y)) (by kernel_rfl) ?_ (fun hHeld => ?_)
            · first | exact ⟨d0, d1, d2⟩ | exact ⟨d0, d1⟩
            refine wpAnyH_take (i := 0) (oi := { dst := some 15, op := Op.move (Operand.tmp 1), type := 39, pos := _, after := _, guard := none }) (v := ?_) rfl (by kernel_rfl) (by kernel_rfl) (by kernel_rfl) (fun _ _ _ h => h) (Or.inl ⟨by rfl, ?_⟩) hHeld ?_
            rotate_left
            · (intro w hSw; (try dsimp only at hSw); go_simp; (try with_reducible rfl))
            (try simp only [Act.put, List.setIfInBounds_toArray, List.set_cons_zero, List.set_cons_succ])
            refine wpAnyH_take (i := 1) (oi := { dst := some 16, op := Op.move (Operand.tmp 5), type := 3, pos := _, after := _, guard := none }) (v := ?_) rfl (by kernel_rfl) (by kernel_rfl) (by kernel_rfl) (fun _ _ _ h => h) (Or.inl ⟨by rfl, ?_⟩) hHeld ?_
            rotate_left
            · (intro w hSw; (try dsimp only at hSw); go_simp; (try with_reducible rfl))
            (try simp only [Act.put, List.setIfInBounds_toArray, List.set_cons_zero, List.set_cons_succ])
            refine wpAnyH_take (i := 2) (oi := { dst := some 17, op := Op.indexAddr 39 (Operand.tmp 15) (Operand.tmp 16), type := 0, pos := _, after := _, guard := none }) (v := ?_) rfl (by kernel_rfl) (by kernel_rfl) (by kernel_rfl) (fun _ _ _ h => h) (Or.inl ⟨by rfl, ?_⟩) hHeld ?_
            rotate_left
            · (intro w hSw; (try dsimp only at hSw); go_simp; (try with_reducible rfl))
            (try simp only [Act.put, List.setIfInBounds_toArray, List.set_cons_zero, List.set_cons_succ])
            refine wpAnyH_take (i := 3) (oi := { dst := some 18, op := Op.fieldAddr 61 (Operand.tmp 17) 0, type := 0, pos := _, after := _, guard := none }) (v := ?_) rfl (by kernel_rfl) (by kernel_rfl) (by kernel_rfl) (fun _ _ _ h => h) (Or.inl ⟨by rfl, ?_⟩) hHeld ?_
            rotate_left
            · (intro w hSw; (try dsimp only at hSw); go_simp; (try with_reducible rfl))
            (try simp only [Act.put, List.setIfInBounds_toArray, List.set_cons_zero, List.set_cons_succ])
            refine wpAnyH_take (i := 4) (oi := { dst := some 19, op := Op.load 3 (Operand.tmp 18), type := 3, pos := _, after := _, guard := none }) (v := ?_) rfl (by kernel_rfl) (by kernel_rfl) (by kernel_rfl) (fun _ _ _ h => h) (Or.inl ⟨by rfl, ?_⟩) hHeld ?_
            rotate_left
            · (intro w hSw; (try dsimp only at hSw); go_simp; (try with_reducible rfl))
            (try simp only [Act.put, List.setIfInBounds_toArray, List.set_cons_zero, List.set_cons_succ])
            refine wpAnyH_ready (rs := [5]) (by kernel_rfl) (by simp) ?_
            refine AllReadyH.cons (o := { dst := some 20, op := Op.call { callee := Callee.value (Operand.func 84), args := #[Operand.tmp 19, Operand.const (Value.int IntKind.i64 0), Operand.const (Value.int IntKind.i64 11)], argTypes := #[3, 3, 3] }, type := 4, pos := _, after := _, guard := none }) rfl (fun K hK => ?_) AllReadyH.nil
            (try go_simp)
            (refine (HIN.out _).mono ?_; rintro e wz ⟨rfl, rfl⟩)
            refine hK.out _ _ ?_ (fun hHeld => ?_)
            · first | exact ⟨d0, d1, d2⟩ | exact ⟨d0, d1⟩
            clear hK K
            (try simp only [Act.put, List.setIfInBounds_toArray, List.set_cons_zero, List.set_cons_succ])
            refine wpAnyH_take (i := 6) (oi := { dst := some 21, op := Op.unOp UnOp.not 4 (Operand.tmp 20), type := 4, pos := _, after := _, guard := none }) (v := ?_) rfl (by kernel_rfl) (by kernel_rfl) (by kernel_rfl) (fun _ _ _ h => h) (Or.inl ⟨by rfl, ?_⟩) hHeld ?_
            rotate_left
            · (intro w hSw; (try dsimp only at hSw); go_simp; (try with_reducible rfl))
            (try simp only [Act.put, List.setIfInBounds_toArray, List.set_cons_zero, List.set_cons_succ])
            refine wpAnyH_take (i := 7) (oi := { dst := some 22, op := Op.move (Operand.tmp 21), type := 4, pos := _, after := _, guard := none }) (v := ?_) rfl (by kernel_rfl) (by kernel_rfl) (by kernel_rfl) (fun _ _ _ h => h) (Or.inl ⟨by rfl, ?_⟩) hHeld ?_
            rotate_left
            · (intro w hSw; (try dsimp only at hSw); go_simp; (try with_reducible rfl))
            (try simp only [Act.put, List.setIfInBounds_toArray, List.set_cons_zero, List.set_cons_succ])
            refine wpAnyH_take (i := 8) (oi := { dst := some 23, op := Op.move (Operand.tmp 5), type := 3, pos := _, after := _, guard := some (7, false) }) (v := ?_) rfl (by kernel_rfl) (by kernel_rfl) (by kernel_rfl) (fun _ _ _ h => h) (Or.inl ⟨by rfl, ?_⟩) hHeld ?_
            rotate_left
            · (intro w hSw; (try dsimp only at hSw); go_simp; (try with_reducible rfl))
            (try simp only [Act.put, List.setIfInBounds_toArray, List.set_cons_zero, List.set_cons_succ])
            refine wpAnyH_take (i := 9) (oi := { dst := some 24, op := Op.binOp BinOp.gtr 3 (Operand.tmp 23) (Operand.const (Value.int IntKind.i64 0)) 3, type := 4, pos := _, after := _, guard := some (7, false) }) (v := ?_) rfl (by kernel_rfl) (by kernel_rfl) (by kernel_rfl) (fun _ _ _ h => h) (Or.inl ⟨by rfl, ?_⟩) hHeld ?_
            rotate_left
            · (intro w hSw; (try dsimp only at hSw); go_simp; (try with_reducible rfl))
            (try simp only [Act.put, List.setIfInBounds_toArray, List.set_cons_zero, List.set_cons_succ])
            refine wpAnyH_take (i := 10) (oi := { dst := some 25, op := Op.move (Operand.tmp 24), type := 4, pos := _, after := _, guard := some (7, false) }) (v := ?_) rfl (by kernel_rfl) (by kernel_rfl) (by kernel_rfl) (fun _ _ _ h => h) (Or.inl ⟨by rfl, ?_⟩) hHeld ?_
            rotate_left
            · (intro w hSw; (try dsimp only at hSw); go_simp; (try with_reducible rfl))
            (try simp only [Act.put, List.setIfInBounds_toArray, List.set_cons_zero, List.set_cons_succ])
            refine wpAnyH_take (i := 11) (oi := { dst := some 26, op := Op.move (Operand.tmp 1), type := 39, pos := _, after := _, guard := some (10, true) }) (v := ?_) rfl (by kernel_rfl) (by kernel_rfl) (by kernel_rfl) (fun _ _ _ h => h) (Or.inl ⟨by rfl, ?_⟩) hHeld ?_
            rotate_left
            · (intro w hSw; (try dsimp only at hSw); go_simp; (try with_reducible rfl))
            (try simp only [Act.put, List.setIfInBounds_toArray, List.set_cons_zero, List.set_cons_succ])
            refine wpAnyH_take (i := 12) (oi := { dst := some 27, op := Op.move (Operand.tmp 5), type := 3, pos := _, after := _, guard := some (10, true) }) (v := ?_) rfl (by kernel_rfl) (by kernel_rfl) (by kernel_rfl) (fun _ _ _ h => h) (Or.inl ⟨by rfl, ?_⟩) hHeld ?_
            rotate_left
            · (intro w hSw; (try dsimp only at hSw); go_simp; (try with_reducible rfl))
            (try simp only [Act.put, List.setIfInBounds_toArray, List.set_cons_zero, List.set_cons_succ])
            refine wpAnyH_take (i := 13) (oi := { dst := some 28, op := Op.indexAddr 39 (Operand.tmp 26) (Operand.tmp 27), type := 0, pos := _, after := _, guard := some (10, true) }) (v := ?_) rfl (by kernel_rfl) (by kernel_rfl) (by kernel_rfl) (fun _ _ _ h => h) (Or.inl ⟨by rfl, ?_⟩) hHeld ?_
            rotate_left
            · (intro w hSw; (try dsimp only at hSw); go_simp; (try with_reducible rfl))
            (try simp only [Act.put, List.setIfInBounds_toArray, List.set_cons_zero, List.set_cons_succ])
            refine wpAnyH_take (i := 14) (oi := { dst := some 29, op := Op.fieldAddr 61 (Operand.tmp 28) 0, type := 0, pos := _, after := _, guard := some (10, true) }) (v := ?_) rfl (by kernel_rfl) (by kernel_rfl) (by kernel_rfl) (fun _ _ _ h => h) (Or.inl ⟨by rfl, ?_⟩) hHeld ?_
            rotate_left
            · (intro w hSw; (try dsimp only at hSw); go_simp; (try with_reducible rfl))
            (try simp only [Act.put, List.setIfInBounds_toArray, List.set_cons_zero, List.set_cons_succ])
            refine wpAnyH_take (i := 15) (oi := { dst := some 30, op := Op.load 3 (Operand.tmp 29), type := 3, pos := _, after := _, guard := some (10, true) }) (v := ?_) rfl (by kernel_rfl) (by kernel_rfl) (by kernel_rfl) (fun _ _ _ h => h) (Or.inl ⟨by rfl, ?_⟩) hHeld ?_
            rotate_left
            · (intro w hSw; (try dsimp only at hSw); go_simp; (try with_reducible rfl))
            (try simp only [Act.put, List.setIfInBounds_toArray, List.set_cons_zero, List.set_cons_succ])
            refine wpAnyH_take (i := 16) (oi := { dst := some 31, op := Op.move (Operand.tmp 1), type := 39, pos := _, after := _, guard := some (10, true) }) (v := ?_) rfl (by kernel_rfl) (by kernel_rfl) (by kernel_rfl) (fun _ _ _ h => h) (Or.inl ⟨by rfl, ?_⟩) hHeld ?_
            rotate_left
            · (intro w hSw; (try dsimp only at hSw); go_simp; (try with_reducible rfl))
            (try simp only [Act.put, List.setIfInBounds_toArray, List.set_cons_zero, List.set_cons_succ])
            refine wpAnyH_take (i := 17) (oi := { dst := some 32, op := Op.move (Operand.tmp 5), type := 3, pos := _, after := _, guard := some (10, true) }) (v := ?_) rfl (by kernel_rfl) (by kernel_rfl) (by kernel_rfl) (fun _ _ _ h => h) (Or.inl ⟨by rfl, ?_⟩) hHeld ?_
            rotate_left
            · (intro w hSw; (try dsimp only at hSw); go_simp; (try with_reducible rfl))
            (try simp only [Act.put, List.setIfInBounds_toArray, List.set_cons_zero, List.set_cons_succ])
            refine wpAnyH_take (i := 18) (oi := { dst := some 33, op := Op.binOp BinOp.sub 3 (Operand.tmp 32) (Operand.const (Value.int IntKind.i64 1)) 3, type := 3, pos := _, after := _, guard := some (10, true) }) (v := ?_) rfl (by kernel_rfl) (by kernel_rfl) (by kernel_rfl) (fun _ _ _ h => h) (Or.inl ⟨by rfl, ?_⟩) hHeld ?_
            rotate_left
            · (intro w hSw; (try dsimp only at hSw); go_simp; (try with_reducible rfl))
            (try simp only [Act.put, List.setIfInBounds_toArray, List.set_cons_zero, List.set_cons_succ])
            refine wpAnyH_take (i := 19) (oi := { dst := some 34, op := Op.indexAddr 39 (Operand.tmp 31) (Operand.tmp 33), type := 0, pos := _, after := _, guard := some (10, true) }) (v := ?_) rfl (by kernel_rfl) (by kernel_rfl) (by kernel_rfl) (fun _ _ _ h => h) (Or.inl ⟨by rfl, ?_⟩) hHeld ?_
            rotate_left
            · (intro w hSw; (try dsimp only at hSw); go_simp; (try with_reducible rfl))
            (try simp only [Act.put, List.setIfInBounds_toArray, List.set_cons_zero, List.set_cons_succ])
            refine wpAnyH_take (i := 20) (oi := { dst := some 35, op := Op.fieldAddr 61 (Operand.tmp 34) 0, type := 0, pos := _, after := _, guard := some (10, true) }) (v := ?_) rfl (by kernel_rfl) (by kernel_rfl) (by kernel_rfl) (fun _ _ _ h => h) (Or.inl ⟨by rfl, ?_⟩) hHeld ?_
            rotate_left
            · (intro w hSw; (try dsimp only at hSw); go_simp; (try with_reducible rfl))
            (try simp only [Act.put, List.setIfInBounds_toArray, List.set_cons_zero, List.set_cons_succ])
            refine wpAnyH_take (i := 21) (oi := { dst := some 36, op := Op.load 3 (Operand.tmp 35), type := 3, pos := _, after := _, guard := some (10, true) }) (v := ?_) rfl (by kernel_rfl) (by kernel_rfl) (by kernel_rfl) (fun _ _ _ h => h) (Or.inl ⟨by rfl, ?_⟩) hHeld ?_
            rotate_left
            · (intro w hSw; (try dsimp only at hSw); go_simp; (try with_reducible rfl))
            (try simp only [Act.put, List.setIfInBounds_toArray, List.set_cons_zero, List.set_cons_succ])
            refine wpAnyH_take (i := 22) (oi := { dst := some 37, op := Op.binOp BinOp.leq 3 (Operand.tmp 30) (Operand.tmp 36) 3, type := 4, pos := _, after := _, guard := some (10, true) }) (v := ?_) rfl (by kernel_rfl) (by kernel_rfl) (by kernel_rfl) (fun _ _ _ h => h) (Or.inl ⟨by rfl, ?_⟩) hHeld ?_
            rotate_left
            · (intro w hSw; (try dsimp only at hSw); go_simp; (try with_reducible rfl))
            (try simp only [Act.put, List.setIfInBounds_toArray, List.set_cons_zero, List.set_cons_succ])
            refine wpAnyH_take (i := 23) (oi := { dst := some 38, op := Op.pick (Operand.tmp 25) (Operand.tmp 37) (Operand.const (Value.bool false)), type := 4, pos := _, after := _, guard := some (7, false) }) (v := ?_) rfl (by kernel_rfl) (by kernel_rfl) (by kernel_rfl) (fun _ _ _ h => h) (Or.inl ⟨by rfl, ?_⟩) hHeld ?_
            rotate_left
            · (intro w hSw; (try dsimp only at hSw); go_simp; (try with_reducible rfl))
            (try simp only [Act.put, List.setIfInBounds_toArray, List.set_cons_zero, List.set_cons_succ])
            refine wpAnyH_take (i := 24) (oi := { dst := some 39, op := Op.pick (Operand.tmp 22) (Operand.const (Value.bool true)) (Operand.tmp 38), type := 4, pos := _, after := _, guard := none }) (v := ?_) rfl (by kernel_rfl) (by kernel_rfl) (by kernel_rfl) (fun _ _ _ h => h) (Or.inl ⟨by rfl, ?_⟩) hHeld ?_
            rotate_left
            · (intro w hSw; (try dsimp only at hSw); go_simp; (try with_reducible rfl))
            (try simp only [Act.put, List.setIfInBounds_toArray, List.set_cons_zero, List.set_cons_succ])
            refine wpAnyH_take (i := 25) (oi := { dst := some 40, op := Op.move (Operand.tmp 39), type := 4, pos := _, after := _, guard := none }) (v := ?_) rfl (by kernel_rfl) (by kernel_rfl) (by kernel_rfl) (fun _ _ _ h => h) (Or.inl ⟨by rfl, ?_⟩) hHeld ?_
            rotate_left
            · (intro w hSw; (try dsimp only at hSw); go_simp; (try with_reducible rfl))
            (try simp only [Act.put, List.setIfInBounds_toArray, List.set_cons_zero, List.set_cons_succ])
            refine wpAnyH_take (i := 26) (oi := { dst := some 41, op := Op.move (Operand.tmp 0), type := 23, pos := _, after := _, guard := some (25, false) }) (v := undef) rfl (by kernel_rfl) (by kernel_rfl) (by kernel_rfl) (fun _ _ _ h => h) (Or.inr ⟨by rfl, rfl⟩) hHeld ?_
            (try simp only [Act.put, List.setIfInBounds_toArray, List.set_cons_zero, List.set_cons_succ])
            refine wpAnyH_take (i := 27) (oi := { dst := some 42, op := Op.move (Operand.tmp 1), type := 39, pos := _, after := _, guard := some (25, false) }) (v := undef) rfl (by kernel_rfl) (by kernel_rfl) (by kernel_rfl) (fun _ _ _ h => h) (Or.inr ⟨by rfl, rfl⟩) hHeld ?_
            (try simp only [Act.put, List.setIfInBounds_toArray, List.set_cons_zero, List.set_cons_succ])
            refine wpAnyH_take (i := 28) (oi := { dst := some 43, op := Op.move (Operand.tmp 5), type := 3, pos := _, after := _, guard := some (25, false) }) (v := undef) rfl (by kernel_rfl) (by kernel_rfl) (by kernel_rfl) (fun _ _ _ h => h) (Or.inr ⟨by rfl, rfl⟩) hHeld ?_
            (try simp only [Act.put, List.setIfInBounds_toArray, List.set_cons_zero, List.set_cons_succ])
            refine wpAnyH_take (i := 29) (oi := { dst := some 44, op := Op.indexAddr 39 (Operand.tmp 42) (Operand.tmp 43), type := 0, pos := _, after := _, guard := some (25, false) }) (v := undef) rfl (by kernel_rfl) (by kernel_rfl) (by kernel_rfl) (fun _ _ _ h => h) (Or.inr ⟨by rfl, rfl⟩) hHeld ?_
            (try simp only [Act.put, List.setIfInBounds_toArray, List.set_cons_zero, List.set_cons_succ])
            refine wpAnyH_take (i := 30) (oi := { dst := some 45, op := Op.fieldAddr 61 (Operand.tmp 44) 1, type := 0, pos := _, after := _, guard := some (25, false) }) (v := undef) rfl (by kernel_rfl) (by kernel_rfl) (by kernel_rfl) (fun _ _ _ h => h) (Or.inr ⟨by rfl, rfl⟩) hHeld ?_
            (try simp only [Act.put, List.setIfInBounds_toArray, List.set_cons_zero, List.set_cons_succ])
            refine wpAnyH_take (i := 31) (oi := { dst := some 46, op := Op.load 25 (Operand.tmp 45), type := 25, pos := _, after := _, guard := some (25, false) }) (v := undef) rfl (by kernel_rfl) (by kernel_rfl) (by kernel_rfl) (fun _ _ _ h => h) (Or.inr ⟨by rfl, rfl⟩) hHeld ?_
            (try simp only [Act.put, List.setIfInBounds_toArray, List.set_cons_zero, List.set_cons_succ])
            refine wpAnyH_take (i := 32) (oi := { dst := some 47, op := Op.call { callee := Callee.value (Operand.func 69), args := #[Operand.tmp 41, Operand.tmp 46], argTypes := #[23, 25] }, type := 4, pos := _, after := _, guard := some (25, false) }) (v := undef) rfl (by kernel_rfl) (by kernel_rfl) (by kernel_rfl) (fun _ _ _ h => h) (Or.inr ⟨by rfl, rfl⟩) hHeld ?_
            (try simp only [Act.put, List.setIfInBounds_toArray, List.set_cons_zero, List.set_cons_succ])
            refine wpAnyH_take (i := 33) (oi := { dst := some 48, op := Op.unOp UnOp.not 4 (Operand.tmp 47), type := 4, pos := _, after := _, guard := some (25, false) }) (v := undef) rfl (by kernel_rfl) (by kernel_rfl) (by kernel_rfl) (fun _ _ _ h => h) (Or.inr ⟨by rfl, rfl⟩) hHeld ?_
            (try simp only [Act.put, List.setIfInBounds_toArray, List.set_cons_zero, List.set_cons_succ])
            refine wpAnyH_take (i := 34) (oi := { dst := some 49, op := Op.pick (Operand.tmp 40) (Operand.const (Value.bool true)) (Operand.tmp 48), type := 4, pos := _, after := _, guard := none }) (v := ?_) rfl (by kernel_rfl) (by kernel_rfl) (by kernel_rfl) (fun _ _ _ h => h) (Or.inl ⟨by rfl, ?_⟩) hHeld ?_
            rotate_left
            · (intro w hSw; (try dsimp only at hSw); go_simp; (try with_reducible rfl))
            (try simp only [Act.put, List.setIfInBounds_toArray, List.set_cons_zero, List.set_cons_succ])
            refine wpAnyH_take (i := 35) (oi := { dst := some 50, op := Op.move (Operand.tmp 49), type := 4, pos := _, after := _, guard := none }) (v := ?_) rfl (by kernel_rfl) (by kernel_rfl) (by kernel_rfl) (fun _ _ _ h => h) (Or.inl ⟨by rfl, ?_⟩) hHeld ?_
            rotate_left
            · (intro w hSw; (try dsimp only at hSw); go_simp; (try with_reducible rfl))
            (try simp only [Act.put, List.setIfInBounds_toArray, List.set_cons_zero, List.set_cons_succ])
            refine wpAnyH_take (i := 36) (oi := { dst := some 51, op := Op.move (Operand.tmp 1), type := 39, pos := _, after := _, guard := some (35, false) }) (v := undef) rfl (by kernel_rfl) (by kernel_rfl) (by kernel_rfl) (fun _ _ _ h => h) (Or.inr ⟨by rfl, rfl⟩) hHeld ?_
            (try simp only [Act.put, List.setIfInBounds_toArray, List.set_cons_zero, List.set_cons_succ])
            refine wpAnyH_take (i := 37) (oi := { dst := some 52, op := Op.move (Operand.tmp 5), type := 3, pos := _, after := _, guard := some (35, false) }) (v := undef) rfl (by kernel_rfl) (by kernel_rfl) (by kernel_rfl) (fun _ _ _ h => h) (Or.inr ⟨by rfl, rfl⟩) hHeld ?_
            (try simp only [Act.put, List.setIfInBounds_toArray, List.set_cons_zero, List.set_cons_succ])
            refine wpAnyH_take (i := 38) (oi := { dst := some 53, op := Op.indexAddr 39 (Operand.tmp 51) (Operand.tmp 52), type := 0, pos := _, after := _, guard := some (35, false) }) (v := undef) rfl (by kernel_rfl) (by kernel_rfl) (by kernel_rfl) (fun _ _ _ h => h) (Or.inr ⟨by rfl, rfl⟩) hHeld ?_
            (try simp only [Act.put, List.setIfInBounds_toArray, List.set_cons_zero, List.set_cons_succ])
            refine wpAnyH_take (i := 39) (oi := { dst := some 54, op := Op.fieldAddr 61 (Operand.tmp 53) 1, type := 0, pos := _, after := _, guard := some (35, false) }) (v := undef) rfl (by kernel_rfl) (by kernel_rfl) (by kernel_rfl) (fun _ _ _ h => h) (Or.inr ⟨by rfl, rfl⟩) hHeld ?_
            (try simp only [Act.put, List.setIfInBounds_toArray, List.set_cons_zero, List.set_cons_succ])
            refine wpAnyH_take (i := 40) (oi := { dst := some 55, op := Op.load 25 (Operand.tmp 54), type := 25, pos := _, after := _, guard := some (35, false) }) (v := undef) rfl (by kernel_rfl) (by kernel_rfl) (by kernel_rfl) (fun _ _ _ h => h) (Or.inr ⟨by rfl, rfl⟩) hHeld ?_
            (try simp only [Act.put, List.setIfInBounds_toArray, List.set_cons_zero, List.set_cons_succ])
            refine wpAnyH_take (i := 41) (oi := { dst := some 56, op := Op.move (Operand.tmp 1), type := 39, pos := _, after := _, guard := some (35, false) }) (v := undef) rfl (by kernel_rfl) (by kernel_rfl) (by kernel_rfl) (fun _ _ _ h => h) (Or.inr ⟨by rfl, rfl⟩) hHeld ?_
            (try simp only [Act.put, List.setIfInBounds_toArray, List.set_cons_zero, List.set_cons_succ])
            refine wpAnyH_take (i := 42) (oi := { dst := some 57, op := Op.move (Operand.tmp 5), type := 3, pos := _, after := _, guard := some (35, false) }) (v := undef) rfl (by kernel_rfl) (by kernel_rfl) (by kernel_rfl) (fun _ _ _ h => h) (Or.inr ⟨by rfl, rfl⟩) hHeld ?_
            (try simp only [Act.put, List.setIfInBounds_toArray, List.set_cons_zero, List.set_cons_succ])
            refine wpAnyH_take (i := 43) (oi := { dst := some 58, op := Op.indexAddr 39 (Operand.tmp 56) (Operand.tmp 57), type := 0, pos := _, after := _, guard := some (35, false) }) (v := undef) rfl (by kernel_rfl) (by kernel_rfl) (by kernel_rfl) (fun _ _ _ h => h) (Or.inr ⟨by rfl, rfl⟩) hHeld ?_
            (try simp only [Act.put, List.setIfInBounds_toArray, List.set_cons_zero, List.set_cons_succ])
            refine wpAnyH_take (i := 44) (oi := { dst := some 59, op := Op.fieldAddr 61 (Operand.tmp 58) 0, type := 0, pos := _, after := _, guard := some (35, false) }) (v := undef) rfl (by kernel_rfl) (by kernel_rfl) (by kernel_rfl) (fun _ _ _ h => h) (Or.inr ⟨by rfl, rfl⟩) hHeld ?_
            (try simp only [Act.put, List.setIfInBounds_toArray, List.set_cons_zero, List.set_cons_succ])
            refine wpAnyH_take (i := 45) (oi := { dst := some 60, op := Op.load 3 (Operand.tmp 59), type := 3, pos := _, after := _, guard := some (35, false) }) (v := undef) rfl (by kernel_rfl) (by kernel_rfl) (by kernel_rfl) (fun _ _ _ h => h) (Or.inr ⟨by rfl, rfl⟩) hHeld ?_
            (try simp only [Act.put, List.setIfInBounds_toArray, List.set_cons_zero, List.set_cons_succ])
            refine wpAnyH_take (i := 46) (oi := { dst := some 61, op := Op.call { callee := Callee.value (Operand.func 87), args := #[Operand.tmp 60], argTypes := #[3] }, type := 25, pos := _, after := _, guard := some (35, false) }) (v := undef) rfl (by kernel_rfl) (by kernel_rfl) (by kernel_rfl) (fun _ _ _ h => h) (Or.inr ⟨by rfl, rfl⟩) hHeld ?_
            (try simp only [Act.put, List.setIfInBounds_toArray, List.set_cons_zero, List.set_cons_succ])
            refine wpAnyH_take (i := 47) (oi := { dst := some 62, op := Op.call { callee := Callee.value (Operand.func 24), args := #[Operand.tmp 55, Operand.tmp 61], argTypes := #[25, 25] }, type := 4, pos := _, after := _, guard := some (35, false) }) (v := undef) rfl (by kernel_rfl) (by kernel_rfl) (by kernel_rfl) (fun _ _ _ h => h) (Or.inr ⟨by rfl, rfl⟩) hHeld ?_
            (try simp only [Act.put, List.setIfInBounds_toArray, List.set_cons_zero, List.set_cons_succ])
            refine wpAnyH_take (i := 48) (oi := { dst := some 63, op := Op.pick (Operand.tmp 50) (Operand.const (Value.bool true)) (Operand.tmp 62), type := 4, pos := _, after := _, guard := none }) (v := ?_) rfl (by kernel_rfl) (by kernel_rfl) (by kernel_rfl) (fun _ _ _ h => h) (Or.inl ⟨by rfl, ?_⟩) hHeld ?_
            rotate_left
            · (intro w hSw; (try dsimp only at hSw); go_simp; (try with_reducible rfl))
            (try simp only [Act.put, List.setIfInBounds_toArray, List.set_cons_zero, List.set_cons_succ])
            refine wpAnyH_done (by kernel_rfl) ?_ _
            go_wp2
            go_ret
            exact ⟨ret_bool HF.out.symm, HB.out.trans ((by first | exact hbZ | exact below_drewN hbZ 1 : Below wr.heap.size wr _).mono HB.out.size)⟩
          · have hled : decide (x ≤ y) = false := by simpa using hle
            have HLE := hid hle
            clear hle
            cases hva : termB s p
            · have HF := hid (HNO.out (fun hh => by rw [hva] at hh; cases hh.2.2.1))
              simp only [hva] at HVA
              clear hva
              refine wp_region_held_drew (S := fun w' => w'.cell? ⟨cb, co + k * 2, none⟩ = some (.int .i64 x) ∧ w'.cell? ⟨cb, co + k * 2 + 1, none⟩ = some (.slice ua p.length uc) ∧ w'.cell? ⟨cb, co + j * 2, none⟩ = some (.int .i64 y)) (by kernel_rfl) ?_ (fun hHeld => ?_)
              · first | exact ⟨d0, d1, d2⟩ | exact ⟨d0, d1⟩
              refine wpAnyH_take (i := 0) (oi := { dst := some 15, op := Op.move (Operand.tmp 1), type := 39, pos := _, after := _, guard := none }) (v := ?_) rfl (by kernel_rfl) (by kernel_rfl) (by kernel_rfl) (fun _ _ _ h => h) (Or.inl ⟨by rfl, ?_⟩) hHeld ?_
              rotate_left
              · (intro w hSw; (try dsimp only at hSw); go_simp; (try with_reducible rfl))
              (try simp only [Act.put, List.setIfInBounds_toArray, List.set_cons_zero, List.set_cons_succ])
              refine wpAnyH_take (i := 1) (oi := { dst := some 16, op := Op.move (Operand.tmp 5), type := 3, pos := _, after := _, guard := none }) (v := ?_) rfl (by kernel_rfl) (by kernel_rfl) (by kernel_rfl) (fun _ _ _ h => h) (Or.inl ⟨by rfl, ?_⟩) hHeld ?_
              rotate_left
              · (intro w hSw; (try dsimp only at hSw); go_simp; (try with_reducible rfl))
              (try simp only [Act.put, List.setIfInBounds_toArray, List.set_cons_zero, List.set_cons_succ])
              refine wpAnyH_take (i := 2) (oi := { dst := some 17, op := Op.indexAddr 39 (Operand.tmp 15) (Operand.tmp 16), type := 0, pos := _, after := _, guard := none }) (v := ?_) rfl (by kernel_rfl) (by kernel_rfl) (by kernel_rfl) (fun _ _ _ h => h) (Or.inl ⟨by rfl, ?_⟩) hHeld ?_
              rotate_left
              · (intro w hSw; (try dsimp only at hSw); go_simp; (try with_reducible rfl))
              (try simp only [Act.put, List.setIfInBounds_toArray, List.set_cons_zero, List.set_cons_succ])
              refine wpAnyH_take (i := 3) (oi := { dst := some 18, op := Op.fieldAddr 61 (Operand.tmp 17) 0, type := 0, pos := _, after := _, guard := none }) (v := ?_) rfl (by kernel_rfl) (by kernel_rfl) (by kernel_rfl) (fun _ _ _ h => h) (Or.inl ⟨by rfl, ?_⟩) hHeld ?_
              rotate_left
              · (intro w hSw; (try dsimp only at hSw); go_simp; (try with_reducible rfl))
              (try simp only [Act.put, List.setIfInBounds_toArray, List.set_cons_zero, List.set_cons_succ])
              refine wpAnyH_take (i := 4) (oi := { dst := some 19, op := Op.load 3 (Operand.tmp 18), type := 3, pos := _, after := _, guard := none }) (v := ?_) rfl (by kernel_rfl) (by kernel_rfl) (by kernel_rfl) (fun _ _ _ h => h) (Or.inl ⟨by rfl, ?_⟩) hHeld ?_
              rotate_left
              · (intro w hSw; (try dsimp only at hSw); go_simp; (try with_reducible rfl))
              (try simp only [Act.put, List.setIfInBounds_toArray, List.set_cons_zero, List.set_cons_succ])
              refine wpAnyH_ready (rs := [5]) (by kernel_rfl) (by simp) ?_
              refine AllReadyH.cons (o := { dst := some 20, op := Op.call { callee := Callee.value (Operand.func 84), args := #[Operand.tmp 19, Operand.const (Value.int IntKind.i64 0), Operand.const (Value.int IntKind.i64 11)], argTypes := #[3, 3, 3] }, type := 4, pos := _, after := _, guard := none }) rfl (fun K hK => ?_) AllReadyH.nil
              (try go_simp)
              (refine (HIN.out _).mono ?_; rintro e wz ⟨rfl, rfl⟩)
              refine hK.out _ _ ?_ (fun hHeld => ?_)
              · first | exact ⟨d0, d1, d2⟩ | exact ⟨d0, d1⟩
              clear hK K
              (try simp only [Act.put, List.setIfInBounds_toArray, List.set_cons_zero, List.set_cons_succ])
              refine wpAnyH_take (i := 6) (oi := { dst := some 21, op := Op.unOp UnOp.not 4 (Operand.tmp 20), type := 4, pos := _, after := _, guard := none }) (v := ?_) rfl (by kernel_rfl) (by kernel_rfl) (by kernel_rfl) (fun _ _ _ h => h) (Or.inl ⟨by rfl, ?_⟩) hHeld ?_
              rotate_left
              · (intro w hSw; (try dsimp only at hSw); go_simp; (try with_reducible rfl))
              (try simp only [Act.put, List.setIfInBounds_toArray, List.set_cons_zero, List.set_cons_succ])
              refine wpAnyH_take (i := 7) (oi := { dst := some 22, op := Op.move (Operand.tmp 21), type := 4, pos := _, after := _, guard := none }) (v := ?_) rfl (by kernel_rfl) (by kernel_rfl) (by kernel_rfl) (fun _ _ _ h => h) (Or.inl ⟨by rfl, ?_⟩) hHeld ?_
              rotate_left
              · (intro w hSw; (try dsimp only at hSw); go_simp; (try with_reducible rfl))
              (try simp only [Act.put, List.setIfInBounds_toArray, List.set_cons_zero, List.set_cons_succ])
              refine wpAnyH_take (i := 8) (oi := { dst := some 23, op := Op.move (Operand.tmp 5), type := 3, pos := _, after := _, guard := some (7, false) }) (v := ?_) rfl (by kernel_rfl) (by kernel_rfl) (by kernel_rfl) (fun _ _ _ h => h) (Or.inl ⟨by rfl, ?_⟩) hHeld ?_
              rotate_left
              · (intro w hSw; (try dsimp only at hSw); go_simp; (try with_reducible rfl))
              (try simp only [Act.put, List.setIfInBounds_toArray, List.set_cons_zero, List.set_cons_succ])
              refine wpAnyH_take (i := 9) (oi := { dst := some 24, op := Op.binOp BinOp.gtr 3 (Operand.tmp 23) (Operand.const (Value.int IntKind.i64 0)) 3, type := 4, pos := _, after := _, guard := some (7, false) }) (v := ?_) rfl (by kernel_rfl) (by kernel_rfl) (by kernel_rfl) (fun _ _ _ h => h) (Or.inl ⟨by rfl, ?_⟩) hHeld ?_
              rotate_left
              · (intro w hSw; (try dsimp only at hSw); go_simp; (try with_reducible rfl))
              (try simp only [Act.put, List.setIfInBounds_toArray, List.set_cons_zero, List.set_cons_succ])
              refine wpAnyH_take (i := 10) (oi := { dst := some 25, op := Op.move (Operand.tmp 24), type := 4, pos := _, after := _, guard := some (7, false) }) (v := ?_) rfl (by kernel_rfl) (by kernel_rfl) (by kernel_rfl) (fun _ _ _ h => h) (Or.inl ⟨by rfl, ?_⟩) hHeld ?_
              rotate_left
              · (intro w hSw; (try dsimp only at hSw); go_simp; (try with_reducible rfl))
              (try simp only [Act.put, List.setIfInBounds_toArray, List.set_cons_zero, List.set_cons_succ])
              refine wpAnyH_take (i := 11) (oi := { dst := some 26, op := Op.move (Operand.tmp 1), type := 39, pos := _, after := _, guard := some (10, true) }) (v := ?_) rfl (by kernel_rfl) (by kernel_rfl) (by kernel_rfl) (fun _ _ _ h => h) (Or.inl ⟨by rfl, ?_⟩) hHeld ?_
              rotate_left
              · (intro w hSw; (try dsimp only at hSw); go_simp; (try with_reducible rfl))
              (try simp only [Act.put, List.setIfInBounds_toArray, List.set_cons_zero, List.set_cons_succ])
              refine wpAnyH_take (i := 12) (oi := { dst := some 27, op := Op.move (Operand.tmp 5), type := 3, pos := _, after := _, guard := some (10, true) }) (v := ?_) rfl (by kernel_rfl) (by kernel_rfl) (by kernel_rfl) (fun _ _ _ h => h) (Or.inl ⟨by rfl, ?_⟩) hHeld ?_
              rotate_left
              · (intro w hSw; (try dsimp only at hSw); go_simp; (try with_reducible rfl))
              (try simp only [Act.put, List.setIfInBounds_toArray, List.set_cons_zero, List.set_cons_succ])
              refine wpAnyH_take (i := 13) (oi := { dst := some 28, op := Op.indexAddr 39 (Operand.tmp 26) (Operand.tmp 27), type := 0, pos := _, after := _, guard := some (10, true) }) (v := ?_) rfl (by kernel_rfl) (by kernel_rfl) (by kernel_rfl) (fun _ _ _ h => h) (Or.inl ⟨by rfl, ?_⟩) hHeld ?_
              rotate_left
              · (intro w hSw; (try dsimp only at hSw); go_simp; (try with_reducible rfl))
              (try simp only [Act.put, List.setIfInBounds_toArray, List.set_cons_zero, List.set_cons_succ])
              refine wpAnyH_take (i := 14) (oi := { dst := some 29, op := Op.fieldAddr 61 (Operand.tmp 28) 0, type := 0, pos := _, after := _, guard := some (10, true) }) (v := ?_) rfl (by kernel_rfl) (by kernel_rfl) (by kernel_rfl) (fun _ _ _ h => h) (Or.inl ⟨by rfl, ?_⟩) hHeld ?_
              rotate_left
              · (intro w hSw; (try dsimp only at hSw); go_simp; (try with_reducible rfl))
              (try simp only [Act.put, List.setIfInBounds_toArray, List.set_cons_zero, List.set_cons_succ])
              refine wpAnyH_take (i := 15) (oi := { dst := some 30, op := Op.load 3 (Operand.tmp 29), type := 3, pos := _, after := _, guard := some (10, true) }) (v := ?_) rfl (by kernel_rfl) (by kernel_rfl) (by kernel_rfl) (fun _ _ _ h => h) (Or.inl ⟨by rfl, ?_⟩) hHeld ?_
              rotate_left
              · (intro w hSw; (try dsimp only at hSw); go_simp; (try with_reducible rfl))
              (try simp only [Act.put, List.setIfInBounds_toArray, List.set_cons_zero, List.set_cons_succ])
              refine wpAnyH_take (i := 16) (oi := { dst := some 31, op := Op.move (Operand.tmp 1), type := 39, pos := _, after := _, guard := some (10, true) }) (v := ?_) rfl (by kernel_rfl) (by kernel_rfl) (by kernel_rfl) (fun _ _ _ h => h) (Or.inl ⟨by rfl, ?_⟩) hHeld ?_
              rotate_left
              · (intro w hSw; (try dsimp only at hSw); go_simp; (try with_reducible rfl))
              (try simp only [Act.put, List.setIfInBounds_toArray, List.set_cons_zero, List.set_cons_succ])
              refine wpAnyH_take (i := 17) (oi := { dst := some 32, op := Op.move (Operand.tmp 5), type := 3, pos := _, after := _, guard := some (10, true) }) (v := ?_) rfl (by kernel_rfl) (by kernel_rfl) (by kernel_rfl) (fun _ _ _ h => h) (Or.inl ⟨by rfl, ?_⟩) hHeld ?_
              rotate_left
              · (intro w hSw; (try dsimp only at hSw); go_simp; (try with_reducible rfl))
              (try simp only [Act.put, List.setIfInBounds_toArray, List.set_cons_zero, List.set_cons_succ])
              refine wpAnyH_take (i := 18) (oi := { dst := some 33, op := Op.binOp BinOp.sub 3 (Operand.tmp 32) (Operand.const (Value.int IntKind.i64 1)) 3, type := 3, pos := _, after := _, guard := some (10, true) }) (v := ?_) rfl (by kernel_rfl) (by kernel_rfl) (by kernel_rfl) (fun _ _ _ h => h) (Or.inl ⟨by rfl, ?_⟩) hHeld ?_
              rotate_left
              · (intro w hSw; (try dsimp only at hSw); go_simp; (try with_reducible rfl))
              (try simp only [Act.put, List.setIfInBounds_toArray, List.set_cons_zero, List.set_cons_succ])
              refine wpAnyH_take (i := 19) (oi := { dst := some 34, op := Op.indexAddr 39 (Operand.tmp 31) (Operand.tmp 33), type := 0, pos := _, after := _, guard := some (10, true) }) (v := ?_) rfl (by kernel_rfl) (by kernel_rfl) (by kernel_rfl) (fun _ _ _ h => h) (Or.inl ⟨by rfl, ?_⟩) hHeld ?_
              rotate_left
              · (intro w hSw; (try dsimp only at hSw); go_simp; (try with_reducible rfl))
              (try simp only [Act.put, List.setIfInBounds_toArray, List.set_cons_zero, List.set_cons_succ])
              refine wpAnyH_take (i := 20) (oi := { dst := some 35, op := Op.fieldAddr 61 (Operand.tmp 34) 0, type := 0, pos := _, after := _, guard := some (10, true) }) (v := ?_) rfl (by kernel_rfl) (by kernel_rfl) (by kernel_rfl) (fun _ _ _ h => h) (Or.inl ⟨by rfl, ?_⟩) hHeld ?_
              rotate_left
              · (intro w hSw; (try dsimp only at hSw); go_simp; (try with_reducible rfl))
              (try simp only [Act.put, List.setIfInBounds_toArray, List.set_cons_zero, List.set_cons_succ])
              refine wpAnyH_take (i := 21) (oi := { dst := some 36, op := Op.load 3 (Operand.tmp 35), type := 3, pos := _, after := _, guard := some (10, true) }) (v := ?_) rfl (by kernel_rfl) (by kernel_rfl) (by kernel_rfl) (fun _ _ _ h => h) (Or.inl ⟨by rfl, ?_⟩) hHeld ?_
              rotate_left
              · (intro w hSw; (try dsimp only at hSw); go_simp; (try with_reducible rfl))
              (try simp only [Act.put, List.setIfInBounds_toArray, List.set_cons_zero, List.set_cons_succ])
              refine wpAnyH_take (i := 22) (oi := { dst := some 37, op := Op.binOp BinOp.leq 3 (Operand.tmp 30) (Operand.tmp 36) 3, type := 4, pos := _, after := _, guard := some (10, true) }) (v := ?_) rfl (by kernel_rfl) (by kernel_rfl) (by kernel_rfl) (fun _ _ _ h => h) (Or.inl ⟨by rfl, ?_⟩) hHeld ?_
              rotate_left
              · (intro w hSw; (try dsimp only at hSw); go_simp; (try with_reducible rfl))
              (try simp only [Act.put, List.setIfInBounds_toArray, List.set_cons_zero, List.set_cons_succ])
              refine wpAnyH_take (i := 23) (oi := { dst := some 38, op := Op.pick (Operand.tmp 25) (Operand.tmp 37) (Operand.const (Value.bool false)), type := 4, pos := _, after := _, guard := some (7, false) }) (v := ?_) rfl (by kernel_rfl) (by kernel_rfl) (by kernel_rfl) (fun _ _ _ h => h) (Or.inl ⟨by rfl, ?_⟩) hHeld ?_
              rotate_left
              · (intro w hSw; (try dsimp only at hSw); go_simp; (try with_reducible rfl))
              (try simp only [Act.put, List.setIfInBounds_toArray, List.set_cons_zero, List.set_cons_succ])
              refine wpAnyH_take (i := 24) (oi := { dst := some 39, op := Op.pick (Operand.tmp 22) (Operand.const (Value.bool true)) (Operand.tmp 38), type := 4, pos := _, after := _, guard := none }) (v := ?_) rfl (by kernel_rfl) (by kernel_rfl) (by kernel_rfl) (fun _ _ _ h => h) (Or.inl ⟨by rfl, ?_⟩) hHeld ?_
              rotate_left
              · (intro w hSw; (try dsimp only at hSw); go_simp; (try with_reducible rfl))
              (try simp only [Act.put, List.setIfInBounds_toArray, List.set_cons_zero, List.set_cons_succ])
              refine wpAnyH_take (i := 25) (oi := { dst := some 40, op := Op.move (Operand.tmp 39), type := 4, pos := _, after := _, guard := none }) (v := ?_) rfl (by kernel_rfl) (by kernel_rfl) (by kernel_rfl) (fun _ _ _ h => h) (Or.inl ⟨by rfl, ?_⟩) hHeld ?_
              rotate_left
              · (intro w hSw; (try dsimp only at hSw); go_simp; (try with_reducible rfl))
              (try simp only [Act.put, List.setIfInBounds_toArray, List.set_cons_zero, List.set_cons_succ])
              refine wpAnyH_take (i := 26) (oi := { dst := some 41, op := Op.move (Operand.tmp 0), type := 23, pos := _, after := _, guard := some (25, false) }) (v := ?_) rfl (by kernel_rfl) (by kernel_rfl) (by kernel_rfl) (fun _ _ _ h => h) (Or.inl ⟨by rfl, ?_⟩) hHeld ?_
              rotate_left
              · (intro w hSw; (try dsimp only at hSw); go_simp; (try with_reducible rfl))
              (try simp only [Act.put, List.setIfInBounds_toArray, List.set_cons_zero, List.set_cons_succ])
              refine wpAnyH_take (i := 27) (oi := { dst := some 42, op := Op.move (Operand.tmp 1), type := 39, pos := _, after := _, guard := some (25, false) }) (v := ?_) rfl (by kernel_rfl) (by kernel_rfl) (by kernel_rfl) (fun _ _ _ h => h) (Or.inl ⟨by rfl, ?_⟩) hHeld ?_
              rotate_left
              · (intro w hSw; (try dsimp only at hSw); go_simp; (try with_reducible rfl))
              (try simp only [Act.put, List.setIfInBounds_toArray, List.set_cons_zero, List.set_cons_succ])
              refine wpAnyH_take (i := 28) (oi := { dst := some 43, op := Op.move (Operand.tmp 5), type := 3, pos := _, after := _, guard := some (25, false) }) (v := ?_) rfl (by kernel_rfl) (by kernel_rfl) (by kernel_rfl) (fun _ _ _ h => h) (Or.inl ⟨by rfl, ?_⟩) hHeld ?_
              rotate_left
              · (intro w hSw; (try dsimp only at hSw); go_simp; (try with_reducible rfl))
              (try simp only [Act.put, List.setIfInBounds_toArray, List.set_cons_zero, List.set_cons_succ])
              refine wpAnyH_take (i := 29) (oi := { dst := some 44, op := Op.indexAddr 39 (Operand.tmp 42) (Operand.tmp 43), type := 0, pos := _, after := _, guard := some (25, false) }) (v := ?_) rfl (by kernel_rfl) (by kernel_rfl) (by kernel_rfl) (fun _ _ _ h => h) (Or.inl ⟨by rfl, ?_⟩) hHeld ?_
              rotate_left
              · (intro w hSw; (try dsimp only at hSw); go_simp; (try with_reducible rfl))
              (try simp only [Act.put, List.setIfInBounds_toArray, List.set_cons_zero, List.set_cons_succ])
              refine wpAnyH_take (i := 30) (oi := { dst := some 45, op := Op.fieldAddr 61 (Operand.tmp 44) 1, type := 0, pos := _, after := _, guard := some (25, false) }) (v := ?_) rfl (by kernel_rfl) (by kernel_rfl) (by kernel_rfl) (fun _ _ _ h => h) (Or.inl ⟨by rfl, ?_⟩) hHeld ?_
              rotate_left
              · (intro w hSw; (try dsimp only at hSw); go_simp; (try with_reducible rfl))
              (try simp only [Act.put, List.setIfInBounds_toArray, List.set_cons_zero, List.set_cons_succ])
              refine wpAnyH_take (i := 31) (oi := { dst := some 46, op := Op.load 25 (Operand.tmp 45), type := 25, pos := _, after := _, guard := some (25, false) }) (v := ?_) rfl (by kernel_rfl) (by kernel_rfl) (by kernel_rfl) (fun _ _ _ h => h) (Or.inl ⟨by rfl, ?_⟩) hHeld ?_
              rotate_left
              · (intro w hSw; (try dsimp only at hSw); go_simp; (try with_reducible rfl))
              (try simp only [Act.put, List.setIfInBounds_toArray, List.set_cons_zero, List.set_cons_succ])
              refine wpAnyH_ready (rs := [32]) (by kernel_rfl) (by simp) ?_
              refine AllReadyH.cons (o := { dst := some 47, op := Op.call { callee := Callee.value (Operand.func 69), args := #[Operand.tmp 41, Operand.tmp 46], argTypes := #[23, 25] }, type := 4, pos := _, after := _, guard := some (25, false) }) rfl (fun K hK => ?_) AllReadyH.nil
              (try go_simp)
              (refine (HVA.out _ (by first | exact hbZ | exact hbZ.drew | exact below_drewN hbZ _)).mono ?_; rintro e wz ⟨rfl, hbZ⟩; have d0 := (hbZ.cell (World.block_lt_of_cell? _ _ c0)).trans c0; have d1 := (hbZ.cell (World.block_lt_of_cell? _ _ c1)).trans c1; have d2 := (hbZ.cell (World.block_lt_of_cell? _ _ c2)).trans c2)
              refine hK.out _ _ ?_ (fun hHeld => ?_)
              · first | exact ⟨d0, d1, d2⟩ | exact ⟨d0, d1⟩
              clear hK K
              (try simp only [Act.put, List.setIfInBounds_toArray, List.set_cons_zero, List.set_cons_succ])
              refine wpAnyH_take (i := 33) (oi := { dst := some 48, op := Op.unOp UnOp.not 4 (Operand.tmp 47), type := 4, pos := _, after := _, guard := some (25, false) }) (v := ?_) rfl (by kernel_rfl) (by kernel_rfl) (by kernel_rfl) (fun _ _ _ h => h) (Or.inl ⟨by rfl, ?_⟩) hHeld ?_
              rotate_left
              · (intro w hSw; (try dsimp only at hSw); go_simp; (try with_reducible rfl))
              (try simp only [Act.put, List.setIfInBounds_toArray, List.set_cons_zero, List.set_cons_succ])
              refine wpAnyH_take (i := 34) (oi := { dst := some 49, op := Op.pick (Operand.tmp 40) (Operand.const (Value.bool true)) (Operand.tmp 48), type := 4, pos := _, after := _, guard := none }) (v := ?_) rfl (by kernel_rfl) (by kernel_rfl) (by kernel_rfl) (fun _ _ _ h => h) (Or.inl ⟨by rfl, ?_⟩) hHeld ?_
              rotate_left
              · (intro w hSw; (try dsimp only at hSw); go_simp; (try with_reducible rfl))
              (try simp only [Act.put, List.setIfInBounds_toArray, List.set_cons_zero, List.set_cons_succ])
              refine wpAnyH_take (i := 35) (oi := { dst := some 50, op := Op.move (Operand.tmp 49), type := 4, pos := _, after := _, guard := none }) (v := ?_) rfl (by kernel_rfl) (by kernel_rfl) (by kernel_rfl) (fun _ _ _ h => h) (Or.inl ⟨by rfl, ?_⟩) hHeld ?_
              rotate_left
              · (intro w hSw; (try dsimp only at hSw); go_simp; (try with_reducible rfl))
              (try simp only [Act.put, List.setIfInBounds_toArray, List.set_cons_zero, List.set_cons_succ])
              refine wpAnyH_take (i := 36) (oi := { dst := some 51, op := Op.move (Operand.tmp 1), type := 39, pos := _, after := _, guard := some (35, false) }) (v := undef) rfl (by kernel_rfl) (by kernel_rfl) (by kernel_rfl) (fun _ _ _ h => h) (Or.inr ⟨by rfl, rfl⟩) hHeld ?_
              (try simp only [Act.put, List.setIfInBounds_toArray, List.set_cons_zero, List.set_cons_succ])
              refine wpAnyH_take (i := 37) (oi := { dst := some 52, op := Op.move (Operand.tmp 5), type := 3, pos := _, after := _, guard := some (35, false) }) (v := undef) rfl (by kernel_rfl) (by kernel_rfl) (by kernel_rfl) (fun _ _ _ h => h) (Or.inr ⟨by rfl, rfl⟩) hHeld ?_
              (try simp only [Act.put, List.setIfInBounds_toArray, List.set_cons_zero, List.set_cons_succ])
              refine wpAnyH_take (i := 38) (oi := { dst := some 53, op := Op.indexAddr 39 (Operand.tmp 51) (Operand.tmp 52), type := 0, pos := _, after := _, guard := some (35, false) }) (v := undef) rfl (by kernel_rfl) (by kernel_rfl) (by kernel_rfl) (fun _ _ _ h => h) (Or.inr ⟨by rfl, rfl⟩) hHeld ?_
              (try simp only [Act.put, List.setIfInBounds_toArray, List.set_cons_zero, List.set_cons_succ])
              refine wpAnyH_take (i := 39) (oi := { dst := some 54, op := Op.fieldAddr 61 (Operand.tmp 53) 1, type := 0, pos := _, after := _, guard := some (35, false) }) (v := undef) rfl (by kernel_rfl) (by kernel_rfl) (by kernel_rfl) (fun _ _ _ h => h) (Or.inr ⟨by rfl, rfl⟩) hHeld ?_
              (try simp only [Act.put, List.setIfInBounds_toArray, List.set_cons_zero, List.set_cons_succ])
              refine wpAnyH_take (i := 40) (oi := { dst := some 55, op := Op.load 25 (Operand.tmp 54), type := 25, pos := _, after := _, guard := some (35, false) }) (v := undef) rfl (by kernel_rfl) (by kernel_rfl) (by kernel_rfl) (fun _ _ _ h => h) (Or.inr ⟨by rfl, rfl⟩) hHeld ?_
              (try simp only [Act.put, List.setIfInBounds_toArray, List.set_cons_zero, List.set_cons_succ])
              refine wpAnyH_take (i := 41) (oi := { dst := some 56, op := Op.move (Operand.tmp 1), type := 39, pos := _, after := _, guard := some (35, false) }) (v := undef) rfl (by kernel_rfl) (by kernel_rfl) (by kernel_rfl) (fun _ _ _ h => h) (Or.inr ⟨by rfl, rfl⟩) hHeld ?_
              (try simp only [Act.put, List.setIfInBounds_toArray, List.set_cons_zero, List.set_cons_succ])
              refine wpAnyH_take (i := 42) (oi := { dst := some 57, op := Op.move (Operand.tmp 5), type := 3, pos := _, after := _, guard := some (35, false) }) (v := undef) rfl (by kernel_rfl) (by kernel_rfl) (by kernel_rfl) (fun _ _ _ h => h) (Or.inr ⟨by rfl, rfl⟩) hHeld ?_
              (try simp only [Act.put, List.setIfInBounds_toArray, List.set_cons_zero, List.set_cons_succ])
              refine wpAnyH_take (i := 43) (oi := { dst := some 58, op := Op.indexAddr 39 (Operand.tmp 56) (Operand.tmp 57), type := 0, pos := _, after := _, guard := some (35, false) }) (v := undef) rfl (by kernel_rfl) (by kernel_rfl) (by kernel_rfl) (fun _ _ _ h => h) (Or.inr ⟨by rfl, rfl⟩) hHeld ?_
              (try simp only [Act.put, List.setIfInBounds_toArray, List.set_cons_zero, List.set_cons_succ])
              refine wpAnyH_take (i := 44) (oi := { dst := some 59, op := Op.fieldAddr 61 (Operand.tmp 58) 0, type := 0, pos := _, after := _, guard := some (35, false) }) (v := undef) rfl (by kernel_rfl) (by kernel_rfl) (by kernel_rfl) (fun _ _ _ h => h) (Or.inr ⟨by rfl, rfl⟩) hHeld ?_
              (try simp only [Act.put, List.setIfInBounds_toArray, List.set_cons_zero, List.set_cons_succ])
              refine wpAnyH_take (i := 45) (oi := { dst := some 60, op := Op.load 3 (Operand.tmp 59), type := 3, pos := _, after := _, guard := some (35, false) }) (v := undef) rfl (by kernel_rfl) (by kernel_rfl) (by kernel_rfl) (fun _ _ _ h => h) (Or.inr ⟨by rfl, rfl⟩) hHeld ?_
              (try simp only [Act.put, List.setIfInBounds_toArray, List.set_cons_zero, List.set_cons_succ])
              refine wpAnyH_take (i := 46) (oi := { dst := some 61, op := Op.call { callee := Callee.value (Operand.func 87), args := #[Operand.tmp 60], argTypes := #[3] }, type := 25, pos := _, after := _, guard := some (35, false) }) (v := undef) rfl (by kernel_rfl) (by kernel_rfl) (by kernel_rfl) (fun _ _ _ h => h) (Or.inr ⟨by rfl, rfl⟩) hHeld ?_
              (try simp only [Act.put, List.setIfInBounds_toArray, List.set_cons_zero, List.set_cons_succ])
              refine wpAnyH_take (i := 47) (oi := { dst := some 62, op := Op.call { callee := Callee.value (Operand.func 24), args := #[Operand.tmp 55, Operand.tmp 61], argTypes := #[25, 25] }, type := 4, pos := _, after := _, guard := some (35, false) }) (v := undef) rfl (by kernel_rfl) (by kernel_rfl) (by kernel_rfl) (fun _ _ _ h => h) (Or.inr ⟨by rfl, rfl⟩) hHeld ?_
              (try simp only [Act.put, List.setIfInBounds_toArray, List.set_cons_zero, List.set_cons_succ])
              refine wpAnyH_take (i := 48) (oi := { dst := some 63, op := Op.pick (Operand.tmp 50) (Operand.const (Value.bool true)) (Operand.tmp 62), type := 4, pos := _, after := _, guard := none }) (v := ?_) rfl (by kernel_rfl) (by kernel_rfl) (by kernel_rfl) (fun _ _ _ h => h) (Or.inl ⟨by rfl, ?_⟩) hHeld ?_
              rotate_left
              · (intro w hSw; (try dsimp only at hSw); go_simp; (try with_reducible rfl))
              (try simp only [Act.put, List.setIfInBounds_toArray, List.set_cons_zero, List.set_cons_succ])
              refine wpAnyH_done (by kernel_rfl) ?_ _
              go_wp2
              go_ret
              exact ⟨ret_bool HF.out.symm, HB.out.trans ((by first | exact hbZ | exact below_drewN hbZ 1 : Below wr.heap.size wr _).mono HB.out.size)⟩
            · have HT := hid hva
              simp only [hva] at HVA
              clear hva
              refine wp_region_held_drew (S := fun w' => w'.cell? ⟨cb, co + k * 2, none⟩ = some (.int .i64 x) ∧ w'.cell? ⟨cb, co + k * 2 + 1, none⟩ = some (.slice ua p.length uc) ∧ w'.cell? ⟨cb, co + j * 2, none⟩ = some (.int .i64 y)) (by kernel_rfl) ?_ (fun hHeld => ?_)
              · first | exact ⟨d0, d1, d2⟩ | exact ⟨d0, d1⟩
              refine wpAnyH_take (i := 0) (oi := { dst := some 15, op := Op.move (Operand.tmp 1), type := 39, pos := _, after := _, guard := none }) (v := ?_) rfl (by kernel_rfl) (by kernel_rfl) (by kernel_rfl) (fun _ _ _ h => h) (Or.inl ⟨by rfl, ?_⟩) hHeld ?_
              rotate_left
              · (intro w hSw; (try dsimp only at hSw); go_simp; (try with_reducible rfl))
              (try simp only [Act.put, List.setIfInBounds_toArray, List.set_cons_zero, List.set_cons_succ])
              refine wpAnyH_take (i := 1) (oi := { dst := some 16, op := Op.move (Operand.tmp 5), type := 3, pos := _, after := _, guard := none }) (v := ?_) rfl (by kernel_rfl) (by kernel_rfl) (by kernel_rfl) (fun _ _ _ h => h) (Or.inl ⟨by rfl, ?_⟩) hHeld ?_
              rotate_left
              · (intro w hSw; (try dsimp only at hSw); go_simp; (try with_reducible rfl))
              (try simp only [Act.put, List.setIfInBounds_toArray, List.set_cons_zero, List.set_cons_succ])
              refine wpAnyH_take (i := 2) (oi := { dst := some 17, op := Op.indexAddr 39 (Operand.tmp 15) (Operand.tmp 16), type := 0, pos := _, after := _, guard := none }) (v := ?_) rfl (by kernel_rfl) (by kernel_rfl) (by kernel_rfl) (fun _ _ _ h => h) (Or.inl ⟨by rfl, ?_⟩) hHeld ?_
              rotate_left
              · (intro w hSw; (try dsimp only at hSw); go_simp; (try with_reducible rfl))
              (try simp only [Act.put, List.setIfInBounds_toArray, List.set_cons_zero, List.set_cons_succ])
              refine wpAnyH_take (i := 3) (oi := { dst := some 18, op := Op.fieldAddr 61 (Operand.tmp 17) 0, type := 0, pos := _, after := _, guard := none }) (v := ?_) rfl (by kernel_rfl) (by kernel_rfl) (by kernel_rfl) (fun _ _ _ h => h) (Or.inl ⟨by rfl, ?_⟩) hHeld ?_
              rotate_left
              · (intro w hSw; (try dsimp only at hSw); go_simp; (try with_reducible rfl))
              (try simp only [Act.put, List.setIfInBounds_toArray, List.set_cons_zero, List.set_cons_succ])
              refine wpAnyH_take (i := 4) (oi := { dst := some 19, op := Op.load 3 (Operand.tmp 18), type := 3, pos := _, after := _, guard := none }) (v := ?_) rfl (by kernel_rfl) (by kernel_rfl) (by kernel_rfl) (fun _ _ _ h => h) (Or.inl ⟨by rfl, ?_⟩) hHeld ?_
              rotate_left
              · (intro w hSw; (try dsimp only at hSw); go_simp; (try with_reducible rfl))
              (try simp only [Act.put, List.setIfInBounds_toArray, List.set_cons_zero, List.set_cons_succ])
              refine wpAnyH_ready (rs := [5]) (by kernel_rfl) (by simp) ?_
              refine AllReadyH.cons (o := { dst := some 20, op := Op.call { callee := Callee.value (Operand.func 84), args := #[Operand.tmp 19, Operand.const (Value.int IntKind.i64 0), Operand.const (Value.int IntKind.i64 11)], argTypes := #[3, 3, 3] }, type := 4, pos := _, after := _, guard := none }) rfl (fun K hK => ?_) AllReadyH.nil
              (try go_simp)
              (refine (HIN.out _).mono ?_; rintro e wz ⟨rfl, rfl⟩)
              refine hK.out _ _ ?_ (fun hHeld => ?_)
              · first | exact ⟨d0, d1, d2⟩ | exact ⟨d0, d1⟩
              clear hK K
              (try simp only [Act.put, List.setIfInBounds_toArray, List.set_cons_zero, List.set_cons_succ])
              refine wpAnyH_take (i := 6) (oi := { dst := some 21, op := Op.unOp UnOp.not 4 (Operand.tmp 20), type := 4, pos := _, after := _, guard := none }) (v := ?_) rfl (by kernel_rfl) (by kernel_rfl) (by kernel_rfl) (fun _ _ _ h => h) (Or.inl ⟨by rfl, ?_⟩) hHeld ?_
              rotate_left
              · (intro w hSw; (try dsimp only at hSw); go_simp; (try with_reducible rfl))
              (try simp only [Act.put, List.setIfInBounds_toArray, List.set_cons_zero, List.set_cons_succ])
              refine wpAnyH_take (i := 7) (oi := { dst := some 22, op := Op.move (Operand.tmp 21), type := 4, pos := _, after := _, guard := none }) (v := ?_) rfl (by kernel_rfl) (by kernel_rfl) (by kernel_rfl) (fun _ _ _ h => h) (Or.inl ⟨by rfl, ?_⟩) hHeld ?_
              rotate_left
              · (intro w hSw; (try dsimp only at hSw); go_simp; (try with_reducible rfl))
              (try simp only [Act.put, List.setIfInBounds_toArray, List.set_cons_zero, List.set_cons_succ])
              refine wpAnyH_take (i := 8) (oi := { dst := some 23, op := Op.move (Operand.tmp 5), type := 3, pos := _, after := _, guard := some (7, false) }) (v := ?_) rfl (by kernel_rfl) (by kernel_rfl) (by kernel_rfl) (fun _ _ _ h => h) (Or.inl ⟨by rfl, ?_⟩) hHeld ?_
              rotate_left
              · (intro w hSw; (try dsimp only at hSw); go_simp; (try with_reducible rfl))
              (try simp only [Act.put, List.setIfInBounds_toArray, List.set_cons_zero, List.set_cons_succ])
              refine wpAnyH_take (i := 9) (oi := { dst := some 24, op := Op.binOp BinOp.gtr 3 (Operand.tmp 23) (Operand.const (Value.int IntKind.i64 0)) 3, type := 4, pos := _, after := _, guard := some (7, false) }) (v := ?_) rfl (by kernel_rfl) (by kernel_rfl) (by kernel_rfl) (fun _ _ _ h => h) (Or.inl ⟨by rfl, ?_⟩) hHeld ?_
              rotate_left
              · (intro w hSw; (try dsimp only at hSw); go_simp; (try with_reducible rfl))
              (try simp only [Act.put, List.setIfInBounds_toArray, List.set_cons_zero, List.set_cons_succ])
              refine wpAnyH_take (i := 10) (oi := { dst := some 25, op := Op.move (Operand.tmp 24), type := 4, pos := _, after := _, guard := some (7, false) }) (v := ?_) rfl (by kernel_rfl) (by kernel_rfl) (by kernel_rfl) (fun _ _ _ h => h) (Or.inl ⟨by rfl, ?_⟩) hHeld ?_
              rotate_left
              · (intro w hSw; (try dsimp only at hSw); go_simp; (try with_reducible rfl))
              (try simp only [Act.put, List.setIfInBounds_toArray, List.set_cons_zero, List.set_cons_succ])
              refine wpAnyH_take (i := 11) (oi := { dst := some 26, op := Op.move (Operand.tmp 1), type := 39, pos := _, after := _, guard := some (10, true) }) (v := ?_) rfl (by kernel_rfl) (by kernel_rfl) (by kernel_rfl) (fun _ _ _ h => h) (Or.inl ⟨by rfl, ?_⟩) hHeld ?_
              rotate_left
              · (intro w hSw; (try dsimp only at hSw); go_simp; (try with_reducible rfl))
              (try simp only [Act.put, List.setIfInBounds_toArray, List.set_cons_zero, List.set_cons_succ])
              refine wpAnyH_take (i := 12) (oi := { dst := some 27, op := Op.move (Operand.tmp 5), type := 3, pos := _, after := _, guard := some (10, true) }) (v := ?_) rfl (by kernel_rfl) (by kernel_rfl) (by kernel_rfl) (fun _ _ _ h => h) (Or.inl ⟨by rfl, ?_⟩) hHeld ?_
              rotate_left
              · (intro w hSw; (try dsimp only at hSw); go_simp; (try with_reducible rfl))
              (try simp only [Act.put, List.setIfInBounds_toArray, List.set_cons_zero, List.set_cons_succ])
              refine wpAnyH_take (i := 13) (oi := { dst := some 28, op := Op.indexAddr 39 (Operand.tmp 26) (Operand.tmp 27), type := 0, pos := _, after := _, guard := some (10, true) }) (v := ?_) rfl (by kernel_rfl) (by kernel_rfl) (by kernel_rfl) (fun _ _ _ h => h) (Or.inl ⟨by rfl, ?_⟩) hHeld ?_
              rotate_left
              · (intro w hSw; (try dsimp only at hSw); go_simp; (try with_reducible rfl))
              (try simp only [Act.put, List.setIfInBounds_toArray, List.set_cons_zero, List.set_cons_succ])
              refine wpAnyH_take (i := 14) (oi := { dst := some 29, op := Op.fieldAddr 61 (Operand.tmp 28) 0, type := 0, pos := _, after := _, guard := some (10, true) }) (v := ?_) rfl (by kernel_rfl) (by kernel_rfl) (by kernel_rfl) (fun _ _ _ h => h) (Or.inl ⟨by rfl, ?_⟩) hHeld ?_
              rotate_left
              · (intro w hSw; (try dsimp only at hSw); go_simp; (try with_reducible rfl))
              (try simp only [Act.put, List.setIfInBounds_toArray, List.set_cons_zero, List.set_cons_succ])
              refine wpAnyH_take (i := 15) (oi := { dst := some 30, op := Op.load 3 (Operand.tmp 29), type := 3, pos := _, after := _, guard := some (10, true) }) (v := ?_) rfl (by kernel_rfl) (by kernel_rfl) (by kernel_rfl) (fun _ _ _ h => h) (Or.inl ⟨by rfl, ?_⟩) hHeld ?_
              rotate_left
              · (intro w hSw; (try dsimp only at hSw); go_simp; (try with_reducible rfl))
              (try simp only [Act.put, List.setIfInBounds_toArray, List.set_cons_zero, List.set_cons_succ])
              refine wpAnyH_take (i := 16) (oi := { dst := some 31, op := Op.move (Operand.tmp 1), type := 39, pos := _, after := _, guard := some (10, true) }) (v := ?_) rfl (by kernel_rfl) (by kernel_rfl) (by kernel_rfl) (fun _ _ _ h => h) (Or.inl ⟨by rfl, ?_⟩) hHeld ?_
              rotate_left
              · (intro w hSw; (try dsimp only at hSw); go_simp; (try with_reducible rfl))
              (try simp only [Act.put, List.setIfInBounds_toArray, List.set_cons_zero, List.set_cons_succ])
              refine wpAnyH_take (i := 17) (oi := { dst := some 32, op := Op.move (Operand.tmp 5), type := 3, pos := _, after := _, guard := some (10, true) }) (v := ?_) rfl (by kernel_rfl) (by kernel_rfl) (by kernel_rfl) (fun _ _ _ h => h) (Or.inl ⟨by rfl, ?_⟩) hHeld ?_
              rotate_left
              · (intro w hSw; (try dsimp only at hSw); go_simp; (try with_reducible rfl))
              (try simp only [Act.put, List.setIfInBounds_toArray, List.set_cons_zero, List.set_cons_succ])
              refine wpAnyH_take (i := 18) (oi := { dst := some 33, op := Op.binOp BinOp.sub 3 (Operand.tmp 32) (Operand.const (Value.int IntKind.i64 1)) 3, type := 3, pos := _, after := _, guard := some (10, true) }) (v := ?_) rfl (by kernel_rfl) (by kernel_rfl) (by kernel_rfl) (fun _ _ _ h => h) (Or.inl ⟨by rfl, ?_⟩) hHeld ?_
              rotate_left
              · (intro w hSw; (try dsimp only at hSw); go_simp; (try with_reducible rfl))
              (try simp only [Act.put, List.setIfInBounds_toArray, List.set_cons_zero, List.set_cons_succ])
              refine wpAnyH_take (i := 19) (oi := { dst := some 34, op := Op.indexAddr 39 (Operand.tmp 31) (Operand.tmp 33), type := 0, pos := _, after := _, guard := some (10, true) }) (v := ?_) rfl (by kernel_rfl) (by kernel_rfl) (by kernel_rfl) (fun _ _ _ h => h) (Or.inl ⟨by rfl, ?_⟩) hHeld ?_
              rotate_left
              · (intro w hSw; (try dsimp only at hSw); go_simp; (try with_reducible rfl))
              (try simp only [Act.put, List.setIfInBounds_toArray, List.set_cons_zero, List.set_cons_succ])
              refine wpAnyH_take (i := 20) (oi := { dst := some 35, op := Op.fieldAddr 61 (Operand.tmp 34) 0, type := 0, pos := _, after := _, guard := some (10, true) }) (v := ?_) rfl (by kernel_rfl) (by kernel_rfl) (by kernel_rfl) (fun _ _ _ h => h) (Or.inl ⟨by rfl, ?_⟩) hHeld ?_
              rotate_left
              · (intro w hSw; (try dsimp only at hSw); go_simp; (try with_reducible rfl))
              (try simp only [Act.put, List.setIfInBounds_toArray, List.set_cons_zero, List.set_cons_succ])
              refine wpAnyH_take (i := 21) (oi := { dst := some 36, op := Op.load 3 (Operand.tmp 35), type := 3, pos := _, after := _, guard := some (10, true) }) (v := ?_) rfl (by kernel_rfl) (by kernel_rfl) (by kernel_rfl) (fun _ _ _ h => h) (Or.inl ⟨by rfl, ?_⟩) hHeld ?_
              rotate_left
              · (intro w hSw; (try dsimp only at hSw); go_simp; (try with_reducible rfl))
              (try simp only [Act.put, List.setIfInBounds_toArray, List.set_cons_zero, List.set_cons_succ])
              refine wpAnyH_take (i := 22) (oi := { dst := some 37, op := Op.binOp BinOp.leq 3 (Operand.tmp 30) (Operand.tmp 36) 3, type := 4, pos := _, after := _, guard := some (10, true) }) (v := ?_) rfl (by kernel_rfl) (by kernel_rfl) (by kernel_rfl) (fun _ _ _ h => h) (Or.inl ⟨by rfl, ?_⟩) hHeld ?_
              rotate_left
              · (intro w hSw; (try dsimp only at hSw); go_simp; (try with_reducible rfl))
              (try simp only [Act.put, List.setIfInBounds_toArray, List.set_cons_zero, List.set_cons_succ])
              refine wpAnyH_take (i := 23) (oi := { dst := some 38, op := Op.pick (Operand.tmp 25) (Operand.tmp 37) (Operand.const (Value.bool false)), type := 4, pos := _, after := _, guard := some (7, false) }) (v := ?_) rfl (by kernel_rfl) (by kernel_rfl) (by kernel_rfl) (fun _ _ _ h => h) (Or.inl ⟨by rfl, ?_⟩) hHeld ?_
              rotate_left
              · (intro w hSw; (try dsimp only at hSw); go_simp; (try with_reducible rfl))
              (try simp only [Act.put, List.setIfInBounds_toArray, List.set_cons_zero, List.set_cons_succ])
              refine wpAnyH_take (i := 24) (oi := { dst := some 39, op := Op.pick (Operand.tmp 22) (Operand.const (Value.bool true)) (Operand.tmp 38), type := 4, pos := _, after := _, guard := none }) (v := ?_) rfl (by kernel_rfl) (by kernel_rfl) (by kernel_rfl) (fun _ _ _ h => h) (Or.inl ⟨by rfl, ?_⟩) hHeld ?_
              rotate_left
              · (intro w hSw; (try dsimp only at hSw); go_simp; (try with_reducible rfl))
              (try simp only [Act.put, List.setIfInBounds_toArray, List.set_cons_zero, List.set_cons_succ])
              refine wpAnyH_take (i := 25) (oi := { dst := some 40, op := Op.move (Operand.tmp 39), type := 4, pos := _, after := _, guard := none }) (v := ?_) rfl (by kernel_rfl) (by kernel_rfl) (by kernel_rfl) (fun _ _ _ h => h) (Or.inl ⟨by rfl, ?_⟩) hHeld ?_
              rotate_left
              · (intro w hSw; (try dsimp only at hSw); go_simp; (try with_reducible rfl))
              (try simp only [Act.put, List.setIfInBounds_toArray, List.set_cons_zero, List.set_cons_succ])
              refine wpAnyH_take (i := 26) (oi := { dst := some 41, op := Op.move (Operand.tmp 0), type := 23, pos := _, after := _, guard := some (25, false) }) (v := ?_) rfl (by kernel_rfl) (by kernel_rfl) (by kernel_rfl) (fun _ _ _ h => h) (Or.inl ⟨by rfl, ?_⟩) hHeld ?_
              rotate_left
              · (intro w hSw; (try dsimp only at hSw); go_simp; (try with_reducible rfl))
              (try simp only [Act.put, List.setIfInBounds_toArray, List.set_cons_zero, List.set_cons_succ])
              refine wpAnyH_take (i := 27) (oi := { dst := some 42, op := Op.move (Operand.tmp 1), type := 39, pos := _, after := _, guard := some (25, false) }) (v := ?_) rfl (by kernel_rfl) (by kernel_rfl) (by kernel_rfl) (fun _ _ _ h => h) (Or.inl ⟨by rfl, ?_⟩) hHeld ?_
              rotate_left
              · (intro w hSw; (try dsimp only at hSw); go_simp; (try with_reducible rfl))
              (try simp only [Act.put, List.setIfInBounds_toArray, List.set_cons_zero, List.set_cons_succ])
              refine wpAnyH_take (i := 28) (oi := { dst := some 43, op := Op.move (Operand.tmp 5), type := 3, pos := _, after := _, guard := some (25, false) }) (v := ?_) rfl (by kernel_rfl) (by kernel_rfl) (by kernel_rfl) (fun _ _ _ h => h) (Or.inl ⟨by rfl, ?_⟩) hHeld ?_
              rotate_left
              · (intro w hSw; (try dsimp only at hSw); go_simp; (try with_reducible rfl))
              (try simp only [Act.put, List.setIfInBounds_toArray, List.set_cons_zero, List.set_cons_succ])
              refine wpAnyH_take (i := 29) (oi := { dst := some 44, op := Op.indexAddr 39 (Operand.tmp 42) (Operand.tmp 43), type := 0, pos := _, after := _, guard := some (25, false) }) (v := ?_) rfl (by kernel_rfl) (by kernel_rfl) (by kernel_rfl) (fun _ _ _ h => h) (Or.inl ⟨by rfl, ?_⟩) hHeld ?_
              rotate_left
              · (intro w hSw; (try dsimp only at hSw); go_simp; (try with_reducible rfl))
              (try simp only [Act.put, List.setIfInBounds_toArray, List.set_cons_zero, List.set_cons_succ])
              refine wpAnyH_take (i := 30) (oi := { dst := some 45, op := Op.fieldAddr 61 (Operand.tmp 44) 1, type := 0, pos := _, after := _, guard := some (25, false) }) (v := ?_) rfl (by kernel_rfl) (by kernel_rfl) (by kernel_rfl) (fun _ _ _ h => h) (Or.inl ⟨by rfl, ?_⟩) hHeld ?_
              rotate_left
              · (intro w hSw; (try dsimp only at hSw); go_simp; (try with_reducible rfl))
              (try simp only [Act.put, List.setIfInBounds_toArray, List.set_cons_zero, List.set_cons_succ])
              refine wpAnyH_take (i := 31) (oi := { dst := some 46, op := Op.load 25 (Operand.tmp 45), type := 25, pos := _, after := _, guard := some (25, false) }) (v := ?_) rfl (by kernel_rfl) (by kernel_rfl) (by kernel_rfl) (fun _ _ _ h => h) (Or.inl ⟨by rfl, ?_⟩) hHeld ?_
              rotate_left
              · (intro w hSw; (try dsimp only at hSw); go_simp; (try with_reducible rfl))
              (try simp only [Act.put, List.setIfInBounds_toArray, List.set_cons_zero, List.set_cons_succ])
              refine wpAnyH_ready (rs := [32]) (by kernel_rfl) (by simp) ?_
              refine AllReadyH.cons (o := { dst := some 47, op := Op.call { callee := Callee.value (Operand.func 69), args := #[Operand.tmp 41, Operand.tmp 46], argTypes := #[23, 25] }, type := 4, pos := _, after := _, guard := some (25, false) }) rfl (fun K hK => ?_) AllReadyH.nil
              (try go_simp)
              (refine (HVA.out _ (by first | exact hbZ | exact hbZ.drew | exact below_drewN hbZ _)).mono ?_; rintro e wz ⟨rfl, hbZ⟩; have d0 := (hbZ.cell (World.block_lt_of_cell? _ _ c0)).trans c0; have d1 := (hbZ.cell (World.block_lt_of_cell? _ _ c1)).trans c1; have d2 := (hbZ.cell (World.block_lt_of_cell? _ _ c2)).trans c2)
              refine hK.out _ _ ?_ (fun hHeld => ?_)
              · first | exact ⟨d0, d1, d2⟩ | exact ⟨d0, d1⟩
              clear hK K
              (try simp only [Act.put, List.setIfInBounds_toArray, List.set_cons_zero, List.set_cons_succ])
              refine wpAnyH_take (i := 33) (oi := { dst := some 48, op := Op.unOp UnOp.not 4 (Operand.tmp 47), type := 4, pos := _, after := _, guard := some (25, false) }) (v := ?_) rfl (by kernel_rfl) (by kernel_rfl) (by kernel_rfl) (fun _ _ _ h => h) (Or.inl ⟨by rfl, ?_⟩) hHeld ?_
              rotate_left
              · (intro w hSw; (try dsimp only at hSw); go_simp; (try with_reducible rfl))
              (try simp only [Act.put, List.setIfInBounds_toArray, List.set_cons_zero, List.set_cons_succ])
              refine wpAnyH_take (i := 34) (oi := { dst := some 49, op := Op.pick (Operand.tmp 40) (Operand.const (Value.bool true)) (Operand.tmp 48), type := 4, pos := _, after := _, guard := none }) (v := ?_) rfl (by kernel_rfl) (by kernel_rfl) (by kernel_rfl) (fun _ _ _ h => h) (Or.inl ⟨by rfl, ?_⟩) hHeld ?_
              rotate_left
              · (intro w hSw; (try dsimp only at hSw); go_simp; (try with_reducible rfl))
              (try simp only [Act.put, List.setIfInBounds_toArray, List.set_cons_zero, List.set_cons_succ])
              refine wpAnyH_take (i := 35) (oi := { dst := some 50, op := Op.move (Operand.tmp 49), type := 4, pos := _, after := _, guard := none }) (v := ?_) rfl (by kernel_rfl) (by kernel_rfl) (by kernel_rfl) (fun _ _ _ h => h) (Or.inl ⟨by rfl, ?_⟩) hHeld ?_
              rotate_left
              · (intro w hSw; (try dsimp only at hSw); go_simp; (try with_reducible rfl))
              (try simp only [Act.put, List.setIfInBounds_toArray, List.set_cons_zero, List.set_cons_succ])
              refine wpAnyH_take (i := 36) (oi := { dst := some 51, op := Op.move (Operand.tmp 1), type := 39, pos := _, after := _, guard := some (35, false) }) (v := ?_) rfl (by kernel_rfl) (by kernel_rfl) (by kernel_rfl) (fun _ _ _ h => h) (Or.inl ⟨by rfl, ?_⟩) hHeld ?_
              rotate_left
              · (intro w hSw; (try dsimp only at hSw); go_simp; (try with_reducible rfl))
              (try simp only [Act.put, List.setIfInBounds_toArray, List.set_cons_zero, List.set_cons_succ])
              refine wpAnyH_take (i := 37) (oi := { dst := some 52, op := Op.move (Operand.tmp 5), type := 3, pos := _, after := _, guard := some (35, false) }) (v := ?_) rfl (by kernel_rfl) (by kernel_rfl) (by kernel_rfl) (fun _ _ _ h => h) (Or.inl ⟨by rfl, ?_⟩) hHeld ?_
              rotate_left
              · (intro w hSw; (try dsimp only at hSw); go_simp; (try with_reducible rfl))
              (try simp only [Act.put, List.setIfInBounds_toArray, List.set_cons_zero, List.set_cons_succ])
              refine wpAnyH_take (i := 38) (oi := { dst := some 53, op := Op.indexAddr 39 (Operand.tmp 51) (Operand.tmp 52), type := 0, pos := _, after := _, guard := some (35, false) }) (v := ?_) rfl (by kernel_rfl) (by kernel_rfl) (by kernel_rfl) (fun _ _ _ h => h) (Or.inl ⟨by rfl, ?_⟩) hHeld ?_
              rotate_left
              · (intro w hSw; (try dsimp only at hSw); go_simp; (try with_reducible rfl))
              (try simp only [Act.put, List.setIfInBounds_toArray, List.set_cons_zero, List.set_cons_succ])
              refine wpAnyH_take (i := 39) (oi := { dst := some 54, op := Op.fieldAddr 61 (Operand.tmp 53) 1, type := 0, pos := _, after := _, guard := some (35, false) }) (v := ?_) rfl (by kernel_rfl) (by kernel_rfl) (by kernel_rfl) (fun _ _ _ h => h) (Or.inl ⟨by rfl, ?_⟩) hHeld ?_
              rotate_left
              · (intro w hSw; (try dsimp only at hSw); go_simp; (try with_reducible rfl))
              (try simp only [Act.put, List.setIfInBounds_toArray, List.set_cons_zero, List.set_cons_succ])
              refine wpAnyH_take (i := 40) (oi := { dst := some 55, op := Op.load 25 (Operand.tmp 54), type := 25, pos := _, after := _, guard := some (35, false) }) (v := ?_) rfl (by kernel_rfl) (by kernel_rfl) (by kernel_rfl) (fun _ _ _ h => h) (Or.inl ⟨by rfl, ?_⟩) hHeld ?_
              rotate_left
              · (intro w hSw; (try dsimp only at hSw); go_simp; (try with_reducible rfl))
              (try simp only [Act.put, List.setIfInBounds_toArray, List.set_cons_zero, List.set_cons_succ])
              refine wpAnyH_take (i := 41) (oi := { dst := some 56, op := Op.move (Operand.tmp 1), type := 39, pos := _, after := _, guard := some (35, false) }) (v := ?_) rfl (by kernel_rfl) (by kernel_rfl) (by kernel_rfl) (fun _ _ _ h => h) (Or.inl ⟨by rfl, ?_⟩) hHeld ?_
              rotate_left
              · (intro w hSw; (try dsimp only at hSw); go_simp; (try with_reducible rfl))
              (try simp only [Act.put, List.setIfInBounds_toArray, List.set_cons_zero, List.set_cons_succ])
              refine wpAnyH_take (i := 42) (oi := { dst := some 57, op := Op.move (Operand.tmp 5), type := 3, pos := _, after := _, guard := some (35, false) }) (v := ?_) rfl (by kernel_rfl) (by kernel_rfl) (by kernel_rfl) (fun _ _ _ h => h) (Or.inl ⟨by rfl, ?_⟩) hHeld ?_
              rotate_left
              · (intro w hSw; (try dsimp only at hSw); go_simp; (try with_reducible rfl))
              (try simp only [Act.put, List.setIfInBounds_toArray, List.set_cons_zero, List.set_cons_succ])
              refine wpAnyH_take (i := 43) (oi := { dst := some 58, op := Op.indexAddr 39 (Operand.tmp 56) (Operand.tmp 57), type := 0, pos := _, after := _, guard := some (35, false) }) (v := ?_) rfl (by kernel_rfl) (by kernel_rfl) (by kernel_rfl) (fun _ _ _ h => h) (Or.inl ⟨by rfl, ?_⟩) hHeld ?_
              rotate_left
              · (intro w hSw; (try dsimp only at hSw); go_simp; (try with_reducible rfl))
              (try simp only [Act.put, List.setIfInBounds_toArray, List.set_cons_zero, List.set_cons_succ])
              refine wpAnyH_take (i := 44) (oi := { dst := some 59, op := Op.fieldAddr 61 (Operand.tmp 58) 0, type := 0, pos := _, after := _, guard := some (35, false) }) (v := ?_) rfl (by kernel_rfl) (by kernel_rfl) (by kernel_rfl) (fun _ _ _ h => h) (Or.inl ⟨by rfl, ?_⟩) hHeld ?_
              rotate_left
              · (intro w hSw; (try dsimp only at hSw); go_simp; (try with_reducible rfl))
              (try simp only [Act.put, List.setIfInBounds_toArray, List.set_cons_zero, List.set_cons_succ])
              refine wpAnyH_take (i := 45) (oi := { dst := some 60, op := Op.load 3 (Operand.tmp 59), type := 3, pos := _, after := _, guard := some (35, false) }) (v := ?_) rfl (by kernel_rfl) (by kernel_rfl) (by kernel_rfl) (fun _ _ _ h => h) (Or.inl ⟨by rfl, ?_⟩) hHeld ?_
              rotate_left
              · (intro w hSw; (try dsimp only at hSw); go_simp; (try with_reducible rfl))
              (try simp only [Act.put, List.setIfInBounds_toArray, List.set_cons_zero, List.set_cons_succ])
              refine wpAnyH_ready (rs := [46]) (by kernel_rfl) (by simp) ?_
              refine AllReadyH.cons (o := { dst := some 61, op := Op.call { callee := Callee.value (Operand.func 87), args := #[Operand.tmp 60], argTypes := #[3] }, type := 25, pos := _, after := _, guard := some (35, false) }) rfl (fun K hK => ?_) AllReadyH.nil
              (try go_simp)
              (refine (HVR.out _ (by first | exact hbZ | exact hbZ.drew | exact below_drewN hbZ _)).mono ?_; rintro e wz ⟨uv, rfl, huv, hbZ⟩; have d0 := (hbZ.cell (World.block_lt_of_cell? _ _ c0)).trans c0; have d1 := (hbZ.cell (World.block_lt_of_cell? _ _ c1)).trans c1; have d2 := (hbZ.cell (World.block_lt_of_cell? _ _ c2)).trans c2)
              refine hK.out _ _ ?_ (fun hHeld => ?_)
              · first | exact ⟨d0, d1, d2⟩ | exact ⟨d0, d1⟩
              clear hK K
              (try simp only [Act.put, List.setIfInBounds_toArray, List.set_cons_zero, List.set_cons_succ])
              refine wpAnyH_ready (rs := [47]) (by kernel_rfl) (by simp) ?_
              refine AllReadyH.cons (o := { dst := some 62, op := Op.call { callee := Callee.value (Operand.func 24), args := #[Operand.tmp 55, Operand.tmp 61], argTypes := #[25, 25] }, type := 4, pos := _, after := _, guard := some (35, false) }) rfl (fun K hK => ?_) AllReadyH.nil
              (try go_simp)
              (refine (HSM.out _ uv hbZ huv).mono ?_; rintro e wz ⟨rfl, hbZ⟩; have d0 := (hbZ.cell (World.block_lt_of_cell? _ _ c0)).trans c0; have d1 := (hbZ.cell (World.block_lt_of_cell? _ _ c1)).trans c1; have d2 := (hbZ.cell (World.block_lt_of_cell? _ _ c2)).trans c2)
              refine hK.out _ _ ?_ (fun hHeld => ?_)
              · first | exact ⟨d0, d1, d2⟩ | exact ⟨d0, d1⟩
              clear hK K
              (try simp only [Act.put, List.setIfInBounds_toArray, List.set_cons_zero, List.set_cons_succ])
              refine wpAnyH_take (i := 48) (oi := { dst := some 63, op := Op.pick (Operand.tmp 50) (Operand.const (Value.bool true)) (Operand.tmp 62), type := 4, pos := _, after := _, guard := none }) (v := ?_) rfl (by kernel_rfl) (by kernel_rfl) (by kernel_rfl) (fun _ _ _ h => h) (Or.inl ⟨by rfl, ?_⟩) hHeld ?_
              rotate_left
              · (intro w hSw; (try dsimp only at hSw); go_simp; (try with_reducible rfl))
              (try simp only [Act.put, List.setIfInBounds_toArray, List.set_cons_zero, List.set_cons_succ])
              refine wpAnyH_done (by kernel_rfl) ?_ _
              cases hz : decide (p = [-x - 1])
              · have HBB : Hid (bndB s l k = true) := hid (HYES.out ⟨hxx.out, (fun _ => by rw [HY.out]; have := HLE.out; simp only; omega), HT.out, of_decide_eq_false hz⟩)
                clear hz
                go_wp2
                go_roundw
                case rel =>
                  refine ⟨k + 1, by omega, by go_num, HB.out.trans ((by first | exact hbZ | exact below_drewN hbZ 1 : Below wr.heap.size wr _).mono HB.out.size), fun q hq => ?_⟩
                  by_cases hqk : q = k
                  · rw [hqk]; exact HBB.out
                  · exact HR.out q (by omega)
                case measure => simp [intOf]; omega
              · have HF := hid (HNO.out (fun hh => hh.2.2.2 (of_decide_eq_true hz)))
                clear hz
                go_wp2
                go_ret
                exact ⟨ret_bool HF.out.symm, HB.out.trans ((by first | exact hbZ | exact below_drewN hbZ 1 : Below wr.heap.size wr _).mono HB.out.size)⟩
        · obtain rfl : k = 0 := by omega
          have hkd : decide ((0 : Int) < ((0 : Nat) : Int)) = false := rfl
          clear HP hk0
          cases hva : termB s p
          · have HF := hid (HNO.out (fun hh => by rw [hva] at hh; cases hh.2.2.1))
            simp only [hva] at HVA
            clear hva
            simp only [Nat.zero_mul, Nat.add_zero] at c0 c1 d0 d1
            refine wp_region_held_drew (S := fun w' => w'.cell? ⟨cb, co, none⟩ = some (.int .i64 x) ∧ w'.cell? ⟨cb, co + 1, none⟩ = some (.slice ua p.length uc)) (by kernel_rfl) ?_ (fun hHeld => ?_)
            · first | exact ⟨d0, d1, d2⟩ | exact ⟨d0, d1⟩
            refine wpAnyH_take (i := 0) (oi := { dst := some 15, op := Op.move (Operand.tmp 1), type := 39, pos := _, after := _, guard := none }) (v := ?_) rfl (by kernel_rfl) (by kernel_rfl) (by kernel_rfl) (fun _ _ _ h => h) (Or.inl ⟨by rfl, ?_⟩) hHeld ?_
            rotate_left
            · (intro w hSw; (try dsimp only at hSw); go_simp; (try with_reducible rfl))
            (try simp only [Act.put, List.setIfInBounds_toArray, List.set_cons_zero, List.set_cons_succ])
            refine wpAnyH_take (i := 1) (oi := { dst := some 16, op := Op.move (Operand.tmp 5), type := 3, pos := _, after := _, guard := none }) (v := ?_) rfl (by kernel_rfl) (by kernel_rfl) (by kernel_rfl) (fun _ _ _ h => h) (Or.inl ⟨by rfl, ?_⟩) hHeld ?_
            rotate_left
            · (intro w hSw; (try dsimp only at hSw); go_simp; (try with_reducible rfl))
            (try simp only [Act.put, List.setIfInBounds_toArray, List.set_cons_zero, List.set_cons_succ])
            refine wpAnyH_take (i := 2) (oi := { dst := some 17, op := Op.indexAddr 39 (Operand.tmp 15) (Operand.tmp 16), type := 0, pos := _, after := _, guard := none }) (v := ?_) rfl (by kernel_rfl) (by kernel_rfl) (by kernel_rfl) (fun _ _ _ h => h) (Or.inl ⟨by rfl, ?_⟩) hHeld ?_
            rotate_left
            · (intro w hSw; (try dsimp only at hSw); go_simp; (try with_reducible rfl))
            (try simp only [Act.put, List.setIfInBounds_toArray, List.set_cons_zero, List.set_cons_succ])
            refine wpAnyH_take (i := 3) (oi := { dst := some 18, op := Op.fieldAddr 61 (Operand.tmp 17) 0, type := 0, pos := _, after := _, guard := none }) (v := ?_) rfl (by kernel_rfl) (by kernel_rfl) (by kernel_rfl) (fun _ _ _ h => h) (Or.inl ⟨by rfl, ?_⟩) hHeld ?_
            rotate_left
            · (intro w hSw; (try dsimp only at hSw); go_simp; (try with_reducible rfl))
            (try simp only [Act.put, List.setIfInBounds_toArray, List.set_cons_zero, List.set_cons_succ])
            refine wpAnyH_take (i := 4) (oi := { dst := some 19, op := Op.load 3 (Operand.tmp 18), type := 3, pos := _, after := _, guard := none }) (v := ?_) rfl (by kernel_rfl) (by kernel_rfl) (by kernel_rfl) (fun _ _ _ h => h) (Or.inl ⟨by rfl, ?_⟩) hHeld ?_
            rotate_left
            · (intro w hSw; (try dsimp only at hSw); go_simp; (try with_reducible rfl))
            (try simp only [Act.put, List.setIfInBounds_toArray, List.set_cons_zero, List.set_cons_succ])
            refine wpAnyH_ready (rs := [5]) (by kernel_rfl) (by simp) ?_
            refine AllReadyH.cons (o := { dst := some 20, op := Op.call { callee := Callee.value (Operand.func 84), args := #[Operand.tmp 19, Operand.const (Value.int IntKind.i64 0), Operand.const (Value.int IntKind.i64 11)], argTypes := #[3, 3, 3] }, type := 4, pos := _, after := _, guard := none }) rfl (fun K hK => ?_) AllReadyH.nil
            (try go_simp)
            (refine (HIN.out _).mono ?_; rintro e wz ⟨rfl, rfl⟩)
            refine hK.out _ _ ?_ (fun hHeld => ?_)
            · first | exact ⟨d0, d1, d2⟩ | exact ⟨d0, d1⟩
            clear hK K
            (try simp only [Act.put, List.setIfInBounds_toArray, List.set_cons_zero, List.set_cons_succ])
            refine wpAnyH_take (i := 6) (oi := { dst := some 21, op := Op.unOp UnOp.not 4 (Operand.tmp 20), type := 4, pos := _, after := _, guard := none }) (v := ?_) rfl (by kernel_rfl) (by kernel_rfl) (by kernel_rfl) (fun _ _ _ h => h) (Or.inl ⟨by rfl, ?_⟩) hHeld ?_
            rotate_left
            · (intro w hSw; (try dsimp only at hSw); go_simp; (try with_reducible rfl))
            (try simp only [Act.put, List.setIfInBounds_toArray, List.set_cons_zero, List.set_cons_succ])
            refine wpAnyH_take (i := 7) (oi := { dst := some 22, op := Op.move (Operand.tmp 21), type := 4, pos := _, after := _, guard := none }) (v := ?_) rfl (by kernel_rfl) (by kernel_rfl) (by kernel_rfl) (fun _ _ _ h => h) (Or.inl ⟨by rfl, ?_⟩) hHeld ?_
            rotate_left
            · (intro w hSw; (try dsimp only at hSw); go_simp; (try with_reducible rfl))
            (try simp only [Act.put, List.setIfInBounds_toArray, List.set_cons_zero, List.set_cons_succ])
            refine wpAnyH_take (i := 8) (oi := { dst := some 23, op := Op.move (Operand.tmp 5), type := 3, pos := _, after := _, guard := some (7, false) }) (v := ?_) rfl (by kernel_rfl) (by kernel_rfl) (by kernel_rfl) (fun _ _ _ h => h) (Or.inl ⟨by rfl, ?_⟩) hHeld ?_
            rotate_left
            · (intro w hSw; (try dsimp only at hSw); go_simp; (try with_reducible rfl))
            (try simp only [Act.put, List.setIfInBounds_toArray, List.set_cons_zero, List.set_cons_succ])
            refine wpAnyH_take (i := 9) (oi := { dst := some 24, op := Op.binOp BinOp.gtr 3 (Operand.tmp 23) (Operand.const (Value.int IntKind.i64 0)) 3, type := 4, pos := _, after := _, guard := some (7, false) }) (v := ?_) rfl (by kernel_rfl) (by kernel_rfl) (by kernel_rfl) (fun _ _ _ h => h) (Or.inl ⟨by rfl, ?_⟩) hHeld ?_
            rotate_left
            · (intro w hSw; (try dsimp only at hSw); go_simp; (try with_reducible rfl))
            (try simp only [Act.put, List.setIfInBounds_toArray, List.set_cons_zero, List.set_cons_succ])
            refine wpAnyH_take (i := 10) (oi := { dst := some 25, op := Op.move (Operand.tmp 24), type := 4, pos := _, after := _, guard := some (7, false) }) (v := ?_) rfl (by kernel_rfl) (by kernel_rfl) (by kernel_rfl) (fun _ _ _ h => h) (Or.inl ⟨by rfl, ?_⟩) hHeld ?_
            rotate_left
            · (intro w hSw; (try dsimp only at hSw); go_simp; (try with_reducible rfl))
            (try simp only [Act.put, List.setIfInBounds_toArray, List.set_cons_zero, List.set_cons_succ])
            refine wpAnyH_take (i := 11) (oi := { dst := some 26, op := Op.move (Operand.tmp 1), type := 39, pos := _, after := _, guard := some (10, true) }) (v := undef) rfl (by kernel_rfl) (by kernel_rfl) (by kernel_rfl) (fun _ _ _ h => h) (Or.inr ⟨by rfl, rfl⟩) hHeld ?_
            (try simp only [Act.put, List.setIfInBounds_toArray, List.set_cons_zero, List.set_cons_succ])
            refine wpAnyH_take (i := 12) (oi := { dst := some 27, op := Op.move (Operand.tmp 5), type := 3, pos := _, after := _, guard := some (10, true) }) (v := undef) rfl (by kernel_rfl) (by kernel_rfl) (by kernel_rfl) (fun _ _ _ h => h) (Or.inr ⟨by rfl, rfl⟩) hHeld ?_
            (try simp only [Act.put, List.setIfInBounds_toArray, List.set_cons_zero, List.set_cons_succ])
            refine wpAnyH_take (i := 13) (oi := { dst := some 28, op := Op.indexAddr 39 (Operand.tmp 26) (Operand.tmp 27), type := 0, pos := _, after := _, guard := some (10, true) }) (v := undef) rfl (by kernel_rfl) (by kernel_rfl) (by kernel_rfl) (fun _ _ _ h => h) (Or.inr ⟨by rfl, rfl⟩) hHeld ?_
            (try simp only [Act.put, List.setIfInBounds_toArray, List.set_cons_zero, List.set_cons_succ])
            refine wpAnyH_take (i := 14) (oi := { dst := some 29, op := Op.fieldAddr 61 (Operand.tmp 28) 0, type := 0, pos := _, after := _, guard := some (10, true) }) (v := undef) rfl (by kernel_rfl) (by kernel_rfl) (by kernel_rfl) (fun _ _ _ h => h) (Or.inr ⟨by rfl, rfl⟩) hHeld ?_
            (try simp only [Act.put, List.setIfInBounds_toArray, List.set_cons_zero, List.set_cons_succ])
            refine wpAnyH_take (i := 15) (oi := { dst := some 30, op := Op.load 3 (Operand.tmp 29), type := 3, pos := _, after := _, guard := some (10, true) }) (v := undef) rfl (by kernel_rfl) (by kernel_rfl) (by kernel_rfl) (fun _ _ _ h => h) (Or.inr ⟨by rfl, rfl⟩) hHeld ?_
            (try simp only [Act.put, List.setIfInBounds_toArray, List.set_cons_zero, List.set_cons_succ])
            refine wpAnyH_take (i := 16) (oi := { dst := some 31, op := Op.move (Operand.tmp 1), type := 39, pos := _, after := _, guard := some (10, true) }) (v := undef) rfl (by kernel_rfl) (by kernel_rfl) (by kernel_rfl) (fun _ _ _ h => h) (Or.inr ⟨by rfl, rfl⟩) hHeld ?_
            (try simp only [Act.put, List.setIfInBounds_toArray, List.set_cons_zero, List.set_cons_succ])
            refine wpAnyH_take (i := 17) (oi := { dst := some 32, op := Op.move (Operand.tmp 5), type := 3, pos := _, after := _, guard := some (10, true) }) (v := undef) rfl (by kernel_rfl) (by kernel_rfl) (by kernel_rfl) (fun _ _ _ h => h) (Or.inr ⟨by rfl, rfl⟩) hHeld ?_
            (try simp only [Act.put, List.setIfInBounds_toArray, List.set_cons_zero, List.set_cons_succ])
            refine wpAnyH_take (i := 18) (oi := { dst := some 33, op := Op.binOp BinOp.sub 3 (Operand.tmp 32) (Operand.const (Value.int IntKind.i64 1)) 3, type := 3, pos := _, after := _, guard := some (10, true) }) (v := undef) rfl (by kernel_rfl) (by kernel_rfl) (by kernel_rfl) (fun _ _ _ h => h) (Or.inr ⟨by rfl, rfl⟩) hHeld ?_
            (try simp only [Act.put, List.setIfInBounds_toArray, List.set_cons_zero, List.set_cons_succ])
            refine wpAnyH_take (i := 19) (oi := { dst := some 34, op := Op.indexAddr 39 (Operand.tmp 31) (Operand.tmp 33), type := 0, pos := _, after := _, guard := some (10, true) }) (v := undef) rfl (by kernel_rfl) (by kernel_rfl) (by kernel_rfl) (fun _ _ _ h => h) (Or.inr ⟨by rfl, rfl⟩) hHeld ?_
            (try simp only [Act.put, List.setIfInBounds_toArray, List.set_cons_zero, List.set_cons_succ])
            refine wpAnyH_take (i := 20) (oi := { dst := some 35, op := Op.fieldAddr 61 (Operand.tmp 34) 0, type := 0, pos := _, after := _, guard := some (10, true) }) (v := undef) rfl (by kernel_rfl) (by kernel_rfl) (by kernel_rfl) (fun _ _ _ h => h) (Or.inr ⟨by rfl, rfl⟩) hHeld ?_
            (try simp only [Act.put, List.setIfInBounds_toArray, List.set_cons_zero, List.set_cons_succ])
            refine wpAnyH_take (i := 21) (oi := { dst := some 36, op := Op.load 3 (Operand.tmp 35), type := 3, pos := _, after := _, guard := some (10, true) }) (v := undef) rfl (by kernel_rfl) (by kernel_rfl) (by kernel_rfl) (fun _ _ _ h => h) (Or.inr ⟨by rfl, rfl⟩) hHeld ?_
            (try simp only [Act.put, List.setIfInBounds_toArray, List.set_cons_zero, List.set_cons_succ])
            refine wpAnyH_take (i := 22) (oi := { dst := some 37, op := Op.binOp BinOp.leq 3 (Operand.tmp 30) (Operand.tmp 36) 3, type := 4, pos := _, after := _, guard := some (10, true) }) (v := undef) rfl (by kernel_rfl) (by kernel_rfl) (by kernel_rfl) (fun _ _ _ h => h) (Or.inr ⟨by rfl, rfl⟩) hHeld ?_
            (try simp only [Act.put, List.setIfInBounds_toArray, List.set_cons_zero, List.set_cons_succ])
            refine wpAnyH_take (i := 23) (oi := { dst := some 38, op := Op.pick (Operand.tmp 25) (Operand.tmp 37) (Operand.const (Value.bool false)), type := 4, pos := _, after := _, guard := some (7, false) }) (v := ?_) rfl (by kernel_rfl) (by kernel_rfl) (by kernel_rfl) (fun _ _ _ h => h) (Or.inl ⟨by rfl, ?_⟩) hHeld ?_
            rotate_left
            · (intro w hSw; (try dsimp only at hSw); go_simp; (try with_reducible rfl))
            (try simp only [Act.put, List.setIfInBounds_toArray, List.set_cons_zero, List.set_cons_succ])
            refine wpAnyH_take (i := 24) (oi := { dst := some 39, op := Op.pick (Operand.tmp 22) (Operand.const (Value.bool true)) (Operand.tmp 38), type := 4, pos := _, after := _, guard := none }) (v := ?_) rfl (by kernel_rfl) (by kernel_rfl) (by kernel_rfl) (fun _ _ _ h => h) (Or.inl ⟨by rfl, ?_⟩) hHeld ?_
            rotate_left
            · (intro w hSw; (try dsimp only at hSw); go_simp; (try with_reducible rfl))
            (try simp only [Act.put, List.setIfInBounds_toArray, List.set_cons_zero, List.set_cons_succ])
            refine wpAnyH_take (i := 25) (oi := { dst := some 40, op := Op.move (Operand.tmp 39), type := 4, pos := _, after := _, guard := none }) (v := ?_) rfl (by kernel_rfl) (by kernel_rfl) (by kernel_rfl) (fun _ _ _ h => h) (Or.inl ⟨by rfl, ?_⟩) hHeld ?_
            rotate_left
            · (intro w hSw; (try dsimp only at hSw); go_simp; (try with_reducible rfl))
            (try simp only [Act.put, List.setIfInBounds_toArray, List.set_cons_zero, List.set_cons_succ])
            refine wpAnyH_take (i := 26) (oi := { dst := some 41, op := Op.move (Operand.tmp 0), type := 23, pos := _, after := _, guard := some (25, false) }) (v := ?_) rfl (by kernel_rfl) (by kernel_rfl) (by kernel_rfl) (fun _ _ _ h => h) (Or.inl ⟨by rfl, ?_⟩) hHeld ?_
            rotate_left
            · (intro w hSw; (try dsimp only at hSw); go_simp; (try with_reducible rfl))
            (try simp only [Act.put, List.setIfInBounds_toArray, List.set_cons_zero, List.set_cons_succ])
            refine wpAnyH_take (i := 27) (oi := { dst := some 42, op := Op.move (Operand.tmp 1), type := 39, pos := _, after := _, guard := some (25, false) }) (v := ?_) rfl (by kernel_rfl) (by kernel_rfl) (by kernel_rfl) (fun _ _ _ h => h) (Or.inl ⟨by rfl, ?_⟩) hHeld ?_
            rotate_left
            · (intro w hSw; (try dsimp only at hSw); go_simp; (try with_reducible rfl))
            (try simp only [Act.put, List.setIfInBounds_toArray, List.set_cons_zero, List.set_cons_succ])
            refine wpAnyH_take (i := 28) (oi := { dst := some 43, op := Op.move (Operand.tmp 5), type := 3, pos := _, after := _, guard := some (25, false) }) (v := ?_) rfl (by kernel_rfl) (by kernel_rfl) (by kernel_rfl) (fun _ _ _ h => h) (Or.inl ⟨by rfl, ?_⟩) hHeld ?_
            rotate_left
            · (intro w hSw; (try dsimp only at hSw); go_simp; (try with_reducible rfl))
            (try simp only [Act.put, List.setIfInBounds_toArray, List.set_cons_zero, List.set_cons_succ])
            refine wpAnyH_take (i := 29) (oi := { dst := some 44, op := Op.indexAddr 39 (Operand.tmp 42) (Operand.tmp 43), type := 0, pos := _, after := _, guard := some (25, false) }) (v := ?_) rfl (by kernel_rfl) (by kernel_rfl) (by kernel_rfl) (fun _ _ _ h => h) (Or.inl ⟨by rfl, ?_⟩) hHeld ?_
            rotate_left
            · (intro w hSw; (try dsimp only at hSw); go_simp; (try with_reducible rfl))
            (try simp only [Act.put, List.setIfInBounds_toArray, List.set_cons_zero, List.set_cons_succ])
            refine wpAnyH_take (i := 30) (oi := { dst := some 45, op := Op.fieldAddr 61 (Operand.tmp 44) 1, type := 0, pos := _, after := _, guard := some (25, false) }) (v := ?_) rfl (by kernel_rfl) (by kernel_rfl) (by kernel_rfl) (fun _ _ _ h => h) (Or.inl ⟨by rfl, ?_⟩) hHeld ?_
            rotate_left
            · (intro w hSw; (try dsimp only at hSw); go_simp; (try with_reducible rfl))
            (try simp only [Act.put, List.setIfInBounds_toArray, List.set_cons_zero, List.set_cons_succ])
            refine wpAnyH_take (i := 31) (oi := { dst := some 46, op := Op.load 25 (Operand.tmp 45), type := 25, pos := _, after := _, guard := some (25, false) }) (v := ?_) rfl (by kernel_rfl) (by kernel_rfl) (by kernel_rfl) (fun _ _ _ h => h) (Or.inl ⟨by rfl, ?_⟩) hHeld ?_
            rotate_left
            · (intro w hSw; (try dsimp only at hSw); go_simp; (try with_reducible rfl))
            (try simp only [Act.put, List.setIfInBounds_toArray, List.set_cons_zero, List.set_cons_succ])
            refine wpAnyH_ready (rs := [32]) (by kernel_rfl) (by simp) ?_
            refine AllReadyH.cons (o := { dst := some 47, op := Op.call { callee := Callee.value (Operand.func 69), args := #[Operand.tmp 41, Operand.tmp 46], argTypes := #[23, 25] }, type := 4, pos := _, after := _, guard := some (25, false) }) rfl (fun K hK => ?_) AllReadyH.nil
            (try go_simp)
            (refine (HVA.out _ (by first | exact hbZ | exact hbZ.drew | exact below_drewN hbZ _)).mono ?_; rintro e wz ⟨rfl, hbZ⟩; have d0 := (hbZ.cell (World.block_lt_of_cell? _ _ c0)).trans c0; have d1 := (hbZ.cell (World.block_lt_of_cell? _ _ c1)).trans c1)
            refine hK.out _ _ ?_ (fun hHeld => ?_)
            · first | exact ⟨d0, d1, d2⟩ | exact ⟨d0, d1⟩
            clear hK K
            (try simp only [Act.put, List.setIfInBounds_toArray, List.set_cons_zero, List.set_cons_succ])
            refine wpAnyH_take (i := 33) (oi := { dst := some 48, op := Op.unOp UnOp.not 4 (Operand.tmp 47), type := 4, pos := _, after := _, guard := some (25, false) }) (v := ?_) rfl (by kernel_rfl) (by kernel_rfl) (by kernel_rfl) (fun _ _ _ h => h) (Or.inl ⟨by rfl, ?_⟩) hHeld ?_
            rotate_left
            · (intro w hSw; (try dsimp only at hSw); go_simp; (try with_reducible rfl))
            (try simp only [Act.put, List.setIfInBounds_toArray, List.set_cons_zero, List.set_cons_succ])
            refine wpAnyH_take (i := 34) (oi := { dst := some 49, op := Op.pick (Operand.tmp 40) (Operand.const (Value.bool true)) (Operand.tmp 48), type := 4, pos := _, after := _, guard := none }) (v := ?_) rfl (by kernel_rfl) (by kernel_rfl) (by kernel_rfl) (fun _ _ _ h => h) (Or.inl ⟨by rfl, ?_⟩) hHeld ?_
            rotate_left
            · (intro w hSw; (try dsimp only at hSw); go_simp; (try with_reducible rfl))
            (try simp only [Act.put, List.setIfInBounds_toArray, List.set_cons_zero, List.set_cons_succ])
            refine wpAnyH_take (i := 35) (oi := { dst := some 50, op := Op.move (Operand.tmp 49), type := 4, pos := _, after := _, guard := none }) (v := ?_) rfl (by kernel_rfl) (by kernel_rfl) (by kernel_rfl) (fun _ _ _ h => h) (Or.inl ⟨by rfl, ?_⟩) hHeld ?_
            rotate_left
            · (intro w hSw; (try dsimp only at hSw); go_simp; (try with_reducible rfl))
            (try simp only [Act.put, List.setIfInBounds_toArray, List.set_cons_zero, List.set_cons_succ])
            refine wpAnyH_take (i := 36) (oi := { dst := some 51, op := Op.move (Operand.tmp 1), type := 39, pos := _, after := _, guard := some (35, false) }) (v := undef) rfl (by kernel_rfl) (by kernel_rfl) (by kernel_rfl) (fun _ _ _ h => h) (Or.inr ⟨by rfl, rfl⟩) hHeld ?_
            (try simp only [Act.put, List.setIfInBounds_toArray, List.set_cons_zero, List.set_cons_succ])
            refine wpAnyH_take (i := 37) (oi := { dst := some 52, op := Op.move (Operand.tmp 5), type := 3, pos := _, after := _, guard := some (35, false) }) (v := undef) rfl (by kernel_rfl) (by kernel_rfl) (by kernel_rfl) (fun _ _ _ h => h) (Or.inr ⟨by rfl, rfl⟩) hHeld ?_
            (try simp only [Act.put, List.setIfInBounds_toArray, List.set_cons_zero, List.set_cons_succ])
            refine wpAnyH_take (i := 38) (oi := { dst := some 53, op := Op.indexAddr 39 (Operand.tmp 51) (Operand.tmp 52), type := 0, pos := _, after := _, guard := some (35, false) }) (v := undef) rfl (by kernel_rfl) (by kernel_rfl) (by kernel_rfl) (fun _ _ _ h => h) (Or.inr ⟨by rfl, rfl⟩) hHeld ?_
            (try simp only [Act.put, List.setIfInBounds_toArray, List.set_cons_zero, List.set_cons_succ])
            refine wpAnyH_take (i := 39) (oi := { dst := some 54, op := Op.fieldAddr 61 (Operand.tmp 53) 1, type := 0, pos := _, after := _, guard := some (35, false) }) (v := undef) rfl (by kernel_rfl) (by kernel_rfl) (by kernel_rfl) (fun _ _ _ h => h) (Or.inr ⟨by rfl, rfl⟩) hHeld ?_
            (try simp only [Act.put, List.setIfInBounds_toArray, List.set_cons_zero, List.set_cons_succ])
            refine wpAnyH_take (i := 40) (oi := { dst := some 55, op := Op.load 25 (Operand.tmp 54), type := 25, pos := _, after := _, guard := some (35, false) }) (v := undef) rfl (by kernel_rfl) (by kernel_rfl) (by kernel_rfl) (fun _ _ _ h => h) (Or.inr ⟨by rfl, rfl⟩) hHeld ?_
            (try simp only [Act.put, List.setIfInBounds_toArray, List.set_cons_zero, List.set_cons_succ])
            refine wpAnyH_take (i := 41) (oi := { dst := some 56, op := Op.move (Operand.tmp 1), type := 39, pos := _, after := _, guard := some (35, false) }) (v := undef) rfl (by kernel_rfl) (by kernel_rfl) (by kernel_rfl) (fun _ _ _ h => h) (Or.inr ⟨by rfl, rfl⟩) hHeld ?_
            (try simp only [Act.put, List.setIfInBounds_toArray, List.set_cons_zero, List.set_cons_succ])
            refine wpAnyH_take (i := 42) (oi := { dst := some 57, op := Op.move (Operand.tmp 5), type := 3, pos := _, after := _, guard := some (35, false) }) (v := undef) rfl (by kernel_rfl) (by kernel_rfl) (by kernel_rfl) (fun _ _ _ h => h) (Or.inr ⟨by rfl, rfl⟩) hHeld ?_
            (try simp only [Act.put, List.setIfInBounds_toArray, List.set_cons_zero, List.set_cons_succ])
            refine wpAnyH_take (i := 43) (oi := { dst := some 58, op := Op.indexAddr 39 (Operand.tmp 56) (Operand.tmp 57), type := 0, pos := _, after := _, guard := some (35, false) }) (v := undef) rfl (by kernel_rfl) (by kernel_rfl) (by kernel_rfl) (fun _ _ _ h => h) (Or.inr ⟨by rfl, rfl⟩) hHeld ?_
            (try simp only [Act.put, List.setIfInBounds_toArray, List.set_cons_zero, List.set_cons_succ])
            refine wpAnyH_take (i := 44) (oi := { dst := some 59, op := Op.fieldAddr 61 (Operand.tmp 58) 0, type := 0, pos := _, after := _, guard := some (35, false) }) (v := undef) rfl (by kernel_rfl) (by kernel_rfl) (by kernel_rfl) (fun _ _ _ h => h) (Or.inr ⟨by rfl, rfl⟩) hHeld ?_
            (try simp only [Act.put, List.setIfInBounds_toArray, List.set_cons_zero, List.set_cons_succ])
            refine wpAnyH_take (i := 45) (oi := { dst := some 60, op := Op.load 3 (Operand.tmp 59), type := 3, pos := _, after := _, guard := some (35, false) }) (v := undef) rfl (by kernel_rfl) (by kernel_rfl) (by kernel_rfl) (fun _ _ _ h => h) (Or.inr ⟨by rfl, rfl⟩) hHeld ?_
            (try simp only [Act.put, List.setIfInBounds_toArray, List.set_cons_zero, List.set_cons_succ])
            refine wpAnyH_take (i := 46) (oi := { dst := some 61, op := Op.call { callee := Callee.value (Operand.func 87), args := #[Operand.tmp 60], argTypes := #[3] }, type := 25, pos := _, after := _, guard := some (35, false) }) (v := undef) rfl (by kernel_rfl) (by kernel_rfl) (by kernel_rfl) (fun _ _ _ h => h) (Or.inr ⟨by rfl, rfl⟩) hHeld ?_
            (try simp only [Act.put, List.setIfInBounds_toArray, List.set_cons_zero, List.set_cons_succ])
            refine wpAnyH_take (i := 47) (oi := { dst := some 62, op := Op.call { callee := Callee.value (Operand.func 24), args := #[Operand.tmp 55, Operand.tmp 61], argTypes := #[25, 25] }, type := 4, pos := _, after := _, guard := some (35, false) }) (v := undef) rfl (by kernel_rfl) (by kernel_rfl) (by kernel_rfl) (fun _ _ _ h => h) (Or.inr ⟨by rfl, rfl⟩) hHeld ?_
            (try simp only [Act.put, List.setIfInBounds_toArray, List.set_cons_zero, List.set_cons_succ])
            refine wpAnyH_take (i := 48) (oi := { dst := some 63, op := Op.pick (Operand.tmp 50) (Operand.const (Value.bool true)) (Operand.tmp 62), type := 4, pos := _, after := _, guard := none }) (v := ?_) rfl (by kernel_rfl) (by kernel_rfl) (by kernel_rfl) (fun _ _ _ h => h) (Or.inl ⟨by rfl, ?_⟩) hHeld ?_
            rotate_left
            · (intro w hSw; (try dsimp only at hSw); go_simp; (try with_reducible rfl))
            (try simp only [Act.put, List.setIfInBounds_toArray, List.set_cons_zero, List.set_cons_succ])
            refine wpAnyH_done (by kernel_rfl) ?_ _
            go_wp2
            go_ret
            exact ⟨ret_bool HF.out.symm, HB.out.trans ((by first | exact hbZ | exact below_drewN hbZ 1 : Below wr.heap.size wr _).mono HB.out.size)⟩
          · have HT := hid hva
            simp only [hva] at HVA
            clear hva
            simp only [Nat.zero_mul, Nat.add_zero] at c0 c1 d0 d1
            refine wp_region_held_drew (S := fun w' => w'.cell? ⟨cb, co, none⟩ = some (.int .i64 x) ∧ w'.cell? ⟨cb, co + 1, none⟩ = some (.slice ua p.length uc)) (by kernel_rfl) ?_ (fun hHeld => ?_)
            · first | exact ⟨d0, d1, d2⟩ | exact ⟨d0, d1⟩
            refine wpAnyH_take (i := 0) (oi := { dst := some 15, op := Op.move (Operand.tmp 1), type := 39, pos := _, after := _, guard := none }) (v := ?_) rfl (by kernel_rfl) (by kernel_rfl) (by kernel_rfl) (fun _ _ _ h => h) (Or.inl ⟨by rfl, ?_⟩) hHeld ?_
            rotate_left
            · (intro w hSw; (try dsimp only at hSw); go_simp; (try with_reducible rfl))
            (try simp only [Act.put, List.setIfInBounds_toArray, List.set_cons_zero, List.set_cons_succ])
            refine wpAnyH_take (i := 1) (oi := { dst := some 16, op := Op.move (Operand.tmp 5), type := 3, pos := _, after := _, guard := none }) (v := ?_) rfl (by kernel_rfl) (by kernel_rfl) (by kernel_rfl) (fun _ _ _ h => h) (Or.inl ⟨by rfl, ?_⟩) hHeld ?_
            rotate_left
            · (intro w hSw; (try dsimp only at hSw); go_simp; (try with_reducible rfl))
            (try simp only [Act.put, List.setIfInBounds_toArray, List.set_cons_zero, List.set_cons_succ])
            refine wpAnyH_take (i := 2) (oi := { dst := some 17, op := Op.indexAddr 39 (Operand.tmp 15) (Operand.tmp 16), type := 0, pos := _, after := _, guard := none }) (v := ?_) rfl (by kernel_rfl) (by kernel_rfl) (by kernel_rfl) (fun _ _ _ h => h) (Or.inl ⟨by rfl, ?_⟩) hHeld ?_
            rotate_left
            · (intro w hSw; (try dsimp only at hSw); go_simp; (try with_reducible rfl))
            (try simp only [Act.put, List.setIfInBounds_toArray, List.set_cons_zero, List.set_cons_succ])
            refine wpAnyH_take (i := 3) (oi := { dst := some 18, op := Op.fieldAddr 61 (Operand.tmp 17) 0, type := 0, pos := _, after := _, guard := none }) (v := ?_) rfl (by kernel_rfl) (by kernel_rfl) (by kernel_rfl) (fun _ _ _ h => h) (Or.inl ⟨by rfl, ?_⟩) hHeld ?_
            rotate_left
            · (intro w hSw; (try dsimp only at hSw); go_simp; (try with_reducible rfl))
            (try simp only [Act.put, List.setIfInBounds_toArray, List.set_cons_zero, List.set_cons_succ])
            refine wpAnyH_take (i := 4) (oi := { dst := some 19, op := Op.load 3 (Operand.tmp 18), type := 3, pos := _, after := _, guard := none }) (v := ?_) rfl (by kernel_rfl) (by kernel_rfl) (by kernel_rfl) (fun _ _ _ h => h) (Or.inl ⟨by rfl, ?_⟩) hHeld ?_
            rotate_left
            · (intro w hSw; (try dsimp only at hSw); go_simp; (try with_reducible rfl))
            (try simp only [Act.put, List.setIfInBounds_toArray, List.set_cons_zero, List.set_cons_succ])
            refine wpAnyH_ready (rs := [5]) (by kernel_rfl) (by simp) ?_
            refine AllReadyH.cons (o := { dst := some 20, op := Op.call { callee := Callee.value (Operand.func 84), args := #[Operand.tmp 19, Operand.const (Value.int IntKind.i64 0), Operand.const (Value.int IntKind.i64 11)], argTypes := #[3, 3, 3] }, type := 4, pos := _, after := _, guard := none }) rfl (fun K hK => ?_) AllReadyH.nil
            (try go_simp)
            (refine (HIN.out _).mono ?_; rintro e wz ⟨rfl, rfl⟩)
            refine hK.out _ _ ?_ (fun hHeld => ?_)
            · first | exact ⟨d0, d1, d2⟩ | exact ⟨d0, d1⟩
            clear hK K
            (try simp only [Act.put, List.setIfInBounds_toArray, List.set_cons_zero, List.set_cons_succ])
            refine wpAnyH_take (i := 6) (oi := { dst := some 21, op := Op.unOp UnOp.not 4 (Operand.tmp 20), type := 4, pos := _, after := _, guard := none }) (v := ?_) rfl (by kernel_rfl) (by kernel_rfl) (by kernel_rfl) (fun _ _ _ h => h) (Or.inl ⟨by rfl, ?_⟩) hHeld ?_
            rotate_left
            · (intro w hSw; (try dsimp only at hSw); go_simp; (try with_reducible rfl))
            (try simp only [Act.put, List.setIfInBounds_toArray, List.set_cons_zero, List.set_cons_succ])
            refine wpAnyH_take (i := 7) (oi := { dst := some 22, op := Op.move (Operand.tmp 21), type := 4, pos := _, after := _, guard := none }) (v := ?_) rfl (by kernel_rfl) (by kernel_rfl) (by kernel_rfl) (fun _ _ _ h => h) (Or.inl ⟨by rfl, ?_⟩) hHeld ?_
            rotate_left
            · (intro w hSw; (try dsimp only at hSw); go_simp; (try with_reducible rfl))
            (try simp only [Act.put, List.setIfInBounds_toArray, List.set_cons_zero, List.set_cons_succ])
            refine wpAnyH_take (i := 8) (oi := { dst := some 23, op := Op.move (Operand.tmp 5), type := 3, pos := _, after := _, guard := some (7, false) }) (v := ?_) rfl (by kernel_rfl) (by kernel_rfl) (by kernel_rfl) (fun _ _ _ h => h) (Or.inl ⟨by rfl, ?_⟩) hHeld ?_
            rotate_left
            · (intro w hSw; (try dsimp only at hSw); go_simp; (try with_reducible rfl))
            (try simp only [Act.put, List.setIfInBounds_toArray, List.set_cons_zero, List.set_cons_succ])
            refine wpAnyH_take (i := 9) (oi := { dst := some 24, op := Op.binOp BinOp.gtr 3 (Operand.tmp 23) (Operand.const (Value.int IntKind.i64 0)) 3, type := 4, pos := _, after := _, guard := some (7, false) }) (v := ?_) rfl (by kernel_rfl) (by kernel_rfl) (by kernel_rfl) (fun _ _ _ h => h) (Or.inl ⟨by rfl, ?_⟩) hHeld ?_
            rotate_left
            · (intro w hSw; (try dsimp only at hSw); go_simp; (try with_reducible rfl))
            (try simp only [Act.put, List.setIfInBounds_toArray, List.set_cons_zero, List.set_cons_succ])
            refine wpAnyH_take (i := 10) (oi := { dst := some 25, op := Op.move (Operand.tmp 24), type := 4, pos := _, after := _, guard := some (7, false) }) (v := ?_) rfl (by kernel_rfl) (by kernel_rfl) (by kernel_rfl) (fun _ _ _ h => h) (Or.inl ⟨by rfl, ?_⟩) hHeld ?_
            rotate_left
            · (intro w hSw; (try dsimp only at hSw); go_simp; (try with_reducible rfl))
            (try simp only [Act.put, List.setIfInBounds_toArray, List.set_cons_zero, List.set_cons_succ])
            refine wpAnyH_take (i := 11) (oi := { dst := some 26, op := Op.move (Operand.tmp 1), type := 39, pos := _, after := _, guard := some (10, true) }) (v := undef) rfl (by kernel_rfl) (by kernel_rfl) (by kernel_rfl) (fun _ _ _ h => h) (Or.inr ⟨by rfl, rfl⟩) hHeld ?_
            (try simp only [Act.put, List.setIfInBounds_toArray, List.set_cons_zero, List.set_cons_succ])
            refine wpAnyH_take (i := 12) (oi := { dst := some 27, op := Op.move (Operand.tmp 5), type := 3, pos := _, after := _, guard := some (10, true) }) (v := undef) rfl (by kernel_rfl) (by kernel_rfl) (by kernel_rfl) (fun _ _ _ h => h) (Or.inr ⟨by rfl, rfl⟩) hHeld ?_
            (try simp only [Act.put, List.setIfInBounds_toArray, List.set_cons_zero, List.set_cons_succ])
            refine wpAnyH_take (i := 13) (oi := { dst := some 28, op := Op.indexAddr 39 (Operand.tmp 26) (Operand.tmp 27), type := 0, pos := _, after := _, guard := some (10, true) }) (v := undef) rfl (by kernel_rfl) (by kernel_rfl) (by kernel_rfl) (fun _ _ _ h => h) (Or.inr ⟨by rfl, rfl⟩) hHeld ?_
            (try simp only [Act.put, List.setIfInBounds_toArray, List.set_cons_zero, List.set_cons_succ])
            refine wpAnyH_take (i := 14) (oi := { dst := some 29, op := Op.fieldAddr 61 (Operand.tmp 28) 0, type := 0, pos := _, after := _, guard := some (10, true) }) (v := undef) rfl (by kernel_rfl) (by kernel_rfl) (by kernel_rfl) (fun _ _ _ h => h) (Or.inr ⟨by rfl, rfl⟩) hHeld ?_
            (try simp only [Act.put, List.setIfInBounds_toArray, List.set_cons_zero, List.set_cons_succ])
            refine wpAnyH_take (i := 15) (oi := { dst := some 30, op := Op.load 3 (Operand.tmp 29), type := 3, pos := _, after := _, guard := some (10, true) }) (v := undef) rfl (by kernel_rfl) (by kernel_rfl) (by kernel_rfl) (fun _ _ _ h => h) (Or.inr ⟨by rfl, rfl⟩) hHeld ?_
            (try simp only [Act.put, List.setIfInBounds_toArray, List.set_cons_zero, List.set_cons_succ])
            refine wpAnyH_take (i := 16) (oi := { dst := some 31, op := Op.move (Operand.tmp 1), type := 39, pos := _, after := _, guard := some (10, true) }) (v := undef) rfl (by kernel_rfl) (by kernel_rfl) (by kernel_rfl) (fun _ _ _ h => h) (Or.inr ⟨by rfl, rfl⟩) hHeld ?_
            (try simp only [Act.put, List.setIfInBounds_toArray, List.set_cons_zero, List.set_cons_succ])
            refine wpAnyH_take (i := 17) (oi := { dst := some 32, op := Op.move (Operand.tmp 5), type := 3, pos := _, after := _, guard := some (10, true) }) (v := undef) rfl (by kernel_rfl) (by kernel_rfl) (by kernel_rfl) (fun _ _ _ h => h) (Or.inr ⟨by rfl, rfl⟩) hHeld ?_
            (try simp only [Act.put, List.setIfInBounds_toArray, List.set_cons_zero, List.set_cons_succ])
            refine wpAnyH_take (i := 18) (oi := { dst := some 33, op := Op.binOp BinOp.sub 3 (Operand.tmp 32) (Operand.const (Value.int IntKind.i64 1)) 3, type := 3, pos := _, after := _, guard := some (10, true) }) (v := undef) rfl (by kernel_rfl) (by kernel_rfl) (by kernel_rfl) (fun _ _ _ h => h) (Or.inr ⟨by rfl, rfl⟩) hHeld ?_
            (try simp only [Act.put, List.setIfInBounds_toArray, List.set_cons_zero, List.set_cons_succ])
            refine wpAnyH_take (i := 19) (oi := { dst := some 34, op := Op.indexAddr 39 (Operand.tmp 31) (Operand.tmp 33), type := 0, pos := _, after := _, guard := some (10, true) }) (v := undef) rfl (by kernel_rfl) (by kernel_rfl) (by kernel_rfl) (fun _ _ _ h => h) (Or.inr ⟨by rfl, rfl⟩) hHeld ?_
            (try simp only [Act.put, List.setIfInBounds_toArray, List.set_cons_zero, List.set_cons_succ])
            refine wpAnyH_take (i := 20) (oi := { dst := some 35, op := Op.fieldAddr 61 (Operand.tmp 34) 0, type := 0, pos := _, after := _, guard := some (10, true) }) (v := undef) rfl (by kernel_rfl) (by kernel_rfl) (by kernel_rfl) (fun _ _ _ h => h) (Or.inr ⟨by rfl, rfl⟩) hHeld ?_
            (try simp only [Act.put, List.setIfInBounds_toArray, List.set_cons_zero, List.set_cons_succ])
            refine wpAnyH_take (i := 21) (oi := { dst := some 36, op := Op.load 3 (Operand.tmp 35), type := 3, pos := _, after := _, guard := some (10, true) }) (v := undef) rfl (by kernel_rfl) (by kernel_rfl) (by kernel_rfl) (fun _ _ _ h => h) (Or.inr ⟨by rfl, rfl⟩) hHeld ?_
            (try simp only [Act.put, List.setIfInBounds_toArray, List.set_cons_zero, List.set_cons_succ])
            refine wpAnyH_take (i := 22) (oi := { dst := some 37, op := Op.binOp BinOp.leq 3 (Operand.tmp 30) (Operand.tmp 36) 3, type := 4, pos := _, after := _, guard := some (10, true) }) (v := undef) rfl (by kernel_rfl) (by kernel_rfl) (by kernel_rfl) (fun _ _ _ h => h) (Or.inr ⟨by rfl, rfl⟩) hHeld ?_
            (try simp only [Act.put, List.setIfInBounds_toArray, List.set_cons_zero, List.set_cons_succ])
            refine wpAnyH_take (i := 23) (oi := { dst := some 38, op := Op.pick (Operand.tmp 25) (Operand.tmp 37) (Operand.const (Value.bool false)), type := 4, pos := _, after := _, guard := some (7, false) }) (v := ?_) rfl (by kernel_rfl) (by kernel_rfl) (by kernel_rfl) (fun _ _ _ h => h) (Or.inl ⟨by rfl, ?_⟩) hHeld ?_
            rotate_left
            · (intro w hSw; (try dsimp only at hSw); go_simp; (try with_reducible rfl))
            (try simp only [Act.put, List.setIfInBounds_toArray, List.set_cons_zero, List.set_cons_succ])
            refine wpAnyH_take (i := 24) (oi := { dst := some 39, op := Op.pick (Operand.tmp 22) (Operand.const (Value.bool true)) (Operand.tmp 38), type := 4, pos := _, after := _, guard := none }) (v := ?_) rfl (by kernel_rfl) (by kernel_rfl) (by kernel_rfl) (fun _ _ _ h => h) (Or.inl ⟨by rfl, ?_⟩) hHeld ?_
            rotate_left
            · (intro w hSw; (try dsimp only at hSw); go_simp; (try with_reducible rfl))
            (try simp only [Act.put, List.setIfInBounds_toArray, List.set_cons_zero, List.set_cons_succ])
            refine wpAnyH_take (i := 25) (oi := { dst := some 40, op := Op.move (Operand.tmp 39), type := 4, pos := _, after := _, guard := none }) (v := ?_) rfl (by kernel_rfl) (by kernel_rfl) (by kernel_rfl) (fun _ _ _ h => h) (Or.inl ⟨by rfl, ?_⟩) hHeld ?_
            rotate_left
            · (intro w hSw; (try dsimp only at hSw); go_simp; (try with_reducible rfl))
            (try simp only [Act.put, List.setIfInBounds_toArray, List.set_cons_zero, List.set_cons_succ])
            refine wpAnyH_take (i := 26) (oi := { dst := some 41, op := Op.move (Operand.tmp 0), type := 23, pos := _, after := _, guard := some (25, false) }) (v := ?_) rfl (by kernel_rfl) (by kernel_rfl) (by kernel_rfl) (fun _ _ _ h => h) (Or.inl ⟨by rfl, ?_⟩) hHeld ?_
            rotate_left
            · (intro w hSw; (try dsimp only at hSw); go_simp; (try with_reducible rfl))
            (try simp only [Act.put, List.setIfInBounds_toArray, List.set_cons_zero, List.set_cons_succ])
            refine wpAnyH_take (i := 27) (oi := { dst := some 42, op := Op.move (Operand.tmp 1), type := 39, pos := _, after := _, guard := some (25, false) }) (v := ?_) rfl (by kernel_rfl) (by kernel_rfl) (by kernel_rfl) (fun _ _ _ h => h) (Or.inl ⟨by rfl, ?_⟩) hHeld ?_
            rotate_left
            · (intro w hSw; (try dsimp only at hSw); go_simp; (try with_reducible rfl))
            (try simp only [Act.put, List.setIfInBounds_toArray, List.set_cons_zero, List.set_cons_succ])
            refine wpAnyH_take (i := 28) (oi := { dst := some 43, op := Op.move (Operand.tmp 5), type := 3, pos := _, after := _, guard := some (25, false) }) (v := ?_) rfl (by kernel_rfl) (by kernel_rfl) (by kernel_rfl) (fun _ _ _ h => h) (Or.inl ⟨by rfl, ?_⟩) hHeld ?_
            rotate_left
            · (intro w hSw; (try dsimp only at hSw); go_simp; (try with_reducible rfl))
            (try simp only [Act.put, List.setIfInBounds_toArray, List.set_cons_zero, List.set_cons_succ])
            refine wpAnyH_take (i := 29) (oi := { dst := some 44, op := Op.indexAddr 39 (Operand.tmp 42) (Operand.tmp 43), type := 0, pos := _, after := _, guard := some (25, false) }) (v := ?_) rfl (by kernel_rfl) (by kernel_rfl) (by kernel_rfl) (fun _ _ _ h => h) (Or.inl ⟨by rfl, ?_⟩) hHeld ?_
            rotate_left
            · (intro w hSw; (try dsimp only at hSw); go_simp; (try with_reducible rfl))
            (try simp only [Act.put, List.setIfInBounds_toArray, List.set_cons_zero, List.set_cons_succ])
            refine wpAnyH_take (i := 30) (oi := { dst := some 45, op := Op.fieldAddr 61 (Operand.tmp 44) 1, type := 0, pos := _, after := _, guard := some (25, false) }) (v := ?_) rfl (by kernel_rfl) (by kernel_rfl) (by kernel_rfl) (fun _ _ _ h => h) (Or.inl ⟨by rfl, ?_⟩) hHeld ?_
            rotate_left
            · (intro w hSw; (try dsimp only at hSw); go_simp; (try with_reducible rfl))
            (try simp only [Act.put, List.setIfInBounds_toArray, List.set_cons_zero, List.set_cons_succ])
            refine wpAnyH_take (i := 31) (oi := { dst := some 46, op := Op.load 25 (Operand.tmp 45), type := 25, pos := _, after := _, guard := some (25, false) }) (v := ?_) rfl (by kernel_rfl) (by kernel_rfl) (by kernel_rfl) (fun _ _ _ h => h) (Or.inl ⟨by rfl, ?_⟩) hHeld ?_
            rotate_left
            · (intro w hSw; (try dsimp only at hSw); go_simp; (try with_reducible rfl))
            (try simp only [Act.put, List.setIfInBounds_toArray, List.set_cons_zero, List.set_cons_succ])
            refine wpAnyH_ready (rs := [32]) (by kernel_rfl) (by simp) ?_
            refine AllReadyH.cons (o := { dst := some 47, op := Op.call { callee := Callee.value (Operand.func 69), args := #[Operand.tmp 41, Operand.tmp 46], argTypes := #[23, 25] }, type := 4, pos := _, after := _, guard := some (25, false) }) rfl (fun K hK => ?_) AllReadyH.nil
            (try go_simp)
            (refine (HVA.out _ (by first | exact hbZ | exact hbZ.drew | exact below_drewN hbZ _)).mono ?_; rintro e wz ⟨rfl, hbZ⟩; have d0 := (hbZ.cell (World.block_lt_of_cell? _ _ c0)).trans c0; have d1 := (hbZ.cell (World.block_lt_of_cell? _ _ c1)).trans c1)
            refine hK.out _ _ ?_ (fun hHeld => ?_)
            · first | exact ⟨d0, d1, d2⟩ | exact ⟨d0, d1⟩
            clear hK K
            (try simp only [Act.put, List.setIfInBounds_toArray, List.set_cons_zero, List.set_cons_succ])
            refine wpAnyH_take (i := 33) (oi := { dst := some 48, op := Op.unOp UnOp.not 4 (Operand.tmp 47), type := 4, pos := _, after := _, guard := some (25, false) }) (v := ?_) rfl (by kernel_rfl) (by kernel_rfl) (by kernel_rfl) (fun _ _ _ h => h) (Or.inl ⟨by rfl, ?_⟩) hHeld ?_
            rotate_left
            · (intro w hSw; (try dsimp only at hSw); go_simp; (try with_reducible rfl))
            (try simp only [Act.put, List.setIfInBounds_toArray, List.set_cons_zero, List.set_cons_succ])
            refine wpAnyH_take (i := 34) (oi := { dst := some 49, op := Op.pick (Operand.tmp 40) (Operand.const (Value.bool true)) (Operand.tmp 48), type := 4, pos := _, after := _, guard := none }) (v := ?_) rfl (by kernel_rfl) (by kernel_rfl) (by kernel_rfl) (fun _ _ _ h => h) (Or.inl ⟨by rfl, ?_⟩) hHeld ?_
            rotate_left
            · (intro w hSw; (try dsimp only at hSw); go_simp; (try with_reducible rfl))
            (try simp only [Act.put, List.setIfInBounds_toArray, List.set_cons_zero, List.set_cons_succ])
            refine wpAnyH_take (i := 35) (oi := { dst := some 50, op := Op.move (Operand.tmp 49), type := 4, pos := _, after := _, guard := none }) (v := ?_) rfl (by kernel_rfl) (by kernel_rfl) (by kernel_rfl) (fun _ _ _ h => h) (Or.inl ⟨by rfl, ?_⟩) hHeld ?_
            rotate_left
            · (intro w hSw; (try dsimp only at hSw); go_simp; (try with_reducible rfl))
            (try simp only [Act.put, List.setIfInBounds_toArray, List.set_cons_zero, List.set_cons_succ])
            refine wpAnyH_take (i := 36) (oi := { dst := some 51, op := Op.move (Operand.tmp 1), type := 39, pos := _, after := _, guard := some (35, false) }) (v := ?_) rfl (by kernel_rfl) (by kernel_rfl) (by kernel_rfl) (fun _ _ _ h => h) (Or.inl ⟨by rfl, ?_⟩) hHeld ?_
            rotate_left
            · (intro w hSw; (try dsimp only at hSw); go_simp; (try with_reducible rfl))
            (try simp only [Act.put, List.setIfInBounds_toArray, List.set_cons_zero, List.set_cons_succ])
            refine wpAnyH_take (i := 37) (oi := { dst := some 52, op := Op.move (Operand.tmp 5), type := 3, pos := _, after := _, guard := some (35, false) }) (v := ?_) rfl (by kernel_rfl) (by kernel_rfl) (by kernel_rfl) (fun _ _ _ h => h) (Or.inl ⟨by rfl, ?_⟩) hHeld ?_
            rotate_left
            · (intro w hSw; (try dsimp only at hSw); go_simp; (try with_reducible rfl))
            (try simp only [Act.put, List.setIfInBounds_toArray, List.set_cons_zero, List.set_cons_succ])
            refine wpAnyH_take (i := 38) (oi := { dst := some 53, op := Op.indexAddr 39 (Operand.tmp 51) (Operand.tmp 52), type := 0, pos := _, after := _, guard := some (35, false) }) (v := ?_) rfl (by kernel_rfl) (by kernel_rfl) (by kernel_rfl) (fun _ _ _ h => h) (Or.inl ⟨by rfl, ?_⟩) hHeld ?_
            rotate_left
            · (intro w hSw; (try dsimp only at hSw); go_simp; (try with_reducible rfl))
            (try simp only [Act.put, List.setIfInBounds_toArray, List.set_cons_zero, List.set_cons_succ])
            refine wpAnyH_take (i := 39) (oi := { dst := some 54, op := Op.fieldAddr 61 (Operand.tmp 53) 1, type := 0, pos := _, after := _, guard := some (35, false) }) (v := ?_) rfl (by kernel_rfl) (by kernel_rfl) (by kernel_rfl) (fun _ _ _ h => h) (Or.inl ⟨by rfl, ?_⟩) hHeld ?_
            rotate_left
            · (intro w hSw; (try dsimp only at hSw); go_simp; (try with_reducible rfl))
            (try simp only [Act.put, List.setIfInBounds_toArray, List.set_cons_zero, List.set_cons_succ])
            refine wpAnyH_take (i := 40) (oi := { dst := some 55, op := Op.load 25 (Operand.tmp 54), type := 25, pos := _, after := _, guard := some (35, false) }) (v := ?_) rfl (by kernel_rfl) (by kernel_rfl) (by kernel_rfl) (fun _ _ _ h => h) (Or.inl ⟨by rfl, ?_⟩) hHeld ?_
            rotate_left
            · (intro w hSw; (try dsimp only at hSw); go_simp; (try with_reducible rfl))
            (try simp only [Act.put, List.setIfInBounds_toArray, List.set_cons_zero, List.set_cons_succ])
            refine wpAnyH_take (i := 41) (oi := { dst := some 56, op := Op.move (Operand.tmp 1), type := 39, pos := _, after := _, guard := some (35, false) }) (v := ?_) rfl (by kernel_rfl) (by kernel_rfl) (by kernel_rfl) (fun _ _ _ h => h) (Or.inl ⟨by rfl, ?_⟩) hHeld ?_
            rotate_left
            · (intro w hSw; (try dsimp only at hSw); go_simp; (try with_reducible rfl))
            (try simp only [Act.put, List.setIfInBounds_toArray, List.set_cons_zero, List.set_cons_succ])
            refine wpAnyH_take (i := 42) (oi := { dst := some 57, op := Op.move (Operand.tmp 5), type := 3, pos := _, after := _, guard := some (35, false) }) (v := ?_) rfl (by kernel_rfl) (by kernel_rfl) (by kernel_rfl) (fun _ _ _ h => h) (Or.inl ⟨by rfl, ?_⟩) hHeld ?_
            rotate_left
            · (intro w hSw; (try dsimp only at hSw); go_simp; (try with_reducible rfl))
            (try simp only [Act.put, List.setIfInBounds_toArray, List.set_cons_zero, List.set_cons_succ])
            refine wpAnyH_take (i := 43) (oi := { dst := some 58, op := Op.indexAddr 39 (Operand.tmp 56) (Operand.tmp 57), type := 0, pos := _, after := _, guard := some (35, false) }) (v := ?_) rfl (by kernel_rfl) (by kernel_rfl) (by kernel_rfl) (fun _ _ _ h => h) (Or.inl ⟨by rfl, ?_⟩) hHeld ?_
            rotate_left
            · (intro w hSw; (try dsimp only at hSw); go_simp; (try with_reducible rfl))
            (try simp only [Act.put, List.setIfInBounds_toArray, List.set_cons_zero, List.set_cons_succ])
            refine wpAnyH_take (i := 44) (oi := { dst := some 59, op := Op.fieldAddr 61 (Operand.tmp 58) 0, type := 0, pos := _, after := _, guard := some (35, false) }) (v := ?_) rfl (by kernel_rfl) (by kernel_rfl) (by kernel_rfl) (fun _ _ _ h => h) (Or.inl ⟨by rfl, ?_⟩) hHeld ?_
            rotate_left
            · (intro w hSw; (try dsimp only at hSw); go_simp; (try with_reducible rfl))
            (try simp only [Act.put, List.setIfInBounds_toArray, List.set_cons_zero, List.set_cons_succ])
            refine wpAnyH_take (i := 45) (oi := { dst := some 60, op := Op.load 3 (Operand.tmp 59), type := 3, pos := _, after := _, guard := some (35, false) }) (v := ?_) rfl (by kernel_rfl) (by kernel_rfl) (by kernel_rfl) (fun _ _ _ h => h) (Or.inl ⟨by rfl, ?_⟩) hHeld ?_
            rotate_left
            · (intro w hSw; (try dsimp only at hSw); go_simp; (try with_reducible rfl))
            (try simp only [Act.put, List.setIfInBounds_toArray, List.set_cons_zero, List.set_cons_succ])
            refine wpAnyH_ready (rs := [46]) (by kernel_rfl) (by simp) ?_
            refine AllReadyH.cons (o := { dst := some 61, op := Op.call { callee := Callee.value (Operand.func 87), args := #[Operand.tmp 60], argTypes := #[3] }, type := 25, pos := _, after := _, guard := some (35, false) }) rfl (fun K hK => ?_) AllReadyH.nil
            (try go_simp)
            (refine (HVR.out _ (by first | exact hbZ | exact hbZ.drew | exact below_drewN hbZ _)).mono ?_; rintro e wz ⟨uv, rfl, huv, hbZ⟩; have d0 := (hbZ.cell (World.block_lt_of_cell? _ _ c0)).trans c0; have d1 := (hbZ.cell (World.block_lt_of_cell? _ _ c1)).trans c1)
            refine hK.out _ _ ?_ (fun hHeld => ?_)
            · first | exact ⟨d0, d1, d2⟩ | exact ⟨d0, d1⟩
            clear hK K
            (try simp only [Act.put, List.setIfInBounds_toArray, List.set_cons_zero, List.set_cons_succ])
            refine wpAnyH_ready (rs := [47]) (by kernel_rfl) (by simp) ?_
            refine AllReadyH.cons (o := { dst := some 62, op := Op.call { callee := Callee.value (Operand.func 24), args := #[Operand.tmp 55, Operand.tmp 61], argTypes := #[25, 25] }, type := 4, pos := _, after := _, guard := some (35, false) }) rfl (fun K hK => ?_) AllReadyH.nil
            (try go_simp)
            (refine (HSM.out _ uv hbZ huv).mono ?_; rintro e wz ⟨rfl, hbZ⟩; have d0 := (hbZ.cell (World.block_lt_of_cell? _ _ c0)).trans c0; have d1 := (hbZ.cell (World.block_lt_of_cell? _ _ c1)).trans c1)
            refine hK.out _ _ ?_ (fun hHeld => ?_)
            · first | exact ⟨d0, d1, d2⟩ | exact ⟨d0, d1⟩
            clear hK K
            (try simp only [Act.put, List.setIfInBounds_toArray, List.set_cons_zero, List.set_cons_succ])
            refine wpAnyH_take (i := 48) (oi := { dst := some 63, op := Op.pick (Operand.tmp 50) (Operand.const (Value.bool true)) (Operand.tmp 62), type := 4, pos := _, after := _, guard := none }) (v := ?_) rfl (by kernel_rfl) (by kernel_rfl) (by kernel_rfl) (fun _ _ _ h => h) (Or.inl ⟨by rfl, ?_⟩) hHeld ?_
            rotate_left
            · (intro w hSw; (try dsimp only at hSw); go_simp; (try with_reducible rfl))
            (try simp only [Act.put, List.setIfInBounds_toArray, List.set_cons_zero, List.set_cons_succ])
            refine wpAnyH_done (by kernel_rfl) ?_ _
            cases hz : decide (p = [-x - 1])
            · have HBB : Hid (bndB s l 0 = true) := hid (HYES.out ⟨hxx.out, (fun h => absurd h (by omega)), HT.out, of_decide_eq_false hz⟩)
              clear hz
              go_wp2
              go_roundw
              case rel =>
                refine ⟨0 + 1, by omega, by go_num, HB.out.trans ((by first | exact hbZ | exact below_drewN hbZ 1 : Below wr.heap.size wr _).mono HB.out.size), fun q hq => ?_⟩
                by_cases hqk : q = 0
                · rw [hqk]; exact HBB.out
                · exact HR.out q (by omega)
              case measure => simp [intOf]; omega
            · have HF := hid (HNO.out (fun hh => hh.2.2.2 (of_decide_eq_true hz)))
              clear hz
              go_wp2
              go_ret
              exact ⟨ret_bool HF.out.symm, HB.out.trans ((by first | exact hbZ | exact below_drewN hbZ 1 : Below wr.heap.size wr _).mono HB.out.size)⟩
    · have hkl : k = l.length := by omega
      have HA : Hid (bndsB s l = true) := hid (by
        unfold bndsB
        have : (List.range l.length).all (bndB s l) = true := by
          rw [List.all_eq_true]
          intro q hq
          exact HR.out q (by have := List.mem_range.1 hq; omega)
        rw [this, HSG.out]; rfl)
      go_wp2
      go_ret
      exact ⟨ret_bool HA.out.symm, hb⟩
end Go.Proofs.Ytidigpfiagjeiaa
