/-
  WHAT IT HOLDS: contract of best of the reference of layer 7: which given a statement is cited from. Conditions: the arguments read as data; a small sign, a small list.
-/
import Derived.Deep.RegionHeld3
import Derived.Test.YtmpjaakkjhmpmaaGreatDoorZRShortCites39
import Derived.Test.YtmpjaakkjhmpmaaGreatDoorZRShortCites33
namespace Go.Proofs.YtmpjaakkjhmpmaaGreatDoor
open Go Go.RowKit Go.Maps
theorem chain7 {P : Program} {f : FuncId} {args : Array Value} {WB W : World} {R : Ending → Prop} (hb : Below WB.heap.size WB W) (h : Calls P f args W fun e w' => R e ∧ Below W.heap.size W w') : Calls P f args W fun e w' => R e ∧ Below WB.heap.size WB w' :=
  h.mono fun _ _ ⟨h1, h2⟩ => ⟨h1, hb.trans (h2.mono hb.size)⟩
set_option maxHeartbeats 4000000 in
set_option maxRecDepth 100000 in
theorem ref7_best (vs vg vt : Value) (s : Sg) (g : List (List Int)) (t : List Int) (w : World) (hs : SignAt w vs s) (hg : Terms w vg g) (ht : Ints w vt t) (hs1 : s.length ≤ 1000) (hl1 : g.length ≤ 1000) :
    Calls Tryz.prog 90 #[vs, vg, vt] w fun e w' => e = .returned (.int .i64 (bestI s g t)) ∧ Below w.heap.size w w' := by
  obtain ⟨la, lcap, rfl, -, -, -, HC⟩ := hg.open
  have HI := hid (fun (W : World) (hW : Below w.heap.size w W) (X : World) (hX : Below W.heap.size W X) (u v : Value) (a b : List Int) (ra : Ints W u a) (rb : Ints W v b) => chain7 hX (ref2_Instance vs u v s a b X ((hs.below hW).below hX) (ra.below hX) (rb.below hX) hs1))
  have HT := hid ht
  have HCW := hid (fun (q : Nat) (hq : q < g.length) (X : World) (hbX : Below w.heap.size w X) => (show ∃ b o x, la = some ⟨b, o, none⟩ ∧ X.cell? ⟨b, o + q, none⟩ = some x ∧ Ints X x (g.getD q []) from by
    obtain ⟨b, o, x, e, c, hx⟩ := HC q hq
    refine ⟨b, o, x, e, (hbX.cell (World.block_lt_of_cell? _ _ c)).trans c, ?_⟩
    have e1 : g.getD q [] = g[q] := by simp [List.getD, hq]
    rw [e1]
    exact hx.below hbX))
  have HBW := hid (Below.refl w.heap.size w)
  clear hs hg ht HC
  go_enter Tryz.func90, Tryz.ntmps90
  go_wp2
  go_loopw [7] (fun kv wr => ∃ i : Nat, i ≤ g.length ∧ kv = .int .i64 i ∧ (∀ j, j < i → bestB s g t j = false) ∧ Below w.heap.size w wr) (fun kv _ => g.length - (intOf kv).toNat)
  case atStart => exact ⟨0, by omega, rfl, fun j hj => by omega, HBW.out⟩
  case round =>
    obtain ⟨i, hi, rfl, hno, hb⟩ := hrel
    obtain ⟨WI, hWI⟩ : ∃ X, X = wr := ⟨wr, rfl⟩
    subst hWI
    have HNO := hid hno
    have HB := hid hb
    by_cases hlt : i < g.length
    · obtain ⟨b, o, x, rfl, cx, hx⟩ := HCW.out i hlt WI hb
      have HX := hid hx
      have K := hid (HI.out WI hb WI (Below.refl _ _) _ _ _ _ hx (HT.out.below hb))
      have hl2 : (i : Int) < (g.length : Int) := by omega
      cases hz : instB s (g.getD i []) t
      · have HN2 := hid (bestB_no hz)
        rw [hz] at K
        clear hno hb hx hz
        go_wp2_with fail
        refine K.out.mono ?_
        rintro e w2 ⟨rfl, hb2⟩
        have HB2 := hid (HB.out.trans (hb2.mono HB.out.size))
        clear hb2
        go_wp2
        go_roundw
        case rel =>
          refine ⟨i + 1, by omega, by go_num, fun j hj => ?_, HB2.out⟩
          by_cases e : j = i
          · subst e; exact HN2.out
          · exact HNO.out j (by omega)
        case measure => simp [intOf]; omega
      have HBE := hid (bestB_eq hz)
      rw [hz] at K
      clear hno hb hz
      go_wp2_with fail
      refine K.out.mono ?_
      rintro e w2 ⟨rfl, hb2⟩
      have HB2 := hid (HB.out.trans (hb2.mono HB.out.size))
      clear hb2
      go_wp2
      go_loopw [8, 9] (fun mv kv wr => ∃ k : Nat, k ≤ g.length ∧ kv = .int .i64 k ∧ mv = .bool (ovrA s g t i k) ∧ Below w.heap.size w wr) (fun _ kv _ => g.length - (intOf kv).toNat)
      case atStart => exact ⟨0, by omega, rfl, by rw [ovrA_0], HB2.out⟩
      case round =>
        clear HB2
        obtain ⟨k, hk, rfl, rfl, hb3⟩ := hrel
        have HB3 := hid hb3
        by_cases hkl : k < g.length
        · obtain ⟨b', o', y, eb, cy, hy⟩ := HCW.out k hkl wr hb3
          cases eb
          obtain ⟨b', o', x', eb, cx3, hx3⟩ := HCW.out i hlt wr hb3
          cases eb
          have HX3 := hid hx3
          have HY := hid hy
          have HT3 := hid (HT.out.below hb3)
          have hk2 : (k : Int) < (g.length : Int) := by omega
          have hk0 : (0 : Int) ≤ (k : Int) := by omega
          have hi0 : (0 : Int) ≤ (i : Int) := by omega
          have HJ := hid (HI.out wr hb3)
          have HBR := hid (Below.refl wr.heap.size wr)
          have hsucc := ovrA_succ s g t i k
          unfold ovrB at hsucc
          have H1 := hid (fun (X : World) (hX : Below wr.heap.size wr X) => HJ.out X hX _ _ _ _ HY.out HT3.out)
          have H2 := hid (fun (X : World) (hX : Below wr.heap.size wr X) => HJ.out X hX _ _ _ _ HY.out HX3.out)
          have H3 := hid (fun (X : World) (hX : Below wr.heap.size wr X) => HJ.out X hX _ _ _ _ HX3.out HY.out)
          obtain ⟨z1, e1⟩ : ∃ z, instB s (g.getD k []) t = z := ⟨_, rfl⟩
          obtain ⟨z2, e2⟩ : ∃ z, instB s (g.getD k []) (g.getD i []) = z := ⟨_, rfl⟩
          obtain ⟨z3, e3⟩ : ∃ z, instB s (g.getD i []) (g.getD k []) = z := ⟨_, rfl⟩
          obtain ⟨za, ea⟩ : ∃ z, ovrA s g t i k = z := ⟨_, rfl⟩
          rw [e1, e2, e3, ea] at hsucc
          rw [e1] at H1
          rw [e2] at H2
          rw [e3] at H3
          rw [ea]
          clear hb3 hy hx3 e1 e2 e3 ea HJ
          cases z1
          · have HS := hid (show ovrA s g t i (k + 1) = za from by rw [hsucc]; simp)
            clear hsucc
            go_wp2
            refine wp_region_held_drew (S := fun w' => w'.cell? ⟨b, o + k, none⟩ = some y ∧ w'.cell? ⟨b, o + i, none⟩ = some x') (by kernel_rfl) ?_ (fun hHeld => ?_)
            · exact (by first | exact ⟨by assumption, by assumption⟩ | exact ⟨by first | assumption | (simp; assumption), by first | assumption | (simp; assumption)⟩)
            refine wpAnyH_take (i := 0) (oi := { dst := some 30, op := Op.move (Operand.tmp 0), type := 23, pos := _, after := _, guard := none }) (v := ?_) rfl (by kernel_rfl) (by kernel_rfl) (by kernel_rfl) (fun _ _ _ h => h) (Or.inl ⟨by rfl, ?_⟩) hHeld ?_
            rotate_left
            · (intro w hSw; (try dsimp only at hSw); go_simp; (try with_reducible rfl))
            (try simp only [Act.put, List.setIfInBounds_toArray, List.set_cons_zero, List.set_cons_succ])
            refine wpAnyH_take (i := 1) (oi := { dst := some 31, op := Op.move (Operand.tmp 1), type := 24, pos := _, after := _, guard := none }) (v := ?_) rfl (by kernel_rfl) (by kernel_rfl) (by kernel_rfl) (fun _ _ _ h => h) (Or.inl ⟨by rfl, ?_⟩) hHeld ?_
            rotate_left
            · (intro w hSw; (try dsimp only at hSw); go_simp; (try with_reducible rfl))
            (try simp only [Act.put, List.setIfInBounds_toArray, List.set_cons_zero, List.set_cons_succ])
            refine wpAnyH_take (i := 2) (oi := { dst := some 32, op := Op.move (Operand.tmp 9), type := 3, pos := _, after := _, guard := none }) (v := ?_) rfl (by kernel_rfl) (by kernel_rfl) (by kernel_rfl) (fun _ _ _ h => h) (Or.inl ⟨by rfl, ?_⟩) hHeld ?_
            rotate_left
            · (intro w hSw; (try dsimp only at hSw); go_simp; (try with_reducible rfl))
            (try simp only [Act.put, List.setIfInBounds_toArray, List.set_cons_zero, List.set_cons_succ])
            refine wpAnyH_take (i := 3) (oi := { dst := some 33, op := Op.indexAddr 24 (Operand.tmp 31) (Operand.tmp 32), type := 0, pos := _, after := _, guard := none }) (v := ?_) rfl (by kernel_rfl) (by kernel_rfl) (by kernel_rfl) (fun _ _ _ h => h) (Or.inl ⟨by rfl, ?_⟩) hHeld ?_
            rotate_left
            · (intro w hSw; (try dsimp only at hSw); go_simp; (try with_reducible rfl))
            (try simp only [Act.put, List.setIfInBounds_toArray, List.set_cons_zero, List.set_cons_succ])
            refine wpAnyH_take (i := 4) (oi := { dst := some 34, op := Op.load 34 (Operand.tmp 33), type := 34, pos := _, after := _, guard := none }) (v := ?_) rfl (by kernel_rfl) (by kernel_rfl) (by kernel_rfl) (fun _ _ _ h => h) (Or.inl ⟨by rfl, ?_⟩) hHeld ?_
            rotate_left
            · (intro w hSw; (try dsimp only at hSw); go_simp; (try with_reducible rfl))
            (try simp only [Act.put, List.setIfInBounds_toArray, List.set_cons_zero, List.set_cons_succ])
            refine wpAnyH_take (i := 5) (oi := { dst := some 35, op := Op.move (Operand.tmp 2), type := 34, pos := _, after := _, guard := none }) (v := ?_) rfl (by kernel_rfl) (by kernel_rfl) (by kernel_rfl) (fun _ _ _ h => h) (Or.inl ⟨by rfl, ?_⟩) hHeld ?_
            rotate_left
            · (intro w hSw; (try dsimp only at hSw); go_simp; (try with_reducible rfl))
            (try simp only [Act.put, List.setIfInBounds_toArray, List.set_cons_zero, List.set_cons_succ])
            refine wpAnyH_ready (rs := [6]) (by kernel_rfl) (by simp) ?_
            refine AllReadyH.cons (o := { dst := some 36, op := Op.call { callee := Callee.value (Operand.func 43), args := #[Operand.tmp 30, Operand.tmp 34, Operand.tmp 35], argTypes := #[23, 34, 34] }, type := 4, pos := _, after := _, guard := none }) rfl (fun K hK => ?_) AllReadyH.nil
            go_simp
            (with_reducible refine (H1.out _ (by first | exact hbZ | exact hbZ.drew | exact HBR.out | exact HBR.out.drew | exact below_self_drewN _ _)).mono ?_); rintro e wz ⟨rfl, hbZ⟩; have d0 := (hbZ.cell (World.block_lt_of_cell? _ _ cy)).trans cy; have d1 := (hbZ.cell (World.block_lt_of_cell? _ _ cx3)).trans cx3
            refine hK.out _ _ ?_ (fun hHeld => ?_)
            · exact (by first | exact ⟨by assumption, by assumption⟩ | exact ⟨by first | assumption | (simp; assumption), by first | assumption | (simp; assumption)⟩)
            clear hK K
            (try simp only [Act.put, List.setIfInBounds_toArray, List.set_cons_zero, List.set_cons_succ])
            refine wpAnyH_take (i := 7) (oi := { dst := some 37, op := Op.move (Operand.tmp 36), type := 4, pos := _, after := _, guard := none }) (v := ?_) rfl (by kernel_rfl) (by kernel_rfl) (by kernel_rfl) (fun _ _ _ h => h) (Or.inl ⟨by rfl, ?_⟩) hHeld ?_
            rotate_left
            · (intro w hSw; (try dsimp only at hSw); go_simp; (try with_reducible rfl))
            (try simp only [Act.put, List.setIfInBounds_toArray, List.set_cons_zero, List.set_cons_succ])
            refine wpAnyH_take (i := 8) (oi := { dst := some 38, op := Op.move (Operand.tmp 0), type := 23, pos := _, after := _, guard := some (7, true) }) (v := undef) rfl (by kernel_rfl) (by kernel_rfl) (by kernel_rfl) (fun _ _ _ h => h) (Or.inr ⟨by rfl, rfl⟩) hHeld ?_
            (try simp only [Act.put, List.setIfInBounds_toArray, List.set_cons_zero, List.set_cons_succ])
            refine wpAnyH_take (i := 9) (oi := { dst := some 39, op := Op.move (Operand.tmp 1), type := 24, pos := _, after := _, guard := some (7, true) }) (v := undef) rfl (by kernel_rfl) (by kernel_rfl) (by kernel_rfl) (fun _ _ _ h => h) (Or.inr ⟨by rfl, rfl⟩) hHeld ?_
            (try simp only [Act.put, List.setIfInBounds_toArray, List.set_cons_zero, List.set_cons_succ])
            refine wpAnyH_take (i := 10) (oi := { dst := some 40, op := Op.move (Operand.tmp 9), type := 3, pos := _, after := _, guard := some (7, true) }) (v := undef) rfl (by kernel_rfl) (by kernel_rfl) (by kernel_rfl) (fun _ _ _ h => h) (Or.inr ⟨by rfl, rfl⟩) hHeld ?_
            (try simp only [Act.put, List.setIfInBounds_toArray, List.set_cons_zero, List.set_cons_succ])
            refine wpAnyH_take (i := 11) (oi := { dst := some 41, op := Op.indexAddr 24 (Operand.tmp 39) (Operand.tmp 40), type := 0, pos := _, after := _, guard := some (7, true) }) (v := undef) rfl (by kernel_rfl) (by kernel_rfl) (by kernel_rfl) (fun _ _ _ h => h) (Or.inr ⟨by rfl, rfl⟩) hHeld ?_
            (try simp only [Act.put, List.setIfInBounds_toArray, List.set_cons_zero, List.set_cons_succ])
            refine wpAnyH_take (i := 12) (oi := { dst := some 42, op := Op.load 34 (Operand.tmp 41), type := 34, pos := _, after := _, guard := some (7, true) }) (v := undef) rfl (by kernel_rfl) (by kernel_rfl) (by kernel_rfl) (fun _ _ _ h => h) (Or.inr ⟨by rfl, rfl⟩) hHeld ?_
            (try simp only [Act.put, List.setIfInBounds_toArray, List.set_cons_zero, List.set_cons_succ])
            refine wpAnyH_take (i := 13) (oi := { dst := some 43, op := Op.move (Operand.tmp 1), type := 24, pos := _, after := _, guard := some (7, true) }) (v := undef) rfl (by kernel_rfl) (by kernel_rfl) (by kernel_rfl) (fun _ _ _ h => h) (Or.inr ⟨by rfl, rfl⟩) hHeld ?_
            (try simp only [Act.put, List.setIfInBounds_toArray, List.set_cons_zero, List.set_cons_succ])
            refine wpAnyH_take (i := 14) (oi := { dst := some 44, op := Op.move (Operand.tmp 7), type := 3, pos := _, after := _, guard := some (7, true) }) (v := undef) rfl (by kernel_rfl) (by kernel_rfl) (by kernel_rfl) (fun _ _ _ h => h) (Or.inr ⟨by rfl, rfl⟩) hHeld ?_
            (try simp only [Act.put, List.setIfInBounds_toArray, List.set_cons_zero, List.set_cons_succ])
            refine wpAnyH_take (i := 15) (oi := { dst := some 45, op := Op.indexAddr 24 (Operand.tmp 43) (Operand.tmp 44), type := 0, pos := _, after := _, guard := some (7, true) }) (v := undef) rfl (by kernel_rfl) (by kernel_rfl) (by kernel_rfl) (fun _ _ _ h => h) (Or.inr ⟨by rfl, rfl⟩) hHeld ?_
            (try simp only [Act.put, List.setIfInBounds_toArray, List.set_cons_zero, List.set_cons_succ])
            refine wpAnyH_take (i := 16) (oi := { dst := some 46, op := Op.load 34 (Operand.tmp 45), type := 34, pos := _, after := _, guard := some (7, true) }) (v := undef) rfl (by kernel_rfl) (by kernel_rfl) (by kernel_rfl) (fun _ _ _ h => h) (Or.inr ⟨by rfl, rfl⟩) hHeld ?_
            (try simp only [Act.put, List.setIfInBounds_toArray, List.set_cons_zero, List.set_cons_succ])
            refine wpAnyH_take (i := 17) (oi := { dst := some 47, op := Op.call { callee := Callee.value (Operand.func 43), args := #[Operand.tmp 38, Operand.tmp 42, Operand.tmp 46], argTypes := #[23, 34, 34] }, type := 4, pos := _, after := _, guard := some (7, true) }) (v := undef) rfl (by kernel_rfl) (by kernel_rfl) (by kernel_rfl) (fun _ _ _ h => h) (Or.inr ⟨by rfl, rfl⟩) hHeld ?_
            (try simp only [Act.put, List.setIfInBounds_toArray, List.set_cons_zero, List.set_cons_succ])
            refine wpAnyH_take (i := 18) (oi := { dst := some 48, op := Op.pick (Operand.tmp 37) (Operand.tmp 47) (Operand.const (Value.bool false)), type := 4, pos := _, after := _, guard := none }) (v := ?_) rfl (by kernel_rfl) (by kernel_rfl) (by kernel_rfl) (fun _ _ _ h => h) (Or.inl ⟨by rfl, ?_⟩) hHeld ?_
            rotate_left
            · (intro w hSw; (try dsimp only at hSw); go_simp; (try with_reducible rfl))
            (try simp only [Act.put, List.setIfInBounds_toArray, List.set_cons_zero, List.set_cons_succ])
            refine wpAnyH_take (i := 19) (oi := { dst := some 49, op := Op.move (Operand.tmp 48), type := 4, pos := _, after := _, guard := none }) (v := ?_) rfl (by kernel_rfl) (by kernel_rfl) (by kernel_rfl) (fun _ _ _ h => h) (Or.inl ⟨by rfl, ?_⟩) hHeld ?_
            rotate_left
            · (intro w hSw; (try dsimp only at hSw); go_simp; (try with_reducible rfl))
            (try simp only [Act.put, List.setIfInBounds_toArray, List.set_cons_zero, List.set_cons_succ])
            refine wpAnyH_take (i := 20) (oi := { dst := some 50, op := Op.move (Operand.tmp 0), type := 23, pos := _, after := _, guard := some (19, true) }) (v := undef) rfl (by kernel_rfl) (by kernel_rfl) (by kernel_rfl) (fun _ _ _ h => h) (Or.inr ⟨by rfl, rfl⟩) hHeld ?_
            (try simp only [Act.put, List.setIfInBounds_toArray, List.set_cons_zero, List.set_cons_succ])
            refine wpAnyH_take (i := 21) (oi := { dst := some 51, op := Op.move (Operand.tmp 1), type := 24, pos := _, after := _, guard := some (19, true) }) (v := undef) rfl (by kernel_rfl) (by kernel_rfl) (by kernel_rfl) (fun _ _ _ h => h) (Or.inr ⟨by rfl, rfl⟩) hHeld ?_
            (try simp only [Act.put, List.setIfInBounds_toArray, List.set_cons_zero, List.set_cons_succ])
            refine wpAnyH_take (i := 22) (oi := { dst := some 52, op := Op.move (Operand.tmp 7), type := 3, pos := _, after := _, guard := some (19, true) }) (v := undef) rfl (by kernel_rfl) (by kernel_rfl) (by kernel_rfl) (fun _ _ _ h => h) (Or.inr ⟨by rfl, rfl⟩) hHeld ?_
            (try simp only [Act.put, List.setIfInBounds_toArray, List.set_cons_zero, List.set_cons_succ])
            refine wpAnyH_take (i := 23) (oi := { dst := some 53, op := Op.indexAddr 24 (Operand.tmp 51) (Operand.tmp 52), type := 0, pos := _, after := _, guard := some (19, true) }) (v := undef) rfl (by kernel_rfl) (by kernel_rfl) (by kernel_rfl) (fun _ _ _ h => h) (Or.inr ⟨by rfl, rfl⟩) hHeld ?_
            (try simp only [Act.put, List.setIfInBounds_toArray, List.set_cons_zero, List.set_cons_succ])
            refine wpAnyH_take (i := 24) (oi := { dst := some 54, op := Op.load 34 (Operand.tmp 53), type := 34, pos := _, after := _, guard := some (19, true) }) (v := undef) rfl (by kernel_rfl) (by kernel_rfl) (by kernel_rfl) (fun _ _ _ h => h) (Or.inr ⟨by rfl, rfl⟩) hHeld ?_
            (try simp only [Act.put, List.setIfInBounds_toArray, List.set_cons_zero, List.set_cons_succ])
            refine wpAnyH_take (i := 25) (oi := { dst := some 55, op := Op.move (Operand.tmp 1), type := 24, pos := _, after := _, guard := some (19, true) }) (v := undef) rfl (by kernel_rfl) (by kernel_rfl) (by kernel_rfl) (fun _ _ _ h => h) (Or.inr ⟨by rfl, rfl⟩) hHeld ?_
            (try simp only [Act.put, List.setIfInBounds_toArray, List.set_cons_zero, List.set_cons_succ])
            refine wpAnyH_take (i := 26) (oi := { dst := some 56, op := Op.move (Operand.tmp 9), type := 3, pos := _, after := _, guard := some (19, true) }) (v := undef) rfl (by kernel_rfl) (by kernel_rfl) (by kernel_rfl) (fun _ _ _ h => h) (Or.inr ⟨by rfl, rfl⟩) hHeld ?_
            (try simp only [Act.put, List.setIfInBounds_toArray, List.set_cons_zero, List.set_cons_succ])
            refine wpAnyH_take (i := 27) (oi := { dst := some 57, op := Op.indexAddr 24 (Operand.tmp 55) (Operand.tmp 56), type := 0, pos := _, after := _, guard := some (19, true) }) (v := undef) rfl (by kernel_rfl) (by kernel_rfl) (by kernel_rfl) (fun _ _ _ h => h) (Or.inr ⟨by rfl, rfl⟩) hHeld ?_
            (try simp only [Act.put, List.setIfInBounds_toArray, List.set_cons_zero, List.set_cons_succ])
            refine wpAnyH_take (i := 28) (oi := { dst := some 58, op := Op.load 34 (Operand.tmp 57), type := 34, pos := _, after := _, guard := some (19, true) }) (v := undef) rfl (by kernel_rfl) (by kernel_rfl) (by kernel_rfl) (fun _ _ _ h => h) (Or.inr ⟨by rfl, rfl⟩) hHeld ?_
            (try simp only [Act.put, List.setIfInBounds_toArray, List.set_cons_zero, List.set_cons_succ])
            refine wpAnyH_take (i := 29) (oi := { dst := some 59, op := Op.call { callee := Callee.value (Operand.func 43), args := #[Operand.tmp 50, Operand.tmp 54, Operand.tmp 58], argTypes := #[23, 34, 34] }, type := 4, pos := _, after := _, guard := some (19, true) }) (v := undef) rfl (by kernel_rfl) (by kernel_rfl) (by kernel_rfl) (fun _ _ _ h => h) (Or.inr ⟨by rfl, rfl⟩) hHeld ?_
            (try simp only [Act.put, List.setIfInBounds_toArray, List.set_cons_zero, List.set_cons_succ])
            refine wpAnyH_take (i := 30) (oi := { dst := some 60, op := Op.unOp UnOp.not 4 (Operand.tmp 59), type := 4, pos := _, after := _, guard := some (19, true) }) (v := undef) rfl (by kernel_rfl) (by kernel_rfl) (by kernel_rfl) (fun _ _ _ h => h) (Or.inr ⟨by rfl, rfl⟩) hHeld ?_
            (try simp only [Act.put, List.setIfInBounds_toArray, List.set_cons_zero, List.set_cons_succ])
            refine wpAnyH_take (i := 31) (oi := { dst := some 61, op := Op.pick (Operand.tmp 49) (Operand.tmp 60) (Operand.const (Value.bool false)), type := 4, pos := _, after := _, guard := none }) (v := ?_) rfl (by kernel_rfl) (by kernel_rfl) (by kernel_rfl) (fun _ _ _ h => h) (Or.inl ⟨by rfl, ?_⟩) hHeld ?_
            rotate_left
            · (intro w hSw; (try dsimp only at hSw); go_simp; (try with_reducible rfl))
            (try simp only [Act.put, List.setIfInBounds_toArray, List.set_cons_zero, List.set_cons_succ])
            refine wpAnyH_done (by kernel_rfl) ?_ _
            have HB4 := hid (HB3.out.trans (hbZ.mono HB3.out.size))
            clear hbZ d0 d1
            go_wp2
            go_roundw
            case rel => exact ⟨k + 1, by omega, by go_num, by rw [HS.out], HB4.out⟩
            case measure => simp [intOf]; omega
          cases z2
          · have HS := hid (show ovrA s g t i (k + 1) = za from by rw [hsucc]; simp)
            clear hsucc
            go_wp2
            refine wp_region_held_drew (S := fun w' => w'.cell? ⟨b, o + k, none⟩ = some y ∧ w'.cell? ⟨b, o + i, none⟩ = some x') (by kernel_rfl) ?_ (fun hHeld => ?_)
            · exact (by first | exact ⟨by assumption, by assumption⟩ | exact ⟨by first | assumption | (simp; assumption), by first | assumption | (simp; assumption)⟩)
            refine wpAnyH_take (i := 0) (oi := { dst := some 30, op := Op.move (Operand.tmp 0), type := 23, pos := _, after := _, guard := none }) (v := ?_) rfl (by kernel_rfl) (by kernel_rfl) (by kernel_rfl) (fun _ _ _ h => h) (Or.inl ⟨by rfl, ?_⟩) hHeld ?_
            rotate_left
            · (intro w hSw; (try dsimp only at hSw); go_simp; (try with_reducible rfl))
            (try simp only [Act.put, List.setIfInBounds_toArray, List.set_cons_zero, List.set_cons_succ])
            refine wpAnyH_take (i := 1) (oi := { dst := some 31, op := Op.move (Operand.tmp 1), type := 24, pos := _, after := _, guard := none }) (v := ?_) rfl (by kernel_rfl) (by kernel_rfl) (by kernel_rfl) (fun _ _ _ h => h) (Or.inl ⟨by rfl, ?_⟩) hHeld ?_
            rotate_left
            · (intro w hSw; (try dsimp only at hSw); go_simp; (try with_reducible rfl))
            (try simp only [Act.put, List.setIfInBounds_toArray, List.set_cons_zero, List.set_cons_succ])
            refine wpAnyH_take (i := 2) (oi := { dst := some 32, op := Op.move (Operand.tmp 9), type := 3, pos := _, after := _, guard := none }) (v := ?_) rfl (by kernel_rfl) (by kernel_rfl) (by kernel_rfl) (fun _ _ _ h => h) (Or.inl ⟨by rfl, ?_⟩) hHeld ?_
            rotate_left
            · (intro w hSw; (try dsimp only at hSw); go_simp; (try with_reducible rfl))
            (try simp only [Act.put, List.setIfInBounds_toArray, List.set_cons_zero, List.set_cons_succ])
            refine wpAnyH_take (i := 3) (oi := { dst := some 33, op := Op.indexAddr 24 (Operand.tmp 31) (Operand.tmp 32), type := 0, pos := _, after := _, guard := none }) (v := ?_) rfl (by kernel_rfl) (by kernel_rfl) (by kernel_rfl) (fun _ _ _ h => h) (Or.inl ⟨by rfl, ?_⟩) hHeld ?_
            rotate_left
            · (intro w hSw; (try dsimp only at hSw); go_simp; (try with_reducible rfl))
            (try simp only [Act.put, List.setIfInBounds_toArray, List.set_cons_zero, List.set_cons_succ])
            refine wpAnyH_take (i := 4) (oi := { dst := some 34, op := Op.load 34 (Operand.tmp 33), type := 34, pos := _, after := _, guard := none }) (v := ?_) rfl (by kernel_rfl) (by kernel_rfl) (by kernel_rfl) (fun _ _ _ h => h) (Or.inl ⟨by rfl, ?_⟩) hHeld ?_
            rotate_left
            · (intro w hSw; (try dsimp only at hSw); go_simp; (try with_reducible rfl))
            (try simp only [Act.put, List.setIfInBounds_toArray, List.set_cons_zero, List.set_cons_succ])
            refine wpAnyH_take (i := 5) (oi := { dst := some 35, op := Op.move (Operand.tmp 2), type := 34, pos := _, after := _, guard := none }) (v := ?_) rfl (by kernel_rfl) (by kernel_rfl) (by kernel_rfl) (fun _ _ _ h => h) (Or.inl ⟨by rfl, ?_⟩) hHeld ?_
            rotate_left
            · (intro w hSw; (try dsimp only at hSw); go_simp; (try with_reducible rfl))
            (try simp only [Act.put, List.setIfInBounds_toArray, List.set_cons_zero, List.set_cons_succ])
            refine wpAnyH_ready (rs := [6]) (by kernel_rfl) (by simp) ?_
            refine AllReadyH.cons (o := { dst := some 36, op := Op.call { callee := Callee.value (Operand.func 43), args := #[Operand.tmp 30, Operand.tmp 34, Operand.tmp 35], argTypes := #[23, 34, 34] }, type := 4, pos := _, after := _, guard := none }) rfl (fun K hK => ?_) AllReadyH.nil
            go_simp
            (first | (with_reducible refine (H1.out _ (by first | exact hbZ | exact hbZ.drew | exact HBR.out | exact HBR.out.drew | exact below_self_drewN _ _)).mono ?_) | (with_reducible refine (H2.out _ (by first | exact hbZ | exact hbZ.drew | exact HBR.out | exact HBR.out.drew | exact below_self_drewN _ _)).mono ?_)); rintro e wz ⟨rfl, hbZ⟩; have d0 := (hbZ.cell (World.block_lt_of_cell? _ _ cy)).trans cy; have d1 := (hbZ.cell (World.block_lt_of_cell? _ _ cx3)).trans cx3
            refine hK.out _ _ ?_ (fun hHeld => ?_)
            · exact (by first | exact ⟨by assumption, by assumption⟩ | exact ⟨by first | assumption | (simp; assumption), by first | assumption | (simp; assumption)⟩)
            clear hK K
            (try simp only [Act.put, List.setIfInBounds_toArray, List.set_cons_zero, List.set_cons_succ])
            refine wpAnyH_take (i := 7) (oi := { dst := some 37, op := Op.move (Operand.tmp 36), type := 4, pos := _, after := _, guard := none }) (v := ?_) rfl (by kernel_rfl) (by kernel_rfl) (by kernel_rfl) (fun _ _ _ h => h) (Or.inl ⟨by rfl, ?_⟩) hHeld ?_
            rotate_left
            · (intro w hSw; (try dsimp only at hSw); go_simp; (try with_reducible rfl))
            (try simp only [Act.put, List.setIfInBounds_toArray, List.set_cons_zero, List.set_cons_succ])
            refine wpAnyH_take (i := 8) (oi := { dst := some 38, op := Op.move (Operand.tmp 0), type := 23, pos := _, after := _, guard := some (7, true) }) (v := ?_) rfl (by kernel_rfl) (by kernel_rfl) (by kernel_rfl) (fun _ _ _ h => h) (Or.inl ⟨by rfl, ?_⟩) hHeld ?_
            rotate_left
            · (intro w hSw; (try dsimp only at hSw); go_simp; (try with_reducible rfl))
            (try simp only [Act.put, List.setIfInBounds_toArray, List.set_cons_zero, List.set_cons_succ])
            refine wpAnyH_take (i := 9) (oi := { dst := some 39, op := Op.move (Operand.tmp 1), type := 24, pos := _, after := _, guard := some (7, true) }) (v := ?_) rfl (by kernel_rfl) (by kernel_rfl) (by kernel_rfl) (fun _ _ _ h => h) (Or.inl ⟨by rfl, ?_⟩) hHeld ?_
            rotate_left
            · (intro w hSw; (try dsimp only at hSw); go_simp; (try with_reducible rfl))
            (try simp only [Act.put, List.setIfInBounds_toArray, List.set_cons_zero, List.set_cons_succ])
            refine wpAnyH_take (i := 10) (oi := { dst := some 40, op := Op.move (Operand.tmp 9), type := 3, pos := _, after := _, guard := some (7, true) }) (v := ?_) rfl (by kernel_rfl) (by kernel_rfl) (by kernel_rfl) (fun _ _ _ h => h) (Or.inl ⟨by rfl, ?_⟩) hHeld ?_
            rotate_left
            · (intro w hSw; (try dsimp only at hSw); go_simp; (try with_reducible rfl))
            (try simp only [Act.put, List.setIfInBounds_toArray, List.set_cons_zero, List.set_cons_succ])
            refine wpAnyH_take (i := 11) (oi := { dst := some 41, op := Op.indexAddr 24 (Operand.tmp 39) (Operand.tmp 40), type := 0, pos := _, after := _, guard := some (7, true) }) (v := ?_) rfl (by kernel_rfl) (by kernel_rfl) (by kernel_rfl) (fun _ _ _ h => h) (Or.inl ⟨by rfl, ?_⟩) hHeld ?_
            rotate_left
            · (intro w hSw; (try dsimp only at hSw); go_simp; (try with_reducible rfl))
            (try simp only [Act.put, List.setIfInBounds_toArray, List.set_cons_zero, List.set_cons_succ])
            refine wpAnyH_take (i := 12) (oi := { dst := some 42, op := Op.load 34 (Operand.tmp 41), type := 34, pos := _, after := _, guard := some (7, true) }) (v := ?_) rfl (by kernel_rfl) (by kernel_rfl) (by kernel_rfl) (fun _ _ _ h => h) (Or.inl ⟨by rfl, ?_⟩) hHeld ?_
            rotate_left
            · (intro w hSw; (try dsimp only at hSw); go_simp; (try with_reducible rfl))
            (try simp only [Act.put, List.setIfInBounds_toArray, List.set_cons_zero, List.set_cons_succ])
            refine wpAnyH_take (i := 13) (oi := { dst := some 43, op := Op.move (Operand.tmp 1), type := 24, pos := _, after := _, guard := some (7, true) }) (v := ?_) rfl (by kernel_rfl) (by kernel_rfl) (by kernel_rfl) (fun _ _ _ h => h) (Or.inl ⟨by rfl, ?_⟩) hHeld ?_
            rotate_left
            · (intro w hSw; (try dsimp only at hSw); go_simp; (try with_reducible rfl))
            (try simp only [Act.put, List.setIfInBounds_toArray, List.set_cons_zero, List.set_cons_succ])
            refine wpAnyH_take (i := 14) (oi := { dst := some 44, op := Op.move (Operand.tmp 7), type := 3, pos := _, after := _, guard := some (7, true) }) (v := ?_) rfl (by kernel_rfl) (by kernel_rfl) (by kernel_rfl) (fun _ _ _ h => h) (Or.inl ⟨by rfl, ?_⟩) hHeld ?_
            rotate_left
            · (intro w hSw; (try dsimp only at hSw); go_simp; (try with_reducible rfl))
            (try simp only [Act.put, List.setIfInBounds_toArray, List.set_cons_zero, List.set_cons_succ])
            refine wpAnyH_take (i := 15) (oi := { dst := some 45, op := Op.indexAddr 24 (Operand.tmp 43) (Operand.tmp 44), type := 0, pos := _, after := _, guard := some (7, true) }) (v := ?_) rfl (by kernel_rfl) (by kernel_rfl) (by kernel_rfl) (fun _ _ _ h => h) (Or.inl ⟨by rfl, ?_⟩) hHeld ?_
            rotate_left
            · (intro w hSw; (try dsimp only at hSw); go_simp; (try with_reducible rfl))
            (try simp only [Act.put, List.setIfInBounds_toArray, List.set_cons_zero, List.set_cons_succ])
            refine wpAnyH_take (i := 16) (oi := { dst := some 46, op := Op.load 34 (Operand.tmp 45), type := 34, pos := _, after := _, guard := some (7, true) }) (v := ?_) rfl (by kernel_rfl) (by kernel_rfl) (by kernel_rfl) (fun _ _ _ h => h) (Or.inl ⟨by rfl, ?_⟩) hHeld ?_
            rotate_left
            · (intro w hSw; (try dsimp only at hSw); go_simp; (try with_reducible rfl))
            (try simp only [Act.put, List.setIfInBounds_toArray, List.set_cons_zero, List.set_cons_succ])
            refine wpAnyH_ready (rs := [17]) (by kernel_rfl) (by simp) ?_
            refine AllReadyH.cons (o := { dst := some 47, op := Op.call { callee := Callee.value (Operand.func 43), args := #[Operand.tmp 38, Operand.tmp 42, Operand.tmp 46], argTypes := #[23, 34, 34] }, type := 4, pos := _, after := _, guard := some (7, true) }) rfl (fun K hK => ?_) AllReadyH.nil
            go_simp
            (first | (with_reducible refine (H1.out _ (by first | exact hbZ | exact hbZ.drew | exact HBR.out | exact HBR.out.drew | exact below_self_drewN _ _)).mono ?_) | (with_reducible refine (H2.out _ (by first | exact hbZ | exact hbZ.drew | exact HBR.out | exact HBR.out.drew | exact below_self_drewN _ _)).mono ?_)); rintro e wz ⟨rfl, hbZ⟩; have d0 := (hbZ.cell (World.block_lt_of_cell? _ _ cy)).trans cy; have d1 := (hbZ.cell (World.block_lt_of_cell? _ _ cx3)).trans cx3
            refine hK.out _ _ ?_ (fun hHeld => ?_)
            · exact (by first | exact ⟨by assumption, by assumption⟩ | exact ⟨by first | assumption | (simp; assumption), by first | assumption | (simp; assumption)⟩)
            clear hK K
            (try simp only [Act.put, List.setIfInBounds_toArray, List.set_cons_zero, List.set_cons_succ])
            refine wpAnyH_take (i := 18) (oi := { dst := some 48, op := Op.pick (Operand.tmp 37) (Operand.tmp 47) (Operand.const (Value.bool false)), type := 4, pos := _, after := _, guard := none }) (v := ?_) rfl (by kernel_rfl) (by kernel_rfl) (by kernel_rfl) (fun _ _ _ h => h) (Or.inl ⟨by rfl, ?_⟩) hHeld ?_
            rotate_left
            · (intro w hSw; (try dsimp only at hSw); go_simp; (try with_reducible rfl))
            (try simp only [Act.put, List.setIfInBounds_toArray, List.set_cons_zero, List.set_cons_succ])
            refine wpAnyH_take (i := 19) (oi := { dst := some 49, op := Op.move (Operand.tmp 48), type := 4, pos := _, after := _, guard := none }) (v := ?_) rfl (by kernel_rfl) (by kernel_rfl) (by kernel_rfl) (fun _ _ _ h => h) (Or.inl ⟨by rfl, ?_⟩) hHeld ?_
            rotate_left
            · (intro w hSw; (try dsimp only at hSw); go_simp; (try with_reducible rfl))
            (try simp only [Act.put, List.setIfInBounds_toArray, List.set_cons_zero, List.set_cons_succ])
            refine wpAnyH_take (i := 20) (oi := { dst := some 50, op := Op.move (Operand.tmp 0), type := 23, pos := _, after := _, guard := some (19, true) }) (v := undef) rfl (by kernel_rfl) (by kernel_rfl) (by kernel_rfl) (fun _ _ _ h => h) (Or.inr ⟨by rfl, rfl⟩) hHeld ?_
            (try simp only [Act.put, List.setIfInBounds_toArray, List.set_cons_zero, List.set_cons_succ])
            refine wpAnyH_take (i := 21) (oi := { dst := some 51, op := Op.move (Operand.tmp 1), type := 24, pos := _, after := _, guard := some (19, true) }) (v := undef) rfl (by kernel_rfl) (by kernel_rfl) (by kernel_rfl) (fun _ _ _ h => h) (Or.inr ⟨by rfl, rfl⟩) hHeld ?_
            (try simp only [Act.put, List.setIfInBounds_toArray, List.set_cons_zero, List.set_cons_succ])
            refine wpAnyH_take (i := 22) (oi := { dst := some 52, op := Op.move (Operand.tmp 7), type := 3, pos := _, after := _, guard := some (19, true) }) (v := undef) rfl (by kernel_rfl) (by kernel_rfl) (by kernel_rfl) (fun _ _ _ h => h) (Or.inr ⟨by rfl, rfl⟩) hHeld ?_
            (try simp only [Act.put, List.setIfInBounds_toArray, List.set_cons_zero, List.set_cons_succ])
            refine wpAnyH_take (i := 23) (oi := { dst := some 53, op := Op.indexAddr 24 (Operand.tmp 51) (Operand.tmp 52), type := 0, pos := _, after := _, guard := some (19, true) }) (v := undef) rfl (by kernel_rfl) (by kernel_rfl) (by kernel_rfl) (fun _ _ _ h => h) (Or.inr ⟨by rfl, rfl⟩) hHeld ?_
            (try simp only [Act.put, List.setIfInBounds_toArray, List.set_cons_zero, List.set_cons_succ])
            refine wpAnyH_take (i := 24) (oi := { dst := some 54, op := Op.load 34 (Operand.tmp 53), type := 34, pos := _, after := _, guard := some (19, true) }) (v := undef) rfl (by kernel_rfl) (by kernel_rfl) (by kernel_rfl) (fun _ _ _ h => h) (Or.inr ⟨by rfl, rfl⟩) hHeld ?_
            (try simp only [Act.put, List.setIfInBounds_toArray, List.set_cons_zero, List.set_cons_succ])
            refine wpAnyH_take (i := 25) (oi := { dst := some 55, op := Op.move (Operand.tmp 1), type := 24, pos := _, after := _, guard := some (19, true) }) (v := undef) rfl (by kernel_rfl) (by kernel_rfl) (by kernel_rfl) (fun _ _ _ h => h) (Or.inr ⟨by rfl, rfl⟩) hHeld ?_
            (try simp only [Act.put, List.setIfInBounds_toArray, List.set_cons_zero, List.set_cons_succ])
            refine wpAnyH_take (i := 26) (oi := { dst := some 56, op := Op.move (Operand.tmp 9), type := 3, pos := _, after := _, guard := some (19, true) }) (v := undef) rfl (by kernel_rfl) (by kernel_rfl) (by kernel_rfl) (fun _ _ _ h => h) (Or.inr ⟨by rfl, rfl⟩) hHeld ?_
            (try simp only [Act.put, List.setIfInBounds_toArray, List.set_cons_zero, List.set_cons_succ])
            refine wpAnyH_take (i := 27) (oi := { dst := some 57, op := Op.indexAddr 24 (Operand.tmp 55) (Operand.tmp 56), type := 0, pos := _, after := _, guard := some (19, true) }) (v := undef) rfl (by kernel_rfl) (by kernel_rfl) (by kernel_rfl) (fun _ _ _ h => h) (Or.inr ⟨by rfl, rfl⟩) hHeld ?_
            (try simp only [Act.put, List.setIfInBounds_toArray, List.set_cons_zero, List.set_cons_succ])
            refine wpAnyH_take (i := 28) (oi := { dst := some 58, op := Op.load 34 (Operand.tmp 57), type := 34, pos := _, after := _, guard := some (19, true) }) (v := undef) rfl (by kernel_rfl) (by kernel_rfl) (by kernel_rfl) (fun _ _ _ h => h) (Or.inr ⟨by rfl, rfl⟩) hHeld ?_
            (try simp only [Act.put, List.setIfInBounds_toArray, List.set_cons_zero, List.set_cons_succ])
            refine wpAnyH_take (i := 29) (oi := { dst := some 59, op := Op.call { callee := Callee.value (Operand.func 43), args := #[Operand.tmp 50, Operand.tmp 54, Operand.tmp 58], argTypes := #[23, 34, 34] }, type := 4, pos := _, after := _, guard := some (19, true) }) (v := undef) rfl (by kernel_rfl) (by kernel_rfl) (by kernel_rfl) (fun _ _ _ h => h) (Or.inr ⟨by rfl, rfl⟩) hHeld ?_
            (try simp only [Act.put, List.setIfInBounds_toArray, List.set_cons_zero, List.set_cons_succ])
            refine wpAnyH_take (i := 30) (oi := { dst := some 60, op := Op.unOp UnOp.not 4 (Operand.tmp 59), type := 4, pos := _, after := _, guard := some (19, true) }) (v := undef) rfl (by kernel_rfl) (by kernel_rfl) (by kernel_rfl) (fun _ _ _ h => h) (Or.inr ⟨by rfl, rfl⟩) hHeld ?_
            (try simp only [Act.put, List.setIfInBounds_toArray, List.set_cons_zero, List.set_cons_succ])
            refine wpAnyH_take (i := 31) (oi := { dst := some 61, op := Op.pick (Operand.tmp 49) (Operand.tmp 60) (Operand.const (Value.bool false)), type := 4, pos := _, after := _, guard := none }) (v := ?_) rfl (by kernel_rfl) (by kernel_rfl) (by kernel_rfl) (fun _ _ _ h => h) (Or.inl ⟨by rfl, ?_⟩) hHeld ?_
            rotate_left
            · (intro w hSw; (try dsimp only at hSw); go_simp; (try with_reducible rfl))
            (try simp only [Act.put, List.setIfInBounds_toArray, List.set_cons_zero, List.set_cons_succ])
            refine wpAnyH_done (by kernel_rfl) ?_ _
            have HB4 := hid (HB3.out.trans (hbZ.mono HB3.out.size))
            clear hbZ d0 d1
            go_wp2
            go_roundw
            case rel => exact ⟨k + 1, by omega, by go_num, by rw [HS.out], HB4.out⟩
            case measure => simp [intOf]; omega
          have HS := hid (show ovrA s g t i (k + 1) = (za && z3) from by rw [hsucc]; simp)
          clear hsucc
          go_wp2
          go_region_held3 (fun w' => w'.cell? ⟨b, o + k, none⟩ = some y ∧ w'.cell? ⟨b, o + i, none⟩ = some x') (first | exact ⟨by assumption, by assumption⟩ | go_keep)
            (first
              | (go_at_call 43; (with_reducible refine (H1.out _ (by first | exact hbZ | exact hbZ.drew | exact HBR.out | exact HBR.out.drew | exact below_self_drewN _ _)).mono ?_); rintro e wz ⟨rfl, hbZ⟩; have d0 := (hbZ.cell (World.block_lt_of_cell? _ _ cy)).trans cy; have d1 := (hbZ.cell (World.block_lt_of_cell? _ _ cx3)).trans cx3)
              | (go_at_call 43; (with_reducible refine (H2.out _ (by first | exact hbZ | exact hbZ.drew | exact HBR.out | exact HBR.out.drew | exact below_self_drewN _ _)).mono ?_); rintro e wz ⟨rfl, hbZ⟩; have d0 := (hbZ.cell (World.block_lt_of_cell? _ _ cy)).trans cy; have d1 := (hbZ.cell (World.block_lt_of_cell? _ _ cx3)).trans cx3)
              | (go_at_call 43; (with_reducible refine (H3.out _ (by first | exact hbZ | exact hbZ.drew | exact HBR.out | exact HBR.out.drew | exact below_self_drewN _ _)).mono ?_); rintro e wz ⟨rfl, hbZ⟩; have d0 := (hbZ.cell (World.block_lt_of_cell? _ _ cy)).trans cy; have d1 := (hbZ.cell (World.block_lt_of_cell? _ _ cx3)).trans cx3))
          have HB4 := hid (HB3.out.trans (hbZ.mono HB3.out.size))
          clear hbZ d0 d1
          cases z3
          · go_wp2
            go_roundw
            case rel => exact ⟨k + 1, by omega, by go_num, by rw [HS.out, Bool.and_false], HB4.out⟩
            case measure => simp [intOf]; omega
          · go_wp2
            go_roundw
            case rel => exact ⟨k + 1, by omega, by go_num, by rw [HS.out, Bool.and_true], HB4.out⟩
            case measure => simp [intOf]; omega
        · have hke : k = g.length := by omega
          subst hke
          rw [← HBE.out]
          cases hbe : bestB s g t i
          · have HN2 := hid hbe
            clear hbe hb3
            go_wp2
            go_roundw
            case rel =>
              refine ⟨i + 1, by omega, by go_num, fun j hj => ?_, HB3.out⟩
              by_cases e : j = i
              · subst e; exact HN2.out
              · exact HNO.out j (by omega)
            case measure => simp [intOf]; omega
          · have HR := hid (bestI_at hlt HNO.out hbe)
            clear hbe hb3
            go_wp2
            go_ret
            exact ⟨by rw [HR.out]; rfl, HB3.out⟩
    · have hie : i = g.length := by omega
      subst hie
      have HR := hid (bestI_no HNO.out)
      clear hno hb
      go_wp2
      go_ret
      exact ⟨by rw [HR.out]; rfl, HB.out⟩
end Go.Proofs.YtmpjaakkjhmpmaaGreatDoor
