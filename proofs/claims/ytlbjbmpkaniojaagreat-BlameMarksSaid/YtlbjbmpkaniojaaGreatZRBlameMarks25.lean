/-
  WHAT IT HOLDS: the contract of Valid of the reference of layer 6. Conditions: the arguments read as data; small signs, small libraries.
-/
import Derived.Test.YtlbjbmpkaniojaaGreatZRBlameMarks22
namespace Go.Proofs.YtlbjbmpkaniojaaGreat
open Go Go.RowKit Go.Maps
theorem idxI_neg {l : List En} {n : Nm} (h : idxI l n < 0) : ∀ x ∈ l, x.name ≠ n := by
  unfold idxI at h
  cases e : idxN l n with
  | none => exact idxN_none e
  | some i => rw [e] at h; simp only at h; omega
theorem idxI_pos {l : List En} {n : Nm} (h : 0 ≤ idxI l n) : ∃ i, ∃ hi : i < l.length, l[i].name = n ∧ idxI l n = i ∧ idxN l n = some i := by
  unfold idxI at h ⊢
  cases e : idxN l n with
  | none => rw [e] at h; simp at h
  | some i => obtain ⟨h1, h2⟩ := idxN_some e; exact ⟨i, h1, h2, rfl, rfl⟩
theorem idxI_ge (l : List En) (n : Nm) : -1 ≤ idxI l n ∧ idxI l n < l.length ∨ idxI l n = -1 := by
  by_cases h : 0 ≤ idxI l n
  · obtain ⟨i, hi, -, e, -⟩ := idxI_pos h; exact Or.inl (by omega)
  · unfold idxI at h ⊢
    cases e : idxN l n with
    | none => exact Or.inr rfl
    | some i => rw [e] at h; simp at h
theorem names_nd {l : List En} (h : ∀ j (hj : j < l.length), idxI (l.take j) l[j].name < 0) : (l.map En.name).Nodup := by
  rw [List.Nodup, List.pairwise_iff_getElem]
  intro i j hi hj hij
  simp only [List.length_map] at hi hj
  have h1 := idxI_neg (h j hj) l[i] (List.mem_take_iff_getElem.2 ⟨i, by omega, rfl⟩)
  simpa using h1
theorem names_dup {l : List En} {j : Nat} (hj : j < l.length) (h : 0 ≤ idxI (l.take j) l[j].name) : ¬ (l.map En.name).Nodup := by
  intro hn
  obtain ⟨i, hi, e, -⟩ := idxI_pos h
  have hi' : i < j := by rw [List.length_take] at hi; omega
  have := List.pairwise_iff_getElem.1 hn i j (by simp; omega) (by simpa using hj) hi'
  rw [List.getElem_take] at e
  exact this (by simpa using e)
set_option maxHeartbeats 4000000 in
set_option maxRecDepth 100000 in
theorem ref6_Valid (vs vl : Value) (s : Sg) (l : List En) (w : World) (hs : SignAt w vs s) (hl : EntsAt w vl l) (hs1 : s.length ≤ 1000) (hl1 : l.length ≤ 1000) :
    Calls Tryz.prog 68 #[vs, vl] w fun e w' => e = .returned (.bool (libB s l)) ∧ Below w.heap.size w w' := by
  have HLL := hid hl
  obtain ⟨la, lc, rfl, lcap, ll, -, HC⟩ := hl.open
  have HC' := hid HC
  have HSG := hid hs
  clear HC hl hs
  cases g1 : signB s
  · have HF : Hid (libB s l = false) := hid (by unfold libB; rw [g1]; rfl)
    have G1 := hid g1
    clear g1
    go_enter Tryz.func68, Tryz.ntmps68
    go_wp2_with fail
    refine (ref1_ValidSign _ _ _ HSG.out).mono ?_
    rintro e w1 ⟨rfl, n, rfl⟩
    rw [G1.out]
    go_wp2
    go_ret
    exact ⟨ret_bool HF.out.symm, below_self_drewN _ _⟩
  by_cases g2 : ¬ l.length ≤ 60
  · have HF : Hid (libB s l = false) := hid (by unfold libB; rw [decide_eq_false g2]; simp)
    have g2' : (l.length : Int) > 60 := by omega
    have G1 := hid g1
    clear g1 g2
    go_enter Tryz.func68, Tryz.ntmps68
    go_wp2_with fail
    refine (ref1_ValidSign _ _ _ HSG.out).mono ?_
    rintro e w1 ⟨rfl, n, rfl⟩
    rw [G1.out]
    go_wp2
    go_ret
    exact ⟨ret_bool HF.out.symm, below_self_drewN _ _⟩
  have g2' : ¬ ((l.length : Int) > 60) := by omega
  have HLB : Hid (libB s l = (l.all (entryB s) && decide (l.map En.name).Nodup)) := hid (by unfold libB; rw [g1, decide_eq_true (Classical.not_not.1 g2)]; rfl)
  have G1 := hid g1
  clear g1 g2
  go_enter Tryz.func68, Tryz.ntmps68
  go_wp2_with fail
  refine (ref1_ValidSign _ _ _ HSG.out).mono ?_
  rintro e w1 ⟨rfl, n, hw1⟩
  have hb1 : Below w.heap.size w w1 := hw1 ▸ below_self_drewN w n
  rw [G1.out]
  clear hw1
  go_wp2
  go_loopw [5] (fun kv wr => ∃ k : Nat, k ≤ l.length ∧ kv = .int .i64 k ∧ Below w.heap.size w wr ∧ (∀ j (hj : j < l.length), j < k → entryB s l[j] = true) ∧ ∀ j (hj : j < l.length), j < k → idxI (l.take j) l[j].name < 0) (fun kv _ => l.length - (intOf kv).toNat)
  case atStart => exact ⟨0, by omega, rfl, hb1, by simp, by simp⟩
  case round =>
    clear hb1
    obtain ⟨k, hk, rfl, hb, hn, hh⟩ := hrel
    have HN := hid hn
    have HH := hid hh
    have hsz := hb.size
    clear hn hh
    by_cases hlt : k < l.length
    · obtain ⟨b, o, vS, vu, vp, rfl, c0, c1, c2, c3, c4, he⟩ := HC'.out k hlt
      have he' := he.below hb
      obtain ⟨sa, sc, rfl, -⟩ := he'.s.open
      obtain ⟨ua, uc, rfl, -⟩ := he'.u.open
      obtain ⟨pa, pc, rfl, -⟩ := he'.p.open
      have d0 := (hb.cell (World.block_lt_of_cell? _ _ c0)).trans c0
      have d1 := (hb.cell (World.block_lt_of_cell? _ _ c1)).trans c1
      have d2 := (hb.cell (World.block_lt_of_cell? _ _ c2)).trans c2
      have d3 := (hb.cell (World.block_lt_of_cell? _ _ c3)).trans c3
      have d4 := (hb.cell (World.block_lt_of_cell? _ _ c4)).trans c4
      have HNO := hid (fun h => libB_no (s := s) (List.getElem_mem hlt) h)
      have HDUP := hid (fun h => names_dup hlt h)
      have HIG := hid (idxI_ge (l.take k) l[k].name)
      have HIXC : ∀ X, Below wr.heap.size wr X → Calls Tryz.prog 51 #[.slice (some ⟨b, o, none⟩) k lc, .string l[k].name] X fun e w' => e = .returned (.int .i64 (idxI (l.take k) l[k].name)) ∧ X = w' := fun X hX => ref6_Index _ _ _ X (((HLL.out.below hb).below hX).take k (by omega))
      obtain ⟨x, hx⟩ : ∃ x, l[k] = x := ⟨_, rfl⟩
      have HX := hid hx
      rw [hx] at d0 d1 he' HNO d2 d3 d4 HDUP HIXC HIG
      have HVE := hid (fun (X : World) (hX : Below wr.heap.size wr X) => (ref6_ValidEntry vs (.slice sa x.says.length sc) (.slice ua x.uses.length uc) (.slice pa x.proof.length pc) s x X ((HSG.out.below hb).below hX) (he'.below hX) hs1).mono (fun _ _ h => ⟨h.1, hX.trans (h.2.mono hX.size)⟩ : ∀ e w', _ → e = .returned (.bool (entryB s x)) ∧ Below wr.heap.size wr w'))
      have HIXC := hid HIXC
      have HB := hid hb
      have y1 : k ≤ lc := by omega
      have y2 : (k : Int) ≤ (lc : Int) := by omega
      have y3 : (0 : Int) ≤ (k : Int) := by omega
      clear c0 c1 c2 c3 c4 he hx he' hb
      cases g : entryB s x
      · have HF : Hid (libB s l = false) := hid (HNO.out g)
        simp only [g] at HVE
        clear g
        go_wp2
        have hbZ : Below wr.heap.size wr wr := Below.refl _ _
        refine wp_region_held_drew (S := fun w' => w'.cell? ⟨b, o + k * 5, none⟩ = some (.string x.name) ∧ w'.cell? ⟨b, o + k * 5 + 1, none⟩ = some (.string x.who) ∧ w'.cell? ⟨b, o + k * 5 + 2, none⟩ = some (.slice sa x.says.length sc) ∧ w'.cell? ⟨b, o + k * 5 + 3, none⟩ = some (.slice ua x.uses.length uc) ∧ w'.cell? ⟨b, o + k * 5 + 4, none⟩ = some (.slice pa x.proof.length pc)) (by kernel_rfl) ?_ (fun hHeld => ?_)
        · exact ⟨d0, d1, d2, d3, d4⟩
        refine wpAnyH_take (i := 0) (oi := { dst := some 20, op := Op.move (Operand.tmp 0), type := 23, pos := _, after := _, guard := none }) (v := ?_) rfl (by kernel_rfl) (by kernel_rfl) (by kernel_rfl) (fun _ _ _ h => h) (Or.inl ⟨by rfl, ?_⟩) hHeld ?_
        rotate_left
        · (intro w hSw; (try dsimp only at hSw); go_simp; (try with_reducible rfl))
        (try simp only [Act.put, List.setIfInBounds_toArray, List.set_cons_zero, List.set_cons_succ])
        refine wpAnyH_take (i := 1) (oi := { dst := some 21, op := Op.move (Operand.tmp 1), type := 24, pos := _, after := _, guard := none }) (v := ?_) rfl (by kernel_rfl) (by kernel_rfl) (by kernel_rfl) (fun _ _ _ h => h) (Or.inl ⟨by rfl, ?_⟩) hHeld ?_
        rotate_left
        · (intro w hSw; (try dsimp only at hSw); go_simp; (try with_reducible rfl))
        (try simp only [Act.put, List.setIfInBounds_toArray, List.set_cons_zero, List.set_cons_succ])
        refine wpAnyH_take (i := 2) (oi := { dst := some 22, op := Op.move (Operand.tmp 5), type := 3, pos := _, after := _, guard := none }) (v := ?_) rfl (by kernel_rfl) (by kernel_rfl) (by kernel_rfl) (fun _ _ _ h => h) (Or.inl ⟨by rfl, ?_⟩) hHeld ?_
        rotate_left
        · (intro w hSw; (try dsimp only at hSw); go_simp; (try with_reducible rfl))
        (try simp only [Act.put, List.setIfInBounds_toArray, List.set_cons_zero, List.set_cons_succ])
        refine wpAnyH_take (i := 3) (oi := { dst := some 23, op := Op.indexAddr 24 (Operand.tmp 21) (Operand.tmp 22), type := 0, pos := _, after := _, guard := none }) (v := ?_) rfl (by kernel_rfl) (by kernel_rfl) (by kernel_rfl) (fun _ _ _ h => h) (Or.inl ⟨by rfl, ?_⟩) hHeld ?_
        rotate_left
        · (intro w hSw; (try dsimp only at hSw); go_simp; (try with_reducible rfl))
        (try simp only [Act.put, List.setIfInBounds_toArray, List.set_cons_zero, List.set_cons_succ])
        refine wpAnyH_take (i := 4) (oi := { dst := some 24, op := Op.load 41 (Operand.tmp 23), type := 41, pos := _, after := _, guard := none }) (v := ?_) rfl (by kernel_rfl) (by kernel_rfl) (by kernel_rfl) (fun _ _ _ h => h) (Or.inl ⟨by rfl, ?_⟩) hHeld ?_
        rotate_left
        · (intro w hSw; (try dsimp only at hSw); go_simp; (try with_reducible rfl))
        (try simp only [Act.put, List.setIfInBounds_toArray, List.set_cons_zero, List.set_cons_succ])
        refine wpAnyH_ready (rs := [5]) (by kernel_rfl) (by simp) ?_
        refine AllReadyH.cons (o := { dst := some 25, op := Op.call { callee := Callee.value (Operand.func 75), args := #[Operand.tmp 20, Operand.tmp 24], argTypes := #[23, 41] }, type := 4, pos := _, after := _, guard := none }) rfl (fun K hK => ?_) AllReadyH.nil
        (try go_simp)
        (refine (HVE.out _ (by first | exact hbZ | exact hbZ.drew | exact below_drewN hbZ _)).mono ?_; rintro e wz ⟨rfl, hbZ⟩; have d0 := (hbZ.cell (World.block_lt_of_cell? _ _ d0)).trans d0; have d1 := (hbZ.cell (World.block_lt_of_cell? _ _ d1)).trans d1; have d2 := (hbZ.cell (World.block_lt_of_cell? _ _ d2)).trans d2; have d3 := (hbZ.cell (World.block_lt_of_cell? _ _ d3)).trans d3; have d4 := (hbZ.cell (World.block_lt_of_cell? _ _ d4)).trans d4)
        refine hK.out _ _ ?_ (fun hHeld => ?_)
        · exact ⟨d0, d1, d2, d3, d4⟩
        clear hK K
        (try simp only [Act.put, List.setIfInBounds_toArray, List.set_cons_zero, List.set_cons_succ])
        refine wpAnyH_take (i := 6) (oi := { dst := some 26, op := Op.unOp UnOp.not 4 (Operand.tmp 25), type := 4, pos := _, after := _, guard := none }) (v := ?_) rfl (by kernel_rfl) (by kernel_rfl) (by kernel_rfl) (fun _ _ _ h => h) (Or.inl ⟨by rfl, ?_⟩) hHeld ?_
        rotate_left
        · (intro w hSw; (try dsimp only at hSw); go_simp; (try with_reducible rfl))
        (try simp only [Act.put, List.setIfInBounds_toArray, List.set_cons_zero, List.set_cons_succ])
        refine wpAnyH_take (i := 7) (oi := { dst := some 27, op := Op.move (Operand.tmp 26), type := 4, pos := _, after := _, guard := none }) (v := ?_) rfl (by kernel_rfl) (by kernel_rfl) (by kernel_rfl) (fun _ _ _ h => h) (Or.inl ⟨by rfl, ?_⟩) hHeld ?_
        rotate_left
        · (intro w hSw; (try dsimp only at hSw); go_simp; (try with_reducible rfl))
        (try simp only [Act.put, List.setIfInBounds_toArray, List.set_cons_zero, List.set_cons_succ])
        refine wpAnyH_take (i := 8) (oi := { dst := some 28, op := Op.move (Operand.tmp 1), type := 24, pos := _, after := _, guard := some (7, false) }) (v := undef) rfl (by kernel_rfl) (by kernel_rfl) (by kernel_rfl) (fun _ _ _ h => h) (Or.inr ⟨by rfl, rfl⟩) hHeld ?_
        (try simp only [Act.put, List.setIfInBounds_toArray, List.set_cons_zero, List.set_cons_succ])
        refine wpAnyH_take (i := 9) (oi := { dst := some 29, op := Op.move (Operand.tmp 5), type := 3, pos := _, after := _, guard := some (7, false) }) (v := undef) rfl (by kernel_rfl) (by kernel_rfl) (by kernel_rfl) (fun _ _ _ h => h) (Or.inr ⟨by rfl, rfl⟩) hHeld ?_
        (try simp only [Act.put, List.setIfInBounds_toArray, List.set_cons_zero, List.set_cons_succ])
        refine wpAnyH_take (i := 10) (oi := { dst := some 30, op := Op.slice 24 (Operand.tmp 28) none (some (Operand.tmp 29)) none, type := 24, pos := _, after := _, guard := some (7, false) }) (v := undef) rfl (by kernel_rfl) (by kernel_rfl) (by kernel_rfl) (fun _ _ _ h => h) (Or.inr ⟨by rfl, rfl⟩) hHeld ?_
        (try simp only [Act.put, List.setIfInBounds_toArray, List.set_cons_zero, List.set_cons_succ])
        refine wpAnyH_take (i := 11) (oi := { dst := some 31, op := Op.move (Operand.tmp 1), type := 24, pos := _, after := _, guard := some (7, false) }) (v := undef) rfl (by kernel_rfl) (by kernel_rfl) (by kernel_rfl) (fun _ _ _ h => h) (Or.inr ⟨by rfl, rfl⟩) hHeld ?_
        (try simp only [Act.put, List.setIfInBounds_toArray, List.set_cons_zero, List.set_cons_succ])
        refine wpAnyH_take (i := 12) (oi := { dst := some 32, op := Op.move (Operand.tmp 5), type := 3, pos := _, after := _, guard := some (7, false) }) (v := undef) rfl (by kernel_rfl) (by kernel_rfl) (by kernel_rfl) (fun _ _ _ h => h) (Or.inr ⟨by rfl, rfl⟩) hHeld ?_
        (try simp only [Act.put, List.setIfInBounds_toArray, List.set_cons_zero, List.set_cons_succ])
        refine wpAnyH_take (i := 13) (oi := { dst := some 33, op := Op.indexAddr 24 (Operand.tmp 31) (Operand.tmp 32), type := 0, pos := _, after := _, guard := some (7, false) }) (v := undef) rfl (by kernel_rfl) (by kernel_rfl) (by kernel_rfl) (fun _ _ _ h => h) (Or.inr ⟨by rfl, rfl⟩) hHeld ?_
        (try simp only [Act.put, List.setIfInBounds_toArray, List.set_cons_zero, List.set_cons_succ])
        refine wpAnyH_take (i := 14) (oi := { dst := some 34, op := Op.fieldAddr 41 (Operand.tmp 33) 0, type := 0, pos := _, after := _, guard := some (7, false) }) (v := undef) rfl (by kernel_rfl) (by kernel_rfl) (by kernel_rfl) (fun _ _ _ h => h) (Or.inr ⟨by rfl, rfl⟩) hHeld ?_
        (try simp only [Act.put, List.setIfInBounds_toArray, List.set_cons_zero, List.set_cons_succ])
        refine wpAnyH_take (i := 15) (oi := { dst := some 35, op := Op.load 9 (Operand.tmp 34), type := 9, pos := _, after := _, guard := some (7, false) }) (v := undef) rfl (by kernel_rfl) (by kernel_rfl) (by kernel_rfl) (fun _ _ _ h => h) (Or.inr ⟨by rfl, rfl⟩) hHeld ?_
        (try simp only [Act.put, List.setIfInBounds_toArray, List.set_cons_zero, List.set_cons_succ])
        refine wpAnyH_take (i := 16) (oi := { dst := some 36, op := Op.call { callee := Callee.value (Operand.func 51), args := #[Operand.tmp 30, Operand.tmp 35], argTypes := #[24, 9] }, type := 3, pos := _, after := _, guard := some (7, false) }) (v := undef) rfl (by kernel_rfl) (by kernel_rfl) (by kernel_rfl) (fun _ _ _ h => h) (Or.inr ⟨by rfl, rfl⟩) hHeld ?_
        (try simp only [Act.put, List.setIfInBounds_toArray, List.set_cons_zero, List.set_cons_succ])
        refine wpAnyH_take (i := 17) (oi := { dst := some 37, op := Op.binOp BinOp.geq 3 (Operand.tmp 36) (Operand.const (Value.int IntKind.i64 0)) 3, type := 4, pos := _, after := _, guard := some (7, false) }) (v := undef) rfl (by kernel_rfl) (by kernel_rfl) (by kernel_rfl) (fun _ _ _ h => h) (Or.inr ⟨by rfl, rfl⟩) hHeld ?_
        (try simp only [Act.put, List.setIfInBounds_toArray, List.set_cons_zero, List.set_cons_succ])
        refine wpAnyH_take (i := 18) (oi := { dst := some 38, op := Op.pick (Operand.tmp 27) (Operand.const (Value.bool true)) (Operand.tmp 37), type := 4, pos := _, after := _, guard := none }) (v := ?_) rfl (by kernel_rfl) (by kernel_rfl) (by kernel_rfl) (fun _ _ _ h => h) (Or.inl ⟨by rfl, ?_⟩) hHeld ?_
        rotate_left
        · (intro w hSw; (try dsimp only at hSw); go_simp; (try with_reducible rfl))
        (try simp only [Act.put, List.setIfInBounds_toArray, List.set_cons_zero, List.set_cons_succ])
        refine wpAnyH_done (by kernel_rfl) ?_ _
        go_wp2
        go_ret
        exact ⟨ret_bool HF.out.symm, by first | exact HB.out.trans (hbZ.mono hsz) | exact below_drewN (HB.out.trans (hbZ.mono hsz)) _⟩
      · simp only [g] at HVE
        have G := hid g
        clear g
        by_cases gi : 0 ≤ idxI (l.take k) x.name
        · have HF : Hid (libB s l = false) := hid (by rw [HLB.out, decide_eq_false (HDUP.out gi), Bool.and_false])
          generalize idxI (l.take k) x.name = ix at HIXC gi HIG
          have hdi : decide (0 ≤ ix) = true := by simpa using gi
          clear HDUP
          go_wp2
          have hbZ : Below wr.heap.size wr wr := Below.refl _ _
          refine wp_region_held_drew (S := fun w' => w'.cell? ⟨b, o + k * 5, none⟩ = some (.string x.name) ∧ w'.cell? ⟨b, o + k * 5 + 1, none⟩ = some (.string x.who) ∧ w'.cell? ⟨b, o + k * 5 + 2, none⟩ = some (.slice sa x.says.length sc) ∧ w'.cell? ⟨b, o + k * 5 + 3, none⟩ = some (.slice ua x.uses.length uc) ∧ w'.cell? ⟨b, o + k * 5 + 4, none⟩ = some (.slice pa x.proof.length pc)) (by kernel_rfl) ?_ (fun hHeld => ?_)
          · exact ⟨d0, d1, d2, d3, d4⟩
          refine wpAnyH_take (i := 0) (oi := { dst := some 20, op := Op.move (Operand.tmp 0), type := 23, pos := _, after := _, guard := none }) (v := ?_) rfl (by kernel_rfl) (by kernel_rfl) (by kernel_rfl) (fun _ _ _ h => h) (Or.inl ⟨by rfl, ?_⟩) hHeld ?_
          rotate_left
          · (intro w hSw; (try dsimp only at hSw); go_simp; (try with_reducible rfl))
          (try simp only [Act.put, List.setIfInBounds_toArray, List.set_cons_zero, List.set_cons_succ])
          refine wpAnyH_take (i := 1) (oi := { dst := some 21, op := Op.move (Operand.tmp 1), type := 24, pos := _, after := _, guard := none }) (v := ?_) rfl (by kernel_rfl) (by kernel_rfl) (by kernel_rfl) (fun _ _ _ h => h) (Or.inl ⟨by rfl, ?_⟩) hHeld ?_
          rotate_left
          · (intro w hSw; (try dsimp only at hSw); go_simp; (try with_reducible rfl))
          (try simp only [Act.put, List.setIfInBounds_toArray, List.set_cons_zero, List.set_cons_succ])
          refine wpAnyH_take (i := 2) (oi := { dst := some 22, op := Op.move (Operand.tmp 5), type := 3, pos := _, after := _, guard := none }) (v := ?_) rfl (by kernel_rfl) (by kernel_rfl) (by kernel_rfl) (fun _ _ _ h => h) (Or.inl ⟨by rfl, ?_⟩) hHeld ?_
          rotate_left
          · (intro w hSw; (try dsimp only at hSw); go_simp; (try with_reducible rfl))
          (try simp only [Act.put, List.setIfInBounds_toArray, List.set_cons_zero, List.set_cons_succ])
          refine wpAnyH_take (i := 3) (oi := { dst := some 23, op := Op.indexAddr 24 (Operand.tmp 21) (Operand.tmp 22), type := 0, pos := _, after := _, guard := none }) (v := ?_) rfl (by kernel_rfl) (by kernel_rfl) (by kernel_rfl) (fun _ _ _ h => h) (Or.inl ⟨by rfl, ?_⟩) hHeld ?_
          rotate_left
          · (intro w hSw; (try dsimp only at hSw); go_simp; (try with_reducible rfl))
          (try simp only [Act.put, List.setIfInBounds_toArray, List.set_cons_zero, List.set_cons_succ])
          refine wpAnyH_take (i := 4) (oi := { dst := some 24, op := Op.load 41 (Operand.tmp 23), type := 41, pos := _, after := _, guard := none }) (v := ?_) rfl (by kernel_rfl) (by kernel_rfl) (by kernel_rfl) (fun _ _ _ h => h) (Or.inl ⟨by rfl, ?_⟩) hHeld ?_
          rotate_left
          · (intro w hSw; (try dsimp only at hSw); go_simp; (try with_reducible rfl))
          (try simp only [Act.put, List.setIfInBounds_toArray, List.set_cons_zero, List.set_cons_succ])
          refine wpAnyH_ready (rs := [5]) (by kernel_rfl) (by simp) ?_
          refine AllReadyH.cons (o := { dst := some 25, op := Op.call { callee := Callee.value (Operand.func 75), args := #[Operand.tmp 20, Operand.tmp 24], argTypes := #[23, 41] }, type := 4, pos := _, after := _, guard := none }) rfl (fun K hK => ?_) AllReadyH.nil
          (try go_simp)
          (refine (HVE.out _ (by first | exact hbZ | exact hbZ.drew | exact below_drewN hbZ _)).mono ?_; rintro e wz ⟨rfl, hbZ⟩; have d0 := (hbZ.cell (World.block_lt_of_cell? _ _ d0)).trans d0; have d1 := (hbZ.cell (World.block_lt_of_cell? _ _ d1)).trans d1; have d2 := (hbZ.cell (World.block_lt_of_cell? _ _ d2)).trans d2; have d3 := (hbZ.cell (World.block_lt_of_cell? _ _ d3)).trans d3; have d4 := (hbZ.cell (World.block_lt_of_cell? _ _ d4)).trans d4)
          refine hK.out _ _ ?_ (fun hHeld => ?_)
          · exact ⟨d0, d1, d2, d3, d4⟩
          clear hK K
          (try simp only [Act.put, List.setIfInBounds_toArray, List.set_cons_zero, List.set_cons_succ])
          refine wpAnyH_take (i := 6) (oi := { dst := some 26, op := Op.unOp UnOp.not 4 (Operand.tmp 25), type := 4, pos := _, after := _, guard := none }) (v := ?_) rfl (by kernel_rfl) (by kernel_rfl) (by kernel_rfl) (fun _ _ _ h => h) (Or.inl ⟨by rfl, ?_⟩) hHeld ?_
          rotate_left
          · (intro w hSw; (try dsimp only at hSw); go_simp; (try with_reducible rfl))
          (try simp only [Act.put, List.setIfInBounds_toArray, List.set_cons_zero, List.set_cons_succ])
          refine wpAnyH_take (i := 7) (oi := { dst := some 27, op := Op.move (Operand.tmp 26), type := 4, pos := _, after := _, guard := none }) (v := ?_) rfl (by kernel_rfl) (by kernel_rfl) (by kernel_rfl) (fun _ _ _ h => h) (Or.inl ⟨by rfl, ?_⟩) hHeld ?_
          rotate_left
          · (intro w hSw; (try dsimp only at hSw); go_simp; (try with_reducible rfl))
          (try simp only [Act.put, List.setIfInBounds_toArray, List.set_cons_zero, List.set_cons_succ])
          refine wpAnyH_take (i := 8) (oi := { dst := some 28, op := Op.move (Operand.tmp 1), type := 24, pos := _, after := _, guard := some (7, false) }) (v := ?_) rfl (by kernel_rfl) (by kernel_rfl) (by kernel_rfl) (fun _ _ _ h => h) (Or.inl ⟨by rfl, ?_⟩) hHeld ?_
          rotate_left
          · (intro w hSw; (try dsimp only at hSw); go_simp; (try with_reducible rfl))
          (try simp only [Act.put, List.setIfInBounds_toArray, List.set_cons_zero, List.set_cons_succ])
          refine wpAnyH_take (i := 9) (oi := { dst := some 29, op := Op.move (Operand.tmp 5), type := 3, pos := _, after := _, guard := some (7, false) }) (v := ?_) rfl (by kernel_rfl) (by kernel_rfl) (by kernel_rfl) (fun _ _ _ h => h) (Or.inl ⟨by rfl, ?_⟩) hHeld ?_
          rotate_left
          · (intro w hSw; (try dsimp only at hSw); go_simp; (try with_reducible rfl))
          (try simp only [Act.put, List.setIfInBounds_toArray, List.set_cons_zero, List.set_cons_succ])
          refine wpAnyH_take (i := 10) (oi := { dst := some 30, op := Op.slice 24 (Operand.tmp 28) none (some (Operand.tmp 29)) none, type := 24, pos := _, after := _, guard := some (7, false) }) (v := ?_) rfl (by kernel_rfl) (by kernel_rfl) (by kernel_rfl) (fun _ _ _ h => h) (Or.inl ⟨by rfl, ?_⟩) hHeld ?_
          rotate_left
          · (intro w hSw; (try dsimp only at hSw); go_simp; (try with_reducible rfl))
          (try simp only [Act.put, List.setIfInBounds_toArray, List.set_cons_zero, List.set_cons_succ])
          refine wpAnyH_take (i := 11) (oi := { dst := some 31, op := Op.move (Operand.tmp 1), type := 24, pos := _, after := _, guard := some (7, false) }) (v := ?_) rfl (by kernel_rfl) (by kernel_rfl) (by kernel_rfl) (fun _ _ _ h => h) (Or.inl ⟨by rfl, ?_⟩) hHeld ?_
          rotate_left
          · (intro w hSw; (try dsimp only at hSw); go_simp; (try with_reducible rfl))
          (try simp only [Act.put, List.setIfInBounds_toArray, List.set_cons_zero, List.set_cons_succ])
          refine wpAnyH_take (i := 12) (oi := { dst := some 32, op := Op.move (Operand.tmp 5), type := 3, pos := _, after := _, guard := some (7, false) }) (v := ?_) rfl (by kernel_rfl) (by kernel_rfl) (by kernel_rfl) (fun _ _ _ h => h) (Or.inl ⟨by rfl, ?_⟩) hHeld ?_
          rotate_left
          · (intro w hSw; (try dsimp only at hSw); go_simp; (try with_reducible rfl))
          (try simp only [Act.put, List.setIfInBounds_toArray, List.set_cons_zero, List.set_cons_succ])
          refine wpAnyH_take (i := 13) (oi := { dst := some 33, op := Op.indexAddr 24 (Operand.tmp 31) (Operand.tmp 32), type := 0, pos := _, after := _, guard := some (7, false) }) (v := ?_) rfl (by kernel_rfl) (by kernel_rfl) (by kernel_rfl) (fun _ _ _ h => h) (Or.inl ⟨by rfl, ?_⟩) hHeld ?_
          rotate_left
          · (intro w hSw; (try dsimp only at hSw); go_simp; (try with_reducible rfl))
          (try simp only [Act.put, List.setIfInBounds_toArray, List.set_cons_zero, List.set_cons_succ])
          refine wpAnyH_take (i := 14) (oi := { dst := some 34, op := Op.fieldAddr 41 (Operand.tmp 33) 0, type := 0, pos := _, after := _, guard := some (7, false) }) (v := ?_) rfl (by kernel_rfl) (by kernel_rfl) (by kernel_rfl) (fun _ _ _ h => h) (Or.inl ⟨by rfl, ?_⟩) hHeld ?_
          rotate_left
          · (intro w hSw; (try dsimp only at hSw); go_simp; (try with_reducible rfl))
          (try simp only [Act.put, List.setIfInBounds_toArray, List.set_cons_zero, List.set_cons_succ])
          refine wpAnyH_take (i := 15) (oi := { dst := some 35, op := Op.load 9 (Operand.tmp 34), type := 9, pos := _, after := _, guard := some (7, false) }) (v := ?_) rfl (by kernel_rfl) (by kernel_rfl) (by kernel_rfl) (fun _ _ _ h => h) (Or.inl ⟨by rfl, ?_⟩) hHeld ?_
          rotate_left
          · (intro w hSw; (try dsimp only at hSw); go_simp; (try with_reducible rfl))
          (try simp only [Act.put, List.setIfInBounds_toArray, List.set_cons_zero, List.set_cons_succ])
          refine wpAnyH_ready (rs := [16]) (by kernel_rfl) (by simp) ?_
          refine AllReadyH.cons (o := { dst := some 36, op := Op.call { callee := Callee.value (Operand.func 51), args := #[Operand.tmp 30, Operand.tmp 35], argTypes := #[24, 9] }, type := 3, pos := _, after := _, guard := some (7, false) }) rfl (fun K hK => ?_) AllReadyH.nil
          (try go_simp)
          (refine (HIXC.out _ (by first | exact hbZ | exact hbZ.drew | exact below_drewN hbZ _)).mono ?_; rintro e wz ⟨rfl, rfl⟩)
          refine hK.out _ _ ?_ (fun hHeld => ?_)
          · exact ⟨d0, d1, d2, d3, d4⟩
          clear hK K
          (try simp only [Act.put, List.setIfInBounds_toArray, List.set_cons_zero, List.set_cons_succ])
          refine wpAnyH_take (i := 17) (oi := { dst := some 37, op := Op.binOp BinOp.geq 3 (Operand.tmp 36) (Operand.const (Value.int IntKind.i64 0)) 3, type := 4, pos := _, after := _, guard := some (7, false) }) (v := ?_) rfl (by kernel_rfl) (by kernel_rfl) (by kernel_rfl) (fun _ _ _ h => h) (Or.inl ⟨by rfl, ?_⟩) hHeld ?_
          rotate_left
          · (intro w hSw; (try dsimp only at hSw); go_simp; (try with_reducible rfl))
          (try simp only [Act.put, List.setIfInBounds_toArray, List.set_cons_zero, List.set_cons_succ])
          refine wpAnyH_take (i := 18) (oi := { dst := some 38, op := Op.pick (Operand.tmp 27) (Operand.const (Value.bool true)) (Operand.tmp 37), type := 4, pos := _, after := _, guard := none }) (v := ?_) rfl (by kernel_rfl) (by kernel_rfl) (by kernel_rfl) (fun _ _ _ h => h) (Or.inl ⟨by rfl, ?_⟩) hHeld ?_
          rotate_left
          · (intro w hSw; (try dsimp only at hSw); go_simp; (try with_reducible rfl))
          (try simp only [Act.put, List.setIfInBounds_toArray, List.set_cons_zero, List.set_cons_succ])
          refine wpAnyH_done (by kernel_rfl) ?_ _
          go_wp2
          go_ret
          exact ⟨ret_bool HF.out.symm, by first | exact HB.out.trans (hbZ.mono hsz) | exact below_drewN (HB.out.trans (hbZ.mono hsz)) _⟩
        · have GI := hid gi
          generalize hix : idxI (l.take k) x.name = ix at HIXC gi HIG
          have HIX := hid hix
          have hdi : decide (0 ≤ ix) = false := by simpa using gi
          clear HDUP hix
          go_wp2
          have hbZ : Below wr.heap.size wr wr := Below.refl _ _
          refine wp_region_held_drew (S := fun w' => w'.cell? ⟨b, o + k * 5, none⟩ = some (.string x.name) ∧ w'.cell? ⟨b, o + k * 5 + 1, none⟩ = some (.string x.who) ∧ w'.cell? ⟨b, o + k * 5 + 2, none⟩ = some (.slice sa x.says.length sc) ∧ w'.cell? ⟨b, o + k * 5 + 3, none⟩ = some (.slice ua x.uses.length uc) ∧ w'.cell? ⟨b, o + k * 5 + 4, none⟩ = some (.slice pa x.proof.length pc)) (by kernel_rfl) ?_ (fun hHeld => ?_)
          · exact ⟨d0, d1, d2, d3, d4⟩
          refine wpAnyH_take (i := 0) (oi := { dst := some 20, op := Op.move (Operand.tmp 0), type := 23, pos := _, after := _, guard := none }) (v := ?_) rfl (by kernel_rfl) (by kernel_rfl) (by kernel_rfl) (fun _ _ _ h => h) (Or.inl ⟨by rfl, ?_⟩) hHeld ?_
          rotate_left
          · (intro w hSw; (try dsimp only at hSw); go_simp; (try with_reducible rfl))
          (try simp only [Act.put, List.setIfInBounds_toArray, List.set_cons_zero, List.set_cons_succ])
          refine wpAnyH_take (i := 1) (oi := { dst := some 21, op := Op.move (Operand.tmp 1), type := 24, pos := _, after := _, guard := none }) (v := ?_) rfl (by kernel_rfl) (by kernel_rfl) (by kernel_rfl) (fun _ _ _ h => h) (Or.inl ⟨by rfl, ?_⟩) hHeld ?_
          rotate_left
          · (intro w hSw; (try dsimp only at hSw); go_simp; (try with_reducible rfl))
          (try simp only [Act.put, List.setIfInBounds_toArray, List.set_cons_zero, List.set_cons_succ])
          refine wpAnyH_take (i := 2) (oi := { dst := some 22, op := Op.move (Operand.tmp 5), type := 3, pos := _, after := _, guard := none }) (v := ?_) rfl (by kernel_rfl) (by kernel_rfl) (by kernel_rfl) (fun _ _ _ h => h) (Or.inl ⟨by rfl, ?_⟩) hHeld ?_
          rotate_left
          · (intro w hSw; (try dsimp only at hSw); go_simp; (try with_reducible rfl))
          (try simp only [Act.put, List.setIfInBounds_toArray, List.set_cons_zero, List.set_cons_succ])
          refine wpAnyH_take (i := 3) (oi := { dst := some 23, op := Op.indexAddr 24 (Operand.tmp 21) (Operand.tmp 22), type := 0, pos := _, after := _, guard := none }) (v := ?_) rfl (by kernel_rfl) (by kernel_rfl) (by kernel_rfl) (fun _ _ _ h => h) (Or.inl ⟨by rfl, ?_⟩) hHeld ?_
          rotate_left
          · (intro w hSw; (try dsimp only at hSw); go_simp; (try with_reducible rfl))
          (try simp only [Act.put, List.setIfInBounds_toArray, List.set_cons_zero, List.set_cons_succ])
          refine wpAnyH_take (i := 4) (oi := { dst := some 24, op := Op.load 41 (Operand.tmp 23), type := 41, pos := _, after := _, guard := none }) (v := ?_) rfl (by kernel_rfl) (by kernel_rfl) (by kernel_rfl) (fun _ _ _ h => h) (Or.inl ⟨by rfl, ?_⟩) hHeld ?_
          rotate_left
          · (intro w hSw; (try dsimp only at hSw); go_simp; (try with_reducible rfl))
          (try simp only [Act.put, List.setIfInBounds_toArray, List.set_cons_zero, List.set_cons_succ])
          refine wpAnyH_ready (rs := [5]) (by kernel_rfl) (by simp) ?_
          refine AllReadyH.cons (o := { dst := some 25, op := Op.call { callee := Callee.value (Operand.func 75), args := #[Operand.tmp 20, Operand.tmp 24], argTypes := #[23, 41] }, type := 4, pos := _, after := _, guard := none }) rfl (fun K hK => ?_) AllReadyH.nil
          (try go_simp)
          (refine (HVE.out _ (by first | exact hbZ | exact hbZ.drew | exact below_drewN hbZ _)).mono ?_; rintro e wz ⟨rfl, hbZ⟩; have d0 := (hbZ.cell (World.block_lt_of_cell? _ _ d0)).trans d0; have d1 := (hbZ.cell (World.block_lt_of_cell? _ _ d1)).trans d1; have d2 := (hbZ.cell (World.block_lt_of_cell? _ _ d2)).trans d2; have d3 := (hbZ.cell (World.block_lt_of_cell? _ _ d3)).trans d3; have d4 := (hbZ.cell (World.block_lt_of_cell? _ _ d4)).trans d4)
          refine hK.out _ _ ?_ (fun hHeld => ?_)
          · exact ⟨d0, d1, d2, d3, d4⟩
          clear hK K
          (try simp only [Act.put, List.setIfInBounds_toArray, List.set_cons_zero, List.set_cons_succ])
          refine wpAnyH_take (i := 6) (oi := { dst := some 26, op := Op.unOp UnOp.not 4 (Operand.tmp 25), type := 4, pos := _, after := _, guard := none }) (v := ?_) rfl (by kernel_rfl) (by kernel_rfl) (by kernel_rfl) (fun _ _ _ h => h) (Or.inl ⟨by rfl, ?_⟩) hHeld ?_
          rotate_left
          · (intro w hSw; (try dsimp only at hSw); go_simp; (try with_reducible rfl))
          (try simp only [Act.put, List.setIfInBounds_toArray, List.set_cons_zero, List.set_cons_succ])
          refine wpAnyH_take (i := 7) (oi := { dst := some 27, op := Op.move (Operand.tmp 26), type := 4, pos := _, after := _, guard := none }) (v := ?_) rfl (by kernel_rfl) (by kernel_rfl) (by kernel_rfl) (fun _ _ _ h => h) (Or.inl ⟨by rfl, ?_⟩) hHeld ?_
          rotate_left
          · (intro w hSw; (try dsimp only at hSw); go_simp; (try with_reducible rfl))
          (try simp only [Act.put, List.setIfInBounds_toArray, List.set_cons_zero, List.set_cons_succ])
          refine wpAnyH_take (i := 8) (oi := { dst := some 28, op := Op.move (Operand.tmp 1), type := 24, pos := _, after := _, guard := some (7, false) }) (v := ?_) rfl (by kernel_rfl) (by kernel_rfl) (by kernel_rfl) (fun _ _ _ h => h) (Or.inl ⟨by rfl, ?_⟩) hHeld ?_
          rotate_left
          · (intro w hSw; (try dsimp only at hSw); go_simp; (try with_reducible rfl))
          (try simp only [Act.put, List.setIfInBounds_toArray, List.set_cons_zero, List.set_cons_succ])
          refine wpAnyH_take (i := 9) (oi := { dst := some 29, op := Op.move (Operand.tmp 5), type := 3, pos := _, after := _, guard := some (7, false) }) (v := ?_) rfl (by kernel_rfl) (by kernel_rfl) (by kernel_rfl) (fun _ _ _ h => h) (Or.inl ⟨by rfl, ?_⟩) hHeld ?_
          rotate_left
          · (intro w hSw; (try dsimp only at hSw); go_simp; (try with_reducible rfl))
          (try simp only [Act.put, List.setIfInBounds_toArray, List.set_cons_zero, List.set_cons_succ])
          refine wpAnyH_take (i := 10) (oi := { dst := some 30, op := Op.slice 24 (Operand.tmp 28) none (some (Operand.tmp 29)) none, type := 24, pos := _, after := _, guard := some (7, false) }) (v := ?_) rfl (by kernel_rfl) (by kernel_rfl) (by kernel_rfl) (fun _ _ _ h => h) (Or.inl ⟨by rfl, ?_⟩) hHeld ?_
          rotate_left
          · (intro w hSw; (try dsimp only at hSw); go_simp; (try with_reducible rfl))
          (try simp only [Act.put, List.setIfInBounds_toArray, List.set_cons_zero, List.set_cons_succ])
          refine wpAnyH_take (i := 11) (oi := { dst := some 31, op := Op.move (Operand.tmp 1), type := 24, pos := _, after := _, guard := some (7, false) }) (v := ?_) rfl (by kernel_rfl) (by kernel_rfl) (by kernel_rfl) (fun _ _ _ h => h) (Or.inl ⟨by rfl, ?_⟩) hHeld ?_
          rotate_left
          · (intro w hSw; (try dsimp only at hSw); go_simp; (try with_reducible rfl))
          (try simp only [Act.put, List.setIfInBounds_toArray, List.set_cons_zero, List.set_cons_succ])
          refine wpAnyH_take (i := 12) (oi := { dst := some 32, op := Op.move (Operand.tmp 5), type := 3, pos := _, after := _, guard := some (7, false) }) (v := ?_) rfl (by kernel_rfl) (by kernel_rfl) (by kernel_rfl) (fun _ _ _ h => h) (Or.inl ⟨by rfl, ?_⟩) hHeld ?_
          rotate_left
          · (intro w hSw; (try dsimp only at hSw); go_simp; (try with_reducible rfl))
          (try simp only [Act.put, List.setIfInBounds_toArray, List.set_cons_zero, List.set_cons_succ])
          refine wpAnyH_take (i := 13) (oi := { dst := some 33, op := Op.indexAddr 24 (Operand.tmp 31) (Operand.tmp 32), type := 0, pos := _, after := _, guard := some (7, false) }) (v := ?_) rfl (by kernel_rfl) (by kernel_rfl) (by kernel_rfl) (fun _ _ _ h => h) (Or.inl ⟨by rfl, ?_⟩) hHeld ?_
          rotate_left
          · (intro w hSw; (try dsimp only at hSw); go_simp; (try with_reducible rfl))
          (try simp only [Act.put, List.setIfInBounds_toArray, List.set_cons_zero, List.set_cons_succ])
          refine wpAnyH_take (i := 14) (oi := { dst := some 34, op := Op.fieldAddr 41 (Operand.tmp 33) 0, type := 0, pos := _, after := _, guard := some (7, false) }) (v := ?_) rfl (by kernel_rfl) (by kernel_rfl) (by kernel_rfl) (fun _ _ _ h => h) (Or.inl ⟨by rfl, ?_⟩) hHeld ?_
          rotate_left
          · (intro w hSw; (try dsimp only at hSw); go_simp; (try with_reducible rfl))
          (try simp only [Act.put, List.setIfInBounds_toArray, List.set_cons_zero, List.set_cons_succ])
          refine wpAnyH_take (i := 15) (oi := { dst := some 35, op := Op.load 9 (Operand.tmp 34), type := 9, pos := _, after := _, guard := some (7, false) }) (v := ?_) rfl (by kernel_rfl) (by kernel_rfl) (by kernel_rfl) (fun _ _ _ h => h) (Or.inl ⟨by rfl, ?_⟩) hHeld ?_
          rotate_left
          · (intro w hSw; (try dsimp only at hSw); go_simp; (try with_reducible rfl))
          (try simp only [Act.put, List.setIfInBounds_toArray, List.set_cons_zero, List.set_cons_succ])
          refine wpAnyH_ready (rs := [16]) (by kernel_rfl) (by simp) ?_
          refine AllReadyH.cons (o := { dst := some 36, op := Op.call { callee := Callee.value (Operand.func 51), args := #[Operand.tmp 30, Operand.tmp 35], argTypes := #[24, 9] }, type := 3, pos := _, after := _, guard := some (7, false) }) rfl (fun K hK => ?_) AllReadyH.nil
          (try go_simp)
          (refine (HIXC.out _ (by first | exact hbZ | exact hbZ.drew | exact below_drewN hbZ _)).mono ?_; rintro e wz ⟨rfl, rfl⟩)
          refine hK.out _ _ ?_ (fun hHeld => ?_)
          · exact ⟨d0, d1, d2, d3, d4⟩
          clear hK K
          (try simp only [Act.put, List.setIfInBounds_toArray, List.set_cons_zero, List.set_cons_succ])
          refine wpAnyH_take (i := 17) (oi := { dst := some 37, op := Op.binOp BinOp.geq 3 (Operand.tmp 36) (Operand.const (Value.int IntKind.i64 0)) 3, type := 4, pos := _, after := _, guard := some (7, false) }) (v := ?_) rfl (by kernel_rfl) (by kernel_rfl) (by kernel_rfl) (fun _ _ _ h => h) (Or.inl ⟨by rfl, ?_⟩) hHeld ?_
          rotate_left
          · (intro w hSw; (try dsimp only at hSw); go_simp; (try with_reducible rfl))
          (try simp only [Act.put, List.setIfInBounds_toArray, List.set_cons_zero, List.set_cons_succ])
          refine wpAnyH_take (i := 18) (oi := { dst := some 38, op := Op.pick (Operand.tmp 27) (Operand.const (Value.bool true)) (Operand.tmp 37), type := 4, pos := _, after := _, guard := none }) (v := ?_) rfl (by kernel_rfl) (by kernel_rfl) (by kernel_rfl) (fun _ _ _ h => h) (Or.inl ⟨by rfl, ?_⟩) hHeld ?_
          rotate_left
          · (intro w hSw; (try dsimp only at hSw); go_simp; (try with_reducible rfl))
          (try simp only [Act.put, List.setIfInBounds_toArray, List.set_cons_zero, List.set_cons_succ])
          refine wpAnyH_done (by kernel_rfl) ?_ _
          go_wp2
          go_roundw
          case rel =>
            refine ⟨k + 1, by omega, by go_num, by first | exact HB.out.trans (hbZ.mono hsz) | exact below_drewN (HB.out.trans (hbZ.mono hsz)) _, fun j hj hjk => ?_, fun j hj hjk => ?_⟩
            · by_cases e : j = k
              · subst e; rw [HX.out]; exact G.out
              · exact HN.out j hj (by omega)
            · by_cases e : j = k
              · subst e; rw [HX.out]; have := GI.out; omega
              · exact HH.out j hj (by omega)
          case measure => simp [intOf]; omega
    · have hkl : k = l.length := by omega
      have HF : Hid (libB s l = true) := hid (by
        have e1 := names_nd fun j hj => HH.out j hj (by omega)
        have e2 : l.all (entryB s) = true := by
          rw [List.all_eq_true]
          intro y hy
          obtain ⟨j, hj, rfl⟩ := List.getElem_of_mem hy
          exact HN.out j hj (by omega)
        rw [HLB.out, decide_eq_true e1, e2]; rfl)
      go_wp2
      go_ret
      exact ⟨ret_bool HF.out.symm, hb⟩
end Go.Proofs.YtlbjbmpkaniojaaGreat
