/-
  WHAT IT HOLDS: contracts of Base, IsBase of the reference of layer 5. Conditions: the arguments read as data; the shelf and the sign are small.
-/
import Derived.Deep.RegionHeld3
import Derived.Test.YtiacbdipagbblaaZRFindBases33
import Derived.Test.YtiacbdipagbblaaZRFindBases34
namespace Go.Proofs.Ytiacbdipagbblaa
open Go Go.RowKit Go.Maps
/-- whether statement k keeps statement i out of the base. -/
def basC (s : Sg) (l : List (List Int)) (i k : Nat) : Bool := underB s (l.getD k []) (l.getD i []) || (decide (k < i) && decide (canonL (l.getD k []) = canonL (l.getD i [])))
def basM (s : Sg) (l : List (List Int)) (i k : Nat) : Bool := (List.range k).all fun j => !basC s l i j
theorem basM_succ (s : Sg) (l : List (List Int)) (i k : Nat) : basM s l i (k + 1) = (basM s l i k && !basC s l i k) := by
  unfold basM; rw [List.range_succ, List.all_append]; simp
theorem basM_all (s : Sg) (l : List (List Int)) (i : Nat) : basM s l i l.length = basOne s l i := rfl
set_option maxHeartbeats 4000000 in
set_option maxRecDepth 100000 in
theorem ref5_Base (vs vl : Value) (s : Sg) (l : List (List Int)) (w : World) (hs : SignAt w vs s) (hv : Terms w vl l) (hs1 : s.length ≤ 1000) (hl1 : l.length ≤ 1000) :
    Calls Try.prog 33 #[vs, vl] w fun e w' => ∃ u, e = .returned (.tuple #[u, .int .i64 (basQ s l).2]) ∧ Ints w' u (basQ s l).1 ∧ Below w.heap.size w w' := by
  have HVV := hid (ref5_Valid vs vl s l w hs hv)
  obtain ⟨a, cap, hve, hlc, hl, -, HC⟩ := hv.open
  subst hve
  have HC' := hid HC
  have HS := hid hs
  clear HC hs hv
  cases h1 : shelfB s l
  · have HA : Hid (basQ s l = ([], 1)) := hid (by unfold basQ; rw [h1]; rfl)
    simp only [h1] at HVV
    rw [HA.out]
    clear h1
    go_enter Try.func33, Try.ntmps33
    go_wp2_with fail
    refine HVV.out.mono ?_
    rintro e w1 ⟨rfl, n1, rfl⟩
    go_wp2
    go_ret2
    exact ⟨_, rfl, ⟨by simp, none, 0, rfl, Nat.le_refl _, by simp, fun _ => rfl, by simp⟩, below_self_drewN w n1⟩
  · have HA : Hid (basQ s l = (chosenL 0 (basB s l), 0)) := hid (by unfold basQ; rw [h1]; rfl)
    obtain ⟨-, hl0, hl60, hall, -, -⟩ := shelfB_facts h1
    have HALL := hid (fun k (hk : k < l.length) => allB_get hall hk)
    simp only [h1] at HVV
    rw [HA.out]
    obtain ⟨bs, hbs⟩ : ∃ bs, basB s l = bs := ⟨_, rfl⟩
    have hbl : bs.length = l.length := by rw [← hbs, basB_len]
    have hbg : ∀ i (h : i < bs.length), bs[i] = basOne s l i := by
      intro i h
      subst hbs
      exact basB_get s l h
    rw [hbs]
    have HBL := hid hbl
    have HBG := hid hbg
    clear h1 hall hbs hbl hbg
    go_enter Try.func33, Try.ntmps33
    go_wp2_with (first | (go_at_call 40; refine HVV.out.mono ?_; rintro e w1 ⟨rfl, n1, rfl⟩) | (at_make; refine wpList_make_row rfl _ _ 67 rfl w.heap.size 4 el_bool Try.underlying67 rfl l.length rfl rfl (by omega) (by omega) (by simp) ?_; intro g w1 hg0 hg1 hown1 hgrow1))
    have hb1 : Below w.heap.size w w1 := (below_self_drewN w n1).grown hgrow1 (by simp) (fun _ h => by cases h)
    have HOWN1 : Hid (w1.ownsRow w.heap.size 4 1 (.slice (some ⟨g, 0, none⟩) l.length l.length) l.length ((fillB bs 0).map Value.bool)) := hid (by
      rw [fillB_zero, HBL.out, List.map_replicate]; simpa using hown1)
    obtain ⟨n, hn⟩ : ∃ n, l.length = n := ⟨_, rfl⟩
    have HN := hid hn
    simp only [hn] at HOWN1 hl0 hl60 hl hlc ⊢
    clear hown1 hgrow1 hg1 hn
    go_loopw [7] (fun kv wr => ∃ i : Nat, i ≤ n ∧ kv = .int .i64 i ∧ wr.ownsRow w.heap.size 4 1 (.slice (some ⟨g, 0, none⟩) n n) n ((fillB bs i).map Value.bool) ∧ Below w.heap.size w wr) (fun kv _ => n - (intOf kv).toNat)
    case atStart => exact ⟨0, by omega, rfl, HOWN1.out, hb1⟩
    case round =>
      clear HOWN1 hb1
      obtain ⟨i, hi, rfl, hown, hb⟩ := hrel
      by_cases hlti : i < n
      · have hib : i < bs.length := by have := HBL.out; have := HN.out; omega
        have hil : i < l.length := by have := HN.out; omega
        have hc1 := hown.cellAt i (by omega)
        rw [fillB_get bs hib] at hc1
        have hf1 := hown.frozenAt i
        have hst := (hown.stored i (.bool true)).1
        have hbs : Below w.heap.size w (wr.setCell ⟨g, i, none⟩ (.bool true)) := hb.setCell (p := ⟨g, i, none⟩) hg0 _
        have HST := hid hst
        have HBS := hid hbs
        have HIB := hid (HBG.out i hib)
        have HSET := hid (fillB_set bs hib)
        obtain ⟨W, hW⟩ : ∃ W, wr.setCell ⟨g, i, none⟩ (.bool true) = W := ⟨_, rfl⟩
        have HW := hid hW
        rw [hW] at HST HBS
        clear hown hb hst hbs
        go_wp2
        (try rw [HW.out])
        clear hc1 hf1 hW HW
        go_loopw [8] (fun kv wr => ∃ k : Nat, k ≤ n ∧ kv = .int .i64 k ∧ wr.ownsRow w.heap.size 4 1 (.slice (some ⟨g, 0, none⟩) n n) n (((fillB bs i).map Value.bool).set i (.bool (basM s l i k))) ∧ Below w.heap.size w wr) (fun kv _ => n - (intOf kv).toNat)
        case atStart => exact ⟨0, by omega, rfl, HST.out, HBS.out⟩
        case round =>
          clear HST HBS
          obtain ⟨k, hk, rfl, hown, hb⟩ := hrel
          have hsz := hb.size
          by_cases hltk : k < n
          · have hkl : k < l.length := by have := HN.out; omega
            obtain ⟨b, o, xk, rfl, c00, hxk⟩ := HC'.out k hkl
            obtain ⟨b', o', xi, hae, c10, hxi⟩ := HC'.out i hil
            obtain ⟨rfl, rfl⟩ : b = b' ∧ o = o' := by simpa using hae
            have c0 := (hb.cell (World.block_lt_of_cell? _ _ c00)).trans c00
            have c1 := (hb.cell (World.block_lt_of_cell? _ _ c10)).trans c10
            have HU := hid (fun X (hX : Below wr.heap.size wr X) => chainL hX (ref5_under vs xk xi s l[k] l[i] X ((HS.out.below hb).below hX) ((hxk.below hb).below hX) ((hxi.below hb).below hX) hs1 (HALL.out k hkl) (HALL.out i hil)))
            have fk := termB_facts (HALL.out k hkl)
            have fi := termB_facts (HALL.out i hil)
            have HAL := hid (fun X (hX : Below wr.heap.size wr X) => chainL hX (ref5_alike xk xi l[k] l[i] X ((hxk.below hb).below hX) ((hxi.below hb).below hX) (termB_T (HALL.out k hkl)).ne (termB_T (HALL.out i hil)).ne (by omega) (by omega) (termB_wf (HALL.out k hkl)) (termB_wf (HALL.out i hil))))
            have hcc : basC s l i k = (underB s l[k] l[i] || (decide (k < i) && decide (canonL l[k] = canonL l[i]))) := by
              unfold basC; simp [List.getD, hkl, hil]
            have hms := basM_succ s l i k
            rw [hcc] at hms
            obtain ⟨u, hu⟩ : ∃ u, underB s l[k] l[i] = u := ⟨_, rfl⟩
            obtain ⟨z, hz⟩ : ∃ z, decide (canonL l[k] = canonL l[i]) = z := ⟨_, rfl⟩
            rw [hu, hz] at hms
            rw [hu] at HU
            rw [hz] at HAL
            have HMS := hid hms
            have HOWN := hid hown
            have HB := hid hb
            have hki0 : (0 : Int) ≤ (k : Int) := by omega
            have hki1 : (k : Int) < (n : Int) := by omega
            have hii0 : (0 : Int) ≤ (i : Int) := by omega
            have hii1 : (i : Int) < (n : Int) := by omega
            clear c00 c10 hxk hxi hae hcc hms hu hz hown hb fk fi
            have HFIN : Hid (∀ W, Below wr.heap.size wr W → basM s l i (k + 1) = false → ∃ W' : World, W.setCell ⟨g, i, none⟩ (.bool false) = W' ∧ (∃ c, W.cell? ⟨g, i, none⟩ = some c) ∧ W.frozen? ⟨g, i, none⟩ = false ∧ W'.ownsRow w.heap.size 4 1 (.slice (some ⟨g, 0, none⟩) n n) n (((fillB bs i).map Value.bool).set i (.bool (basM s l i (k + 1)))) ∧ Below w.heap.size w W') := hid (fun W hW hM => by
              have ho := owns_below HOWN.out hW
              have h1 := ho.cellAt i (by omega)
              refine ⟨_, rfl, ⟨.bool (basM s l i k), ?_⟩, ho.frozenAt i, ?_, (HB.out.trans (hW.mono hsz)).setCell (p := ⟨g, i, none⟩) hg0 _⟩
              · rw [h1, List.getElem?_set_self (by rw [List.length_map, fillB_len bs (Nat.le_of_lt hib)]; exact hib)]
              · rw [hM]
                have := (ho.stored i (.bool false)).1
                rwa [List.set_set] at this)
            go_wp2_with fail
            have d0 := c0
            have d1 := c1
            have hbZ := Below.refl wr.heap.size wr
            cases u
            · by_cases hki : k < i
              · have hki2 : decide ((k : Int) < (i : Int)) = true := by simpa using hki
                have HMS2 : Hid (basM s l i (k + 1) = (basM s l i k && !z)) := hid (by rw [HMS.out]; simp [hki])
                cases z
                · have HM3 : Hid (basM s l i (k + 1) = basM s l i k) := hid (by rw [HMS2.out]; simp)
                  refine wp_region_held_drew (S := fun w' => w'.cell? ⟨b, o + k, none⟩ = some xk ∧ w'.cell? ⟨b, o + i, none⟩ = some xi) (by kernel_rfl) ?_ (fun hHeld => ?_)
                  · exact ⟨d0, d1⟩
                  refine wpAnyH_take (i := 0) (oi := { dst := some 31, op := Op.move (Operand.tmp 0), type := 23, pos := _, after := _, guard := none }) (v := ?_) rfl (by kernel_rfl) (by kernel_rfl) (by kernel_rfl) (fun _ _ _ h => h) (Or.inl ⟨by rfl, ?_⟩) hHeld ?_
                  rotate_left
                  · (intro w hSw; (try dsimp only at hSw); go_simp; (try with_reducible rfl))
                  (try simp only [Act.put, List.setIfInBounds_toArray, List.set_cons_zero, List.set_cons_succ])
                  refine wpAnyH_take (i := 1) (oi := { dst := some 32, op := Op.move (Operand.tmp 1), type := 24, pos := _, after := _, guard := none }) (v := ?_) rfl (by kernel_rfl) (by kernel_rfl) (by kernel_rfl) (fun _ _ _ h => h) (Or.inl ⟨by rfl, ?_⟩) hHeld ?_
                  rotate_left
                  · (intro w hSw; (try dsimp only at hSw); go_simp; (try with_reducible rfl))
                  (try simp only [Act.put, List.setIfInBounds_toArray, List.set_cons_zero, List.set_cons_succ])
                  refine wpAnyH_take (i := 2) (oi := { dst := some 33, op := Op.move (Operand.tmp 8), type := 3, pos := _, after := _, guard := none }) (v := ?_) rfl (by kernel_rfl) (by kernel_rfl) (by kernel_rfl) (fun _ _ _ h => h) (Or.inl ⟨by rfl, ?_⟩) hHeld ?_
                  rotate_left
                  · (intro w hSw; (try dsimp only at hSw); go_simp; (try with_reducible rfl))
                  (try simp only [Act.put, List.setIfInBounds_toArray, List.set_cons_zero, List.set_cons_succ])
                  refine wpAnyH_take (i := 3) (oi := { dst := some 34, op := Op.indexAddr 24 (Operand.tmp 32) (Operand.tmp 33), type := 0, pos := _, after := _, guard := none }) (v := ?_) rfl (by kernel_rfl) (by kernel_rfl) (by kernel_rfl) (fun _ _ _ h => h) (Or.inl ⟨by rfl, ?_⟩) hHeld ?_
                  rotate_left
                  · (intro w hSw; (try dsimp only at hSw); go_simp; (try with_reducible rfl))
                  (try simp only [Act.put, List.setIfInBounds_toArray, List.set_cons_zero, List.set_cons_succ])
                  refine wpAnyH_take (i := 4) (oi := { dst := some 35, op := Op.load 37 (Operand.tmp 34), type := 37, pos := _, after := _, guard := none }) (v := ?_) rfl (by kernel_rfl) (by kernel_rfl) (by kernel_rfl) (fun _ _ _ h => h) (Or.inl ⟨by rfl, ?_⟩) hHeld ?_
                  rotate_left
                  · (intro w hSw; (try dsimp only at hSw); go_simp; (try with_reducible rfl))
                  (try simp only [Act.put, List.setIfInBounds_toArray, List.set_cons_zero, List.set_cons_succ])
                  refine wpAnyH_take (i := 5) (oi := { dst := some 36, op := Op.move (Operand.tmp 1), type := 24, pos := _, after := _, guard := none }) (v := ?_) rfl (by kernel_rfl) (by kernel_rfl) (by kernel_rfl) (fun _ _ _ h => h) (Or.inl ⟨by rfl, ?_⟩) hHeld ?_
                  rotate_left
                  · (intro w hSw; (try dsimp only at hSw); go_simp; (try with_reducible rfl))
                  (try simp only [Act.put, List.setIfInBounds_toArray, List.set_cons_zero, List.set_cons_succ])
                  refine wpAnyH_take (i := 6) (oi := { dst := some 37, op := Op.move (Operand.tmp 7), type := 3, pos := _, after := _, guard := none }) (v := ?_) rfl (by kernel_rfl) (by kernel_rfl) (by kernel_rfl) (fun _ _ _ h => h) (Or.inl ⟨by rfl, ?_⟩) hHeld ?_
                  rotate_left
                  · (intro w hSw; (try dsimp only at hSw); go_simp; (try with_reducible rfl))
                  (try simp only [Act.put, List.setIfInBounds_toArray, List.set_cons_zero, List.set_cons_succ])
                  refine wpAnyH_take (i := 7) (oi := { dst := some 38, op := Op.indexAddr 24 (Operand.tmp 36) (Operand.tmp 37), type := 0, pos := _, after := _, guard := none }) (v := ?_) rfl (by kernel_rfl) (by kernel_rfl) (by kernel_rfl) (fun _ _ _ h => h) (Or.inl ⟨by rfl, ?_⟩) hHeld ?_
                  rotate_left
                  · (intro w hSw; (try dsimp only at hSw); go_simp; (try with_reducible rfl))
                  (try simp only [Act.put, List.setIfInBounds_toArray, List.set_cons_zero, List.set_cons_succ])
                  refine wpAnyH_take (i := 8) (oi := { dst := some 39, op := Op.load 37 (Operand.tmp 38), type := 37, pos := _, after := _, guard := none }) (v := ?_) rfl (by kernel_rfl) (by kernel_rfl) (by kernel_rfl) (fun _ _ _ h => h) (Or.inl ⟨by rfl, ?_⟩) hHeld ?_
                  rotate_left
                  · (intro w hSw; (try dsimp only at hSw); go_simp; (try with_reducible rfl))
                  (try simp only [Act.put, List.setIfInBounds_toArray, List.set_cons_zero, List.set_cons_succ])
                  refine wpAnyH_ready (rs := [9]) (by kernel_rfl) (by simp) ?_
                  refine AllReadyH.cons (o := { dst := some 40, op := Op.call { callee := Callee.value (Operand.func 80), args := #[Operand.tmp 31, Operand.tmp 35, Operand.tmp 39], argTypes := #[23, 37, 37] }, type := 4, pos := _, after := _, guard := none }) rfl (fun K hK => ?_) AllReadyH.nil
                  (try go_simp)
                  (refine (HU.out _ (by first | exact hbZ | exact hbZ.drew | exact below_drewN hbZ _)).mono ?_; rintro e wz ⟨rfl, hbZ⟩; have d0 := (hbZ.cell (World.block_lt_of_cell? _ _ c0)).trans c0; have d1 := (hbZ.cell (World.block_lt_of_cell? _ _ c1)).trans c1)
                  refine hK.out _ _ ?_ (fun hHeld => ?_)
                  · exact ⟨d0, d1⟩
                  clear hK K
                  (try simp only [Act.put, List.setIfInBounds_toArray, List.set_cons_zero, List.set_cons_succ])
                  refine wpAnyH_take (i := 10) (oi := { dst := some 41, op := Op.move (Operand.tmp 40), type := 4, pos := _, after := _, guard := none }) (v := ?_) rfl (by kernel_rfl) (by kernel_rfl) (by kernel_rfl) (fun _ _ _ h => h) (Or.inl ⟨by rfl, ?_⟩) hHeld ?_
                  rotate_left
                  · (intro w hSw; (try dsimp only at hSw); go_simp; (try with_reducible rfl))
                  (try simp only [Act.put, List.setIfInBounds_toArray, List.set_cons_zero, List.set_cons_succ])
                  refine wpAnyH_take (i := 11) (oi := { dst := some 42, op := Op.move (Operand.tmp 8), type := 3, pos := _, after := _, guard := some (10, false) }) (v := ?_) rfl (by kernel_rfl) (by kernel_rfl) (by kernel_rfl) (fun _ _ _ h => h) (Or.inl ⟨by rfl, ?_⟩) hHeld ?_
                  rotate_left
                  · (intro w hSw; (try dsimp only at hSw); go_simp; (try with_reducible rfl))
                  (try simp only [Act.put, List.setIfInBounds_toArray, List.set_cons_zero, List.set_cons_succ])
                  refine wpAnyH_take (i := 12) (oi := { dst := some 43, op := Op.move (Operand.tmp 7), type := 3, pos := _, after := _, guard := some (10, false) }) (v := ?_) rfl (by kernel_rfl) (by kernel_rfl) (by kernel_rfl) (fun _ _ _ h => h) (Or.inl ⟨by rfl, ?_⟩) hHeld ?_
                  rotate_left
                  · (intro w hSw; (try dsimp only at hSw); go_simp; (try with_reducible rfl))
                  (try simp only [Act.put, List.setIfInBounds_toArray, List.set_cons_zero, List.set_cons_succ])
                  refine wpAnyH_take (i := 13) (oi := { dst := some 44, op := Op.binOp BinOp.lss 3 (Operand.tmp 42) (Operand.tmp 43) 3, type := 4, pos := _, after := _, guard := some (10, false) }) (v := ?_) rfl (by kernel_rfl) (by kernel_rfl) (by kernel_rfl) (fun _ _ _ h => h) (Or.inl ⟨by rfl, ?_⟩) hHeld ?_
                  rotate_left
                  · (intro w hSw; (try dsimp only at hSw); go_simp; (try with_reducible rfl))
                  (try simp only [Act.put, List.setIfInBounds_toArray, List.set_cons_zero, List.set_cons_succ])
                  refine wpAnyH_take (i := 14) (oi := { dst := some 45, op := Op.move (Operand.tmp 44), type := 4, pos := _, after := _, guard := some (10, false) }) (v := ?_) rfl (by kernel_rfl) (by kernel_rfl) (by kernel_rfl) (fun _ _ _ h => h) (Or.inl ⟨by rfl, ?_⟩) hHeld ?_
                  rotate_left
                  · (intro w hSw; (try dsimp only at hSw); go_simp; (try with_reducible rfl))
                  (try simp only [Act.put, List.setIfInBounds_toArray, List.set_cons_zero, List.set_cons_succ])
                  refine wpAnyH_take (i := 15) (oi := { dst := some 46, op := Op.move (Operand.tmp 1), type := 24, pos := _, after := _, guard := some (14, true) }) (v := ?_) rfl (by kernel_rfl) (by kernel_rfl) (by kernel_rfl) (fun _ _ _ h => h) (Or.inl ⟨by rfl, ?_⟩) hHeld ?_
                  rotate_left
                  · (intro w hSw; (try dsimp only at hSw); go_simp; (try with_reducible rfl))
                  (try simp only [Act.put, List.setIfInBounds_toArray, List.set_cons_zero, List.set_cons_succ])
                  refine wpAnyH_take (i := 16) (oi := { dst := some 47, op := Op.move (Operand.tmp 8), type := 3, pos := _, after := _, guard := some (14, true) }) (v := ?_) rfl (by kernel_rfl) (by kernel_rfl) (by kernel_rfl) (fun _ _ _ h => h) (Or.inl ⟨by rfl, ?_⟩) hHeld ?_
                  rotate_left
                  · (intro w hSw; (try dsimp only at hSw); go_simp; (try with_reducible rfl))
                  (try simp only [Act.put, List.setIfInBounds_toArray, List.set_cons_zero, List.set_cons_succ])
                  refine wpAnyH_take (i := 17) (oi := { dst := some 48, op := Op.indexAddr 24 (Operand.tmp 46) (Operand.tmp 47), type := 0, pos := _, after := _, guard := some (14, true) }) (v := ?_) rfl (by kernel_rfl) (by kernel_rfl) (by kernel_rfl) (fun _ _ _ h => h) (Or.inl ⟨by rfl, ?_⟩) hHeld ?_
                  rotate_left
                  · (intro w hSw; (try dsimp only at hSw); go_simp; (try with_reducible rfl))
                  (try simp only [Act.put, List.setIfInBounds_toArray, List.set_cons_zero, List.set_cons_succ])
                  refine wpAnyH_take (i := 18) (oi := { dst := some 49, op := Op.load 37 (Operand.tmp 48), type := 37, pos := _, after := _, guard := some (14, true) }) (v := ?_) rfl (by kernel_rfl) (by kernel_rfl) (by kernel_rfl) (fun _ _ _ h => h) (Or.inl ⟨by rfl, ?_⟩) hHeld ?_
                  rotate_left
                  · (intro w hSw; (try dsimp only at hSw); go_simp; (try with_reducible rfl))
                  (try simp only [Act.put, List.setIfInBounds_toArray, List.set_cons_zero, List.set_cons_succ])
                  refine wpAnyH_take (i := 19) (oi := { dst := some 50, op := Op.move (Operand.tmp 1), type := 24, pos := _, after := _, guard := some (14, true) }) (v := ?_) rfl (by kernel_rfl) (by kernel_rfl) (by kernel_rfl) (fun _ _ _ h => h) (Or.inl ⟨by rfl, ?_⟩) hHeld ?_
                  rotate_left
                  · (intro w hSw; (try dsimp only at hSw); go_simp; (try with_reducible rfl))
                  (try simp only [Act.put, List.setIfInBounds_toArray, List.set_cons_zero, List.set_cons_succ])
                  refine wpAnyH_take (i := 20) (oi := { dst := some 51, op := Op.move (Operand.tmp 7), type := 3, pos := _, after := _, guard := some (14, true) }) (v := ?_) rfl (by kernel_rfl) (by kernel_rfl) (by kernel_rfl) (fun _ _ _ h => h) (Or.inl ⟨by rfl, ?_⟩) hHeld ?_
                  rotate_left
                  · (intro w hSw; (try dsimp only at hSw); go_simp; (try with_reducible rfl))
                  (try simp only [Act.put, List.setIfInBounds_toArray, List.set_cons_zero, List.set_cons_succ])
                  refine wpAnyH_take (i := 21) (oi := { dst := some 52, op := Op.indexAddr 24 (Operand.tmp 50) (Operand.tmp 51), type := 0, pos := _, after := _, guard := some (14, true) }) (v := ?_) rfl (by kernel_rfl) (by kernel_rfl) (by kernel_rfl) (fun _ _ _ h => h) (Or.inl ⟨by rfl, ?_⟩) hHeld ?_
                  rotate_left
                  · (intro w hSw; (try dsimp only at hSw); go_simp; (try with_reducible rfl))
                  (try simp only [Act.put, List.setIfInBounds_toArray, List.set_cons_zero, List.set_cons_succ])
                  refine wpAnyH_take (i := 22) (oi := { dst := some 53, op := Op.load 37 (Operand.tmp 52), type := 37, pos := _, after := _, guard := some (14, true) }) (v := ?_) rfl (by kernel_rfl) (by kernel_rfl) (by kernel_rfl) (fun _ _ _ h => h) (Or.inl ⟨by rfl, ?_⟩) hHeld ?_
                  rotate_left
                  · (intro w hSw; (try dsimp only at hSw); go_simp; (try with_reducible rfl))
                  (try simp only [Act.put, List.setIfInBounds_toArray, List.set_cons_zero, List.set_cons_succ])
                  refine wpAnyH_ready (rs := [23]) (by kernel_rfl) (by simp) ?_
                  refine AllReadyH.cons (o := { dst := some 54, op := Op.call { callee := Callee.value (Operand.func 88), args := #[Operand.tmp 49, Operand.tmp 53], argTypes := #[37, 37] }, type := 4, pos := _, after := _, guard := some (14, true) }) rfl (fun K hK => ?_) AllReadyH.nil
                  (try go_simp)
                  (refine (HAL.out _ (by first | exact hbZ | exact hbZ.drew | exact below_drewN hbZ _)).mono ?_; rintro e wz ⟨rfl, hbZ⟩; have d0 := (hbZ.cell (World.block_lt_of_cell? _ _ c0)).trans c0; have d1 := (hbZ.cell (World.block_lt_of_cell? _ _ c1)).trans c1)
                  refine hK.out _ _ ?_ (fun hHeld => ?_)
                  · exact ⟨d0, d1⟩
                  clear hK K
                  (try simp only [Act.put, List.setIfInBounds_toArray, List.set_cons_zero, List.set_cons_succ])
                  refine wpAnyH_take (i := 24) (oi := { dst := some 55, op := Op.pick (Operand.tmp 45) (Operand.tmp 54) (Operand.const (Value.bool false)), type := 4, pos := _, after := _, guard := some (10, false) }) (v := ?_) rfl (by kernel_rfl) (by kernel_rfl) (by kernel_rfl) (fun _ _ _ h => h) (Or.inl ⟨by rfl, ?_⟩) hHeld ?_
                  rotate_left
                  · (intro w hSw; (try dsimp only at hSw); go_simp; (try with_reducible rfl))
                  (try simp only [Act.put, List.setIfInBounds_toArray, List.set_cons_zero, List.set_cons_succ])
                  refine wpAnyH_take (i := 25) (oi := { dst := some 56, op := Op.pick (Operand.tmp 41) (Operand.const (Value.bool true)) (Operand.tmp 55), type := 4, pos := _, after := _, guard := none }) (v := ?_) rfl (by kernel_rfl) (by kernel_rfl) (by kernel_rfl) (fun _ _ _ h => h) (Or.inl ⟨by rfl, ?_⟩) hHeld ?_
                  rotate_left
                  · (intro w hSw; (try dsimp only at hSw); go_simp; (try with_reducible rfl))
                  (try simp only [Act.put, List.setIfInBounds_toArray, List.set_cons_zero, List.set_cons_succ])
                  refine wpAnyH_done (by kernel_rfl) ?_ _
                  go_wp2
                  go_roundw
                  case rel => exact ⟨k + 1, by omega, by go_num, by rw [HM3.out]; exact owns_below HOWN.out hbZ, HB.out.trans (hbZ.mono hsz)⟩
                  case measure => simp [intOf]; omega
                · have HM3 : Hid (basM s l i (k + 1) = false) := hid (by rw [HMS2.out]; simp)
                  refine wp_region_held_drew (S := fun w' => w'.cell? ⟨b, o + k, none⟩ = some xk ∧ w'.cell? ⟨b, o + i, none⟩ = some xi) (by kernel_rfl) ?_ (fun hHeld => ?_)
                  · exact ⟨d0, d1⟩
                  refine wpAnyH_take (i := 0) (oi := { dst := some 31, op := Op.move (Operand.tmp 0), type := 23, pos := _, after := _, guard := none }) (v := ?_) rfl (by kernel_rfl) (by kernel_rfl) (by kernel_rfl) (fun _ _ _ h => h) (Or.inl ⟨by rfl, ?_⟩) hHeld ?_
                  rotate_left
                  · (intro w hSw; (try dsimp only at hSw); go_simp; (try with_reducible rfl))
                  (try simp only [Act.put, List.setIfInBounds_toArray, List.set_cons_zero, List.set_cons_succ])
                  refine wpAnyH_take (i := 1) (oi := { dst := some 32, op := Op.move (Operand.tmp 1), type := 24, pos := _, after := _, guard := none }) (v := ?_) rfl (by kernel_rfl) (by kernel_rfl) (by kernel_rfl) (fun _ _ _ h => h) (Or.inl ⟨by rfl, ?_⟩) hHeld ?_
                  rotate_left
                  · (intro w hSw; (try dsimp only at hSw); go_simp; (try with_reducible rfl))
                  (try simp only [Act.put, List.setIfInBounds_toArray, List.set_cons_zero, List.set_cons_succ])
                  refine wpAnyH_take (i := 2) (oi := { dst := some 33, op := Op.move (Operand.tmp 8), type := 3, pos := _, after := _, guard := none }) (v := ?_) rfl (by kernel_rfl) (by kernel_rfl) (by kernel_rfl) (fun _ _ _ h => h) (Or.inl ⟨by rfl, ?_⟩) hHeld ?_
                  rotate_left
                  · (intro w hSw; (try dsimp only at hSw); go_simp; (try with_reducible rfl))
                  (try simp only [Act.put, List.setIfInBounds_toArray, List.set_cons_zero, List.set_cons_succ])
                  refine wpAnyH_take (i := 3) (oi := { dst := some 34, op := Op.indexAddr 24 (Operand.tmp 32) (Operand.tmp 33), type := 0, pos := _, after := _, guard := none }) (v := ?_) rfl (by kernel_rfl) (by kernel_rfl) (by kernel_rfl) (fun _ _ _ h => h) (Or.inl ⟨by rfl, ?_⟩) hHeld ?_
                  rotate_left
                  · (intro w hSw; (try dsimp only at hSw); go_simp; (try with_reducible rfl))
                  (try simp only [Act.put, List.setIfInBounds_toArray, List.set_cons_zero, List.set_cons_succ])
                  refine wpAnyH_take (i := 4) (oi := { dst := some 35, op := Op.load 37 (Operand.tmp 34), type := 37, pos := _, after := _, guard := none }) (v := ?_) rfl (by kernel_rfl) (by kernel_rfl) (by kernel_rfl) (fun _ _ _ h => h) (Or.inl ⟨by rfl, ?_⟩) hHeld ?_
                  rotate_left
                  · (intro w hSw; (try dsimp only at hSw); go_simp; (try with_reducible rfl))
                  (try simp only [Act.put, List.setIfInBounds_toArray, List.set_cons_zero, List.set_cons_succ])
                  refine wpAnyH_take (i := 5) (oi := { dst := some 36, op := Op.move (Operand.tmp 1), type := 24, pos := _, after := _, guard := none }) (v := ?_) rfl (by kernel_rfl) (by kernel_rfl) (by kernel_rfl) (fun _ _ _ h => h) (Or.inl ⟨by rfl, ?_⟩) hHeld ?_
                  rotate_left
                  · (intro w hSw; (try dsimp only at hSw); go_simp; (try with_reducible rfl))
                  (try simp only [Act.put, List.setIfInBounds_toArray, List.set_cons_zero, List.set_cons_succ])
                  refine wpAnyH_take (i := 6) (oi := { dst := some 37, op := Op.move (Operand.tmp 7), type := 3, pos := _, after := _, guard := none }) (v := ?_) rfl (by kernel_rfl) (by kernel_rfl) (by kernel_rfl) (fun _ _ _ h => h) (Or.inl ⟨by rfl, ?_⟩) hHeld ?_
                  rotate_left
                  · (intro w hSw; (try dsimp only at hSw); go_simp; (try with_reducible rfl))
                  (try simp only [Act.put, List.setIfInBounds_toArray, List.set_cons_zero, List.set_cons_succ])
                  refine wpAnyH_take (i := 7) (oi := { dst := some 38, op := Op.indexAddr 24 (Operand.tmp 36) (Operand.tmp 37), type := 0, pos := _, after := _, guard := none }) (v := ?_) rfl (by kernel_rfl) (by kernel_rfl) (by kernel_rfl) (fun _ _ _ h => h) (Or.inl ⟨by rfl, ?_⟩) hHeld ?_
                  rotate_left
                  · (intro w hSw; (try dsimp only at hSw); go_simp; (try with_reducible rfl))
                  (try simp only [Act.put, List.setIfInBounds_toArray, List.set_cons_zero, List.set_cons_succ])
                  refine wpAnyH_take (i := 8) (oi := { dst := some 39, op := Op.load 37 (Operand.tmp 38), type := 37, pos := _, after := _, guard := none }) (v := ?_) rfl (by kernel_rfl) (by kernel_rfl) (by kernel_rfl) (fun _ _ _ h => h) (Or.inl ⟨by rfl, ?_⟩) hHeld ?_
                  rotate_left
                  · (intro w hSw; (try dsimp only at hSw); go_simp; (try with_reducible rfl))
                  (try simp only [Act.put, List.setIfInBounds_toArray, List.set_cons_zero, List.set_cons_succ])
                  refine wpAnyH_ready (rs := [9]) (by kernel_rfl) (by simp) ?_
                  refine AllReadyH.cons (o := { dst := some 40, op := Op.call { callee := Callee.value (Operand.func 80), args := #[Operand.tmp 31, Operand.tmp 35, Operand.tmp 39], argTypes := #[23, 37, 37] }, type := 4, pos := _, after := _, guard := none }) rfl (fun K hK => ?_) AllReadyH.nil
                  (try go_simp)
                  (refine (HU.out _ (by first | exact hbZ | exact hbZ.drew | exact below_drewN hbZ _)).mono ?_; rintro e wz ⟨rfl, hbZ⟩; have d0 := (hbZ.cell (World.block_lt_of_cell? _ _ c0)).trans c0; have d1 := (hbZ.cell (World.block_lt_of_cell? _ _ c1)).trans c1)
                  refine hK.out _ _ ?_ (fun hHeld => ?_)
                  · exact ⟨d0, d1⟩
                  clear hK K
                  (try simp only [Act.put, List.setIfInBounds_toArray, List.set_cons_zero, List.set_cons_succ])
                  refine wpAnyH_take (i := 10) (oi := { dst := some 41, op := Op.move (Operand.tmp 40), type := 4, pos := _, after := _, guard := none }) (v := ?_) rfl (by kernel_rfl) (by kernel_rfl) (by kernel_rfl) (fun _ _ _ h => h) (Or.inl ⟨by rfl, ?_⟩) hHeld ?_
                  rotate_left
                  · (intro w hSw; (try dsimp only at hSw); go_simp; (try with_reducible rfl))
                  (try simp only [Act.put, List.setIfInBounds_toArray, List.set_cons_zero, List.set_cons_succ])
                  refine wpAnyH_take (i := 11) (oi := { dst := some 42, op := Op.move (Operand.tmp 8), type := 3, pos := _, after := _, guard := some (10, false) }) (v := ?_) rfl (by kernel_rfl) (by kernel_rfl) (by kernel_rfl) (fun _ _ _ h => h) (Or.inl ⟨by rfl, ?_⟩) hHeld ?_
                  rotate_left
                  · (intro w hSw; (try dsimp only at hSw); go_simp; (try with_reducible rfl))
                  (try simp only [Act.put, List.setIfInBounds_toArray, List.set_cons_zero, List.set_cons_succ])
                  refine wpAnyH_take (i := 12) (oi := { dst := some 43, op := Op.move (Operand.tmp 7), type := 3, pos := _, after := _, guard := some (10, false) }) (v := ?_) rfl (by kernel_rfl) (by kernel_rfl) (by kernel_rfl) (fun _ _ _ h => h) (Or.inl ⟨by rfl, ?_⟩) hHeld ?_
                  rotate_left
                  · (intro w hSw; (try dsimp only at hSw); go_simp; (try with_reducible rfl))
                  (try simp only [Act.put, List.setIfInBounds_toArray, List.set_cons_zero, List.set_cons_succ])
                  refine wpAnyH_take (i := 13) (oi := { dst := some 44, op := Op.binOp BinOp.lss 3 (Operand.tmp 42) (Operand.tmp 43) 3, type := 4, pos := _, after := _, guard := some (10, false) }) (v := ?_) rfl (by kernel_rfl) (by kernel_rfl) (by kernel_rfl) (fun _ _ _ h => h) (Or.inl ⟨by rfl, ?_⟩) hHeld ?_
                  rotate_left
                  · (intro w hSw; (try dsimp only at hSw); go_simp; (try with_reducible rfl))
                  (try simp only [Act.put, List.setIfInBounds_toArray, List.set_cons_zero, List.set_cons_succ])
                  refine wpAnyH_take (i := 14) (oi := { dst := some 45, op := Op.move (Operand.tmp 44), type := 4, pos := _, after := _, guard := some (10, false) }) (v := ?_) rfl (by kernel_rfl) (by kernel_rfl) (by kernel_rfl) (fun _ _ _ h => h) (Or.inl ⟨by rfl, ?_⟩) hHeld ?_
                  rotate_left
                  · (intro w hSw; (try dsimp only at hSw); go_simp; (try with_reducible rfl))
                  (try simp only [Act.put, List.setIfInBounds_toArray, List.set_cons_zero, List.set_cons_succ])
                  refine wpAnyH_take (i := 15) (oi := { dst := some 46, op := Op.move (Operand.tmp 1), type := 24, pos := _, after := _, guard := some (14, true) }) (v := ?_) rfl (by kernel_rfl) (by kernel_rfl) (by kernel_rfl) (fun _ _ _ h => h) (Or.inl ⟨by rfl, ?_⟩) hHeld ?_
                  rotate_left
                  · (intro w hSw; (try dsimp only at hSw); go_simp; (try with_reducible rfl))
                  (try simp only [Act.put, List.setIfInBounds_toArray, List.set_cons_zero, List.set_cons_succ])
                  refine wpAnyH_take (i := 16) (oi := { dst := some 47, op := Op.move (Operand.tmp 8), type := 3, pos := _, after := _, guard := some (14, true) }) (v := ?_) rfl (by kernel_rfl) (by kernel_rfl) (by kernel_rfl) (fun _ _ _ h => h) (Or.inl ⟨by rfl, ?_⟩) hHeld ?_
                  rotate_left
                  · (intro w hSw; (try dsimp only at hSw); go_simp; (try with_reducible rfl))
                  (try simp only [Act.put, List.setIfInBounds_toArray, List.set_cons_zero, List.set_cons_succ])
                  refine wpAnyH_take (i := 17) (oi := { dst := some 48, op := Op.indexAddr 24 (Operand.tmp 46) (Operand.tmp 47), type := 0, pos := _, after := _, guard := some (14, true) }) (v := ?_) rfl (by kernel_rfl) (by kernel_rfl) (by kernel_rfl) (fun _ _ _ h => h) (Or.inl ⟨by rfl, ?_⟩) hHeld ?_
                  rotate_left
                  · (intro w hSw; (try dsimp only at hSw); go_simp; (try with_reducible rfl))
                  (try simp only [Act.put, List.setIfInBounds_toArray, List.set_cons_zero, List.set_cons_succ])
                  refine wpAnyH_take (i := 18) (oi := { dst := some 49, op := Op.load 37 (Operand.tmp 48), type := 37, pos := _, after := _, guard := some (14, true) }) (v := ?_) rfl (by kernel_rfl) (by kernel_rfl) (by kernel_rfl) (fun _ _ _ h => h) (Or.inl ⟨by rfl, ?_⟩) hHeld ?_
                  rotate_left
                  · (intro w hSw; (try dsimp only at hSw); go_simp; (try with_reducible rfl))
                  (try simp only [Act.put, List.setIfInBounds_toArray, List.set_cons_zero, List.set_cons_succ])
                  refine wpAnyH_take (i := 19) (oi := { dst := some 50, op := Op.move (Operand.tmp 1), type := 24, pos := _, after := _, guard := some (14, true) }) (v := ?_) rfl (by kernel_rfl) (by kernel_rfl) (by kernel_rfl) (fun _ _ _ h => h) (Or.inl ⟨by rfl, ?_⟩) hHeld ?_
                  rotate_left
                  · (intro w hSw; (try dsimp only at hSw); go_simp; (try with_reducible rfl))
                  (try simp only [Act.put, List.setIfInBounds_toArray, List.set_cons_zero, List.set_cons_succ])
                  refine wpAnyH_take (i := 20) (oi := { dst := some 51, op := Op.move (Operand.tmp 7), type := 3, pos := _, after := _, guard := some (14, true) }) (v := ?_) rfl (by kernel_rfl) (by kernel_rfl) (by kernel_rfl) (fun _ _ _ h => h) (Or.inl ⟨by rfl, ?_⟩) hHeld ?_
                  rotate_left
                  · (intro w hSw; (try dsimp only at hSw); go_simp; (try with_reducible rfl))
                  (try simp only [Act.put, List.setIfInBounds_toArray, List.set_cons_zero, List.set_cons_succ])
                  refine wpAnyH_take (i := 21) (oi := { dst := some 52, op := Op.indexAddr 24 (Operand.tmp 50) (Operand.tmp 51), type := 0, pos := _, after := _, guard := some (14, true) }) (v := ?_) rfl (by kernel_rfl) (by kernel_rfl) (by kernel_rfl) (fun _ _ _ h => h) (Or.inl ⟨by rfl, ?_⟩) hHeld ?_
                  rotate_left
                  · (intro w hSw; (try dsimp only at hSw); go_simp; (try with_reducible rfl))
                  (try simp only [Act.put, List.setIfInBounds_toArray, List.set_cons_zero, List.set_cons_succ])
                  refine wpAnyH_take (i := 22) (oi := { dst := some 53, op := Op.load 37 (Operand.tmp 52), type := 37, pos := _, after := _, guard := some (14, true) }) (v := ?_) rfl (by kernel_rfl) (by kernel_rfl) (by kernel_rfl) (fun _ _ _ h => h) (Or.inl ⟨by rfl, ?_⟩) hHeld ?_
                  rotate_left
                  · (intro w hSw; (try dsimp only at hSw); go_simp; (try with_reducible rfl))
                  (try simp only [Act.put, List.setIfInBounds_toArray, List.set_cons_zero, List.set_cons_succ])
                  refine wpAnyH_ready (rs := [23]) (by kernel_rfl) (by simp) ?_
                  refine AllReadyH.cons (o := { dst := some 54, op := Op.call { callee := Callee.value (Operand.func 88), args := #[Operand.tmp 49, Operand.tmp 53], argTypes := #[37, 37] }, type := 4, pos := _, after := _, guard := some (14, true) }) rfl (fun K hK => ?_) AllReadyH.nil
                  (try go_simp)
                  (refine (HAL.out _ (by first | exact hbZ | exact hbZ.drew | exact below_drewN hbZ _)).mono ?_; rintro e wz ⟨rfl, hbZ⟩; have d0 := (hbZ.cell (World.block_lt_of_cell? _ _ c0)).trans c0; have d1 := (hbZ.cell (World.block_lt_of_cell? _ _ c1)).trans c1)
                  refine hK.out _ _ ?_ (fun hHeld => ?_)
                  · exact ⟨d0, d1⟩
                  clear hK K
                  (try simp only [Act.put, List.setIfInBounds_toArray, List.set_cons_zero, List.set_cons_succ])
                  refine wpAnyH_take (i := 24) (oi := { dst := some 55, op := Op.pick (Operand.tmp 45) (Operand.tmp 54) (Operand.const (Value.bool false)), type := 4, pos := _, after := _, guard := some (10, false) }) (v := ?_) rfl (by kernel_rfl) (by kernel_rfl) (by kernel_rfl) (fun _ _ _ h => h) (Or.inl ⟨by rfl, ?_⟩) hHeld ?_
                  rotate_left
                  · (intro w hSw; (try dsimp only at hSw); go_simp; (try with_reducible rfl))
                  (try simp only [Act.put, List.setIfInBounds_toArray, List.set_cons_zero, List.set_cons_succ])
                  refine wpAnyH_take (i := 25) (oi := { dst := some 56, op := Op.pick (Operand.tmp 41) (Operand.const (Value.bool true)) (Operand.tmp 55), type := 4, pos := _, after := _, guard := none }) (v := ?_) rfl (by kernel_rfl) (by kernel_rfl) (by kernel_rfl) (fun _ _ _ h => h) (Or.inl ⟨by rfl, ?_⟩) hHeld ?_
                  rotate_left
                  · (intro w hSw; (try dsimp only at hSw); go_simp; (try with_reducible rfl))
                  (try simp only [Act.put, List.setIfInBounds_toArray, List.set_cons_zero, List.set_cons_succ])
                  refine wpAnyH_done (by kernel_rfl) ?_ _
                  obtain ⟨W', hW', ⟨cc, hcc⟩, hff, hoo, hbb⟩ := HFIN.out _ hbZ HM3.out
                  go_wp2
                  (try rw [hW'])
                  go_roundw
                  case rel => exact ⟨k + 1, by omega, by go_num, hoo, hbb⟩
                  case measure => simp [intOf]; omega
              · have hki2 : decide ((k : Int) < (i : Int)) = false := by simpa using hki
                have HM3 : Hid (basM s l i (k + 1) = basM s l i k) := hid (by rw [HMS.out]; simp [hki])
                refine wp_region_held_drew (S := fun w' => w'.cell? ⟨b, o + k, none⟩ = some xk ∧ w'.cell? ⟨b, o + i, none⟩ = some xi) (by kernel_rfl) ?_ (fun hHeld => ?_)
                · exact ⟨d0, d1⟩
                refine wpAnyH_take (i := 0) (oi := { dst := some 31, op := Op.move (Operand.tmp 0), type := 23, pos := _, after := _, guard := none }) (v := ?_) rfl (by kernel_rfl) (by kernel_rfl) (by kernel_rfl) (fun _ _ _ h => h) (Or.inl ⟨by rfl, ?_⟩) hHeld ?_
                rotate_left
                · (intro w hSw; (try dsimp only at hSw); go_simp; (try with_reducible rfl))
                (try simp only [Act.put, List.setIfInBounds_toArray, List.set_cons_zero, List.set_cons_succ])
                refine wpAnyH_take (i := 1) (oi := { dst := some 32, op := Op.move (Operand.tmp 1), type := 24, pos := _, after := _, guard := none }) (v := ?_) rfl (by kernel_rfl) (by kernel_rfl) (by kernel_rfl) (fun _ _ _ h => h) (Or.inl ⟨by rfl, ?_⟩) hHeld ?_
                rotate_left
                · (intro w hSw; (try dsimp only at hSw); go_simp; (try with_reducible rfl))
                (try simp only [Act.put, List.setIfInBounds_toArray, List.set_cons_zero, List.set_cons_succ])
                refine wpAnyH_take (i := 2) (oi := { dst := some 33, op := Op.move (Operand.tmp 8), type := 3, pos := _, after := _, guard := none }) (v := ?_) rfl (by kernel_rfl) (by kernel_rfl) (by kernel_rfl) (fun _ _ _ h => h) (Or.inl ⟨by rfl, ?_⟩) hHeld ?_
                rotate_left
                · (intro w hSw; (try dsimp only at hSw); go_simp; (try with_reducible rfl))
                (try simp only [Act.put, List.setIfInBounds_toArray, List.set_cons_zero, List.set_cons_succ])
                refine wpAnyH_take (i := 3) (oi := { dst := some 34, op := Op.indexAddr 24 (Operand.tmp 32) (Operand.tmp 33), type := 0, pos := _, after := _, guard := none }) (v := ?_) rfl (by kernel_rfl) (by kernel_rfl) (by kernel_rfl) (fun _ _ _ h => h) (Or.inl ⟨by rfl, ?_⟩) hHeld ?_
                rotate_left
                · (intro w hSw; (try dsimp only at hSw); go_simp; (try with_reducible rfl))
                (try simp only [Act.put, List.setIfInBounds_toArray, List.set_cons_zero, List.set_cons_succ])
                refine wpAnyH_take (i := 4) (oi := { dst := some 35, op := Op.load 37 (Operand.tmp 34), type := 37, pos := _, after := _, guard := none }) (v := ?_) rfl (by kernel_rfl) (by kernel_rfl) (by kernel_rfl) (fun _ _ _ h => h) (Or.inl ⟨by rfl, ?_⟩) hHeld ?_
                rotate_left
                · (intro w hSw; (try dsimp only at hSw); go_simp; (try with_reducible rfl))
                (try simp only [Act.put, List.setIfInBounds_toArray, List.set_cons_zero, List.set_cons_succ])
                refine wpAnyH_take (i := 5) (oi := { dst := some 36, op := Op.move (Operand.tmp 1), type := 24, pos := _, after := _, guard := none }) (v := ?_) rfl (by kernel_rfl) (by kernel_rfl) (by kernel_rfl) (fun _ _ _ h => h) (Or.inl ⟨by rfl, ?_⟩) hHeld ?_
                rotate_left
                · (intro w hSw; (try dsimp only at hSw); go_simp; (try with_reducible rfl))
                (try simp only [Act.put, List.setIfInBounds_toArray, List.set_cons_zero, List.set_cons_succ])
                refine wpAnyH_take (i := 6) (oi := { dst := some 37, op := Op.move (Operand.tmp 7), type := 3, pos := _, after := _, guard := none }) (v := ?_) rfl (by kernel_rfl) (by kernel_rfl) (by kernel_rfl) (fun _ _ _ h => h) (Or.inl ⟨by rfl, ?_⟩) hHeld ?_
                rotate_left
                · (intro w hSw; (try dsimp only at hSw); go_simp; (try with_reducible rfl))
                (try simp only [Act.put, List.setIfInBounds_toArray, List.set_cons_zero, List.set_cons_succ])
                refine wpAnyH_take (i := 7) (oi := { dst := some 38, op := Op.indexAddr 24 (Operand.tmp 36) (Operand.tmp 37), type := 0, pos := _, after := _, guard := none }) (v := ?_) rfl (by kernel_rfl) (by kernel_rfl) (by kernel_rfl) (fun _ _ _ h => h) (Or.inl ⟨by rfl, ?_⟩) hHeld ?_
                rotate_left
                · (intro w hSw; (try dsimp only at hSw); go_simp; (try with_reducible rfl))
                (try simp only [Act.put, List.setIfInBounds_toArray, List.set_cons_zero, List.set_cons_succ])
                refine wpAnyH_take (i := 8) (oi := { dst := some 39, op := Op.load 37 (Operand.tmp 38), type := 37, pos := _, after := _, guard := none }) (v := ?_) rfl (by kernel_rfl) (by kernel_rfl) (by kernel_rfl) (fun _ _ _ h => h) (Or.inl ⟨by rfl, ?_⟩) hHeld ?_
                rotate_left
                · (intro w hSw; (try dsimp only at hSw); go_simp; (try with_reducible rfl))
                (try simp only [Act.put, List.setIfInBounds_toArray, List.set_cons_zero, List.set_cons_succ])
                refine wpAnyH_ready (rs := [9]) (by kernel_rfl) (by simp) ?_
                refine AllReadyH.cons (o := { dst := some 40, op := Op.call { callee := Callee.value (Operand.func 80), args := #[Operand.tmp 31, Operand.tmp 35, Operand.tmp 39], argTypes := #[23, 37, 37] }, type := 4, pos := _, after := _, guard := none }) rfl (fun K hK => ?_) AllReadyH.nil
                (try go_simp)
                (refine (HU.out _ (by first | exact hbZ | exact hbZ.drew | exact below_drewN hbZ _)).mono ?_; rintro e wz ⟨rfl, hbZ⟩; have d0 := (hbZ.cell (World.block_lt_of_cell? _ _ c0)).trans c0; have d1 := (hbZ.cell (World.block_lt_of_cell? _ _ c1)).trans c1)
                refine hK.out _ _ ?_ (fun hHeld => ?_)
                · exact ⟨d0, d1⟩
                clear hK K
                (try simp only [Act.put, List.setIfInBounds_toArray, List.set_cons_zero, List.set_cons_succ])
                refine wpAnyH_take (i := 10) (oi := { dst := some 41, op := Op.move (Operand.tmp 40), type := 4, pos := _, after := _, guard := none }) (v := ?_) rfl (by kernel_rfl) (by kernel_rfl) (by kernel_rfl) (fun _ _ _ h => h) (Or.inl ⟨by rfl, ?_⟩) hHeld ?_
                rotate_left
                · (intro w hSw; (try dsimp only at hSw); go_simp; (try with_reducible rfl))
                (try simp only [Act.put, List.setIfInBounds_toArray, List.set_cons_zero, List.set_cons_succ])
                refine wpAnyH_take (i := 11) (oi := { dst := some 42, op := Op.move (Operand.tmp 8), type := 3, pos := _, after := _, guard := some (10, false) }) (v := ?_) rfl (by kernel_rfl) (by kernel_rfl) (by kernel_rfl) (fun _ _ _ h => h) (Or.inl ⟨by rfl, ?_⟩) hHeld ?_
                rotate_left
                · (intro w hSw; (try dsimp only at hSw); go_simp; (try with_reducible rfl))
                (try simp only [Act.put, List.setIfInBounds_toArray, List.set_cons_zero, List.set_cons_succ])
                refine wpAnyH_take (i := 12) (oi := { dst := some 43, op := Op.move (Operand.tmp 7), type := 3, pos := _, after := _, guard := some (10, false) }) (v := ?_) rfl (by kernel_rfl) (by kernel_rfl) (by kernel_rfl) (fun _ _ _ h => h) (Or.inl ⟨by rfl, ?_⟩) hHeld ?_
                rotate_left
                · (intro w hSw; (try dsimp only at hSw); go_simp; (try with_reducible rfl))
                (try simp only [Act.put, List.setIfInBounds_toArray, List.set_cons_zero, List.set_cons_succ])
                refine wpAnyH_take (i := 13) (oi := { dst := some 44, op := Op.binOp BinOp.lss 3 (Operand.tmp 42) (Operand.tmp 43) 3, type := 4, pos := _, after := _, guard := some (10, false) }) (v := ?_) rfl (by kernel_rfl) (by kernel_rfl) (by kernel_rfl) (fun _ _ _ h => h) (Or.inl ⟨by rfl, ?_⟩) hHeld ?_
                rotate_left
                · (intro w hSw; (try dsimp only at hSw); go_simp; (try with_reducible rfl))
                (try simp only [Act.put, List.setIfInBounds_toArray, List.set_cons_zero, List.set_cons_succ])
                refine wpAnyH_take (i := 14) (oi := { dst := some 45, op := Op.move (Operand.tmp 44), type := 4, pos := _, after := _, guard := some (10, false) }) (v := ?_) rfl (by kernel_rfl) (by kernel_rfl) (by kernel_rfl) (fun _ _ _ h => h) (Or.inl ⟨by rfl, ?_⟩) hHeld ?_
                rotate_left
                · (intro w hSw; (try dsimp only at hSw); go_simp; (try with_reducible rfl))
                (try simp only [Act.put, List.setIfInBounds_toArray, List.set_cons_zero, List.set_cons_succ])
                refine wpAnyH_take (i := 15) (oi := { dst := some 46, op := Op.move (Operand.tmp 1), type := 24, pos := _, after := _, guard := some (14, true) }) (v := undef) rfl (by kernel_rfl) (by kernel_rfl) (by kernel_rfl) (fun _ _ _ h => h) (Or.inr ⟨by rfl, rfl⟩) hHeld ?_
                (try simp only [Act.put, List.setIfInBounds_toArray, List.set_cons_zero, List.set_cons_succ])
                refine wpAnyH_take (i := 16) (oi := { dst := some 47, op := Op.move (Operand.tmp 8), type := 3, pos := _, after := _, guard := some (14, true) }) (v := undef) rfl (by kernel_rfl) (by kernel_rfl) (by kernel_rfl) (fun _ _ _ h => h) (Or.inr ⟨by rfl, rfl⟩) hHeld ?_
                (try simp only [Act.put, List.setIfInBounds_toArray, List.set_cons_zero, List.set_cons_succ])
                refine wpAnyH_take (i := 17) (oi := { dst := some 48, op := Op.indexAddr 24 (Operand.tmp 46) (Operand.tmp 47), type := 0, pos := _, after := _, guard := some (14, true) }) (v := undef) rfl (by kernel_rfl) (by kernel_rfl) (by kernel_rfl) (fun _ _ _ h => h) (Or.inr ⟨by rfl, rfl⟩) hHeld ?_
                (try simp only [Act.put, List.setIfInBounds_toArray, List.set_cons_zero, List.set_cons_succ])
                refine wpAnyH_take (i := 18) (oi := { dst := some 49, op := Op.load 37 (Operand.tmp 48), type := 37, pos := _, after := _, guard := some (14, true) }) (v := undef) rfl (by kernel_rfl) (by kernel_rfl) (by kernel_rfl) (fun _ _ _ h => h) (Or.inr ⟨by rfl, rfl⟩) hHeld ?_
                (try simp only [Act.put, List.setIfInBounds_toArray, List.set_cons_zero, List.set_cons_succ])
                refine wpAnyH_take (i := 19) (oi := { dst := some 50, op := Op.move (Operand.tmp 1), type := 24, pos := _, after := _, guard := some (14, true) }) (v := undef) rfl (by kernel_rfl) (by kernel_rfl) (by kernel_rfl) (fun _ _ _ h => h) (Or.inr ⟨by rfl, rfl⟩) hHeld ?_
                (try simp only [Act.put, List.setIfInBounds_toArray, List.set_cons_zero, List.set_cons_succ])
                refine wpAnyH_take (i := 20) (oi := { dst := some 51, op := Op.move (Operand.tmp 7), type := 3, pos := _, after := _, guard := some (14, true) }) (v := undef) rfl (by kernel_rfl) (by kernel_rfl) (by kernel_rfl) (fun _ _ _ h => h) (Or.inr ⟨by rfl, rfl⟩) hHeld ?_
                (try simp only [Act.put, List.setIfInBounds_toArray, List.set_cons_zero, List.set_cons_succ])
                refine wpAnyH_take (i := 21) (oi := { dst := some 52, op := Op.indexAddr 24 (Operand.tmp 50) (Operand.tmp 51), type := 0, pos := _, after := _, guard := some (14, true) }) (v := undef) rfl (by kernel_rfl) (by kernel_rfl) (by kernel_rfl) (fun _ _ _ h => h) (Or.inr ⟨by rfl, rfl⟩) hHeld ?_
                (try simp only [Act.put, List.setIfInBounds_toArray, List.set_cons_zero, List.set_cons_succ])
                refine wpAnyH_take (i := 22) (oi := { dst := some 53, op := Op.load 37 (Operand.tmp 52), type := 37, pos := _, after := _, guard := some (14, true) }) (v := undef) rfl (by kernel_rfl) (by kernel_rfl) (by kernel_rfl) (fun _ _ _ h => h) (Or.inr ⟨by rfl, rfl⟩) hHeld ?_
                (try simp only [Act.put, List.setIfInBounds_toArray, List.set_cons_zero, List.set_cons_succ])
                refine wpAnyH_take (i := 23) (oi := { dst := some 54, op := Op.call { callee := Callee.value (Operand.func 88), args := #[Operand.tmp 49, Operand.tmp 53], argTypes := #[37, 37] }, type := 4, pos := _, after := _, guard := some (14, true) }) (v := undef) rfl (by kernel_rfl) (by kernel_rfl) (by kernel_rfl) (fun _ _ _ h => h) (Or.inr ⟨by rfl, rfl⟩) hHeld ?_
                (try simp only [Act.put, List.setIfInBounds_toArray, List.set_cons_zero, List.set_cons_succ])
                refine wpAnyH_take (i := 24) (oi := { dst := some 55, op := Op.pick (Operand.tmp 45) (Operand.tmp 54) (Operand.const (Value.bool false)), type := 4, pos := _, after := _, guard := some (10, false) }) (v := ?_) rfl (by kernel_rfl) (by kernel_rfl) (by kernel_rfl) (fun _ _ _ h => h) (Or.inl ⟨by rfl, ?_⟩) hHeld ?_
                rotate_left
                · (intro w hSw; (try dsimp only at hSw); go_simp; (try with_reducible rfl))
                (try simp only [Act.put, List.setIfInBounds_toArray, List.set_cons_zero, List.set_cons_succ])
                refine wpAnyH_take (i := 25) (oi := { dst := some 56, op := Op.pick (Operand.tmp 41) (Operand.const (Value.bool true)) (Operand.tmp 55), type := 4, pos := _, after := _, guard := none }) (v := ?_) rfl (by kernel_rfl) (by kernel_rfl) (by kernel_rfl) (fun _ _ _ h => h) (Or.inl ⟨by rfl, ?_⟩) hHeld ?_
                rotate_left
                · (intro w hSw; (try dsimp only at hSw); go_simp; (try with_reducible rfl))
                (try simp only [Act.put, List.setIfInBounds_toArray, List.set_cons_zero, List.set_cons_succ])
                refine wpAnyH_done (by kernel_rfl) ?_ _
                go_wp2
                go_roundw
                case rel => exact ⟨k + 1, by omega, by go_num, by rw [HM3.out]; exact owns_below HOWN.out hbZ, HB.out.trans (hbZ.mono hsz)⟩
                case measure => simp [intOf]; omega
            · have HM3 : Hid (basM s l i (k + 1) = false) := hid (by rw [HMS.out]; simp)
              refine wp_region_held_drew (S := fun w' => w'.cell? ⟨b, o + k, none⟩ = some xk ∧ w'.cell? ⟨b, o + i, none⟩ = some xi) (by kernel_rfl) ?_ (fun hHeld => ?_)
              · exact ⟨d0, d1⟩
              refine wpAnyH_take (i := 0) (oi := { dst := some 31, op := Op.move (Operand.tmp 0), type := 23, pos := _, after := _, guard := none }) (v := ?_) rfl (by kernel_rfl) (by kernel_rfl) (by kernel_rfl) (fun _ _ _ h => h) (Or.inl ⟨by rfl, ?_⟩) hHeld ?_
              rotate_left
              · (intro w hSw; (try dsimp only at hSw); go_simp; (try with_reducible rfl))
              (try simp only [Act.put, List.setIfInBounds_toArray, List.set_cons_zero, List.set_cons_succ])
              refine wpAnyH_take (i := 1) (oi := { dst := some 32, op := Op.move (Operand.tmp 1), type := 24, pos := _, after := _, guard := none }) (v := ?_) rfl (by kernel_rfl) (by kernel_rfl) (by kernel_rfl) (fun _ _ _ h => h) (Or.inl ⟨by rfl, ?_⟩) hHeld ?_
              rotate_left
              · (intro w hSw; (try dsimp only at hSw); go_simp; (try with_reducible rfl))
              (try simp only [Act.put, List.setIfInBounds_toArray, List.set_cons_zero, List.set_cons_succ])
              refine wpAnyH_take (i := 2) (oi := { dst := some 33, op := Op.move (Operand.tmp 8), type := 3, pos := _, after := _, guard := none }) (v := ?_) rfl (by kernel_rfl) (by kernel_rfl) (by kernel_rfl) (fun _ _ _ h => h) (Or.inl ⟨by rfl, ?_⟩) hHeld ?_
              rotate_left
              · (intro w hSw; (try dsimp only at hSw); go_simp; (try with_reducible rfl))
              (try simp only [Act.put, List.setIfInBounds_toArray, List.set_cons_zero, List.set_cons_succ])
              refine wpAnyH_take (i := 3) (oi := { dst := some 34, op := Op.indexAddr 24 (Operand.tmp 32) (Operand.tmp 33), type := 0, pos := _, after := _, guard := none }) (v := ?_) rfl (by kernel_rfl) (by kernel_rfl) (by kernel_rfl) (fun _ _ _ h => h) (Or.inl ⟨by rfl, ?_⟩) hHeld ?_
              rotate_left
              · (intro w hSw; (try dsimp only at hSw); go_simp; (try with_reducible rfl))
              (try simp only [Act.put, List.setIfInBounds_toArray, List.set_cons_zero, List.set_cons_succ])
              refine wpAnyH_take (i := 4) (oi := { dst := some 35, op := Op.load 37 (Operand.tmp 34), type := 37, pos := _, after := _, guard := none }) (v := ?_) rfl (by kernel_rfl) (by kernel_rfl) (by kernel_rfl) (fun _ _ _ h => h) (Or.inl ⟨by rfl, ?_⟩) hHeld ?_
              rotate_left
              · (intro w hSw; (try dsimp only at hSw); go_simp; (try with_reducible rfl))
              (try simp only [Act.put, List.setIfInBounds_toArray, List.set_cons_zero, List.set_cons_succ])
              refine wpAnyH_take (i := 5) (oi := { dst := some 36, op := Op.move (Operand.tmp 1), type := 24, pos := _, after := _, guard := none }) (v := ?_) rfl (by kernel_rfl) (by kernel_rfl) (by kernel_rfl) (fun _ _ _ h => h) (Or.inl ⟨by rfl, ?_⟩) hHeld ?_
              rotate_left
              · (intro w hSw; (try dsimp only at hSw); go_simp; (try with_reducible rfl))
              (try simp only [Act.put, List.setIfInBounds_toArray, List.set_cons_zero, List.set_cons_succ])
              refine wpAnyH_take (i := 6) (oi := { dst := some 37, op := Op.move (Operand.tmp 7), type := 3, pos := _, after := _, guard := none }) (v := ?_) rfl (by kernel_rfl) (by kernel_rfl) (by kernel_rfl) (fun _ _ _ h => h) (Or.inl ⟨by rfl, ?_⟩) hHeld ?_
              rotate_left
              · (intro w hSw; (try dsimp only at hSw); go_simp; (try with_reducible rfl))
              (try simp only [Act.put, List.setIfInBounds_toArray, List.set_cons_zero, List.set_cons_succ])
              refine wpAnyH_take (i := 7) (oi := { dst := some 38, op := Op.indexAddr 24 (Operand.tmp 36) (Operand.tmp 37), type := 0, pos := _, after := _, guard := none }) (v := ?_) rfl (by kernel_rfl) (by kernel_rfl) (by kernel_rfl) (fun _ _ _ h => h) (Or.inl ⟨by rfl, ?_⟩) hHeld ?_
              rotate_left
              · (intro w hSw; (try dsimp only at hSw); go_simp; (try with_reducible rfl))
              (try simp only [Act.put, List.setIfInBounds_toArray, List.set_cons_zero, List.set_cons_succ])
              refine wpAnyH_take (i := 8) (oi := { dst := some 39, op := Op.load 37 (Operand.tmp 38), type := 37, pos := _, after := _, guard := none }) (v := ?_) rfl (by kernel_rfl) (by kernel_rfl) (by kernel_rfl) (fun _ _ _ h => h) (Or.inl ⟨by rfl, ?_⟩) hHeld ?_
              rotate_left
              · (intro w hSw; (try dsimp only at hSw); go_simp; (try with_reducible rfl))
              (try simp only [Act.put, List.setIfInBounds_toArray, List.set_cons_zero, List.set_cons_succ])
              refine wpAnyH_ready (rs := [9]) (by kernel_rfl) (by simp) ?_
              refine AllReadyH.cons (o := { dst := some 40, op := Op.call { callee := Callee.value (Operand.func 80), args := #[Operand.tmp 31, Operand.tmp 35, Operand.tmp 39], argTypes := #[23, 37, 37] }, type := 4, pos := _, after := _, guard := none }) rfl (fun K hK => ?_) AllReadyH.nil
              (try go_simp)
              (refine (HU.out _ (by first | exact hbZ | exact hbZ.drew | exact below_drewN hbZ _)).mono ?_; rintro e wz ⟨rfl, hbZ⟩; have d0 := (hbZ.cell (World.block_lt_of_cell? _ _ c0)).trans c0; have d1 := (hbZ.cell (World.block_lt_of_cell? _ _ c1)).trans c1)
              refine hK.out _ _ ?_ (fun hHeld => ?_)
              · exact ⟨d0, d1⟩
              clear hK K
              (try simp only [Act.put, List.setIfInBounds_toArray, List.set_cons_zero, List.set_cons_succ])
              refine wpAnyH_take (i := 10) (oi := { dst := some 41, op := Op.move (Operand.tmp 40), type := 4, pos := _, after := _, guard := none }) (v := ?_) rfl (by kernel_rfl) (by kernel_rfl) (by kernel_rfl) (fun _ _ _ h => h) (Or.inl ⟨by rfl, ?_⟩) hHeld ?_
              rotate_left
              · (intro w hSw; (try dsimp only at hSw); go_simp; (try with_reducible rfl))
              (try simp only [Act.put, List.setIfInBounds_toArray, List.set_cons_zero, List.set_cons_succ])
              refine wpAnyH_take (i := 11) (oi := { dst := some 42, op := Op.move (Operand.tmp 8), type := 3, pos := _, after := _, guard := some (10, false) }) (v := undef) rfl (by kernel_rfl) (by kernel_rfl) (by kernel_rfl) (fun _ _ _ h => h) (Or.inr ⟨by rfl, rfl⟩) hHeld ?_
              (try simp only [Act.put, List.setIfInBounds_toArray, List.set_cons_zero, List.set_cons_succ])
              refine wpAnyH_take (i := 12) (oi := { dst := some 43, op := Op.move (Operand.tmp 7), type := 3, pos := _, after := _, guard := some (10, false) }) (v := undef) rfl (by kernel_rfl) (by kernel_rfl) (by kernel_rfl) (fun _ _ _ h => h) (Or.inr ⟨by rfl, rfl⟩) hHeld ?_
              (try simp only [Act.put, List.setIfInBounds_toArray, List.set_cons_zero, List.set_cons_succ])
              refine wpAnyH_take (i := 13) (oi := { dst := some 44, op := Op.binOp BinOp.lss 3 (Operand.tmp 42) (Operand.tmp 43) 3, type := 4, pos := _, after := _, guard := some (10, false) }) (v := undef) rfl (by kernel_rfl) (by kernel_rfl) (by kernel_rfl) (fun _ _ _ h => h) (Or.inr ⟨by rfl, rfl⟩) hHeld ?_
              (try simp only [Act.put, List.setIfInBounds_toArray, List.set_cons_zero, List.set_cons_succ])
              refine wpAnyH_take (i := 14) (oi := { dst := some 45, op := Op.move (Operand.tmp 44), type := 4, pos := _, after := _, guard := some (10, false) }) (v := undef) rfl (by kernel_rfl) (by kernel_rfl) (by kernel_rfl) (fun _ _ _ h => h) (Or.inr ⟨by rfl, rfl⟩) hHeld ?_
              (try simp only [Act.put, List.setIfInBounds_toArray, List.set_cons_zero, List.set_cons_succ])
              refine wpAnyH_take (i := 15) (oi := { dst := some 46, op := Op.move (Operand.tmp 1), type := 24, pos := _, after := _, guard := some (14, true) }) (v := undef) rfl (by kernel_rfl) (by kernel_rfl) (by kernel_rfl) (fun _ _ _ h => h) (Or.inr ⟨by rfl, rfl⟩) hHeld ?_
              (try simp only [Act.put, List.setIfInBounds_toArray, List.set_cons_zero, List.set_cons_succ])
              refine wpAnyH_take (i := 16) (oi := { dst := some 47, op := Op.move (Operand.tmp 8), type := 3, pos := _, after := _, guard := some (14, true) }) (v := undef) rfl (by kernel_rfl) (by kernel_rfl) (by kernel_rfl) (fun _ _ _ h => h) (Or.inr ⟨by rfl, rfl⟩) hHeld ?_
              (try simp only [Act.put, List.setIfInBounds_toArray, List.set_cons_zero, List.set_cons_succ])
              refine wpAnyH_take (i := 17) (oi := { dst := some 48, op := Op.indexAddr 24 (Operand.tmp 46) (Operand.tmp 47), type := 0, pos := _, after := _, guard := some (14, true) }) (v := undef) rfl (by kernel_rfl) (by kernel_rfl) (by kernel_rfl) (fun _ _ _ h => h) (Or.inr ⟨by rfl, rfl⟩) hHeld ?_
              (try simp only [Act.put, List.setIfInBounds_toArray, List.set_cons_zero, List.set_cons_succ])
              refine wpAnyH_take (i := 18) (oi := { dst := some 49, op := Op.load 37 (Operand.tmp 48), type := 37, pos := _, after := _, guard := some (14, true) }) (v := undef) rfl (by kernel_rfl) (by kernel_rfl) (by kernel_rfl) (fun _ _ _ h => h) (Or.inr ⟨by rfl, rfl⟩) hHeld ?_
              (try simp only [Act.put, List.setIfInBounds_toArray, List.set_cons_zero, List.set_cons_succ])
              refine wpAnyH_take (i := 19) (oi := { dst := some 50, op := Op.move (Operand.tmp 1), type := 24, pos := _, after := _, guard := some (14, true) }) (v := undef) rfl (by kernel_rfl) (by kernel_rfl) (by kernel_rfl) (fun _ _ _ h => h) (Or.inr ⟨by rfl, rfl⟩) hHeld ?_
              (try simp only [Act.put, List.setIfInBounds_toArray, List.set_cons_zero, List.set_cons_succ])
              refine wpAnyH_take (i := 20) (oi := { dst := some 51, op := Op.move (Operand.tmp 7), type := 3, pos := _, after := _, guard := some (14, true) }) (v := undef) rfl (by kernel_rfl) (by kernel_rfl) (by kernel_rfl) (fun _ _ _ h => h) (Or.inr ⟨by rfl, rfl⟩) hHeld ?_
              (try simp only [Act.put, List.setIfInBounds_toArray, List.set_cons_zero, List.set_cons_succ])
              refine wpAnyH_take (i := 21) (oi := { dst := some 52, op := Op.indexAddr 24 (Operand.tmp 50) (Operand.tmp 51), type := 0, pos := _, after := _, guard := some (14, true) }) (v := undef) rfl (by kernel_rfl) (by kernel_rfl) (by kernel_rfl) (fun _ _ _ h => h) (Or.inr ⟨by rfl, rfl⟩) hHeld ?_
              (try simp only [Act.put, List.setIfInBounds_toArray, List.set_cons_zero, List.set_cons_succ])
              refine wpAnyH_take (i := 22) (oi := { dst := some 53, op := Op.load 37 (Operand.tmp 52), type := 37, pos := _, after := _, guard := some (14, true) }) (v := undef) rfl (by kernel_rfl) (by kernel_rfl) (by kernel_rfl) (fun _ _ _ h => h) (Or.inr ⟨by rfl, rfl⟩) hHeld ?_
              (try simp only [Act.put, List.setIfInBounds_toArray, List.set_cons_zero, List.set_cons_succ])
              refine wpAnyH_take (i := 23) (oi := { dst := some 54, op := Op.call { callee := Callee.value (Operand.func 88), args := #[Operand.tmp 49, Operand.tmp 53], argTypes := #[37, 37] }, type := 4, pos := _, after := _, guard := some (14, true) }) (v := undef) rfl (by kernel_rfl) (by kernel_rfl) (by kernel_rfl) (fun _ _ _ h => h) (Or.inr ⟨by rfl, rfl⟩) hHeld ?_
              (try simp only [Act.put, List.setIfInBounds_toArray, List.set_cons_zero, List.set_cons_succ])
              refine wpAnyH_take (i := 24) (oi := { dst := some 55, op := Op.pick (Operand.tmp 45) (Operand.tmp 54) (Operand.const (Value.bool false)), type := 4, pos := _, after := _, guard := some (10, false) }) (v := undef) rfl (by kernel_rfl) (by kernel_rfl) (by kernel_rfl) (fun _ _ _ h => h) (Or.inr ⟨by rfl, rfl⟩) hHeld ?_
              (try simp only [Act.put, List.setIfInBounds_toArray, List.set_cons_zero, List.set_cons_succ])
              refine wpAnyH_take (i := 25) (oi := { dst := some 56, op := Op.pick (Operand.tmp 41) (Operand.const (Value.bool true)) (Operand.tmp 55), type := 4, pos := _, after := _, guard := none }) (v := ?_) rfl (by kernel_rfl) (by kernel_rfl) (by kernel_rfl) (fun _ _ _ h => h) (Or.inl ⟨by rfl, ?_⟩) hHeld ?_
              rotate_left
              · (intro w hSw; (try dsimp only at hSw); go_simp; (try with_reducible rfl))
              (try simp only [Act.put, List.setIfInBounds_toArray, List.set_cons_zero, List.set_cons_succ])
              refine wpAnyH_done (by kernel_rfl) ?_ _
              obtain ⟨W', hW', ⟨cc, hcc⟩, hff, hoo, hbb⟩ := HFIN.out _ hbZ HM3.out
              go_wp2
              (try rw [hW'])
              go_roundw
              case rel => exact ⟨k + 1, by omega, by go_num, hoo, hbb⟩
              case measure => simp [intOf]; omega
          · obtain rfl : n = k := by omega
            have hst : wr.ownsRow w.heap.size 4 1 (.slice (some ⟨g, 0, none⟩) n n) n ((fillB bs (i + 1)).map Value.bool) := by
              rw [← HSET.out, HIB.out, ← basM_all, HN.out]; exact hown
            have HST := hid hst
            have HB := hid hb
            clear hown hb hst
            go_wp2
            go_roundw
            case rel => exact ⟨i + 1, by omega, by go_num, HST.out, HB.out⟩
            case measure => simp [intOf]; omega
      · obtain rfl : n = i := by omega
        have hbo : Bools wr (.slice (some ⟨g, 0, none⟩) n n) bs := by
          have e : bs.length = n := by rw [HBL.out, HN.out]
          have := hown
          rw [← e, fillB_all, e] at this
          unfold Bools
          rw [e]
          exact RowK.of_owns this (by omega)
        have HCH := hid (ref5_chosen _ bs wr hbo (by rw [HBL.out, HN.out]; omega))
        have HB := hid hb
        have hcl := chosenL_len bs 0
        have HCL := hid hcl
        clear hown hb hbo hcl
        go_wp2_with fail
        refine HCH.out.mono ?_
        rintro e w9 ⟨u, rfl, ho, hb9⟩
        have HI := hid (Ints.of_owns ho (by have := HCL.out; have := HBL.out; have := HN.out; omega))
        have HB9 := hid (HB.out.trans (hb9.mono HB.out.size))
        clear ho hb9
        go_wp2
        go_ret2
        exact ⟨_, rfl, HI.out, HB9.out⟩
end Go.Proofs.Ytiacbdipagbblaa
