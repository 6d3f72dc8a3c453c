/-
  WHAT IT HOLDS: contract of Do of the reference of layer 9 at a change that renames, and at any valid change. Conditions: the arguments read as data; an edition and a valid change.
  WHAT IT HOLDS: contracts of Do at any valid change, of Made, asked, play and Played of the reference of layer 9. Conditions: the arguments read as data; small signs, small libraries.
  WHAT IT HOLDS: contracts of asked, Played and At of the reference of layer 9 and of At of package blame. Conditions: the arguments read as data; small signs, small libraries.
-/
import Derived.Test.YtlbjbmpkaniojaaGreatZRBlameApart39
import Derived.Test.YtlbjbmpkaniojaaGreatZRBlameApart37
import Derived.Test.YtlbjbmpkaniojaaGreatZRBlameApart40
import Derived.Test.YtlbjbmpkaniojaaGreatZRBlameApart43
namespace Go.Proofs.YtlbjbmpkaniojaaGreat
open Go Go.RowKit Go.Maps
theorem EntO.useSet {w : World} {base : Nat} {vS vP : Value} {x : En} {b n c i : Nat} (h : EntO w base vS (.slice (some ⟨b, 0, none⟩) n c) vP x) (hi : i < x.uses.length) (m : Nm) (hm : m.size ≤ 140737488355328) :
    EntO (w.setCell ⟨b, i, none⟩ (.string m)) base vS (.slice (some ⟨b, 0, none⟩) n c) vP { x with uses := x.uses.set i m } := by
  have hS := h.u
  have hn : n = x.uses.length := by
    obtain ⟨a', c', e⟩ := owns_slice hS; cases e; rfl
  subst hn
  have hS1 := (hS.stored i (.string m)).1
  have hother : ∀ q, q ≠ b → (w.setCell ⟨b, i, none⟩ (.string m)).heap[q]? = w.heap[q]? := fun q hq => Below.heap_setCell _ _ _ _ hq
  refine ⟨?_, ?_, ?_, h.ls, by rw [List.length_set]; exact h.lu, h.lp, fun y hy => ?_, h.n1, h.n2⟩
  · exact owns_blocks h.s fun q _ _ hq => hother q fun e => owns_ne h.s h.u (by decide) hq (by rw [e]; rfl)
  · rw [List.length_set, List.map_set]
    exact hS1
  · exact owns_blocks h.p fun q _ _ hq => hother q fun e => owns_ne h.p h.u (by decide) hq (by rw [e]; rfl)
  · rcases List.mem_or_eq_of_mem_set hy with h' | rfl
    · exact h.nu y h'
    · exact hm
theorem EntO.named {w : World} {base : Nat} {vS vU vP : Value} {x : En} (h : EntO w base vS vU vP x) {m : Nm} (hm : m.size ≤ 140737488355328) : EntO w base vS vU vP { x with name := m } := ⟨h.s, h.u, h.p, h.ls, h.lu, h.lp, h.nu, hm, h.n2⟩
theorem EntO.blk {w : World} {base : Nat} {vS vP : Value} {x : En} {a : Option Addr} {n c : Nat} (h : EntO w base vS (.slice a n c) vP x) (h0 : 0 < x.uses.length) : ∃ b, a = some ⟨b, 0, none⟩ ∧ base ≤ b ∧ b < w.heap.size := by
  rcases h.u.2 with ⟨-, h1⟩ | ⟨g, cap, cur, e, hg, h3, h4, -⟩
  · omega
  · cases e; exact ⟨g, rfl, hg, (h.u.lt g rfl).2⟩
/-- the uses behind j rounds. -/
def usJ (n m : Nm) (us : List Nm) (j : Nat) : List Nm := (us.take j).map (renN n m) ++ us.drop j
theorem usJ_len (n m : Nm) (us : List Nm) (j : Nat) : (usJ n m us j).length = us.length := by
  unfold usJ; rw [List.length_append, List.length_map, List.length_take, List.length_drop]; omega
theorem usJ_get {n m : Nm} {us : List Nm} {j : Nat} (hj : j < us.length) : (usJ n m us j)[j]? = some us[j] := by
  unfold usJ
  rw [List.getElem?_append_right (by rw [List.length_map, List.length_take]; omega), List.length_map, List.length_take, Nat.min_eq_left (by omega), Nat.sub_self, List.getElem?_drop, Nat.add_zero, List.getElem?_eq_getElem hj]
theorem usJ_next {n m : Nm} {us : List Nm} {j : Nat} (hj : j < us.length) : usJ n m us (j + 1) = (usJ n m us j).set j (renN n m us[j]) := by
  unfold usJ
  have h1 : ((us.take j).map (renN n m)).length = j := by rw [List.length_map, List.length_take]; omega
  rw [List.take_succ_eq_append_getElem hj, List.map_append, List.append_assoc, List.set_append_right _ _ (by rw [h1]; exact Nat.le_refl _), h1, Nat.sub_self, List.drop_eq_getElem_cons hj]
  rfl
theorem usJ_same {n m : Nm} {us : List Nm} {j : Nat} (hj : j < us.length) (h : us[j] ≠ n) : usJ n m us (j + 1) = usJ n m us j := by
  rw [usJ_next hj]
  have e : renN n m us[j] = us[j] := by unfold renN; rw [if_neg h]
  rw [e]
  refine List.ext_getElem? fun k => ?_
  rw [List.getElem?_set]
  by_cases hk : j = k
  · subst hk; rw [if_pos rfl, if_pos (by rw [usJ_len]; exact hj), usJ_get hj]
  · rw [if_neg hk]
theorem usJ_all (n m : Nm) (us : List Nm) : usJ n m us us.length = us.map (renN n m) := by unfold usJ; rw [List.take_length, List.drop_length, List.append_nil]
theorem usJ_zero (n m : Nm) (us : List Nm) : usJ n m us 0 = us := rfl
set_option maxHeartbeats 8000000 in
set_option maxRecDepth 100000 in
theorem ref9_Do3 (vl : Value) (l : List En) (c : Chg) (vS vU vP : Value) (w : World) (hl : EntsAt w vl l) (hc : ChgAt w vS vU vP c) (hk : c.kind = 3) (hl60 : l.length ≤ 60) (hok : ∀ x ∈ l, EnSm x) (hnd : (l.map En.name).Nodup) :
    Calls Tryz.prog 77 #[vl, chV c vS vU vP] w fun e w' => ∃ u, e = .returned (.tuple #[u, .int .i64 (doI l c (idxN l (nameC c))).2]) ∧ EntsAt w' u (doI l c (idxN l (nameC c))).1 ∧ Below w.heap.size w w' := by
  obtain ⟨ck, cw, cn, cm, ce⟩ := c; have hk : ck = 3 := hk; subst hk; obtain ⟨sa, sc, rfl, -⟩ := hc.e.s.open; obtain ⟨ua, uc, rfl, -⟩ := hc.e.u.open; obtain ⟨pa, pc, rfl, -⟩ := hc.e.p.open; unfold chV; dsimp only; have hCB := CB.new w ⟨3, cw, cn, cm, ce⟩ (.slice sa ce.says.length sc) (.slice ua ce.uses.length uc) (.slice pa ce.proof.length pc) 43; obtain ⟨V, hV⟩ : ∃ V, w.alloc (.cells #[.int .i64 3, .string cw, .string cn, .string cm, .string ce.name, .string ce.who, .slice sa ce.says.length sc, .slice ua ce.uses.length uc, .slice pa ce.proof.length pc] 43) = V := ⟨_, rfl⟩; have hbV : Below w.heap.size w V := hV ▸ (Below.refl _ _).alloc (Nat.le_refl _) _; have hV' : w.alloc (.cells #[.int .i64 (Chg.mk 3 cw cn cm ce).kind, .string (Chg.mk 3 cw cn cm ce).who, .string (Chg.mk 3 cw cn cm ce).name, .string (Chg.mk 3 cw cn cm ce).new, .string (Chg.mk 3 cw cn cm ce).ent.name, .string (Chg.mk 3 cw cn cm ce).ent.who, .slice sa ce.says.length sc, .slice ua ce.uses.length uc, .slice pa ce.proof.length pc] 43) = V := hV; rw [hV'] at hCB; have HCV := hid (hc.below hbV); have HLV := hid (hl.below hbV); have HCB := hid hCB; have HW := hid hV; have HBV := hid hbV; obtain ⟨c0, c1, c2, c3, c4, c5, c6, c7, c8⟩ := hCB; dsimp only at c0 c1 c2 c3 c4 c5; obtain ⟨la, lc, rfl, -, ll, -, HC⟩ := hl.open; have HC' := hid HC; clear hV hV' hbV hc hl HC
  have hnm : nameC ⟨3, cw, cn, cm, ce⟩ = cn := by unfold nameC; rw [if_neg (by simp)]
  rw [hnm]
  clear hnm
  have HIX := hid (ref6_Index _ l cn V HLV.out)
  cases hi : idxN l cn with
  | none =>
    have HF : Hid (doI l ⟨3, cw, cn, cm, ce⟩ none = ([], 5)) := hid (by unfold doI; rfl)
    rw [idxI_no hi] at HIX
    clear hi
    go_enter Tryz.func77, Tryz.ntmps77
    go_wp2_with (first | rw [HW.out] | (go_at_call 51; refine HIX.out.mono ?_; rintro e w' ⟨rfl, rfl⟩))
    go_ret2
    exact ⟨_, by rw [HF.out]; rfl, by rw [HF.out]; exact EntsAt.nil _, HBV.out⟩
  | some i =>
    obtain ⟨hil, hin⟩ := idxN_some hi
    rw [idxI_some hi] at HIX
    clear hi
    have b0 : ¬ (i : Int) < 0 := by omega
    have HIM := hid (ref6_Index _ l cm V HLV.out)
    have HUS := hid (ref9_used _ l cm (-1) V HLV.out)
    have HFI : Hid (doI l ⟨3, cw, cn, cm, ce⟩ (some i) = if (idxN l cm).isSome || usedI l cm (-1) then ([], 6) else (srtE (l.map (renE cn cm)), 0)) := hid (by unfold doI; rw [if_neg (by simp)]; simp)
    have HIXX := hid (fun (h1 : V.heap.size = V.heap.size) => HIX.out)
    cases hm : idxN l cm with
    | some i2 =>
      rw [idxI_some hm] at HIM
      have b1 : (0 : Int) ≤ (i2 : Int) := by omega
      have HF : Hid (doI l ⟨3, cw, cn, cm, ce⟩ (some i) = ([], 6)) := hid (by rw [HFI.out, hm]; rfl)
      clear hm hok hin HFI
      go_enter Tryz.func77, Tryz.ntmps77
      go_wp2_with (first | rw [HW.out] | (go_at_call 51; first | ((with_reducible refine HIX.out.mono ?_); rintro e w' ⟨rfl, rfl⟩) | ((with_reducible refine HIM.out.mono ?_); rintro e w' ⟨rfl, rfl⟩)))
      go_ret2
      exact ⟨_, by rw [HF.out]; rfl, by rw [HF.out]; exact EntsAt.nil _, HBV.out⟩
    | none =>
      rw [idxI_no hm] at HIM
      rw [hm] at HFI
      clear hm
      obtain ⟨bb, hbb⟩ : ∃ bb, usedI l cm (-1) = bb := ⟨_, rfl⟩
      rw [hbb] at HUS HFI
      clear hbb
      cases bb
      case true =>
        clear hok hin
        go_enter Tryz.func77, Tryz.ntmps77
        go_wp2_with (first | rw [HW.out] | (go_at_call 51; first | ((with_reducible refine HIX.out.mono ?_); rintro e w' ⟨rfl, rfl⟩) | ((with_reducible refine HIM.out.mono ?_); rintro e w' ⟨rfl, rfl⟩)) | (go_at_call 81; refine HUS.out.mono ?_; rintro e w' ⟨rfl, rfl⟩))
        go_ret2
        exact ⟨_, by rw [HFI.out]; rfl, by rw [HFI.out]; exact EntsAt.nil _, HBV.out⟩
      case false =>
        have HOK := hid hok
        have HRA := hid (fun (k : Nat) (hk : k < l.length) => ren_at hnd hil (n := cn) (m := cm) hin hk)
        clear hok hin
        go_enter Tryz.func77, Tryz.ntmps77
        go_wp2_with (first | rw [HW.out] | (go_at_call 51; first | ((with_reducible refine HIX.out.mono ?_); rintro e w' ⟨rfl, rfl⟩) | ((with_reducible refine HIM.out.mono ?_); rintro e w' ⟨rfl, rfl⟩)) | (go_at_call 81; refine HUS.out.mono ?_; rintro e w' ⟨rfl, rfl⟩))
        go_loopw [8, 9] (fun uo kv wr => ∃ k : Nat, k ≤ l.length ∧ kv = .int .i64 k ∧ EntsAt wr uo (srtE ((l.take k).map (renE cn cm))) ∧ Below V.heap.size V wr) (fun _ kv _ => l.length - (intOf kv).toNat)
        case atStart => exact ⟨0, by omega, rfl, EntsAt.nil _, Below.refl _ _⟩
        case round =>
          obtain ⟨wo, rfl⟩ : ∃ wo : World, wo = wr := ⟨_, rfl⟩
          obtain ⟨k, hk, rfl, hE, hb⟩ := hrel
          have hsz := hb.size
          obtain ⟨ea, ec, hu0, -⟩ := hE.open
          obtain ⟨en, hen⟩ : ∃ en, (srtE ((l.take k).map (renE cn cm))).length = en := ⟨_, rfl⟩
          rw [hen] at hu0
          subst hu0
          clear hen
          by_cases hlt : k < l.length
          · obtain ⟨lb, lo, xS, xU, xP, rfl, d0, d1, d2, d3, d4, he⟩ := HC'.out k hlt
            have hbw := HBV.out.trans (hb.mono HBV.out.size)
            replace d0 := (hbw.cell (World.block_lt_of_cell? _ _ d0)).trans d0
            replace d1 := (hbw.cell (World.block_lt_of_cell? _ _ d1)).trans d1
            replace d2 := (hbw.cell (World.block_lt_of_cell? _ _ d2)).trans d2
            replace d3 := (hbw.cell (World.block_lt_of_cell? _ _ d3)).trans d3
            replace d4 := (hbw.cell (World.block_lt_of_cell? _ _ d4)).trans d4
            have he' := he.below hbw
            obtain ⟨s1, t1, rfl, -⟩ := he'.s.open
            obtain ⟨s2, t2, rfl, -⟩ := he'.u.open
            obtain ⟨s3, t3, rfl, -⟩ := he'.p.open
            obtain ⟨z0, z1, z2, z3⟩ := HOK.out _ (List.getElem_mem hlt)
            have hra := HRA.out k hlt
            have hren : (l.take (k + 1)).map (renE cn cm) = (l.take k).map (renE cn cm) ++ [renE cn cm l[k]] := by rw [List.take_succ_eq_append_getElem hlt, List.map_append]; rfl
            have hsn : srtE ((l.take (k + 1)).map (renE cn cm)) = putE (renE cn cm l[k]) (srtE ((l.take k).map (renE cn cm))) := by rw [hren, srtE_snoc]
            have hsl : (srtE ((l.take k).map (renE cn cm))).length ≤ 900 := by rw [srtE_len, List.length_map, List.length_take]; omega
            have hsm : ∀ y ∈ srtE ((l.take k).map (renE cn cm)), EnSm y := fun y hy => by
              obtain ⟨q, hq, rfl⟩ := List.mem_map.1 ((srtE_mem _).1 hy)
              obtain ⟨q0, q1, q2, q3⟩ := HOK.out q (List.mem_of_mem_take hq)
              exact ⟨q0, q1, by unfold renE; simpa using q2, q3⟩
            have hn1 := he'.n1
            obtain ⟨x, hx⟩ : ∃ x, l[k] = x := ⟨_, rfl⟩
            obtain ⟨OL, hOL⟩ : ∃ OL, srtE ((l.take k).map (renE cn cm)) = OL := ⟨_, rfl⟩
            rw [hx] at d0 d1 d2 d3 d4 he' z0 z1 z2 z3 hra hsn hn1
            have hEo : EntsAt wo (.slice ea en ec) OL := by rw [← hOL]; exact hE
            rw [hOL] at hsn hsl hsm
            have HRA1 := hid hra
            have HSN := hid hsn
            have HSL := hid hsl
            have HSM := hid hsm
            have HZ := hid (And.intro z0 (And.intro z1 (And.intro z2 z3)))
            have HE := hid hEo
            have HB := hid hb
            have HN1 := hid hn1
            have HCP := hid (ref9_copied _ _ _ x wo he' z1 z2 z3)
            clear hra hsn hsl hsm hE hEo hb he he' hx hOL hren hbw z0 z1 z2 z3 hn1
            go_wp2_with fail
            refine HCP.out.mono ?_
            rintro e w2 ⟨v, rfl, ⟨vS, vU, vP, rfl, hO⟩, hb2⟩
            obtain ⟨a1, k1, rfl⟩ := owns_slice hO.s
            obtain ⟨a2, k2, rfl⟩ := owns_slice hO.u
            obtain ⟨a3, k3, rfl⟩ := owns_slice hO.p
            have hEB := EB.new w2 x (.slice a1 x.says.length k1) (.slice a2 x.uses.length k2) (.slice a3 x.proof.length k3) 41
            have hbx := BX.new w2 [.string x.name, .string x.who, .slice a1 x.says.length k1, .slice a2 x.uses.length k2, .slice a3 x.proof.length k3] 41
            obtain ⟨X, hX⟩ : ∃ X, w2.alloc (.cells #[.string x.name, .string x.who, .slice a1 x.says.length k1, .slice a2 x.uses.length k2, .slice a3 x.proof.length k3] 41) = X := ⟨_, rfl⟩
            have hX' : w2.alloc (.cells ([.string x.name, .string x.who, .slice a1 x.says.length k1, .slice a2 x.uses.length k2, .slice a3 x.proof.length k3] : List Value).toArray 41) = X := hX
            rw [hX] at hEB
            rw [hX'] at hbx
            have hbX : Below w2.heap.size w2 X := hX ▸ (Below.refl _ _).alloc (Nat.le_refl _) _
            have hb2X := hb2.trans (hbX.mono hb2.size)
            have hOX := hO.blocks (W' := X) (base' := wo.heap.size) (Nat.le_refl _) fun q _ hq => hbX.block q hq
            obtain ⟨-, -, -, p3, -⟩ := HCB.out.below (HB.out.trans (hb2X.mono HB.out.size))
            dsimp only at p3
            obtain ⟨e0, e1, e2, e3, e4⟩ := hEB
            have f0 := hbx.z 0
            have HO := hid hO
            have HX := hid hX
            have HW2 := hid hb2.size
            have HOX := hid hOX
            have HEX := hid (EB.mk e0 e1 e2 e3 e4)
            have HBX := hid hb2X
            have hV1 : w.heap.size < V.heap.size := World.block_lt_of_cell? _ _ c0
            have hV2 : V.heap.size ≤ w2.heap.size := Nat.le_trans hsz hb2.size
            obtain ⟨y, hy⟩ : ∃ y : En, ({ x with name := if k = i then cm else x.name } : En) = y := ⟨_, rfl⟩
            have HY := hid hy
            clear hX hX' hbX hbx hb2X hOX hb2 hO hy
            by_cases hki : k = i
            case' pos =>
              have q0 : ((k : Int) == (i : Int)) = true := by simp [hki]
              obtain ⟨Y, hYY⟩ : ∃ Y, X.setCell ⟨w2.heap.size, 0, none⟩ (.string cm) = Y := ⟨_, rfl⟩
              have hk0 : ∀ q, q ≠ w2.heap.size → Y.heap[q]? = X.heap[q]? := fun q hq => by rw [← hYY]; exact Below.heap_setCell _ _ _ _ hq
              have HEY : Hid (EB Y w2.heap.size y (.slice a1 x.says.length k1) (.slice a2 x.uses.length k2) (.slice a3 x.proof.length k3)) := hid (by
                rw [← HY.out, if_pos hki, ← hYY]
                refine ⟨World.cell?_setCell_same _ _ _ e0, ?_, ?_, ?_, ?_⟩
                · rw [World.cell?_setCell_other _ _ _ _ (by simp)]; exact e1
                · rw [World.cell?_setCell_other _ _ _ _ (by simp)]; exact e2
                · rw [World.cell?_setCell_other _ _ _ _ (by simp)]; exact e3
                · rw [World.cell?_setCell_other _ _ _ _ (by simp)]; exact e4)
              have HOY : Hid (EntO Y wo.heap.size (.slice a1 x.says.length k1) (.slice a2 x.uses.length k2) (.slice a3 x.proof.length k3) y) := hid (by
                rw [← HY.out, if_pos hki]
                refine EntO.named ((HOX.out).keep (Nat.le_refl _) fun q _ _ hq => hk0 q fun eq => ?_) HCV.out.n3
                have : q < w2.heap.size := by
                  rcases hq with hq | hq | hq
                  · exact (HO.out.s.lt q hq).2
                  · exact (HO.out.u.lt q hq).2
                  · exact (HO.out.p.lt q hq).2
                omega)
              have HBY : Hid (Below wo.heap.size wo Y) := hid (by rw [← hYY]; exact HBX.out.setCell (p := ⟨w2.heap.size, 0, none⟩) HW2.out _)
              have HYW := hid hYY
              clear hYY hk0 hki
              go_wp2_with (first | rw [HX.out] | rw [HYW.out])
            case' neg =>
              have q0 : ((k : Int) == (i : Int)) = false := by simp; omega
              obtain ⟨Y, hYY⟩ : ∃ Y, Y = X := ⟨_, rfl⟩
              have HEY : Hid (EB Y w2.heap.size y (.slice a1 x.says.length k1) (.slice a2 x.uses.length k2) (.slice a3 x.proof.length k3)) := hid (by
                rw [← HY.out, if_neg hki, hYY]; exact HEX.out)
              have HOY : Hid (EntO Y wo.heap.size (.slice a1 x.says.length k1) (.slice a2 x.uses.length k2) (.slice a3 x.proof.length k3) y) := hid (by
                rw [← HY.out, if_neg hki, hYY]; exact HOX.out)
              have HBY : Hid (Below wo.heap.size wo Y) := hid (hYY ▸ HBX.out)
              have HYW := hid hYY
              clear hYY hki
              go_wp2_with (rw [HX.out])
              rw [← HYW.out]
            all_goals
              have HOY0 : Hid (EntO Y wo.heap.size (.slice a1 x.says.length k1) (.slice a2 x.uses.length k2) (.slice a3 x.proof.length k3) { y with uses := usJ cn cm x.uses 0 }) := hid (by rw [usJ_zero, show ({ y with uses := x.uses } : En) = y from by rw [← HY.out]]; exact HOY.out)
              go_loopw [11] (fun jv wr => ∃ j : Nat, j ≤ x.uses.length ∧ jv = .int .i64 j ∧ EntO wr wo.heap.size (.slice a1 x.says.length k1) (.slice a2 x.uses.length k2) (.slice a3 x.proof.length k3) { y with uses := usJ cn cm x.uses j } ∧ EB wr w2.heap.size y (.slice a1 x.says.length k1) (.slice a2 x.uses.length k2) (.slice a3 x.proof.length k3) ∧ Below wo.heap.size wo wr) (fun jv _ => x.uses.length - (intOf jv).toNat)
              case atStart => exact ⟨0, by omega, rfl, HOY0.out, HEY.out, HBY.out⟩
              case round =>
                obtain ⟨j, hj, rfl, hOj, hEj, hBj⟩ := hrel
                have HOJ := hid hOj
                have HEJ := hid hEj
                have HBJ := hid hBj
                have hszj := hBj.size
                have hux : x.uses.length ≤ 1000 := HZ.out.2.2.1
                have HVB := hid (HB.out.trans (hBj.mono HB.out.size))
                obtain ⟨g0, g1, g2, g3, g4⟩ := hEj
                by_cases hjl : j < x.uses.length
                · obtain ⟨ub, rfl, hu1, hu2⟩ := hOj.blk (by show 0 < (usJ cn cm x.uses j).length; rw [usJ_len]; omega)
                  have hu : wr.ownsRow wo.heap.size 9 1 (.slice (some ⟨ub, 0, none⟩) x.uses.length k2) x.uses.length ((usJ cn cm x.uses j).map Value.string) := by simpa only [usJ_len] using hOj.u
                  have hcl := hu.cellAt j (by omega)
                  obtain ⟨un, hun⟩ : ∃ un, x.uses[j] = un := ⟨_, rfl⟩
                  replace hcl : wr.cell? ⟨ub, j, none⟩ = some (.string un) := by rw [hcl, List.getElem?_map, usJ_get hjl, ← hun]; rfl
                  have hfr := hu.frozenAt j
                  have hub : ub < w2.heap.size := (HO.out.u.lt ub rfl).2
                  have HJL := hid hjl
                  have HNX : Hid (usJ cn cm x.uses (j + 1) = (usJ cn cm x.uses j).set j (renN cn cm un)) := hid (by rw [← hun]; exact usJ_next hjl)
                  have HSM1 : Hid (un ≠ cn → usJ cn cm x.uses (j + 1) = usJ cn cm x.uses j) := hid (by rw [← hun]; exact usJ_same hjl)
                  obtain ⟨-, -, -, q3, -⟩ := HCB.out.below HVB.out
                  dsimp only at q3
                  clear hun hOj hBj hu
                  by_cases h2 : un = cn
                  · have HNX2 : Hid (usJ cn cm x.uses (j + 1) = (usJ cn cm x.uses j).set j cm) := hid (by rw [HNX.out]; unfold renN; rw [if_pos h2])
                    have q2 : (un.toList == cn.toList) = true := by rw [bytes_eq]; simpa using h2
                    have HSO := hid (HOJ.out.useSet (i := j) (by show j < (usJ cn cm x.uses j).length; rw [usJ_len]; exact hjl) cm HCV.out.n3)
                    have HSE := hid (HEJ.out.block (Below.heap_setCell wr (⟨ub, j, none⟩ : Addr) (.string cm) w2.heap.size (by show w2.heap.size ≠ ub; omega)))
                    have HSB := hid (HBJ.out.setCell (p := ⟨ub, j, none⟩) hu1 (.string cm))
                    clear h2
                    go_wp2
                    go_roundw
                    case rel => exact ⟨j + 1, by omega, by go_num, by rw [HNX2.out]; exact HSO.out, HSE.out, HSB.out⟩
                    case measure => simp [intOf]; omega
                  · have HSM2 := hid (HSM1.out h2)
                    have q2 : (un.toList == cn.toList) = false := by rw [bytes_eq]; simpa using h2
                    clear h2
                    go_wp2
                    go_roundw
                    case rel => exact ⟨j + 1, by omega, by go_num, by rw [HSM2.out]; exact HOJ.out, HEJ.out, HBJ.out⟩
                    case measure => simp [intOf]; omega
                · have hje : j = x.uses.length := by omega
                  subst hje
                  have hz : ({ y with uses := usJ cn cm x.uses x.uses.length } : En) = renE cn cm x := by rw [HRA1.out, ← HY.out, usJ_all]
                  have hEN := HOJ.out.ent
                  rw [hz] at hEN
                  have hzs : EnSm (renE cn cm x) := ⟨HZ.out.1, HZ.out.2.1, by unfold renE; simpa using HZ.out.2.2.1, HZ.out.2.2.2⟩
                  have hzn : (renE cn cm x).name = y.name ∧ (renE cn cm x).who = y.who := by rw [← hz]; exact ⟨rfl, rfl⟩
                  have HPU := hid (ref9_put _ _ _ _ OL (renE cn cm x) wr (HE.out.below HBJ.out) hEN HSL.out HSM.out hzs)
                  rw [hzn.1, hzn.2] at HPU
                  clear hEN hzs hzn hz hOj hBj
                  go_wp2_with (go_at_call 69; with_reducible refine HPU.out.mono ?_; rintro e w3 ⟨u, rfl, hu3, hb3⟩)
                  have HU3 := hid hu3
                  have HB3 := hid (HVB.out.trans (hb3.mono HVB.out.size))
                  clear hu3 hb3
                  go_roundw
                  case rel => exact ⟨k + 1, by omega, by go_num, by rw [HSN.out]; exact HU3.out, HB3.out⟩
                  case measure => simp [intOf]; omega
          · have hkl : k = l.length := by omega
            subst hkl
            have HE := hid (show EntsAt wo (.slice ea en ec) (srtE (l.map (renE cn cm))) from by rw [List.take_of_length_le (Nat.le_refl _)] at hE; exact hE)
            clear hE
            go_wp2
            go_ret2
            exact ⟨_, by rw [HFI.out]; rfl, by rw [HFI.out]; exact HE.out, HBV.out.trans (hb.mono HBV.out.size)⟩
end Go.Proofs.YtlbjbmpkaniojaaGreat
namespace Go.Proofs.YtlbjbmpkaniojaaGreat
open Go Go.RowKit Go.Maps
theorem ref9_Do (vl : Value) (s : Sg) (l : List En) (c : Chg) (vS vU vP : Value) (w : World) (hl : EntsAt w vl l) (hc : ChgAt w vS vU vP c) (hed : edB s l = true) (hch : chgB s c = true) :
    Calls Tryz.prog 77 #[vl, chV c vS vU vP] w fun e w' => ∃ u, e = .returned (.tuple #[u, .int .i64 (doL l c).2]) ∧ EntsAt w' u (doL l c).1 ∧ Below w.heap.size w w' := by
  rw [← doI_eq hed hch]
  obtain ⟨hl0, ha⟩ := edB_iff.1 hed
  have hok : ∀ x ∈ l, EnSm x := fun y hy => ent_sm (entryB_iff.2 (hl0.ents y hy))
  cases chgB_iff.1 hch with
  | put h0 h1 hk h2 h3 h4 =>
    rcases hk with hk | hk
    · exact ref9_Do1 vl l c vS vU vP w hl hc hk hl0.len hok (ent_sm (entryB_iff.2 h4))
    · exact ref9_Do2 vl l c vS vU vP w hl hc hk hl0.len hok (ent_sm (entryB_iff.2 h4))
  | ren h0 h1 hk h2 h3 h4 h5 => exact ref9_Do3 vl l c vS vU vP w hl hc hk hl0.len hok hl0.nd
  | drop h0 h1 hk h2 h3 h5 => exact ref9_Do4 vl l c vS vU vP w hl hc hk hl0.len hok
theorem playL_at {L : List En} {cs : List Chg} {k : Nat} (h : k < cs.length) : playL L (cs.drop k) k = if (doL L cs[k]).2 = 0 then playL (doL L cs[k]).1 (cs.drop (k + 1)) (k + 1 : Nat) else ([], k, (doL L cs[k]).2) := by
  rw [List.drop_eq_getElem_cons h]
  conv => lhs; unfold playL
  rfl
set_option maxHeartbeats 2000000 in
set_option maxRecDepth 100000 in
theorem ref9_play (vl vc : Value) (s : Sg) (l : List En) (cs : List Chg) (w : World) (hl : EntsAt w vl l) (hc : ChsAt w vc cs) (hed : edB s l = true) (hcs : ∀ c ∈ cs, chgB s c = true) :
    Calls Tryz.prog 59 #[vl, vc] w fun e w' => ∃ u, e = .returned (.tuple #[u, .int .i64 (playL l cs 0).2.1, .int .i64 (playL l cs 0).2.2]) ∧ EntsAt w' u (playL l cs 0).1 ∧ Below w.heap.size w w' := by
  obtain ⟨ca, cc, rfl, -, hcl, -, ZC⟩ := hc.open
  have HCC := hid ZC
  have hLib := (edB_iff.1 hed).1
  have HLN := hid hLib.len
  have HP2 := hid (ref9_put2 vl l w hl (by have := hLib.len; omega) (fun y hy => ent_sm (entryB_iff.2 (hLib.ents y hy))))
  have HED := hid hed
  have HCH := hid hcs
  obtain ⟨la, lc, rfl, -⟩ := hl.open
  clear ZC hc hl hLib hed hcs
  go_enter Tryz.func59, Tryz.ntmps59
  go_wp2_with fail
  refine HP2.out.mono ?_
  rintro e w1 ⟨u1, vs1, rfl, hu1, hb1⟩
  have HU1 := hid (hu1.ents (by have := HLN.out; omega))
  obtain ⟨ra, rc, rfl, -⟩ := HU1.out.open
  have HB1 := hid hb1
  clear hu1 hb1
  go_wp2
  go_loopw [7, 8] (fun uo kv wr => ∃ (k : Nat) (L : List En), k ≤ cs.length ∧ kv = .int .i64 k ∧ EntsAt wr uo L ∧ edB s L = true ∧ playL l cs 0 = playL L (cs.drop k) k ∧ Below w.heap.size w wr) (fun _ kv _ => cs.length - (intOf kv).toNat)
  case atStart => exact ⟨0, l, by omega, rfl, HU1.out, HED.out, rfl, HB1.out⟩
  case round =>
    obtain ⟨k, L, hk, rfl, hE, hLd, hPL, hb⟩ := hrel
    have hsz := hb.size
    have hLk := (edB_iff.1 hLd).1.len
    by_cases hlt : k < cs.length
    · obtain ⟨b, o, vS, vU, vP, rfl, z0, z1, z2, z3, z4, z5, z6, z7, z8, hce⟩ := HCC.out k hlt
      have HD := hid (ref9_Do _ s L cs[k] vS vU vP wr hE (hce.below hb) hLd (HCH.out _ (List.getElem_mem hlt)))
      have HCK := hid (HCH.out _ (List.getElem_mem hlt))
      obtain ⟨sa, sk, rfl, -⟩ := hce.e.s.open
      obtain ⟨ta, tk, rfl, -⟩ := hce.e.u.open
      obtain ⟨pa, pk, rfl, -⟩ := hce.e.p.open
      obtain ⟨ea, ec, rfl, -⟩ := hE.open
      rw [playL_at hlt] at hPL
      replace z0 := (hb.cell (World.block_lt_of_cell? _ _ z0)).trans z0
      replace z1 := (hb.cell (World.block_lt_of_cell? _ _ z1)).trans z1
      replace z2 := (hb.cell (World.block_lt_of_cell? _ _ z2)).trans z2
      replace z3 := (hb.cell (World.block_lt_of_cell? _ _ z3)).trans z3
      replace z4 := (hb.cell (World.block_lt_of_cell? _ _ z4)).trans z4
      replace z5 := (hb.cell (World.block_lt_of_cell? _ _ z5)).trans z5
      replace z6 := (hb.cell (World.block_lt_of_cell? _ _ z6)).trans z6
      replace z7 := (hb.cell (World.block_lt_of_cell? _ _ z7)).trans z7
      replace z8 := (hb.cell (World.block_lt_of_cell? _ _ z8)).trans z8
      obtain ⟨c, hcx⟩ : ∃ c, cs[k] = c := ⟨_, rfl⟩
      rw [hcx] at z0 z1 z2 z3 z4 z5 z6 z7 z8 HD HCK hPL
      unfold chV at HD
      have HLD := hid hLd
      have HB := hid hb
      obtain ⟨L2, er, hd⟩ : ∃ L2 er, doL L c = (L2, er) := ⟨_, _, rfl⟩
      have HDD := hid hd
      rw [hd] at HD hPL
      dsimp only at HD hPL
      have HPL := hid hPL
      have y0 : (k : Int) < (cs.length : Int) := by omega
      clear hce hcx hb hE hd hLd hPL hLk
      go_wp2_with fail
      refine HD.out.mono ?_
      rintro e w2 ⟨u2, rfl, hu2, hb2⟩
      have HB2 := hid (HB.out.trans (hb2.mono HB.out.size))
      have HU2 := hid hu2
      obtain ⟨fa, fc, rfl, -⟩ := hu2.open
      clear hu2 hb2 z0 z1 z2 z3 z4 z5 z6 z7 z8
      by_cases h0 : er = 0
      · have HED2 : Hid (edB s L2 = true) := hid (doL_ed HLD.out HCK.out (by rw [HDD.out, h0]))
        have HPN : Hid (playL l cs 0 = playL L2 (cs.drop (k + 1)) (k + 1 : Nat)) := hid (by rw [HPL.out, if_pos h0])
        subst h0
        go_wp2
        go_roundw
        case rel => exact ⟨k + 1, L2, by omega, by go_num, HU2.out, HED2.out, HPN.out, HB2.out⟩
        case measure => simp [intOf]; omega
      · have HPN : Hid (playL l cs 0 = ([], (k : Int), er)) := hid (by rw [HPL.out, if_neg h0])
        have q0 : (er != 0) = true := by simpa using h0
        clear h0
        go_wp2
        go_ret3
        exact ⟨_, by rw [HPN.out]; rfl, by rw [HPN.out]; exact EntsAt.nil _, HB2.out⟩
    · have hkl : k = cs.length := by omega
      have HPN : Hid (playL l cs 0 = (L, -1, 0)) := hid (by rw [hPL, List.drop_eq_nil_of_le (by omega)]; rfl)
      obtain ⟨ea, ec, rfl, -⟩ := hE.open
      have HE := hid hE
      clear hE hPL hLd
      go_wp2
      go_ret3
      exact ⟨_, by rw [HPN.out]; rfl, by rw [HPN.out]; exact HE.out, hb⟩
end Go.Proofs.YtlbjbmpkaniojaaGreat
namespace Go.Proofs.YtlbjbmpkaniojaaGreat
open Go Go.RowKit Go.Maps
end Go.Proofs.YtlbjbmpkaniojaaGreat
