/-
  WHAT IT HOLDS: contract of Do of the reference of layer 9 at a change that renames, and at any valid change. Conditions: the arguments read as data; an edition and a valid change.
  WHAT IT HOLDS: how the two lists lie that Difference of package blame works on: the changes that are put out, and the edition that they turn. No program's walk in sight.
  WHAT IT HOLDS: the contract of Difference of package blame. Conditions: the arguments read as data; small signs, small libraries.
  WHAT IT HOLDS: contracts of Edition of the reference of layer 9 and of the helper awake9 of the law TopUndone. Conditions: the arguments read as data; small signs, small libraries.
  WHAT IT HOLDS: contracts of slices.ContainsFunc at changes, of valid, listed, Played and At of package blame. Conditions: the arguments read as data; small signs, small libraries.
  WHAT IT HOLDS: contracts of Do at any valid change, of Made, asked, play and Played of the reference of layer 9. Conditions: the arguments read as data; small signs, small libraries.
  WHAT IT HOLDS: contracts of marks, whole and Blame of package blame. Conditions: the arguments read as data; small signs.
  WHAT IT HOLDS: the plain law of TopUndone: how editions stand in a chain of changes that were made, with the changes that undo them; and how the list of editions and the list of changes lie. No program's walk in sight.
-/
import Derived.Deep.RegionHeld3
import Derived.BigQuiet
import Derived.Test.YtlbjbmpkaniojaaGreatZRBlameMakes37
import Derived.Test.YtlbjbmpkaniojaaGreatZRBlameMakes35
import Derived.Test.YtlbjbmpkaniojaaGreatZRBlameMakes40
import Derived.Test.YtlbjbmpkaniojaaGreatZRBlameMakes34
import Derived.Test.YtlbjbmpkaniojaaGreatZRBlameMakes36
import Derived.Test.YtlbjbmpkaniojaaGreatZRBlameMakes32
import Derived.Test.YtlbjbmpkaniojaaGreatZRBlameMakes25
import Derived.Test.YtlbjbmpkaniojaaGreatZRBlameMakes39
import Derived.Test.YtlbjbmpkaniojaaGreatZRBlameMakes42
namespace Go.Proofs.YtlbjbmpkaniojaaGreat
open Go Go.RowKit Go.Maps
theorem EntO.useSet {w : World} {base : Nat} {vS vP : Value} {x : En} {b n c i : Nat} (h : EntO w base vS (.slice (some ⟨b, 0, none⟩) n c) vP x) (hi : i < x.uses.length) (m : Nm) (hm : m.size ≤ 140737488355328) :
    EntO (w.setCell ⟨b, i, none⟩ (.string m)) base vS (.slice (some ⟨b, 0, none⟩) n c) vP { x with uses := x.uses.set i m } := by
  have hS := h.u
  have hn : n = x.uses.length := by
    obtain ⟨a', c', e⟩ := owns_slice hS; cases e; rfl
  subst hn
  have hS1 := (hS.stored i (.string m)).1
  have hother : ∀ q, q ≠ b → (w.setCell ⟨b, i, none⟩ (.string m)).heap[q]? = w.heap[q]? := fun q hq => Below.heap_setCell _ _ _ _ hq
  refine ⟨?_, ?_, ?_, h.ls, by rw [List.length_set]; exact h.lu, h.lp, fun y hy => ?_, h.n1, h.n2⟩
  · exact owns_blocks h.s fun q _ _ hq => hother q fun e => owns_ne h.s h.u (by decide) hq (by rw [e]; rfl)
  · rw [List.length_set, List.map_set]
    exact hS1
  · exact owns_blocks h.p fun q _ _ hq => hother q fun e => owns_ne h.p h.u (by decide) hq (by rw [e]; rfl)
  · rcases List.mem_or_eq_of_mem_set hy with h' | rfl
    · exact h.nu y h'
    · exact hm
theorem EntO.named {w : World} {base : Nat} {vS vU vP : Value} {x : En} (h : EntO w base vS vU vP x) {m : Nm} (hm : m.size ≤ 140737488355328) : EntO w base vS vU vP { x with name := m } := ⟨h.s, h.u, h.p, h.ls, h.lu, h.lp, h.nu, hm, h.n2⟩
theorem EntO.blk {w : World} {base : Nat} {vS vP : Value} {x : En} {a : Option Addr} {n c : Nat} (h : EntO w base vS (.slice a n c) vP x) (h0 : 0 < x.uses.length) : ∃ b, a = some ⟨b, 0, none⟩ ∧ base ≤ b ∧ b < w.heap.size := by
  rcases h.u.2 with ⟨-, h1⟩ | ⟨g, cap, cur, e, hg, h3, h4, -⟩
  · omega
  · cases e; exact ⟨g, rfl, hg, (h.u.lt g rfl).2⟩
/-- the uses behind j rounds. -/
def usJ (n m : Nm) (us : List Nm) (j : Nat) : List Nm := (us.take j).map (renN n m) ++ us.drop j
theorem usJ_len (n m : Nm) (us : List Nm) (j : Nat) : (usJ n m us j).length = us.length := by
  unfold usJ; rw [List.length_append, List.length_map, List.length_take, List.length_drop]; omega
theorem usJ_get {n m : Nm} {us : List Nm} {j : Nat} (hj : j < us.length) : (usJ n m us j)[j]? = some us[j] := by
  unfold usJ
  rw [List.getElem?_append_right (by rw [List.length_map, List.length_take]; omega), List.length_map, List.length_take, Nat.min_eq_left (by omega), Nat.sub_self, List.getElem?_drop, Nat.add_zero, List.getElem?_eq_getElem hj]
theorem usJ_next {n m : Nm} {us : List Nm} {j : Nat} (hj : j < us.length) : usJ n m us (j + 1) = (usJ n m us j).set j (renN n m us[j]) := by
  unfold usJ
  have h1 : ((us.take j).map (renN n m)).length = j := by rw [List.length_map, List.length_take]; omega
  rw [List.take_succ_eq_append_getElem hj, List.map_append, List.append_assoc, List.set_append_right _ _ (by rw [h1]; exact Nat.le_refl _), h1, Nat.sub_self, List.drop_eq_getElem_cons hj]
  rfl
theorem usJ_same {n m : Nm} {us : List Nm} {j : Nat} (hj : j < us.length) (h : us[j] ≠ n) : usJ n m us (j + 1) = usJ n m us j := by
  rw [usJ_next hj]
  have e : renN n m us[j] = us[j] := by unfold renN; rw [if_neg h]
  rw [e]
  refine List.ext_getElem? fun k => ?_
  rw [List.getElem?_set]
  by_cases hk : j = k
  · subst hk; rw [if_pos rfl, if_pos (by rw [usJ_len]; exact hj), usJ_get hj]
  · rw [if_neg hk]
theorem usJ_all (n m : Nm) (us : List Nm) : usJ n m us us.length = us.map (renN n m) := by unfold usJ; rw [List.take_length, List.drop_length, List.append_nil]
theorem usJ_zero (n m : Nm) (us : List Nm) : usJ n m us 0 = us := rfl
set_option maxHeartbeats 8000000 in
set_option maxRecDepth 100000 in
theorem ref9_Do3 (vl : Value) (l : List En) (c : Chg) (vS vU vP : Value) (w : World) (hl : EntsAt w vl l) (hc : ChgAt w vS vU vP c) (hk : c.kind = 3) (hl60 : l.length ≤ 60) (hok : ∀ x ∈ l, EnSm x) (hnd : (l.map En.name).Nodup) :
    Calls Tryz.prog 77 #[vl, chV c vS vU vP] w fun e w' => ∃ u, e = .returned (.tuple #[u, .int .i64 (doI l c (idxN l (nameC c))).2]) ∧ EntsAt w' u (doI l c (idxN l (nameC c))).1 ∧ Below w.heap.size w w' := by
  obtain ⟨ck, cw, cn, cm, ce⟩ := c; have hk : ck = 3 := hk; subst hk; obtain ⟨sa, sc, rfl, -⟩ := hc.e.s.open; obtain ⟨ua, uc, rfl, -⟩ := hc.e.u.open; obtain ⟨pa, pc, rfl, -⟩ := hc.e.p.open; unfold chV; dsimp only; have hCB := CB.new w ⟨3, cw, cn, cm, ce⟩ (.slice sa ce.says.length sc) (.slice ua ce.uses.length uc) (.slice pa ce.proof.length pc) 43; obtain ⟨V, hV⟩ : ∃ V, w.alloc (.cells #[.int .i64 3, .string cw, .string cn, .string cm, .string ce.name, .string ce.who, .slice sa ce.says.length sc, .slice ua ce.uses.length uc, .slice pa ce.proof.length pc] 43) = V := ⟨_, rfl⟩; have hbV : Below w.heap.size w V := hV ▸ (Below.refl _ _).alloc (Nat.le_refl _) _; have hV' : w.alloc (.cells #[.int .i64 (Chg.mk 3 cw cn cm ce).kind, .string (Chg.mk 3 cw cn cm ce).who, .string (Chg.mk 3 cw cn cm ce).name, .string (Chg.mk 3 cw cn cm ce).new, .string (Chg.mk 3 cw cn cm ce).ent.name, .string (Chg.mk 3 cw cn cm ce).ent.who, .slice sa ce.says.length sc, .slice ua ce.uses.length uc, .slice pa ce.proof.length pc] 43) = V := hV; rw [hV'] at hCB; have HCV := hid (hc.below hbV); have HLV := hid (hl.below hbV); have HCB := hid hCB; have HW := hid hV; have HBV := hid hbV; obtain ⟨c0, c1, c2, c3, c4, c5, c6, c7, c8⟩ := hCB; dsimp only at c0 c1 c2 c3 c4 c5; obtain ⟨la, lc, rfl, -, ll, -, HC⟩ := hl.open; have HC' := hid HC; clear hV hV' hbV hc hl HC
  have hnm : nameC ⟨3, cw, cn, cm, ce⟩ = cn := by unfold nameC; rw [if_neg (by simp)]
  rw [hnm]
  clear hnm
  have HIX := hid (ref6_Index _ l cn V HLV.out)
  cases hi : idxN l cn with
  | none =>
    have HF : Hid (doI l ⟨3, cw, cn, cm, ce⟩ none = ([], 5)) := hid (by unfold doI; rfl)
    rw [idxI_no hi] at HIX
    clear hi
    go_enter Tryz.func77, Tryz.ntmps77
    go_wp2_with (first | rw [HW.out] | (go_at_call 51; refine HIX.out.mono ?_; rintro e w' ⟨rfl, rfl⟩))
    go_ret2
    exact ⟨_, by rw [HF.out]; rfl, by rw [HF.out]; exact EntsAt.nil _, HBV.out⟩
  | some i =>
    obtain ⟨hil, hin⟩ := idxN_some hi
    rw [idxI_some hi] at HIX
    clear hi
    have b0 : ¬ (i : Int) < 0 := by omega
    have HIM := hid (ref6_Index _ l cm V HLV.out)
    have HUS := hid (ref9_used _ l cm (-1) V HLV.out)
    have HFI : Hid (doI l ⟨3, cw, cn, cm, ce⟩ (some i) = if (idxN l cm).isSome || usedI l cm (-1) then ([], 6) else (srtE (l.map (renE cn cm)), 0)) := hid (by unfold doI; rw [if_neg (by simp)]; simp)
    have HIXX := hid (fun (h1 : V.heap.size = V.heap.size) => HIX.out)
    cases hm : idxN l cm with
    | some i2 =>
      rw [idxI_some hm] at HIM
      have b1 : (0 : Int) ≤ (i2 : Int) := by omega
      have HF : Hid (doI l ⟨3, cw, cn, cm, ce⟩ (some i) = ([], 6)) := hid (by rw [HFI.out, hm]; rfl)
      clear hm hok hin HFI
      go_enter Tryz.func77, Tryz.ntmps77
      go_wp2_with (first | rw [HW.out] | (go_at_call 51; first | ((with_reducible refine HIX.out.mono ?_); rintro e w' ⟨rfl, rfl⟩) | ((with_reducible refine HIM.out.mono ?_); rintro e w' ⟨rfl, rfl⟩)))
      go_ret2
      exact ⟨_, by rw [HF.out]; rfl, by rw [HF.out]; exact EntsAt.nil _, HBV.out⟩
    | none =>
      rw [idxI_no hm] at HIM
      rw [hm] at HFI
      clear hm
      obtain ⟨bb, hbb⟩ : ∃ bb, usedI l cm (-1) = bb := ⟨_, rfl⟩
      rw [hbb] at HUS HFI
      clear hbb
      cases bb
      case true =>
        clear hok hin
        go_enter Tryz.func77, Tryz.ntmps77
        go_wp2_with (first | rw [HW.out] | (go_at_call 51; first | ((with_reducible refine HIX.out.mono ?_); rintro e w' ⟨rfl, rfl⟩) | ((with_reducible refine HIM.out.mono ?_); rintro e w' ⟨rfl, rfl⟩)) | (go_at_call 81; refine HUS.out.mono ?_; rintro e w' ⟨rfl, rfl⟩))
        go_ret2
        exact ⟨_, by rw [HFI.out]; rfl, by rw [HFI.out]; exact EntsAt.nil _, HBV.out⟩
      case false =>
        have HOK := hid hok
        have HRA := hid (fun (k : Nat) (hk : k < l.length) => ren_at hnd hil (n := cn) (m := cm) hin hk)
        clear hok hin
        go_enter Tryz.func77, Tryz.ntmps77
        go_wp2_with (first | rw [HW.out] | (go_at_call 51; first | ((with_reducible refine HIX.out.mono ?_); rintro e w' ⟨rfl, rfl⟩) | ((with_reducible refine HIM.out.mono ?_); rintro e w' ⟨rfl, rfl⟩)) | (go_at_call 81; refine HUS.out.mono ?_; rintro e w' ⟨rfl, rfl⟩))
        go_loopw [8, 9] (fun uo kv wr => ∃ k : Nat, k ≤ l.length ∧ kv = .int .i64 k ∧ EntsAt wr uo (srtE ((l.take k).map (renE cn cm))) ∧ Below V.heap.size V wr) (fun _ kv _ => l.length - (intOf kv).toNat)
        case atStart => exact ⟨0, by omega, rfl, EntsAt.nil _, Below.refl _ _⟩
        case round =>
          obtain ⟨wo, rfl⟩ : ∃ wo : World, wo = wr := ⟨_, rfl⟩
          obtain ⟨k, hk, rfl, hE, hb⟩ := hrel
          have hsz := hb.size
          obtain ⟨ea, ec, hu0, -⟩ := hE.open
          obtain ⟨en, hen⟩ : ∃ en, (srtE ((l.take k).map (renE cn cm))).length = en := ⟨_, rfl⟩
          rw [hen] at hu0
          subst hu0
          clear hen
          by_cases hlt : k < l.length
          · obtain ⟨lb, lo, xS, xU, xP, rfl, d0, d1, d2, d3, d4, he⟩ := HC'.out k hlt
            have hbw := HBV.out.trans (hb.mono HBV.out.size)
            replace d0 := (hbw.cell (World.block_lt_of_cell? _ _ d0)).trans d0
            replace d1 := (hbw.cell (World.block_lt_of_cell? _ _ d1)).trans d1
            replace d2 := (hbw.cell (World.block_lt_of_cell? _ _ d2)).trans d2
            replace d3 := (hbw.cell (World.block_lt_of_cell? _ _ d3)).trans d3
            replace d4 := (hbw.cell (World.block_lt_of_cell? _ _ d4)).trans d4
            have he' := he.below hbw
            obtain ⟨s1, t1, rfl, -⟩ := he'.s.open
            obtain ⟨s2, t2, rfl, -⟩ := he'.u.open
            obtain ⟨s3, t3, rfl, -⟩ := he'.p.open
            obtain ⟨z0, z1, z2, z3⟩ := HOK.out _ (List.getElem_mem hlt)
            have hra := HRA.out k hlt
            have hren : (l.take (k + 1)).map (renE cn cm) = (l.take k).map (renE cn cm) ++ [renE cn cm l[k]] := by rw [List.take_succ_eq_append_getElem hlt, List.map_append]; rfl
            have hsn : srtE ((l.take (k + 1)).map (renE cn cm)) = putE (renE cn cm l[k]) (srtE ((l.take k).map (renE cn cm))) := by rw [hren, srtE_snoc]
            have hsl : (srtE ((l.take k).map (renE cn cm))).length ≤ 900 := by rw [srtE_len, List.length_map, List.length_take]; omega
            have hsm : ∀ y ∈ srtE ((l.take k).map (renE cn cm)), EnSm y := fun y hy => by
              obtain ⟨q, hq, rfl⟩ := List.mem_map.1 ((srtE_mem _).1 hy)
              obtain ⟨q0, q1, q2, q3⟩ := HOK.out q (List.mem_of_mem_take hq)
              exact ⟨q0, q1, by unfold renE; simpa using q2, q3⟩
            have hn1 := he'.n1
            obtain ⟨x, hx⟩ : ∃ x, l[k] = x := ⟨_, rfl⟩
            obtain ⟨OL, hOL⟩ : ∃ OL, srtE ((l.take k).map (renE cn cm)) = OL := ⟨_, rfl⟩
            rw [hx] at d0 d1 d2 d3 d4 he' z0 z1 z2 z3 hra hsn hn1
            have hEo : EntsAt wo (.slice ea en ec) OL := by rw [← hOL]; exact hE
            rw [hOL] at hsn hsl hsm
            have HRA1 := hid hra
            have HSN := hid hsn
            have HSL := hid hsl
            have HSM := hid hsm
            have HZ := hid (And.intro z0 (And.intro z1 (And.intro z2 z3)))
            have HE := hid hEo
            have HB := hid hb
            have HN1 := hid hn1
            have HCP := hid (ref9_copied _ _ _ x wo he' z1 z2 z3)
            clear hra hsn hsl hsm hE hEo hb he he' hx hOL hren hbw z0 z1 z2 z3 hn1
            go_wp2_with fail
            refine HCP.out.mono ?_
            rintro e w2 ⟨v, rfl, ⟨vS, vU, vP, rfl, hO⟩, hb2⟩
            obtain ⟨a1, k1, rfl⟩ := owns_slice hO.s
            obtain ⟨a2, k2, rfl⟩ := owns_slice hO.u
            obtain ⟨a3, k3, rfl⟩ := owns_slice hO.p
            have hEB := EB.new w2 x (.slice a1 x.says.length k1) (.slice a2 x.uses.length k2) (.slice a3 x.proof.length k3) 41
            have hbx := BX.new w2 [.string x.name, .string x.who, .slice a1 x.says.length k1, .slice a2 x.uses.length k2, .slice a3 x.proof.length k3] 41
            obtain ⟨X, hX⟩ : ∃ X, w2.alloc (.cells #[.string x.name, .string x.who, .slice a1 x.says.length k1, .slice a2 x.uses.length k2, .slice a3 x.proof.length k3] 41) = X := ⟨_, rfl⟩
            have hX' : w2.alloc (.cells ([.string x.name, .string x.who, .slice a1 x.says.length k1, .slice a2 x.uses.length k2, .slice a3 x.proof.length k3] : List Value).toArray 41) = X := hX
            rw [hX] at hEB
            rw [hX'] at hbx
            have hbX : Below w2.heap.size w2 X := hX ▸ (Below.refl _ _).alloc (Nat.le_refl _) _
            have hb2X := hb2.trans (hbX.mono hb2.size)
            have hOX := hO.blocks (W' := X) (base' := wo.heap.size) (Nat.le_refl _) fun q _ hq => hbX.block q hq
            obtain ⟨-, -, -, p3, -⟩ := HCB.out.below (HB.out.trans (hb2X.mono HB.out.size))
            dsimp only at p3
            obtain ⟨e0, e1, e2, e3, e4⟩ := hEB
            have f0 := hbx.z 0
            have HO := hid hO
            have HX := hid hX
            have HW2 := hid hb2.size
            have HOX := hid hOX
            have HEX := hid (EB.mk e0 e1 e2 e3 e4)
            have HBX := hid hb2X
            have hV1 : w.heap.size < V.heap.size := World.block_lt_of_cell? _ _ c0
            have hV2 : V.heap.size ≤ w2.heap.size := Nat.le_trans hsz hb2.size
            obtain ⟨y, hy⟩ : ∃ y : En, ({ x with name := if k = i then cm else x.name } : En) = y := ⟨_, rfl⟩
            have HY := hid hy
            clear hX hX' hbX hbx hb2X hOX hb2 hO hy
            by_cases hki : k = i
            case' pos =>
              have q0 : ((k : Int) == (i : Int)) = true := by simp [hki]
              obtain ⟨Y, hYY⟩ : ∃ Y, X.setCell ⟨w2.heap.size, 0, none⟩ (.string cm) = Y := ⟨_, rfl⟩
              have hk0 : ∀ q, q ≠ w2.heap.size → Y.heap[q]? = X.heap[q]? := fun q hq => by rw [← hYY]; exact Below.heap_setCell _ _ _ _ hq
              have HEY : Hid (EB Y w2.heap.size y (.slice a1 x.says.length k1) (.slice a2 x.uses.length k2) (.slice a3 x.proof.length k3)) := hid (by
                rw [← HY.out, if_pos hki, ← hYY]
                refine ⟨World.cell?_setCell_same _ _ _ e0, ?_, ?_, ?_, ?_⟩
                · rw [World.cell?_setCell_other _ _ _ _ (by simp)]; exact e1
                · rw [World.cell?_setCell_other _ _ _ _ (by simp)]; exact e2
                · rw [World.cell?_setCell_other _ _ _ _ (by simp)]; exact e3
                · rw [World.cell?_setCell_other _ _ _ _ (by simp)]; exact e4)
              have HOY : Hid (EntO Y wo.heap.size (.slice a1 x.says.length k1) (.slice a2 x.uses.length k2) (.slice a3 x.proof.length k3) y) := hid (by
                rw [← HY.out, if_pos hki]
                refine EntO.named ((HOX.out).keep (Nat.le_refl _) fun q _ _ hq => hk0 q fun eq => ?_) HCV.out.n3
                have : q < w2.heap.size := by
                  rcases hq with hq | hq | hq
                  · exact (HO.out.s.lt q hq).2
                  · exact (HO.out.u.lt q hq).2
                  · exact (HO.out.p.lt q hq).2
                omega)
              have HBY : Hid (Below wo.heap.size wo Y) := hid (by rw [← hYY]; exact HBX.out.setCell (p := ⟨w2.heap.size, 0, none⟩) HW2.out _)
              have HYW := hid hYY
              clear hYY hk0 hki
              go_wp2_with (first | rw [HX.out] | rw [HYW.out])
            case' neg =>
              have q0 : ((k : Int) == (i : Int)) = false := by simp; omega
              obtain ⟨Y, hYY⟩ : ∃ Y, Y = X := ⟨_, rfl⟩
              have HEY : Hid (EB Y w2.heap.size y (.slice a1 x.says.length k1) (.slice a2 x.uses.length k2) (.slice a3 x.proof.length k3)) := hid (by
                rw [← HY.out, if_neg hki, hYY]; exact HEX.out)
              have HOY : Hid (EntO Y wo.heap.size (.slice a1 x.says.length k1) (.slice a2 x.uses.length k2) (.slice a3 x.proof.length k3) y) := hid (by
                rw [← HY.out, if_neg hki, hYY]; exact HOX.out)
              have HBY : Hid (Below wo.heap.size wo Y) := hid (hYY ▸ HBX.out)
              have HYW := hid hYY
              clear hYY hki
              go_wp2_with (rw [HX.out])
              rw [← HYW.out]
            all_goals
              have HOY0 : Hid (EntO Y wo.heap.size (.slice a1 x.says.length k1) (.slice a2 x.uses.length k2) (.slice a3 x.proof.length k3) { y with uses := usJ cn cm x.uses 0 }) := hid (by rw [usJ_zero, show ({ y with uses := x.uses } : En) = y from by rw [← HY.out]]; exact HOY.out)
              go_loopw [11] (fun jv wr => ∃ j : Nat, j ≤ x.uses.length ∧ jv = .int .i64 j ∧ EntO wr wo.heap.size (.slice a1 x.says.length k1) (.slice a2 x.uses.length k2) (.slice a3 x.proof.length k3) { y with uses := usJ cn cm x.uses j } ∧ EB wr w2.heap.size y (.slice a1 x.says.length k1) (.slice a2 x.uses.length k2) (.slice a3 x.proof.length k3) ∧ Below wo.heap.size wo wr) (fun jv _ => x.uses.length - (intOf jv).toNat)
              case atStart => exact ⟨0, by omega, rfl, HOY0.out, HEY.out, HBY.out⟩
              case round =>
                obtain ⟨j, hj, rfl, hOj, hEj, hBj⟩ := hrel
                have HOJ := hid hOj
                have HEJ := hid hEj
                have HBJ := hid hBj
                have hszj := hBj.size
                have hux : x.uses.length ≤ 1000 := HZ.out.2.2.1
                have HVB := hid (HB.out.trans (hBj.mono HB.out.size))
                obtain ⟨g0, g1, g2, g3, g4⟩ := hEj
                by_cases hjl : j < x.uses.length
                · obtain ⟨ub, rfl, hu1, hu2⟩ := hOj.blk (by show 0 < (usJ cn cm x.uses j).length; rw [usJ_len]; omega)
                  have hu : wr.ownsRow wo.heap.size 9 1 (.slice (some ⟨ub, 0, none⟩) x.uses.length k2) x.uses.length ((usJ cn cm x.uses j).map Value.string) := by simpa only [usJ_len] using hOj.u
                  have hcl := hu.cellAt j (by omega)
                  obtain ⟨un, hun⟩ : ∃ un, x.uses[j] = un := ⟨_, rfl⟩
                  replace hcl : wr.cell? ⟨ub, j, none⟩ = some (.string un) := by rw [hcl, List.getElem?_map, usJ_get hjl, ← hun]; rfl
                  have hfr := hu.frozenAt j
                  have hub : ub < w2.heap.size := (HO.out.u.lt ub rfl).2
                  have HJL := hid hjl
                  have HNX : Hid (usJ cn cm x.uses (j + 1) = (usJ cn cm x.uses j).set j (renN cn cm un)) := hid (by rw [← hun]; exact usJ_next hjl)
                  have HSM1 : Hid (un ≠ cn → usJ cn cm x.uses (j + 1) = usJ cn cm x.uses j) := hid (by rw [← hun]; exact usJ_same hjl)
                  obtain ⟨-, -, -, q3, -⟩ := HCB.out.below HVB.out
                  dsimp only at q3
                  clear hun hOj hBj hu
                  by_cases h2 : un = cn
                  · have HNX2 : Hid (usJ cn cm x.uses (j + 1) = (usJ cn cm x.uses j).set j cm) := hid (by rw [HNX.out]; unfold renN; rw [if_pos h2])
                    have q2 : (un.toList == cn.toList) = true := by rw [bytes_eq]; simpa using h2
                    have HSO := hid (HOJ.out.useSet (i := j) (by show j < (usJ cn cm x.uses j).length; rw [usJ_len]; exact hjl) cm HCV.out.n3)
                    have HSE := hid (HEJ.out.block (Below.heap_setCell wr (⟨ub, j, none⟩ : Addr) (.string cm) w2.heap.size (by show w2.heap.size ≠ ub; omega)))
                    have HSB := hid (HBJ.out.setCell (p := ⟨ub, j, none⟩) hu1 (.string cm))
                    clear h2
                    go_wp2
                    go_roundw
                    case rel => exact ⟨j + 1, by omega, by go_num, by rw [HNX2.out]; exact HSO.out, HSE.out, HSB.out⟩
                    case measure => simp [intOf]; omega
                  · have HSM2 := hid (HSM1.out h2)
                    have q2 : (un.toList == cn.toList) = false := by rw [bytes_eq]; simpa using h2
                    clear h2
                    go_wp2
                    go_roundw
                    case rel => exact ⟨j + 1, by omega, by go_num, by rw [HSM2.out]; exact HOJ.out, HEJ.out, HBJ.out⟩
                    case measure => simp [intOf]; omega
                · have hje : j = x.uses.length := by omega
                  subst hje
                  have hz : ({ y with uses := usJ cn cm x.uses x.uses.length } : En) = renE cn cm x := by rw [HRA1.out, ← HY.out, usJ_all]
                  have hEN := HOJ.out.ent
                  rw [hz] at hEN
                  have hzs : EnSm (renE cn cm x) := ⟨HZ.out.1, HZ.out.2.1, by unfold renE; simpa using HZ.out.2.2.1, HZ.out.2.2.2⟩
                  have hzn : (renE cn cm x).name = y.name ∧ (renE cn cm x).who = y.who := by rw [← hz]; exact ⟨rfl, rfl⟩
                  have HPU := hid (ref9_put _ _ _ _ OL (renE cn cm x) wr (HE.out.below HBJ.out) hEN HSL.out HSM.out hzs)
                  rw [hzn.1, hzn.2] at HPU
                  clear hEN hzs hzn hz hOj hBj
                  go_wp2_with (go_at_call 69; with_reducible refine HPU.out.mono ?_; rintro e w3 ⟨u, rfl, hu3, hb3⟩)
                  have HU3 := hid hu3
                  have HB3 := hid (HVB.out.trans (hb3.mono HVB.out.size))
                  clear hu3 hb3
                  go_roundw
                  case rel => exact ⟨k + 1, by omega, by go_num, by rw [HSN.out]; exact HU3.out, HB3.out⟩
                  case measure => simp [intOf]; omega
          · have hkl : k = l.length := by omega
            subst hkl
            have HE := hid (show EntsAt wo (.slice ea en ec) (srtE (l.map (renE cn cm))) from by rw [List.take_of_length_le (Nat.le_refl _)] at hE; exact hE)
            clear hE
            go_wp2
            go_ret2
            exact ⟨_, by rw [HFI.out]; rfl, by rw [HFI.out]; exact HE.out, HBV.out.trans (hb.mono HBV.out.size)⟩
end Go.Proofs.YtlbjbmpkaniojaaGreat
namespace Go.Proofs.YtlbjbmpkaniojaaGreat
open Go Go.RowKit Go.Maps
/-- the blocks of an entry. -/
def blkV (v : V3) (q : Nat) : Prop := v.1.ownBlock = some q ∨ v.2.1.ownBlock = some q ∨ v.2.2.ownBlock = some q
/-- a list of changes of the call's own, all that it holds in blocks from 'base' on. -/
structure ChO (w : World) (base : Nat) (u : Value) (vs : List V3) (l : List Chg) : Prop where
  top : w.ownsRow base 43 9 u l.length (chsC l vs)
  len : vs.length = l.length
  rd : ∀ (j : Nat) (h : j < l.length) (h' : j < vs.length), ChgAt w vs[j].1 vs[j].2.1 vs[j].2.2 l[j]
  av : ∀ v ∈ vs, ∀ q, blkV v q → base ≤ q ∧ q < w.heap.size ∧ some q ≠ u.ownBlock
theorem ChO.nil (w : World) (base : Nat) : ChO w base (.slice none 0 0) [] [] := ⟨World.ownsRow_nil _ _ _ _, rfl, fun j h => by simp at h, fun v hv => by cases hv⟩
theorem ChO.slice {w : World} {base : Nat} {u : Value} {vs : List V3} {l : List Chg} (h : ChO w base u vs l) : ∃ a c, u = .slice a l.length c := owns_slice h.top
theorem ChgAt.blocks {w W' : World} {v : V3} {c : Chg} (h : ChgAt w v.1 v.2.1 v.2.2 c) (hs : ∀ q, blkV v q → q < w.heap.size → W'.heap[q]? = w.heap[q]?) : ChgAt W' v.1 v.2.1 v.2.2 c := ⟨h.e.blocks hs, h.n1, h.n2, h.n3⟩
/-- kept where the blocks from 'base' on are as they were. -/
theorem ChO.keep {w W' : World} {base : Nat} {u : Value} {vs : List V3} {l : List Chg} (h : ChO w base u vs l) (hs : ∀ q, base ≤ q → q < w.heap.size → W'.heap[q]? = w.heap[q]?) (hz : w.heap.size ≤ W'.heap.size) : ChO W' base u vs l :=
  ⟨owns_blocks h.top fun q h1 h2 _ => hs q h1 h2, h.len, fun j h1 h2 => (h.rd j h1 h2).blocks fun q hq hlt => hs q (h.av _ (List.getElem_mem h2) q hq).1 hlt, fun v hv q hq => ⟨(h.av v hv q hq).1, Nat.lt_of_lt_of_le (h.av v hv q hq).2.1 hz, (h.av v hv q hq).2.2⟩⟩
theorem ChO.below {w w' : World} {base : Nat} {u : Value} {vs : List V3} {l : List Chg} (h : ChO w base u vs l) (hb : Below w.heap.size w w') : ChO w' base u vs l := h.keep (fun q _ hq => hb.block q hq) hb.size
theorem ChO.push {w w2 : World} {base : Nat} {u : Value} {vs : List V3} {l : List Chg} (h : ChO w base u vs l) {x : Chg} {v : V3}
    (hx : ChgAt w v.1 v.2.1 v.2.2 x) (hv : ∀ q, blkV v q → base ≤ q ∧ q < w.heap.size ∧ some q ≠ u.ownBlock)
    {g cap n : Nat} (hn : n = l.length) (hown : w2.ownsRow base 43 9 (.slice (some ⟨g, 0, none⟩) (n + 1) cap) (n + 1) (chsC l vs ++ chC x v)) (hg : w.grownBy w2 u.ownBlock) {H : Nat} (hH : H = w.heap.size) (hat : u.ownBlock = some g ∨ g = H) :
    ChO w2 base (.slice (some ⟨g, 0, none⟩) (n + 1) cap) (vs ++ [v]) (l ++ [x]) := by
  subst hn
  have hav : ∀ z ∈ vs ++ [v], ∀ q, blkV z q → base ≤ q ∧ q < w.heap.size ∧ some q ≠ u.ownBlock := by
    intro z hz q hq
    rcases List.mem_append.1 hz with hz | hz
    · exact h.av z hz q hq
    · simp at hz; subst hz; exact hv q hq
  have hsame : ∀ z ∈ vs ++ [v], ∀ q, blkV z q → q < w.heap.size → w2.heap[q]? = w.heap[q]? := fun z hz q hq hlt => hg.block q hlt (hav z hz q hq).2.2
  refine ⟨by rw [chsC_snoc _ _ _ _ h.len]; simpa using hown, by simp [h.len], fun j hj hj' => ?_, fun z hz q hq => ?_⟩
  · have hz := List.getElem_mem hj'
    have key : ∀ (c : Chg), ChgAt w (vs ++ [v])[j].1 (vs ++ [v])[j].2.1 (vs ++ [v])[j].2.2 c → ChgAt w2 (vs ++ [v])[j].1 (vs ++ [v])[j].2.1 (vs ++ [v])[j].2.2 c := fun c hc => hc.blocks (hsame _ hz)
    refine key _ ?_
    by_cases hlt : j < l.length
    · have hv : j < vs.length := by rw [h.len]; exact hlt
      rw [List.getElem_append_left hlt, List.getElem_append_left hv]
      exact h.rd j hlt hv
    · have e : j = l.length := by simp at hj; omega
      subst e
      have e1 : (l ++ [x])[l.length] = x := by simp
      have e2 : (vs ++ [v])[l.length] = v := by rw [List.getElem_append_right (by rw [h.len]; exact Nat.le_refl _)]; simp [h.len]
      rw [e1, e2]
      exact hx
  · obtain ⟨a1, a2, a3⟩ := hav z hz q hq
    refine ⟨a1, Nat.lt_of_lt_of_le a2 hg.size, fun e => ?_⟩
    have e : q = g := Option.some.inj e
    rcases hat with ha | ha
    · exact a3 (by rw [ha, e])
    · omega
/-- a copy lies in blocks of its own. -/
theorem EntO.av {w : World} {b base : Nat} {u : Value} {v : V3} {x : En} {n : Nat} {xs : List Value} (h : EntO w b v.1 v.2.1 v.2.2 x) (hb : base ≤ b) (hu : w.ownsRow base 43 9 u n xs) : ∀ q, blkV v q → base ≤ q ∧ q < w.heap.size ∧ some q ≠ u.ownBlock := by
  intro q hq
  rcases hq with hq | hq | hq
  · exact ⟨Nat.le_trans hb (h.s.lt q hq).1, (h.s.lt q hq).2, fun e => owns_ne h.s hu (by decide) hq e.symm⟩
  · exact ⟨Nat.le_trans hb (h.u.lt q hq).1, (h.u.lt q hq).2, fun e => owns_ne h.u hu (by decide) hq e.symm⟩
  · exact ⟨Nat.le_trans hb (h.p.lt q hq).1, (h.p.lt q hq).2, fun e => owns_ne h.p hu (by decide) hq e.symm⟩
/-- the edition that is turned: its row is the call's own, what it holds lies in blocks that were there in wn. -/
structure NowS (wn w : World) (base : Nat) (u : Value) (vs : List V3) (l : List En) : Prop where
  top : w.ownsRow base 41 5 u l.length (ensC l vs)
  len : vs.length = l.length
  rd : ∀ W' : World, (∀ q, q < wn.heap.size → some q ≠ u.ownBlock → W'.heap[q]? = wn.heap[q]?) → ∀ (j : Nat) (h : j < l.length) (h' : j < vs.length), EntAt W' vs[j].1 vs[j].2.1 vs[j].2.2 l[j]
  ag : ∀ q, q < wn.heap.size → some q ≠ u.ownBlock → w.heap[q]? = wn.heap[q]?
  sz : wn.heap.size ≤ w.heap.size
  bl : ∀ q, u.ownBlock = some q → q < wn.heap.size
theorem NowS.toS {wn w : World} {base : Nat} {u : Value} {vs : List V3} {l : List En} (h : NowS wn w base u vs l) : EnS w base u vs l :=
  ⟨h.top, h.len, fun W' hW => h.rd W' fun q hq hne => (hW q (Nat.lt_of_lt_of_le hq h.sz) hne).trans (h.ag q hq hne)⟩
theorem NowS.ents {wn w : World} {base : Nat} {u : Value} {vs : List V3} {l : List En} (h : NowS wn w base u vs l) (hl : l.length ≤ 1000) : EntsAt w u l := ⟨vs, h.toS.ents hl⟩
/-- kept where the blocks of wn are as they were. -/
theorem NowS.keep {wn w W' : World} {base : Nat} {u : Value} {vs : List V3} {l : List En} (h : NowS wn w base u vs l) (hs : ∀ q, q < wn.heap.size → W'.heap[q]? = w.heap[q]?) (hz : w.heap.size ≤ W'.heap.size) : NowS wn W' base u vs l :=
  ⟨owns_blocks h.top fun q _ _ hq => hs q (h.bl q hq), h.len, h.rd, fun q hq hne => (hs q hq).trans (h.ag q hq hne), Nat.le_trans h.sz hz, h.bl⟩
theorem NowS.below {wn w w' : World} {base : Nat} {u : Value} {vs : List V3} {l : List En} (h : NowS wn w base u vs l) (hb : Below w.heap.size w w') : NowS wn w' base u vs l := h.keep (fun q hq => hb.block q (Nat.lt_of_lt_of_le hq h.sz)) hb.size
theorem NowS.set {wn w : World} {base g n c : Nat} {vs : List V3} {l : List En} (h : NowS wn w base (.slice (some ⟨g, 0, none⟩) n c) vs l) (hn : n = l.length) {j : Nat} (hj : j < l.length) {x : En} {v : V3}
    (hx : ∀ W' : World, (∀ q, q < wn.heap.size → q ≠ g → W'.heap[q]? = wn.heap[q]?) → EntAt W' v.1 v.2.1 v.2.2 x) :
    NowS wn (w.setCells g (j * 5) (enC x v)) base (.slice (some ⟨g, 0, none⟩) n c) (vs.set j v) (l.set j x) ∧ Kb (fun q => q = g) w (w.setCells g (j * 5) (enC x v)) := by
  subst hn
  obtain ⟨h1, h2⟩ := owns_over (enC x v) (j * 5) w _ h.top
  refine ⟨⟨?_, by simp [h.len], fun W' hW k hk hk' => ?_, fun q hq hne => ?_, Nat.le_trans h.sz h2.size, h.bl⟩, h2⟩
  · rw [ensC_set l vs h.len j hj, List.length_set]
    exact h1
  · have hk0 : k < l.length := by simpa using hk
    have hk1 : k < vs.length := by rw [h.len]; exact hk0
    by_cases e : j = k
    · subst e
      rw [List.getElem_set_self, List.getElem_set_self]
      exact hx W' fun q hq hne => hW q hq fun e => hne (Option.some.inj e)
    · rw [List.getElem_set_ne (by omega), List.getElem_set_ne (by omega)]
      exact h.rd W' hW k hk0 hk1
  · exact (h2.same q (Nat.lt_of_lt_of_le hq h.sz) fun e => hne (by rw [e]; rfl)).trans (h.ag q hq hne)
theorem NowS.erase {wn w w' : World} {base g n c m : Nat} {vs : List V3} {l : List En} (h : NowS wn w base (.slice (some ⟨g, 0, none⟩) n c) vs l) (hn : n = l.length) {i : Nat} (hi : i < l.length) (hm : m = (l.eraseIdx i).length)
    (hS : EnS w' base (.slice (some ⟨g, 0, none⟩) m c) (vs.eraseIdx i) (l.eraseIdx i)) (hk : Kb (fun q => q = g) w w') :
    NowS wn w' base (.slice (some ⟨g, 0, none⟩) m c) (vs.eraseIdx i) (l.eraseIdx i) := by
  subst hn
  have hlen : (l.eraseIdx i).length = l.length - 1 := List.length_eraseIdx_of_lt hi
  refine ⟨hS.top, hS.len, fun W' hW k hk1 hk2 => ?_, fun q hq hne => (hk.same q (Nat.lt_of_lt_of_le hq h.sz) fun e => hne (by rw [e]; rfl)).trans (h.ag q hq hne), Nat.le_trans h.sz hk.size, h.bl⟩
  rw [hlen] at hk1
  rw [List.getElem_eraseIdx, List.getElem_eraseIdx]
  split
  · exact h.rd W' hW k (by omega) (by rw [h.len]; omega)
  · exact h.rd W' hW (k + 1) (by omega) (by rw [h.len]; omega)
end Go.Proofs.YtlbjbmpkaniojaaGreat
namespace Go.Proofs.YtlbjbmpkaniojaaGreat
open Go Go.RowKit Go.Maps
/-- what Difference answers. -/
def DifQ (R : List Chg × Int) (w : World) (e : Ending) (w' : World) : Prop := ∃ u, e = .returned (.tuple #[u, .int .i64 R.2]) ∧ ChsAt w' u R.1 ∧ Below w.heap.size w w'
theorem DifQ.no {R : List Chg × Int} {w w' : World} {er : Int} (hR : R = ([], er)) (h : Below w.heap.size w w') : DifQ R w (.returned (.tuple #[.slice none 0 0, .int .i64 er])) w' := by
  subst hR; exact ⟨_, rfl, ChsAt.nil _, h⟩
end Go.Proofs.YtlbjbmpkaniojaaGreat
namespace Go.Proofs.YtlbjbmpkaniojaaGreat
open Go Go.RowKit Go.Maps
set_option maxHeartbeats 4000000 in
set_option maxRecDepth 100000 in
theorem ref9_Edition (vs vl : Value) (s : Sg) (l : List En) (w : World) (hs : SignAt w vs s) (hl : EntsAt w vl l) (hs1 : s.length ≤ 1000) (hl1 : l.length ≤ 1000) :
    Calls Tryz.prog 25 #[vs, vl] w fun e w' => e = .returned (.bool (edB s l)) ∧ Below w.heap.size w w' := by
  have HS := hid hs
  have HL := hid hl
  obtain ⟨la, lc, rfl, -, ll, -, HC⟩ := hl.open
  have HC' := hid HC
  clear HC hl hs
  go_enter Tryz.func25, Tryz.ntmps25
  go_wp2
  go_loopw [5] (fun i wr => ∃ k q : Nat, i = .int .i64 ((k : Int) + 1) ∧ wr = w.drewN q ∧ (k + 1 ≤ l.length ∨ k = 0) ∧ ∀ j (h : j + 1 < l.length), j < k → ltN (l[j]'(by omega)).name l[j + 1].name) (fun i _ => l.length - (intOf i).toNat)
  case atStart => exact ⟨0, 0, rfl, rfl, Or.inr rfl, fun j h h2 => absurd h2 (by omega)⟩
  case round =>
    obtain ⟨k, q, rfl, hw, hk, hrel⟩ := hrel
    have HW := hid hw
    have HR := hid hrel
    have hbq : Below w.heap.size w wr := hw ▸ below_self_drewN _ _
    clear hrel
    by_cases hlt : k + 1 < l.length
    · obtain ⟨b, o, vS, vu, vp, rfl, c0, -⟩ := HC'.out (k + 1) hlt
      obtain ⟨b', o', uS, uu, up, e', d0, -⟩ := HC'.out k (by omega)
      cases e'
      have f0 := (hbq.cell (World.block_lt_of_cell? _ _ c0)).trans c0
      have g0 := (hbq.cell (World.block_lt_of_cell? _ _ d0)).trans d0
      have HNO := hid (fun h => edB_no (s := s) hlt h)
      have HYES := hid (show ltN (l[k]'(by omega)).name l[k + 1].name → ltN (l[k]'(by omega)).name l[k + 1].name from id)
      obtain ⟨x, hx⟩ : ∃ x, l[k + 1].name = x := ⟨_, rfl⟩
      obtain ⟨y, hy⟩ : ∃ y, (l[k]'(by omega)).name = y := ⟨_, rfl⟩
      have HX := hid hx
      have HY := hid hy
      rw [hx] at f0 HNO
      rw [hy] at g0 HNO
      have q1 : (k : Int) + 1 - 1 = (k : Int) := by omega
      have q2 : IntKind.i64.wrap ((k : Int) + 1 - 1) = (k : Int) := by rw [IntWalk.i64_in _ (by omega)]; omega
      have q7 : IntKind.i64.wrap (k : Int) = (k : Int) := by rw [IntWalk.i64_in _ (by omega)]
      have q3 : ((k : Int) + 1).toNat = k + 1 := by omega
      have q4 : (0 : Int) ≤ (k : Int) + 1 := by omega
      have q5 : (k : Int) + 1 < (l.length : Int) := by omega
      have q6 : (k : Int) < (l.length : Int) := by omega
      clear c0 d0 hx hy hw
      by_cases h2 : ltN y x
      · have q0 := ble' h2
        have H2 := hid h2
        clear h2 HNO
        go_wp2
        go_quiet (fail)
        go_wp2
        go_roundw
        case rel =>
          refine ⟨k + 1, _, by go_num, by rw [HW.out, World.drewN_drewN], Or.inl (by omega), fun j hj hjk => ?_⟩
          by_cases e : j = k
          · subst e; rw [HX.out, HY.out]; exact H2.out
          · exact HR.out j hj (by omega)
        case measure => simp [intOf]; omega
      · have q0 := ble h2
        have HF := hid (HNO.out h2)
        clear h2 HNO
        go_wp2
        go_quiet (fail)
        go_wp2
        go_ret
        exact ⟨ret_bool HF.out.symm, hbq.trans ((below_self_drewN _ _).mono hbq.size)⟩
    · have HF : Hid (edB s l = libB s l) := hid (edB_asc (asc_adj fun i hi => HR.out i hi (by omega)))
      have HV := hid (ref6_Valid _ _ s l wr (HS.out.below hbq) (HL.out.below hbq) hs1 hl1)
      clear hw
      go_wp2_with fail
      refine HV.out.mono ?_
      rintro e w2 ⟨rfl, hb2⟩
      go_wp2
      go_ret
      exact ⟨ret_bool HF.out.symm, hbq.trans (hb2.mono hbq.size)⟩
def sg1 : Sg := [(⟨#[67]⟩, 2)]
theorem sign9 (w : World) (T : TypeId) : SignAt (w.alloc (.cells #[.string ⟨#[67]⟩, .int .i64 2] T)) (.slice (some ⟨w.heap.size, 0, none⟩) 1 1) sg1 := by
  have r1 := World.ownsRow_lit (base := 0) (e := T) (size := 2) w #[.string ⟨#[67]⟩, .int .i64 2] 1 (by omega) (by simp [maxLen]) rfl
  refine ⟨RowK.of_owns r1 (by simp [sg1]), ?_⟩
  intro x hx
  simp [sg1] at hx
  subst hx; simp [ByteArray.size]
end Go.Proofs.YtlbjbmpkaniojaaGreat
namespace Go.Proofs.YtlbjbmpkaniojaaGreat
open Go Go.RowKit Go.Maps
theorem sl_IndexFunc_chs (g : Nat) (lb : Array Value) (eg : ∀ args w, (callFunc g args).run Tryz.prog w = .ok (.enter g args) w) (v : Value) (l : List Chg) (w : World) (hv : ChsAt w v l) (p : Nat → Bool)
    (hp : ∀ (i : Nat) (h : i < l.length) (vs vu vp : Value) (W : World), Below w.heap.size w W → ChgAt W vs vu vp l[i] → Calls Tryz.prog g (#[chV l[i] vs vu vp] ++ lb) W fun e w' => e = .returned (.bool (p i)) ∧ Below W.heap.size W w') :
    Calls Tryz.prog 176 #[v, .func (.func g) #[] lb] w fun e w' => e = .returned (.int .i64 (firstI l.length p)) ∧ Below w.heap.size w w' := by
  obtain ⟨a, cap, rfl, h1, h2, h3, HC⟩ := hv.open
  have HC' := hid HC
  have HP := hid hp
  clear HC hp h3 hv
  go_enter Tryz.func176, Tryz.ntmps176
  go_wp2
  go_loopw [8] (fun i wr => ∃ k : Nat, k ≤ l.length ∧ i = .int .i64 k ∧ Below w.heap.size w wr ∧ ∀ j, j < k → p j = false) (fun i _ => l.length - (intOf i).toNat)
  case atStart => exact ⟨0, by omega, rfl, Below.refl _ _, by simp⟩
  case round =>
    obtain ⟨k, hk, rfl, hb, hrel⟩ := hrel
    have HR := hid hrel
    clear hrel
    by_cases hlt : k < l.length
    · obtain ⟨b, o, vs, vu, vp, rfl, c0, c1, c2, c3, c4, c5, c6, c7, c8, he⟩ := HC'.out k hlt
      have d0 := (hb.cell (World.block_lt_of_cell? _ _ c0)).trans c0
      have d1 := (hb.cell (World.block_lt_of_cell? _ _ c1)).trans c1
      have d2 := (hb.cell (World.block_lt_of_cell? _ _ c2)).trans c2
      have d3 := (hb.cell (World.block_lt_of_cell? _ _ c3)).trans c3
      have d4 := (hb.cell (World.block_lt_of_cell? _ _ c4)).trans c4
      have d5 := (hb.cell (World.block_lt_of_cell? _ _ c5)).trans c5
      have d6 := (hb.cell (World.block_lt_of_cell? _ _ c6)).trans c6
      have d7 := (hb.cell (World.block_lt_of_cell? _ _ c7)).trans c7
      have d8 := (hb.cell (World.block_lt_of_cell? _ _ c8)).trans c8
      have hc := HP.out k hlt vs vu vp wr hb (he.below hb)
      clear c0 c1 c2 c3 c4 c5 c6 c7 c8 he
      obtain ⟨x, hx⟩ : ∃ x, l[k] = x := ⟨_, rfl⟩
      rw [hx] at d0 d1 d2 d3 d4 d5 hc
      unfold chV at hc
      clear hx
      cases h4 : p k
      · rw [h4] at hc
        have HCC := hid hc
        have H4 := hid h4
        clear hc h4
        go_wp2_with (go_at_fn g; refine HCC.out.mono ?_; rintro e w' ⟨rfl, hb1⟩)
        go_roundw
        case rel =>
          refine ⟨k + 1, by omega, by go_num, hb.trans (hb1.mono hb.size), fun j hj => ?_⟩
          by_cases hjk : j = k
          · rw [hjk]; exact H4.out
          · exact HR.out j (by omega)
        case measure => simp [intOf]; omega
      · rw [h4] at hc
        have HCC := hid hc
        have HF := hid (firstI_at hlt h4 HR.out)
        clear hc h4
        go_wp2_with (go_at_fn g; refine HCC.out.mono ?_; rintro e w' ⟨rfl, hb1⟩)
        go_ret
        exact ⟨ret_int HF.out.symm, hb.trans (hb1.mono hb.size)⟩
    · have HF := hid (firstI_no (n := l.length) (p := p) fun j hj => HR.out j (by omega))
      go_wp2
      go_ret
      exact ⟨ret_int HF.out.symm, hb⟩
theorem sl_ContainsFunc_chs (g : Nat) (lb : Array Value) (eg : ∀ args w, (callFunc g args).run Tryz.prog w = .ok (.enter g args) w) (v : Value) (l : List Chg) (w : World) (hv : ChsAt w v l) (p : Nat → Bool)
    (hp : ∀ (i : Nat) (h : i < l.length) (vs vu vp : Value) (W : World), Below w.heap.size w W → ChgAt W vs vu vp l[i] → Calls Tryz.prog g (#[chV l[i] vs vu vp] ++ lb) W fun e w' => e = .returned (.bool (p i)) ∧ Below W.heap.size W w') :
    Calls Tryz.prog 139 #[v, .func (.func g) #[] lb] w fun e w' => e = .returned (.bool ((List.range l.length).any p)) ∧ Below w.heap.size w w' := by
  have HP := hid (sl_IndexFunc_chs g lb eg v l w hv p hp)
  have HF := hid (firstI_any l.length p)
  generalize firstI l.length p = r at HP HF
  clear hp
  obtain ⟨a, cap, rfl, -⟩ := hv.open
  clear hv
  go_enter Tryz.func139, Tryz.ntmps139
  go_wp2_with (go_at_call 176; refine HP.out.mono ?_; rintro e w' ⟨rfl, hb⟩)
  go_ret
  exact ⟨ret_bool HF.out, by assumption⟩
theorem blame_valid1 (p : Nat) (vs vS vU vP : Value) (s : Sg) (c : Chg) (w : World) (hs : SignAt w vs s) (hc : ChgAt w vS vU vP c) (hs1 : s.length ≤ 1000) (hp : w.cell? ⟨p, 0, none⟩ = some vs) :
    Calls Tryz.prog 140 #[chV c vS vU vP, .pointer (some ⟨p, 0, none⟩)] w fun e w' => e = .returned (.bool (!chgB s c)) ∧ Below w.heap.size w w' := by
  obtain ⟨sa, sc, rfl, -⟩ := hc.e.s.open
  obtain ⟨ua, uc, rfl, -⟩ := hc.e.u.open
  obtain ⟨pa, pc, rfl, -⟩ := hc.e.p.open
  have hCB := CB.new w c (.slice sa c.ent.says.length sc) (.slice ua c.ent.uses.length uc) (.slice pa c.ent.proof.length pc) 43
  obtain ⟨V, hV⟩ : ∃ V, w.alloc (.cells #[.int .i64 c.kind, .string c.who, .string c.name, .string c.new, .string c.ent.name, .string c.ent.who, .slice sa c.ent.says.length sc, .slice ua c.ent.uses.length uc, .slice pa c.ent.proof.length pc] 43) = V := ⟨_, rfl⟩
  have hbV : Below w.heap.size w V := hV ▸ (Below.refl _ _).alloc (Nat.le_refl _) _
  rw [hV] at hCB
  have HVA := hid (blame_Valid vs _ _ _ s c V (hs.below hbV) (hc.below hbV) hs1)
  have hp' := (hbV.cell (World.block_lt_of_cell? _ _ hp)).trans hp
  obtain ⟨a, cap, rfl, -⟩ := hs.open
  have HW := hid hV
  have HBV := hid hbV
  unfold chV at HVA ⊢
  obtain ⟨c0, c1, c2, c3, c4, c5, c6, c7, c8⟩ := hCB
  clear hV hbV hc hs hp
  go_enter Tryz.func140, Tryz.ntmps140
  go_wp2_with (rw [HW.out])
  refine HVA.out.mono ?_
  rintro e w1 ⟨rfl, hb1⟩
  go_wp2
  go_ret
  exact ⟨rfl, HBV.out.trans (hb1.mono HBV.out.size)⟩
theorem chs_any (s : Sg) (cs : List Chg) : (List.range cs.length).any (fun i => !chgB s (cs.getD i chg0)) = !cs.all (chgB s) := by
  have e1 : ∀ j (hj : j < cs.length), cs.getD j chg0 = cs[j] := fun j hj => by rw [List.getD_eq_getElem?_getD, List.getElem?_eq_getElem hj]; rfl
  cases h : cs.all (chgB s) with
  | true =>
    rw [List.all_eq_true] at h
    show _ = false
    rw [List.any_eq_false]
    intro i hi
    have hi := List.mem_range.1 hi
    rw [e1 i hi, h _ (List.getElem_mem hi)]; simp
  | false =>
    rw [List.all_eq_false] at h
    obtain ⟨c, hc, h⟩ := h
    obtain ⟨i, hi, rfl⟩ := List.getElem_of_mem hc
    show _ = true
    rw [List.any_eq_true]
    exact ⟨i, List.mem_range.2 hi, by rw [e1 i hi]; simpa using h⟩
set_option maxHeartbeats 1000000 in
theorem blame_valid (vs vc : Value) (s : Sg) (cs : List Chg) (w : World) (hs : SignAt w vs s) (hc : ChsAt w vc cs) (hs1 : s.length ≤ 1000) :
    Calls Tryz.prog 95 #[vs, vc] w fun e w' => e = .returned (.bool (signB s && cs.all (chgB s))) ∧ Below w.heap.size w w' := by
  obtain ⟨sa, sc, rfl, -⟩ := hs.open
  have hbW : Below w.heap.size w (w.alloc (.cells #[.slice sa s.length sc] 23)) := (Below.refl _ _).alloc (Nat.le_refl _) _
  have k0 := box1e w (.slice sa s.length sc) 23
  obtain ⟨W, hW⟩ : ∃ W, w.alloc (.cells #[.slice sa s.length sc] 23) = W := ⟨_, rfl⟩
  rw [hW] at hbW k0
  have HSG := hid (term_ValidSign _ s W (hs.below hbW) hs1)
  have HI := hid (fun (Y : World) (hY : Below W.heap.size W Y) => sl_ContainsFunc_chs 140 #[.pointer (some ⟨w.heap.size, 0, none⟩)] (enters_of Tryz.func140 (by kernel_rfl) rfl) vc cs Y ((hc.below hbW).below hY) (fun i => !chgB s (cs.getD i chg0)) (by
    intro i hi vs vu vp X hX he
    have e1 : cs.getD i chg0 = cs[i] := by rw [List.getD_eq_getElem?_getD, List.getElem?_eq_getElem hi]; rfl
    simp only [e1]
    have hWX : Below W.heap.size W X := hY.trans (hX.mono hY.size)
    exact blame_valid1 w.heap.size _ vs vu vp s cs[i] X ((hs.below hbW).below hWX) he hs1 ((hWX.cell (World.block_lt_of_cell? _ _ k0)).trans k0)))
  rw [chs_any] at HI
  obtain ⟨ca, cc, rfl, -⟩ := hc.open
  have HW := hid hW
  have HB := hid hbW
  clear hs hc hW hbW
  cases h1 : signB s
  · rw [h1] at HSG
    clear h1
    go_enter Tryz.func95, Tryz.ntmps95
    go_wp2_with (rw [HW.out])
    refine HSG.out.mono ?_
    rintro e w1 ⟨rfl, hb1⟩
    go_wp2
    go_ret
    exact ⟨ret_bool rfl, HB.out.trans (hb1.mono HB.out.size)⟩
  · rw [h1] at HSG
    clear h1
    go_enter Tryz.func95, Tryz.ntmps95
    go_wp2_with (rw [HW.out])
    refine HSG.out.mono ?_
    rintro e w1 ⟨rfl, hb1⟩
    have HI1 := hid (HI.out w1 hb1)
    obtain ⟨ab, hab⟩ : ∃ ab, cs.all (chgB s) = ab := ⟨_, rfl⟩
    rw [hab] at HI1
    go_wp2_with fail
    refine HI1.out.mono ?_
    rintro e w2 ⟨rfl, hb2⟩
    have HB2 := hid (HB.out.trans ((hb1.trans (hb2.mono hb1.size)).mono HB.out.size))
    clear hb1 hb2
    go_wp2
    go_ret
    exact ⟨ret_bool (by simp [hab]), HB2.out⟩
theorem blame_listed (vs vc : Value) (s : Sg) (cs : List Chg) (w : World) (hs : SignAt w vs s) (hc : ChsAt w vc cs) (hs1 : s.length ≤ 1000) :
    Calls Tryz.prog 56 #[vs, vc] w fun e w' => e = .returned (.int .i64 (lstL s cs)) ∧ Below w.heap.size w w' := by
  have HV := hid (blame_valid vs vc s cs w hs hc hs1)
  obtain ⟨ca, cc, rfl, -, hl, -⟩ := hc.open
  clear hs hc
  cases h : (signB s && cs.all (chgB s))
  · have HF : Hid (lstL s cs = 1) := hid (by unfold lstL; rw [h]; rfl)
    rw [h] at HV
    clear h
    go_enter Tryz.func56, Tryz.ntmps56
    go_wp2_with (go_at_call 95; refine HV.out.mono ?_; rintro e w1 ⟨rfl, hb1⟩)
    go_ret
    exact ⟨ret_int HF.out.symm, hb1⟩
  · rw [h] at HV
    by_cases h2 : 200 < cs.length
    · have HF : Hid (lstL s cs = 7) := hid (by unfold lstL; rw [if_pos h, if_pos h2])
      have q : (200 : Int) < (cs.length : Int) := by omega
      clear h h2
      go_enter Tryz.func56, Tryz.ntmps56
      go_wp2_with (go_at_call 95; refine HV.out.mono ?_; rintro e w1 ⟨rfl, hb1⟩)
      go_ret
      exact ⟨ret_int HF.out.symm, hb1⟩
    · have HF : Hid (lstL s cs = 0) := hid (by unfold lstL; rw [if_pos h, if_neg h2])
      have q : ¬ (200 : Int) < (cs.length : Int) := by omega
      clear h h2
      go_enter Tryz.func56, Tryz.ntmps56
      go_wp2_with (go_at_call 95; refine HV.out.mono ?_; rintro e w1 ⟨rfl, hb1⟩)
      go_ret
      exact ⟨ret_int HF.out.symm, hb1⟩
end Go.Proofs.YtlbjbmpkaniojaaGreat
namespace Go.Proofs.YtlbjbmpkaniojaaGreat
open Go Go.RowKit Go.Maps
theorem ref9_Do (vl : Value) (s : Sg) (l : List En) (c : Chg) (vS vU vP : Value) (w : World) (hl : EntsAt w vl l) (hc : ChgAt w vS vU vP c) (hed : edB s l = true) (hch : chgB s c = true) :
    Calls Tryz.prog 77 #[vl, chV c vS vU vP] w fun e w' => ∃ u, e = .returned (.tuple #[u, .int .i64 (doL l c).2]) ∧ EntsAt w' u (doL l c).1 ∧ Below w.heap.size w w' := by
  rw [← doI_eq hed hch]
  obtain ⟨hl0, ha⟩ := edB_iff.1 hed
  have hok : ∀ x ∈ l, EnSm x := fun y hy => ent_sm (entryB_iff.2 (hl0.ents y hy))
  cases chgB_iff.1 hch with
  | put h0 h1 hk h2 h3 h4 =>
    rcases hk with hk | hk
    · exact ref9_Do1 vl l c vS vU vP w hl hc hk hl0.len hok (ent_sm (entryB_iff.2 h4))
    · exact ref9_Do2 vl l c vS vU vP w hl hc hk hl0.len hok (ent_sm (entryB_iff.2 h4))
  | ren h0 h1 hk h2 h3 h4 h5 => exact ref9_Do3 vl l c vS vU vP w hl hc hk hl0.len hok hl0.nd
  | drop h0 h1 hk h2 h3 h5 => exact ref9_Do4 vl l c vS vU vP w hl hc hk hl0.len hok
set_option maxHeartbeats 2000000 in
set_option maxRecDepth 100000 in
theorem ref9_Made (vs vl vS vU vP : Value) (s : Sg) (l : List En) (c : Chg) (w : World) (hs : SignAt w vs s) (hl : EntsAt w vl l) (hc : ChgAt w vS vU vP c) (hs1 : s.length ≤ 1000) (hl1 : l.length ≤ 1000) :
    Calls Tryz.prog 28 #[vs, vl, chV c vS vU vP] w fun e w' => ∃ u, e = .returned (.tuple #[u, .int .i64 (madeL s l c).2]) ∧ EntsAt w' u (madeL s l c).1 ∧ Below w.heap.size w w' := by
  obtain ⟨sa, sc, rfl, -⟩ := hc.e.s.open
  obtain ⟨ua, uc, rfl, -⟩ := hc.e.u.open
  obtain ⟨pa, pc, rfl, -⟩ := hc.e.p.open
  have hCB := CB.new w c (.slice sa c.ent.says.length sc) (.slice ua c.ent.uses.length uc) (.slice pa c.ent.proof.length pc) 43
  obtain ⟨V, hV⟩ : ∃ V, w.alloc (.cells #[.int .i64 c.kind, .string c.who, .string c.name, .string c.new, .string c.ent.name, .string c.ent.who, .slice sa c.ent.says.length sc, .slice ua c.ent.uses.length uc, .slice pa c.ent.proof.length pc] 43) = V := ⟨_, rfl⟩
  have hbV : Below w.heap.size w V := hV ▸ (Below.refl _ _).alloc (Nat.le_refl _) _
  rw [hV] at hCB
  have HED := hid (ref9_Edition vs vl s l V (hs.below hbV) (hl.below hbV) hs1 hl1)
  have HVA := hid (fun (X : World) (hX : Below w.heap.size w X) => ref9_Valid vs (.slice sa c.ent.says.length sc) (.slice ua c.ent.uses.length uc) (.slice pa c.ent.proof.length pc) s c X (hs.below hX) (hc.below hX) hs1)
  have HMD := hid (fun (X : World) (hX : Below w.heap.size w X) (h : edB s l = true) (h' : chgB s c = true) => ref9_Do vl s l c (.slice sa c.ent.says.length sc) (.slice ua c.ent.uses.length uc) (.slice pa c.ent.proof.length pc) X (hl.below hX) (hc.below hX) h h')
  obtain ⟨la, lc, rfl, -⟩ := hl.open
  unfold chV at HVA HMD ⊢
  have HW := hid hV
  have HBV := hid hbV
  have HCB := hid hCB
  obtain ⟨c0, c1, c2, c3, c4, c5, c6, c7, c8⟩ := hCB
  clear hV hbV hc hs hl
  cases g1 : edB s l
  · have HF := hid (madeL_no (c := c) (Or.inl g1))
    rw [g1] at HED
    clear g1
    go_enter Tryz.func28, Tryz.ntmps28
    go_wp2_with (rw [HW.out])
    refine HED.out.mono ?_
    rintro e w1 ⟨rfl, hb1⟩
    go_wp2
    go_ret2
    exact ⟨_, by rw [HF.out]; rfl, by rw [HF.out]; exact EntsAt.nil _, HBV.out.trans (hb1.mono HBV.out.size)⟩
  rw [g1] at HED
  have HG1 := hid g1
  clear g1
  cases g2 : chgB s c
  · have HF := hid (madeL_no (l := l) (Or.inr g2))
    simp only [g2] at HVA
    clear g2
    go_enter Tryz.func28, Tryz.ntmps28
    go_wp2_with (rw [HW.out])
    refine HED.out.mono ?_
    rintro e w1 ⟨rfl, hb1⟩
    have hbw1 := HBV.out.trans (hb1.mono HBV.out.size)
    have HV1 := hid (HVA.out w1 hbw1)
    obtain ⟨d0, d1, d2, d3, d4, d5, d6, d7, d8⟩ := HCB.out.below hb1
    clear c0 c1 c2 c3 c4 c5 c6 c7 c8
    go_wp2_with fail
    refine HV1.out.mono ?_
    rintro e w2 ⟨rfl, hb2⟩
    go_wp2
    go_ret2
    exact ⟨_, by rw [HF.out]; rfl, by rw [HF.out]; exact EntsAt.nil _, hbw1.trans (hb2.mono hbw1.size)⟩
  simp only [g2] at HVA
  have HF := hid (madeL_yes HG1.out g2)
  have HMM := hid (fun (X : World) (hX : Below w.heap.size w X) => HMD.out X hX HG1.out g2)
  clear g2 HMD
  go_enter Tryz.func28, Tryz.ntmps28
  go_wp2_with (rw [HW.out])
  refine HED.out.mono ?_
  rintro e w1 ⟨rfl, hb1⟩
  have hbw1 := HBV.out.trans (hb1.mono HBV.out.size)
  have HV1 := hid (HVA.out w1 hbw1)
  have HB1 := hid hbw1
  have HC1 := hid (HCB.out.below hb1)
  obtain ⟨d0, d1, d2, d3, d4, d5, d6, d7, d8⟩ := HCB.out.below hb1
  clear c0 c1 c2 c3 c4 c5 c6 c7 c8 hb1 hbw1
  go_wp2_with fail
  refine HV1.out.mono ?_
  rintro e w2 ⟨rfl, hb2⟩
  have HB2 := hid (HB1.out.trans (hb2.mono HB1.out.size))
  have HM2 := hid (HMM.out w2 HB2.out)
  obtain ⟨c0, c1, c2, c3, c4, c5, c6, c7, c8⟩ := HC1.out.below hb2
  clear d0 d1 d2 d3 d4 d5 d6 d7 d8 hb2
  go_wp2_with fail
  refine HM2.out.mono ?_
  rintro e w3 ⟨u, rfl, hu, hb3⟩
  have HU := hid hu
  have HB3 := hid (HB2.out.trans (hb3.mono HB2.out.size))
  obtain ⟨ra, rc, rfl, -⟩ := hu.open
  clear hu hb3 c0 c1 c2 c3 c4 c5 c6 c7 c8
  go_wp2
  go_ret2
  exact ⟨_, by rw [HF.out]; rfl, by rw [HF.out]; exact HU.out, HB3.out⟩
end Go.Proofs.YtlbjbmpkaniojaaGreat
namespace Go.Proofs.YtlbjbmpkaniojaaGreat
open Go Go.RowKit Go.Maps
def encM (p : Mk) : List Value := [.string p.1, .string p.2.1, .string p.2.2]
def mkC (l : List Mk) : List Value := l.flatMap encM
theorem mkC_len (l : List Mk) : (mkC l).length = l.length * 3 := by
  unfold mkC
  induction l with
  | nil => rfl
  | cons p l ih => simp [encM, ih]; omega
theorem mkC_get : ∀ (l : List Mk) (j : Nat) (h : j < l.length) (r : Nat), r < 3 → (mkC l)[j * 3 + r]? = (encM l[j])[r]?
  | [], j, h, _, _ => by simp at h
  | p :: l, 0, _, r, hr => by
    show (encM p ++ mkC l)[0 * 3 + r]? = _
    rw [Nat.zero_mul, Nat.zero_add, List.getElem?_append_left (by simp [encM]; exact hr)]
    rfl
  | p :: l, j + 1, h, r, hr => by
    show (encM p ++ mkC l)[(j + 1) * 3 + r]? = _
    have h5 : (encM p).length = 3 := rfl
    rw [List.getElem?_append_right (by rw [h5]; omega), h5, show (j + 1) * 3 + r - 3 = j * 3 + r by omega]
    exact mkC_get l j (by simpa using h) r hr
theorem mkC_snoc (l : List Mk) (x : Mk) : mkC (l ++ [x]) = mkC l ++ encM x := by simp [mkC]
theorem flat_mkC (d : Array Mk) : (Go.Sort.flatK encM 3 d).toList = mkC d.toList := by
  apply List.ext_getElem?
  intro t
  by_cases ht : t < d.size * 3
  · have h1 := Go.Sort.get_flatK encM 3 d t ht
    rw [getElem!_pos _ t (by simpa using ht)] at h1
    rw [Array.getElem?_toList, Array.getElem?_eq_getElem (by simpa using ht), h1]
    have hj : t / 3 < d.size := by omega
    rw [getElem!_pos d _ hj]
    have hm : t % 3 < 3 := Nat.mod_lt _ (by omega)
    have g := mkC_get d.toList (t / 3) (by simpa using hj) (t % 3) hm
    rw [show t / 3 * 3 + t % 3 = t by omega] at g
    rw [g]
    have h5 : t % 3 = 0 ∨ t % 3 = 1 ∨ t % 3 = 2 := by omega
    rcases h5 with e | e | e <;> (rw [e]; simp [encM])
  · rw [Array.getElem?_toList, Array.getElem?_eq_none (by simp; omega), List.getElem?_eq_none (by rw [mkC_len]; simp; omega)]
/-- a list of marks. -/
def MksAt (w : World) (u : Value) (l : List Mk) : Prop := RowK w u 3 l.length (mkC l)
theorem MksAt.nil (w : World) : MksAt w (.slice none 0 0) [] := ⟨rfl, none, 0, rfl, Nat.le_refl _, by simp, fun _ => rfl, fun j u hj => by simp [mkC] at hj⟩
theorem MksAt.below {w w' : World} {u : Value} {l : List Mk} (h : MksAt w u l) (hb : Below w.heap.size w w') : MksAt w' u l := RowK.below h hb
theorem MksAt.open {w : World} {v : Value} {l : List Mk} (h : MksAt w v l) :
    ∃ a cap, v = .slice a l.length cap ∧ l.length ≤ cap ∧ l.length ≤ 140737488355328 ∧
      ∀ j (h : j < l.length), ∃ b o, a = some ⟨b, o, none⟩ ∧ w.cell? ⟨b, o + j * 3, none⟩ = some (.string l[j].1) ∧ w.cell? ⟨b, o + j * 3 + 1, none⟩ = some (.string l[j].2.1) ∧ w.cell? ⟨b, o + j * 3 + 2, none⟩ = some (.string l[j].2.2) := by
  obtain ⟨_, a, cap, h2, h3, h4, h5, h6⟩ := h
  refine ⟨a, cap, h2, h3, h4, fun j hj => ?_⟩
  have key : ∀ r (hr : r < 3) u, (encM l[j])[r]? = some u → ∃ b o, a = some ⟨b, o, none⟩ ∧ w.cell? ⟨b, o + (j * 3 + r), none⟩ = some u := fun r hr u hu => h6 _ _ ((mkC_get l j hj r hr).trans hu)
  obtain ⟨b, o, e0, q0⟩ := key 0 (by omega) _ rfl
  have key2 : ∀ r (hr : r < 3) u, (encM l[j])[r]? = some u → w.cell? ⟨b, o + (j * 3 + r), none⟩ = some u := fun r hr u hu => by
    obtain ⟨b', o', e', q'⟩ := key r hr u hu
    rw [e0] at e'
    cases e'
    exact q'
  exact ⟨b, o, e0, q0, by rw [Nat.add_assoc]; exact key2 1 (by omega) _ rfl, by rw [Nat.add_assoc]; exact key2 2 (by omega) _ rfl⟩
theorem el_mark : ElemAt Tryz.prog 63 (.agg #[.string ⟨#[]⟩, .string ⟨#[]⟩, .string ⟨#[]⟩]) 3 48 := by unfold ElemAt; kernel_rfl
theorem row_one_mk (w : World) (x0 x1 x2 : Value) (t : TypeId) : RowK (w.alloc (.cells #[x0, x1, x2] t)) (.slice (some ⟨w.heap.size, 0, none⟩) 1 1) 3 1 [x0, x1, x2] := by
  refine ⟨rfl, _, _, rfl, Nat.le_refl _, by omega, (fun h => by cases h), fun j u hj => ⟨_, _, rfl, ?_⟩⟩
  rw [World.cell?_alloc_new, Nat.zero_add]
  simpa using hj
set_option maxRecDepth 100000 in
theorem blame_marks1 (x y : Mk) (w : World) :
    Calls Tryz.prog 137 #[.agg #[.string x.1, .string x.2.1, .string x.2.2], .agg #[.string y.1, .string y.2.1, .string y.2.2]] w fun e w' => e = .returned (.int .i64 (cpN x.1 y.1)) ∧ ∃ q os, w' = Go.Sort.grow (w.drewN q) os := by
  have HG := hid (gw2 w (.cells #[.string x.1, .string x.2.1, .string x.2.2] 63) (.cells #[.string y.1, .string y.2.1, .string y.2.2] 63))
  go_enter Tryz.func137, Tryz.ntmps137
  go_wp2_with (go_at_call 117; refine (str_Compare _ _ _).mono ?_; rintro e w' ⟨rfl, rfl⟩)
  go_ret
  exact ⟨rfl, _, _, HG.out⟩
def cpM (a b : Mk) : Int := cpN a.1 b.1
instance : Inhabited Mk := ⟨(em, em, em)⟩
set_option maxRecDepth 100000 in
theorem sort_marks (base g n c : Nat) (l : List Mk) (w : World) (hl : l.length = n) (hn1 : n ≤ 100000) (htop : w.ownsRow base 63 3 (.slice (some ⟨g, 0, none⟩) n c) n (mkC l)) :
    Calls Tryz.prog 136 #[.slice (some ⟨g, 0, none⟩) n c, .func (.func 137) #[] #[]] w fun e w' => ∃ l', e = .returned (.tuple #[]) ∧ w'.ownsRow base 63 3 (.slice (some ⟨g, 0, none⟩) n c) n (mkC l') ∧ l'.length = n ∧ l'.Perm l ∧ l'.Pairwise (fun a b => ¬ ltN b.1 a.1) ∧ Kb (fun k => k = g) w w' := by
  have hblk : g < w.heap.size := (htop.lt g rfl).2
  have hsw : Go.Sort.SWO (ltOf cpM) := {
    irrefl := fun x => by unfold ltOf; exact decide_eq_false (fun h => ltN.irr _ (cpN_lt.1 h))
    trans := fun x y z h1 h2 => by
      unfold ltOf at *; rw [decide_eq_true_eq] at *; exact cpN_lt.2 ((cpN_lt.1 h1).trans (cpN_lt.1 h2))
    ntrans := fun x y z h1 h2 => by
      unfold ltOf cpM at *
      rw [decide_eq_false_iff_not, cpN_lt] at *
      intro h3
      rcases ltN.tri x.1 y.1 with k | k | k
      · exact h1 k
      · rw [k] at h3; exact h2 h3
      · exact h2 (ltN.trans k h3) }
  have hds : l.toArray.size = n := by simpa using hl
  have hH : Go.Sort.HoldsK encM 3 w g 0 l.toArray := fun j hj => by
    have hj : j < n * 3 := by simpa [hl] using hj
    rw [Nat.zero_add]
    have hc := htop.cellAt j hj
    refine ⟨?_, htop.frozenAt j⟩
    rw [hc]
    have e : (Go.Sort.flatK encM 3 l.toArray).toList = mkC l := flat_mkC l.toArray
    rw [← e, Array.getElem?_toList, Array.getElem?_eq_getElem (by simpa [hl] using hj), getElem!_pos _ j (by simpa [hl] using hj)]
    rfl
  have hcon := AnyQ.slices_SortFunc Tryz.sort136 3 (fun w => by kernel_rfl) (fun w => by kernel_rfl) encM (fun _ => rfl) (fun p v hv => by
      simp [encM] at hv
      rcases hv with rfl | rfl | rfl <;> rfl) cpM hsw 137 #[] g 0 c l.toArray w (enters_of Tryz.func137 (by kernel_rfl) rfl)
    (fun m os dk hs x y => blame_marks1 x y _) hH hblk (by omega)
  rw [hds] at hcon
  change Calls Tryz.prog 136 _ _ _ at hcon
  refine hcon.mono ?_
  rintro e w' ⟨rfl, d', m, os, hp, hsd, rfl⟩
  obtain ⟨hps, -, hpp⟩ := hp
  have hds' : d'.size = n := by rw [hps]; exact hds
  have hpp : d'.toList.Perm l := by
    have ex : ∀ (D : Array Mk) (m : Nat), D.size = m → D.extract 0 m = D := fun D m h => by subst h; simp
    have e1 := ex d' n hds'
    have e2 := ex l.toArray n hds
    rw [e1, e2] at hpp
    simpa using hpp
  refine ⟨d'.toList, rfl, ?_, by simpa using hds', hpp, ?_, kb_sort id w g m (Go.Sort.flatK encM 3 d') os⟩
  · rw [← flat_mkC]
    exact own_sortK htop m (Go.Sort.flatK encM 3 d') (by simp [hds']) os
  · rw [List.pairwise_iff_getElem]
    intro i j hi hj hij
    have := hsd i j (Nat.zero_le _) hij (by simpa [hds'] using hj)
    unfold ltOf cpM at this
    rw [decide_eq_false_iff_not, getElem!_pos d' j (by simpa using hj), getElem!_pos d' i (by simpa using hi), cpN_lt] at this
    simpa using this
theorem sort_marks0 (p : Option Addr) (c : Nat) (fv : Value) (w : World) : Calls Tryz.prog 136 #[.slice p 0 c, fv] w fun e w' => e = .returned (.tuple #[]) ∧ w' = w :=
  AnyF.slices_SortFunc_none Tryz.sort136 p c fv w
theorem sort_mks (base : Nat) (u : Value) (l : List Mk) (w : World) (hl1 : l.length ≤ 1000) (h : w.ownsRow base 63 3 u l.length (mkC l)) (hbw : base ≤ w.heap.size) :
    Calls Tryz.prog 136 #[u, .func (.func 137) #[] #[]] w fun e w' => ∃ l', e = .returned (.tuple #[]) ∧ w'.ownsRow base 63 3 u l.length (mkC l') ∧ l'.length = l.length ∧ l'.Perm l ∧ l'.Pairwise (fun a b => ¬ ltN b.1 a.1) ∧ Below base w w' := by
  have h' := h
  rcases h.2 with ⟨hn, h0⟩ | ⟨g, cap, cur, rfl, hg, -⟩
  · obtain ⟨a, c, rfl⟩ := owns_slice h
    rw [h0] at h' ⊢
    refine (sort_marks0 a c _ w).mono ?_
    rintro e w' ⟨rfl, rfl⟩
    exact ⟨l, rfl, h', h0, List.Perm.refl _, by rw [List.eq_nil_of_length_eq_zero h0]; exact List.Pairwise.nil, Below.refl _ _⟩
  · refine (sort_marks base g l.length cap l w rfl (by omega) h').mono ?_
    rintro e w' ⟨l', rfl, h1, h2, h3, h4, h5⟩
    exact ⟨l', rfl, h1, h2, h3, h4, below_of_kb (Below.refl _ _) h5 hg hbw⟩
theorem mkStep_len (o : List Mk) (c : Chg) : (mkStep o c).length ≤ o.length + 1 := by
  unfold mkStep mkAdd
  rw [List.length_append]
  have := List.length_filterMap_le (mk1 c) o
  split <;> simp <;> omega
theorem mkAll_len : ∀ (cs : List Chg) (o : List Mk), (cs.foldl mkStep o).length ≤ o.length + cs.length
  | [], o => by simp
  | c :: cs, o => by
    have h1 := mkAll_len cs (mkStep o c)
    have h2 := mkStep_len o c
    simp only [List.foldl_cons, List.length_cons]; omega
theorem marks_eq {L O : List Mk} (hO : (O.map Prod.fst).Nodup) (hL : (L.map Prod.fst).Nodup) (h1 : ∀ x v, (x, v) ∈ L → mkF O x = some v) (h2 : ∀ x, (mkF O x).isSome = true → x ∈ L.map Prod.fst) {M : List Mk} (hp : M.Perm L) (hs : M.Pairwise fun a b => ¬ ltN b.1 a.1) : M = srMk O := by
  have hn : (M.map Prod.fst).Nodup := (hp.map Prod.fst).nodup_iff.2 hL
  rw [List.Nodup, List.pairwise_map] at hn
  have hasc : AsMk M := (hs.and hn).imp fun {a b} ⟨q1, q2⟩ => by
    rcases ltN.tri a.1 b.1 with k | k | k
    · exact k
    · exact absurd k q2
    · exact absurd k q1
  refine hasc.unique (srMk_asc hO) fun z => ?_
  rw [hp.mem_iff, srMk_mem]
  obtain ⟨x, v⟩ := z
  constructor
  · intro h; exact (mkF_iff hO).1 (h1 x v h)
  · intro h
    have h3 := (mkF_iff hO).2 h
    obtain ⟨⟨a, b⟩, hm, e⟩ := List.mem_map.1 (h2 x (by rw [h3]; rfl))
    have e : a = x := e
    subst e
    have h4 := h1 _ _ hm
    rw [h3] at h4
    cases h4
    exact hm
set_option maxHeartbeats 8000000 in
set_option maxRecDepth 100000 in
theorem blame_marks (vc : Value) (s : Sg) (cs : List Chg) (w : World) (hc : ChsAt w vc cs) (hs : signB s = true) (hcs : ∀ c ∈ cs, chgB s c = true) (hp : (playL [] cs 0).2.2 = 0) (hl : cs.length ≤ 1000) :
    Calls Tryz.prog 91 #[vc] w fun e w' => ∃ u, e = .returned u ∧ MksAt w' u (srMk (mkAll cs)) ∧ Below w.heap.size w w' := by
  have HA := hid (blame_authors vc s cs w hc hs hcs hp)
  have hinv := mk_inv hs hcs hp cs.length (Nat.le_refl _)
  rw [List.take_of_length_le (Nat.le_refl _)] at hinv
  have HNO := hid hinv.nd
  have HAL := hid (show (mkAll cs).length ≤ 1000 from Nat.le_trans (mkAll_len cs []) (by simp; omega))
  obtain ⟨O, hO⟩ : ∃ O, mkAll cs = O := ⟨_, rfl⟩
  rw [hO] at HA HNO HAL ⊢
  clear hc hs hcs hp hinv hO
  go_enter Tryz.func91, Tryz.ntmps91
  go_wp2_with fail
  refine HA.out.mono ?_
  rintro e w1 ⟨rfl, ⟨n, hn, hM⟩, hb1⟩
  have HM := hid hM
  have HB1 := hid hb1
  obtain ⟨D, hD, hLf⟩ := MapK.ownsN hM Tryz.underlying9 (by simp only [maxLen]; omega)
  have HD := hid hD
  have HLF := hid hLf
  have hbm := hM.lt
  clear hM hD hLf HA hb1
  go_wp2_with (first | (at_range; refine wpList_range_own _ rfl _ 136 rfl 9 139 (string_keyed Tryz.underlying9) Tryz.underlying136 heldR w.heap.size n D rfl HD.out ?_; intro w2 hrg hg2 hs2))
  go_frame
  have hw12 : w1.heap.size < w2.heap.size := by omega
  have HRG := hid hrg
  have HM2 := hid (HM.out.kept hg2 (by simp))
  have HB2 := hid (HB1.out.grown hg2 HB1.out.size (fun q hq => by cases hq))
  have HROW := hid (World.ownsRow_nil w2 w2.heap.size 63 3)
  clear hrg hg2 hs2
  go_loopw [3] (fun uo wr => ∃ (left : Lit → Bool) (cnt : Nat) (L : List Mk), wr.ranges Tryz.prog 9 heldR w.heap.size w1.heap.size n D left cnt ∧ LfN left (mkF O) (L.map Prod.fst) ∧ AMap wr w.heap.size n (mkF O) ∧ (∀ x v, (x, v) ∈ L → mkF O x = some v) ∧ (L.map Prod.fst).Nodup ∧
    wr.ownsRow w2.heap.size 63 3 uo L.length (mkC L) ∧ Below w.heap.size w wr ∧ w2.heap.size ≤ wr.heap.size) (fun _ wr => wr.rangeLeft w.heap.size w1.heap.size)
  case atStart => exact ⟨_, _, [], HRG.out, HLF.out, HM2.out, (fun x v h => by cases h), by simp, HROW.out, HB2.out, Nat.le_refl _⟩
  case round =>
    clear HRG HM2 HB2 HROW HLF
    obtain ⟨left, cnt, L, hrg, hlf, hm, hin, hnd, hown, hb, hw2⟩ := hrel
    have hLO : L.length ≤ 1000 := Nat.le_trans (nd_len_le ((List.pairwise_map.1 hnd).imp fun h e => h (congrArg Prod.fst e)) (fun x hx => (mkF_iff HNO.out).1 (hin x.1 x.2 hx))) HAL.out
    have HRG := hid hrg
    have HLF := hid hlf
    have HM := hid hm
    have HIN := hid hin
    have HND := hid hnd
    have HOWN := hid hown
    have HB := hid hb
    obtain ⟨ua, uc, rfl⟩ := owns_slice hown
    clear hrg hlf hm hin hnd hown hb
    go_wp2_with (first
      | (rw [HX.out])
      | (at_next; refine wpList_next_names _ rfl _ rfl 136 9 139 (string_keyed Tryz.underlying9) Tryz.underlying9 Tryz.underlying136 zero_auth w.heap.size w1.heap.size n D left cnt (L.map Prod.fst) rfl HRG.out HM.out HLF.out ?_ ?_; rotate_left; intro x y w7 left7 cnt7 hFx hxV hxs hrg7 hlf7 hM7 hlt7 hg7 hs7 hen; obtain ⟨f, g⟩ := y; simp only [evA] at hen ⊢; have hz7 : w2.heap.size ≤ w7.heap.size := Nat.le_trans hw2 (Nat.le_of_eq hs7.symm); clear hs7; have HRG7 := hid hrg7; have HLF7 := hid hlf7; have HM7 := hid hM7; have HFX := hid hFx; have HXV := hid hxV; have HB7 := hid (HB.out.grown hg7 HB.out.size (fun q hq => by cases hq; exact HB1.out.size)); have HO7 := hid (owns_grown HOWN.out hg7 (fun q hq => by cases hq; exact hw12)); have HCNT := hid hlt7; clear hrg7 hlf7 hM7 hFx hxV hg7 hlt7; obtain ⟨X, hX⟩ : ∃ X, w7.alloc (.cells #[.string f, .string g] 139) = X := ⟨_, rfl⟩; have x0 : X.cell? ⟨w7.heap.size, 0, none⟩ = some (.string f) := (by rw [← hX, World.cell?_alloc_new]; rfl); have x1 : X.cell? ⟨w7.heap.size, 1, none⟩ = some (.string g) := (by rw [← hX, World.cell?_alloc_new]; rfl); have hbX : Below w7.heap.size w7 X := hX ▸ (Below.refl _ _).alloc (Nat.le_refl _) _; have HBX := hid hbX; have hzX : w2.heap.size ≤ X.heap.size := Nat.le_trans hz7 hbX.size; have HX := hid hX; have HROW := hid (row_one_mk X (.string x) (.string f) (.string g) 63); have hownA := (owns_below HO7.out hbX).alloc (.cells #[.string x, .string f, .string g] 63); clear hX hbX; rotate_left; intro hdone)
      | (at_builtin; (refine wpList_append_lie rfl _ _ 59 rfl w2.heap.size 63 el_mark Tryz.underlying59 rfl (by decide) _ L.length (mkC L) rfl hownA _ 1 (encM (x, f, g)) rfl HROW.out (fun u hu => by simp [encM] at hu; rcases hu with rfl | rfl | rfl <;> rfl) (by omega) (by omega) (by omega) (by simp; omega) _ rfl ?_; intro g8 cap8 w8 hown8 hgrow8 hat8 hlt8)))
    · refine (sort_mks w2.heap.size _ L wr hLO HOWN.out hw2).mono ?_
      rintro e w9 ⟨L', rfl, ho9, hlen9, hp9, hs9, hb9⟩
      have HE := hid (marks_eq HNO.out HND.out HIN.out hdone hp9 hs9)
      have HO9 := hid ho9
      have HB9 := hid (HB.out.trans (hb9.mono (Nat.le_trans (Nat.le_of_lt hbm) (Nat.le_of_lt hw12))))
      have HL9 := hid hlen9
      clear ho9 hlen9 hp9 hs9 hb9 hdone
      go_wp2
      go_ret
      refine ⟨_, rfl, ?_, HB9.out⟩
      rw [← HE.out]
      have h := RowK.of_owns HO9.out (by omega)
      unfold MksAt
      rw [HL9.out]
      exact h
    · have hne1 : some w.heap.size ≠ (Value.slice ua L.length uc).ownBlock := fun e => by have := (HOWN.out.lt _ e.symm).1; omega
      have hne2 : some w1.heap.size ≠ (Value.slice ua L.length uc).ownBlock := fun e => by have := (HOWN.out.lt _ e.symm).1; omega
      have hr1 := HRG7.out.alloc (.cells #[.string f, .string g] 139)
      have hm1 := HM7.out.alloc (.cells #[.string f, .string g] 139)
      rw [HX.out] at hr1 hm1
      have hr2 := (hr1.alloc (.cells #[.string x, .string f, .string g] 63)).kept hgrow8 hne1 hne2
      have hm2 := (hm1.alloc (.cells #[.string x, .string f, .string g] 63)).kept hgrow8 hne1
      have hbA : Below X.heap.size X (X.alloc (.cells #[.string x, .string f, .string g] 63)) := (Below.refl _ _).alloc (Nat.le_refl _) _
      have hb8 := ((HB7.out.trans (HBX.out.mono HB7.out.size)).trans (hbA.mono (HB7.out.trans (HBX.out.mono HB7.out.size)).size)).grown hgrow8 (Nat.le_trans (HB7.out.trans (HBX.out.mono HB7.out.size)).size hbA.size) (fun q hq => by have := (HOWN.out.lt _ hq).1; omega)
      refine ⟨⟨left7, cnt7, L ++ [(x, f, g)], hr2, by simpa using HLF7.out, hm2, fun x' v hv => ?_, ?_, ?_, hb8, Nat.le_trans (Nat.le_trans hzX hbA.size) hgrow8.size⟩, ?_⟩
      · rcases List.mem_append.1 hv with hv | hv
        · exact HIN.out _ _ hv
        · simp at hv
          obtain ⟨rfl, rfl⟩ := hv
          exact HFX.out
      · rw [List.map_append, List.nodup_append]
        refine ⟨HND.out, by simp, fun a ha b hb e => ?_⟩
        simp at hb
        subst hb e
        exact HXV.out ha
      · rw [mkC_snoc]; simpa using hown8
      · rw [hr2.left_eq, HRG.out.left_eq]; exact HCNT.out
theorem blameL_1 {s : Sg} {cs : List Chg} (h : lstL s cs ≠ 0) : blameL s cs = ([], lstL s cs) := by unfold blameL; rw [if_neg h]
theorem blameL_2 {s : Sg} {cs : List Chg} (h : lstL s cs = 0) (h2 : (playL [] cs 0).2.2 ≠ 0) : blameL s cs = ([], (playL [] cs 0).2.2) := by unfold blameL; rw [if_pos h, if_neg h2]
theorem blameL_3 {s : Sg} {cs : List Chg} (h : lstL s cs = 0) (h2 : (playL [] cs 0).2.2 = 0) : blameL s cs = (srMk (mkAll cs), 0) := by unfold blameL; rw [if_pos h, if_pos h2]
/-- the edition that changes make, or the error. -/
def wholeL (s : Sg) (cs : List Chg) : List En × Int := if lstL s cs = 0 then ((playL [] cs 0).1, (playL [] cs 0).2.2) else ([], lstL s cs)
theorem blame_whole (vs vc : Value) (s : Sg) (cs : List Chg) (w : World) (hs : SignAt w vs s) (hc : ChsAt w vc cs) (hs1 : s.length ≤ 1000) :
    Calls Tryz.prog 90 #[vs, vc] w fun e w' => ∃ u, e = .returned (.tuple #[u, .int .i64 (wholeL s cs).2]) ∧ EntsAt w' u (wholeL s cs).1 ∧ Below w.heap.size w w' := by
  have HL := hid (blame_listed vs vc s cs w hs hc hs1)
  have HC := hid hc
  obtain ⟨ca, cc, rfl, -⟩ := hc.open
  clear hc hs
  by_cases h2 : lstL s cs = 0
  · have HF : Hid (wholeL s cs = ((playL [] cs 0).1, (playL [] cs 0).2.2)) := hid (by unfold wholeL; rw [if_pos h2])
    have HP := hid (fun (X : World) (hX : Below w.heap.size w X) => blame_played (.slice none 0 0) _ s [] cs X (EntsAt.nil _) (HC.out.below hX) (edB_nil (lstL_ok.1 h2).1) (lstL_ok.1 h2).2.1)
    rw [h2] at HL
    clear h2
    go_enter Tryz.func90, Tryz.ntmps90
    go_wp2_with fail
    refine HL.out.mono ?_
    rintro e w1 ⟨rfl, hb1⟩
    have HP1 := hid (HP.out w1 hb1)
    go_wp2_with fail
    refine HP1.out.mono ?_
    rintro e w2 ⟨u, rfl, hu, hb2⟩
    have HU := hid hu
    have HB2 := hid (hb1.trans (hb2.mono hb1.size))
    obtain ⟨ra, rc, rfl, -⟩ := hu.open
    clear hu hb1 hb2
    go_wp2
    go_ret2
    exact ⟨_, by rw [HF.out]; rfl, by rw [HF.out]; exact HU.out, HB2.out⟩
  · have HF : Hid (wholeL s cs = ([], lstL s cs)) := hid (by unfold wholeL; rw [if_neg h2])
    have n2 : (lstL s cs != 0) = true := by simpa using h2
    obtain ⟨er, her⟩ : ∃ er, lstL s cs = er := ⟨_, rfl⟩
    rw [her] at HF n2 HL
    clear h2 her
    go_enter Tryz.func90, Tryz.ntmps90
    go_wp2_with fail
    refine HL.out.mono ?_
    rintro e w1 ⟨rfl, hb1⟩
    go_wp2
    go_ret2
    exact ⟨_, by rw [HF.out]; rfl, by rw [HF.out]; exact EntsAt.nil _, hb1⟩
theorem blame_Blame (vs vc : Value) (s : Sg) (cs : List Chg) (w : World) (hs : SignAt w vs s) (hc : ChsAt w vc cs) (hs1 : s.length ≤ 1000) :
    Calls Tryz.prog 37 #[vs, vc] w fun e w' => ∃ u, e = .returned (.tuple #[u, .int .i64 (blameL s cs).2]) ∧ MksAt w' u (blameL s cs).1 ∧ Below w.heap.size w w' := by
  have HW := hid (blame_whole vs vc s cs w hs hc hs1)
  have HC := hid hc
  obtain ⟨ca, cc, rfl, -⟩ := hc.open
  clear hc hs
  by_cases h : (wholeL s cs).2 = 0
  · have h3 : lstL s cs = 0 ∧ (playL [] cs 0).2.2 = 0 := by
      unfold wholeL at h
      split at h
      · rename_i h1; exact ⟨h1, h⟩
      · rename_i h1; exact absurd h h1
    have HF := hid (blameL_3 h3.1 h3.2)
    have HM := hid (fun (X : World) (hX : Below w.heap.size w X) => blame_marks _ s cs X (HC.out.below hX) (lstL_ok.1 h3.1).1 (lstL_ok.1 h3.1).2.1 h3.2 (by have := (lstL_ok.1 h3.1).2.2; omega))
    rw [h] at HW
    clear h h3
    go_enter Tryz.func37, Tryz.ntmps37
    go_wp2_with fail
    refine HW.out.mono ?_
    rintro e w1 ⟨u, rfl, -, hb1⟩
    have HM1 := hid (HM.out w1 hb1)
    have HB1 := hid hb1
    clear hb1
    go_wp2_with fail
    refine HM1.out.mono ?_
    rintro e w2 ⟨u2, rfl, hu2, hb2⟩
    have HU := hid hu2
    have HB2 := hid (HB1.out.trans (hb2.mono HB1.out.size))
    obtain ⟨ra, rc, rfl, -⟩ := hu2.open
    clear hu2 hb2
    go_wp2
    go_ret2
    exact ⟨_, by rw [HF.out]; rfl, by rw [HF.out]; exact HU.out, HB2.out⟩
  · have HF : Hid (blameL s cs = ([], (wholeL s cs).2)) := hid (by
      unfold wholeL at h ⊢
      split
      · rename_i h1; rw [if_pos h1] at h; exact blameL_2 h1 h
      · rename_i h1; exact blameL_1 h1)
    have n2 : ((wholeL s cs).2 != 0) = true := by simpa using h
    obtain ⟨er, her⟩ : ∃ er, (wholeL s cs).2 = er := ⟨_, rfl⟩
    rw [her] at HF n2 HW
    clear h her
    go_enter Tryz.func37, Tryz.ntmps37
    go_wp2_with fail
    refine HW.out.mono ?_
    rintro e w1 ⟨u, rfl, -, hb1⟩
    go_wp2
    go_ret2
    exact ⟨_, by rw [HF.out]; rfl, by rw [HF.out]; exact MksAt.nil _, hb1⟩
end Go.Proofs.YtlbjbmpkaniojaaGreat
namespace Go.Proofs.YtlbjbmpkaniojaaGreat
open Go Go.RowKit Go.Maps
/-- a chain of editions with the changes that undo them: ok says that each can be undone. -/
structure UnCh (s : Sg) (l : List En) (Ls : List (List En)) (us : List Chg) (ok : Bool) : Prop where
  len : Ls.length = us.length + 1
  fst : Ls.head? = some l
  ed : ∀ L ∈ Ls, edB s L = true
  un : ok = true → ∀ j (h : j < us.length) (h1 : j < Ls.length) (h2 : j + 1 < Ls.length), madeL s Ls[j + 1] us[j] = (Ls[j], 0)
theorem made_ed {s : Sg} {l : List En} {c : Chg} (h : (madeL s l c).2 = 0) : edB s l = true ∧ chgB s c = true ∧ edB s (madeL s l c).1 = true := by
  unfold madeL at h ⊢
  cases h1 : edB s l && chgB s c with
  | false => rw [h1] at h; simp at h
  | true =>
    rw [h1] at h
    simp only [if_true] at h ⊢
    rw [Bool.and_eq_true] at h1
    exact ⟨h1.1, h1.2, doL_ed h1.1 h1.2 (Prod.ext rfl h)⟩
theorem undo_made {s : Sg} {l : List En} {c : Chg} (h : (madeL s l c).2 = 0) (hu : (undoL s l c).2 = 0) : madeL s (madeL s l c).1 (undoL s l c).1 = (l, 0) := by
  obtain ⟨h1, h2, h3⟩ := made_ed h
  have hd : doL l c = ((madeL s l c).1, 0) := by rw [← madeL_yes h1 h2]; exact Prod.ext rfl h
  obtain ⟨k1, k2⟩ := undo_back h1 h2 hd (u := (undoL s l c).1) (Prod.ext rfl hu)
  rw [madeL_yes h3 k1, k2]
theorem UnCh.step {s : Sg} {l : List En} {Ls : List (List En)} {us : List Chg} {ok : Bool} (h : UnCh s l Ls us ok) {L : List En} (hL : Ls[us.length]? = some L) {c : Chg} (hm : (madeL s L c).2 = 0) {e : Int} (he : (undoL s L c).2 = e) :
    UnCh s l (Ls ++ [(madeL s L c).1]) (us ++ [(undoL s L c).1]) (ok && decide (e = 0)) := by
  refine ⟨by simp [h.len], ?_, fun K hK => ?_, fun hok j hj h1 h2 => ?_⟩
  · have := h.fst
    cases Ls with
    | nil => cases this
    | cons a t => simpa using this
  · rcases List.mem_append.1 hK with hK | hK
    · exact h.ed K hK
    · simp at hK; subst hK; exact (made_ed hm).2.2
  · rw [Bool.and_eq_true, decide_eq_true_eq] at hok
    have hlen := h.len
    by_cases hlt : j < us.length
    · have := h.un hok.1 j hlt (by omega) (by omega)
      rw [List.getElem_append_left (by omega), List.getElem_append_left (by omega), List.getElem_append_left (by omega)]
      exact this
    · have e : j = us.length := by simp at hj; omega
      subst e
      obtain ⟨q1, q2⟩ := List.getElem?_eq_some_iff.1 hL
      have e1 : (Ls ++ [(madeL s L c).1])[us.length] = L := by rw [List.getElem_append_left q1]; exact q2
      have e2 : (Ls ++ [(madeL s L c).1])[us.length + 1] = (madeL s L c).1 := by rw [List.getElem_append_right (by omega)]; simp [hlen]
      have e3 : (us ++ [(undoL s L c).1])[us.length] = (undoL s L c).1 := by simp
      rw [e1, e2, e3]
      exact undo_made hm (he.trans hok.2)
theorem UnCh.last {s : Sg} {l : List En} {Ls : List (List En)} {us : List Chg} {ok : Bool} (h : UnCh s l Ls us ok) : ∃ L, Ls[us.length]? = some L ∧ edB s L = true ∧ L.length ≤ 60 := by
  have := h.len
  refine ⟨Ls[us.length], List.getElem?_eq_getElem (by omega), h.ed _ (List.getElem_mem _), ?_⟩
  exact (edB_iff.1 (h.ed _ (List.getElem_mem (by omega)))).1.len
/-- a list of editions and a list of changes, each row the call's own; what they hold stays while none but the two rows is turned. -/
structure TuS (w : World) (base : Nat) (ue : Value) (vs : List Value) (Ls : List (List En)) (uu : Value) (ws : List V3) (cs : List Chg) : Prop where
  te : w.ownsRow base 24 1 ue Ls.length vs
  tu : w.ownsRow base 43 9 uu cs.length (chsC cs ws)
  le : vs.length = Ls.length
  lu : ws.length = cs.length
  rd : ∀ W' : World, (∀ q, q < w.heap.size → some q ≠ ue.ownBlock → some q ≠ uu.ownBlock → W'.heap[q]? = w.heap[q]?) → (∀ (j : Nat) (h : j < Ls.length) (h' : j < vs.length), EntsAt W' vs[j] Ls[j]) ∧ ∀ (j : Nat) (h : j < cs.length) (h' : j < ws.length), ChgAt W' ws[j].1 ws[j].2.1 ws[j].2.2 cs[j]
theorem TuS.below {w w' : World} {base : Nat} {ue : Value} {vs : List Value} {Ls : List (List En)} {uu : Value} {ws : List V3} {cs : List Chg} (h : TuS w base ue vs Ls uu ws cs) (hb : Below w.heap.size w w') : TuS w' base ue vs Ls uu ws cs :=
  ⟨owns_below h.te hb, owns_below h.tu hb, h.le, h.lu, fun W' hW => h.rd W' fun q hq n1 n2 => (hW q (Nat.lt_of_lt_of_le hq hb.size) n1 n2).trans (hb.block q hq)⟩
theorem TuS.ents {w : World} {base : Nat} {ue : Value} {vs : List Value} {Ls : List (List En)} {uu : Value} {ws : List V3} {cs : List Chg} (h : TuS w base ue vs Ls uu ws cs) {j : Nat} (hj : j < Ls.length) (hj' : j < vs.length) : EntsAt w vs[j] Ls[j] := (h.rd w fun _ _ _ _ => rfl).1 j hj hj'
theorem EntsAt.heap {w W' : World} {v : Value} {l : List En} (h : EntsAt w v l) (hs : ∀ q, q < w.heap.size → W'.heap[q]? = w.heap[q]?) : EntsAt W' v l := by
  obtain ⟨vs, h1, h2, h3⟩ := h
  exact ⟨vs, rowK_block h1 fun q _ hq => hs q hq, h2, fun j a b => (h3 j a b).blocks fun q _ hq => hs q hq⟩
theorem TuS.ne {w : World} {base : Nat} {ue : Value} {vs : List Value} {Ls : List (List En)} {uu : Value} {ws : List V3} {cs : List Chg} (h : TuS w base ue vs Ls uu ws cs) {q : Nat} (hq : ue.ownBlock = some q) : some q ≠ uu.ownBlock := fun e => owns_ne h.te h.tu (by decide) hq e.symm
end Go.Proofs.YtlbjbmpkaniojaaGreat
