/-
  WHAT IT HOLDS: contract of authors of package blame: what its map sends the names to. Conditions: the changes read as data and can all be played from the empty edition.
-/
import Derived.Laws.StructEq
import Derived.Test.YtlbjbmpkaniojaaGreatZRBlameMakes39
import Derived.Test.YtlbjbmpkaniojaaGreatZRBlameMakes41
import Derived.Test.YtlbjbmpkaniojaaGreatZRBlameMakes23
import Derived.Test.YtlbjbmpkaniojaaGreatZRBlameMakes35
namespace Go.Proofs.YtlbjbmpkaniojaaGreat
open Go Go.RowKit Go.Maps
def evA (p : Nm × Nm) : Value := .agg #[.string p.1, .string p.2]
abbrev AMap (w : World) (b n : Nat) (m : Nm → Option (Nm × Nm)) : Prop := MapK Tryz.prog 9 Value.string evA w b n m
theorem zero_auth (w : World) : (zeroValue 139).run Tryz.prog w = .ok (evA (em, em)) w := by kernel_rfl
theorem run_fldA (f g : Nm) (w : World) : (Instr.field 139 (.agg #[.string f, .string g]) 0).run Tryz.prog w = .ok (.string f) w := by kernel_rfl
set_option maxHeartbeats 8000000 in
set_option maxRecDepth 100000 in
theorem blame_authors (vc : Value) (s : Sg) (cs : List Chg) (w : World) (hc : ChsAt w vc cs) (hs : signB s = true) (hcs : ∀ c ∈ cs, chgB s c = true) (hp : (playL [] cs 0).2.2 = 0) :
    Calls Tryz.prog 135 #[vc] w fun e w' => e = .returned (.map (some w.heap.size)) ∧ (∃ n, n ≤ cs.length ∧ AMap w' w.heap.size n (mkF (mkAll cs))) ∧ Below w.heap.size w w' := by
  obtain ⟨ca, cc, rfl, -, hcl, -, ZC⟩ := hc.open
  have HCC := hid ZC
  have HIV := hid (fun k hk => mk_inv hs hcs hp k hk)
  have HED := hid (fun k hk => st_ed hs hcs hp k hk)
  have HPL := hid ((play_all cs [] 0 hp).1)
  have HCS := hid hcs
  have HM0 := hid (MapK.made Tryz.prog 9 Value.string evA w)
  have HB0 : Hid (Below w.heap.size w (w.alloc (.map #[] 0))) := hid ((Below.refl _ _).alloc (Nat.le_refl _) _)
  have hmm := @run_makeMap Tryz.prog
  clear ZC hc hs hcs hp
  go_enter Tryz.func135, Tryz.ntmps135
  go_wp2
  clear hmm
  go_loopw [11] (fun kv wr => ∃ k n : Nat, k ≤ cs.length ∧ n ≤ k ∧ kv = .int .i64 k ∧ AMap wr w.heap.size n (mkF (mkAll (cs.take k))) ∧ Below w.heap.size w wr) (fun kv _ => cs.length - (intOf kv).toNat)
  case atStart => exact ⟨0, 0, by omega, by omega, rfl, HM0.out, HB0.out⟩
  case round =>
    clear HM0 HB0
    obtain ⟨k, n, hk, hnk, rfl, hM, hb⟩ := hrel
    have hsz := hb.size
    by_cases hlt : k < cs.length
    · obtain ⟨b, o, vS, vU, vP, rfl, z0, z1, z2, z3, z4, z5, z6, z7, z8, hce⟩ := HCC.out k hlt
      replace z0 := (hb.cell (World.block_lt_of_cell? _ _ z0)).trans z0
      replace z1 := (hb.cell (World.block_lt_of_cell? _ _ z1)).trans z1
      replace z2 := (hb.cell (World.block_lt_of_cell? _ _ z2)).trans z2
      replace z3 := (hb.cell (World.block_lt_of_cell? _ _ z3)).trans z3
      replace z4 := (hb.cell (World.block_lt_of_cell? _ _ z4)).trans z4
      replace z5 := (hb.cell (World.block_lt_of_cell? _ _ z5)).trans z5
      replace z6 := (hb.cell (World.block_lt_of_cell? _ _ z6)).trans z6
      replace z7 := (hb.cell (World.block_lt_of_cell? _ _ z7)).trans z7
      replace z8 := (hb.cell (World.block_lt_of_cell? _ _ z8)).trans z8
      obtain ⟨hl, ha⟩ := edB_iff.1 (HED.out k (by omega))
      have hch := chgB_iff.1 (HCS.out _ (List.getElem_mem hlt))
      have hok := (okC_iff hl hch).1 (HPL.out k hlt)
      have hinv := HIV.out k (by omega)
      have hinv1 := HIV.out (k + 1) (by omega)
      have hstep := mkAll_take hlt
      rw [hstep] at hinv1
      obtain ⟨sa, sk, rfl, -⟩ := hce.e.s.open
      obtain ⟨ta, tk, rfl, -⟩ := hce.e.u.open
      obtain ⟨pa, pk, rfl, -⟩ := hce.e.p.open
      obtain ⟨c, hcx⟩ : ∃ c, cs[k] = c := ⟨_, rfl⟩
      rw [hcx] at z0 z1 z2 z3 z4 z5 z6 z7 z8 hce hch hok hinv1 hstep
      obtain ⟨OL, hOL⟩ : ∃ OL, mkAll (cs.take k) = OL := ⟨_, rfl⟩
      obtain ⟨EL, hEL⟩ : ∃ EL, stL [] (cs.take k) = EL := ⟨_, rfl⟩
      rw [hOL] at hinv hinv1 hstep hM
      rw [hEL] at hinv hok hl
      have HN1 := hid (str_key hce.e.n1)
      have HN2 := hid (str_key hce.n2)
      have HN3 := hid (str_key hce.n3)
      have HCK := hid hch
      have HST := hid hstep
      have HND := hid hinv1.nd
      have HNO := hid hinv.nd
      have HEQ := hid hinv.eq
      have HOKC := hid hok
      have hcb := CB.new wr c (.slice sa c.ent.says.length sk) (.slice ta c.ent.uses.length tk) (.slice pa c.ent.proof.length pk) 43
      obtain ⟨W, hW⟩ : ∃ W, wr.alloc (.cells #[.int .i64 c.kind, .string c.who, .string c.name, .string c.new, .string c.ent.name, .string c.ent.who, .slice sa c.ent.says.length sk, .slice ta c.ent.uses.length tk, .slice pa c.ent.proof.length pk] 43) = W := ⟨_, rfl⟩
      rw [hW] at hcb
      have hbW : Below wr.heap.size wr W := hW ▸ (Below.refl _ _).alloc (Nat.le_refl _) _
      have HBW := hid (hb.trans (hbW.mono hsz))
      have HM := hid (hM.belowS hbW)
      have hkk := hch.kinds
      obtain ⟨kd, hkd⟩ : ∃ kd, c.kind = kd := ⟨_, rfl⟩
      have HKD := hid hkd
      rw [hkd] at z0 hkk
      obtain ⟨g0, g1, g2, g3, g4, g5, g6, g7, g8⟩ := hcb
      rw [hkd] at g0 hW
      have HHW := hid hW
      have y0 : (k : Int) < (cs.length : Int) := by omega
      clear hW hbW hM hb hce hch hok hinv hinv1 hstep hcx hOL hEL hl ha hkd
      rcases hkk with rfl | rfl | rfl | rfl
      · have hno : ∀ v, (c.ent.name, v) ∉ OL := fun v hv => by
          obtain ⟨x, hx, e⟩ := (HEQ.out c.ent.name).1 ⟨v, hv⟩
          cases HOKC.out with
          | add hk' h1 h2 => exact h1 x hx e
          | set hk' => have := HKD.out; omega
          | ren hk' => have := HKD.out; omega
          | drop hk' => have := HKD.out; omega
        have HF := hid (mkF_add HKD.out HND.out HNO.out hno)
        clear hno
        go_wp2_with (first | rw [HHW.out] | (at_mapUpdate; refine wpList_update_mapK rfl _ _ _ 136 rfl (string_keyed Tryz.underlying9) ek_string_inj Tryz.underlying136 rfl HM.out c.ent.name (c.who, c.who) rfl rfl HN1.out ?_; intro w2 hm2 hg2))
        go_roundw
        case rel =>
          rw [HF.out] at hm2
          exact ⟨k + 1, (if (mkF OL c.ent.name).isSome then n else n + 1), by omega, by split <;> omega, by go_num, by rw [HST.out]; exact hm2, HBW.out.grown hg2 HBW.out.size (fun q hq => by cases hq; exact Nat.le_refl _)⟩
        case measure => simp [intOf]; omega
      · obtain ⟨f, g, hin⟩ : ∃ f g, mkF OL c.ent.name = some (f, g) := by
          cases HOKC.out with
          | set hk' h1 h2 =>
            obtain ⟨⟨f, g⟩, hv⟩ := (HEQ.out c.ent.name).2 h1
            exact ⟨f, g, (mkF_iff HNO.out).2 hv⟩
          | add hk' => have := HKD.out; omega
          | ren hk' => have := HKD.out; omega
          | drop hk' => have := HKD.out; omega
        have HF := hid (mkF_set HKD.out HND.out HNO.out hin)
        have HIN := hid hin
        obtain ⟨X, hX⟩ : ∃ X, W.alloc (.cells #[.string f, .string c.who] 139) = X := ⟨_, rfl⟩
        have x0 : X.cell? ⟨W.heap.size, 0, none⟩ = some (.string f) := by rw [← hX, World.cell?_alloc_new]; rfl
        have x1 : X.cell? ⟨W.heap.size, 1, none⟩ = some (.string c.who) := by rw [← hX, World.cell?_alloc_new]; rfl
        have HMX : Hid (AMap X w.heap.size n (mkF OL)) := hid (hX ▸ HM.out.alloc _)
        have hbX : Below W.heap.size W X := hX ▸ (Below.refl _ _).alloc (Nat.le_refl _) _
        have HBX := hid (HBW.out.trans (hbX.mono HBW.out.size))
        have HX := hid hX
        clear hX hbX hin
        have hfd := fun X => run_fldA f g X
        by_cases hgw : g = c.who
        · have q0 : (g.toList == c.who.toList) = true := by rw [bytes_eq]; simpa using hgw
          have HSM : Hid (mkF OL = mkF (mkStep OL c)) := hid (by
            rw [← HF.out]; funext y
            by_cases e : y = c.ent.name
            · rw [if_pos e, e, HIN.out, hgw]
            · rw [if_neg e])
          clear hgw
          go_wp2_with (first | rw [HHW.out] | rw [HX.out] | (at_lookup; refine wpList_lookup_mapK rfl _ _ 136 false rfl (string_keyed Tryz.underlying9) ek_string_inj Tryz.underlying136 (zero_auth _) rfl HM.out c.ent.name rfl HN1.out (.agg #[.string f, .string g]) (by rw [HIN.out]; rfl) ?_) | (at_lookup; refine wpList_lookup_mapK rfl _ _ 136 false rfl (string_keyed Tryz.underlying9) ek_string_inj Tryz.underlying136 (zero_auth _) rfl HMX.out c.ent.name rfl HN1.out (.agg #[.string f, .string g]) (by rw [HIN.out]; rfl) ?_))
          go_roundw
          case rel => exact ⟨k + 1, n, by omega, by omega, by go_num, by rw [HST.out, ← HSM.out]; exact HMX.out, HBX.out⟩
          case measure => simp [intOf]; omega
        · have q0 : (g.toList == c.who.toList) = false := by rw [bytes_eq]; simpa using hgw
          clear hgw
          go_wp2_with (first | rw [HHW.out] | rw [HX.out] | (at_lookup; refine wpList_lookup_mapK rfl _ _ 136 false rfl (string_keyed Tryz.underlying9) ek_string_inj Tryz.underlying136 (zero_auth _) rfl HM.out c.ent.name rfl HN1.out (.agg #[.string f, .string g]) (by rw [HIN.out]; rfl) ?_) | (at_lookup; refine wpList_lookup_mapK rfl _ _ 136 false rfl (string_keyed Tryz.underlying9) ek_string_inj Tryz.underlying136 (zero_auth _) rfl HMX.out c.ent.name rfl HN1.out (.agg #[.string f, .string g]) (by rw [HIN.out]; rfl) ?_) | (at_mapUpdate; refine wpList_update_mapK rfl _ _ _ 136 rfl (string_keyed Tryz.underlying9) ek_string_inj Tryz.underlying136 rfl HMX.out c.ent.name (f, c.who) rfl rfl HN1.out ?_; intro w2 hm2 hg2))
          go_roundw
          case rel =>
            rw [HF.out] at hm2
            exact ⟨k + 1, (if (mkF OL c.ent.name).isSome then n else n + 1), by omega, by split <;> omega, by go_num, by rw [HST.out]; exact hm2, HBX.out.grown hg2 HBX.out.size (fun q hq => by cases hq; exact Nat.le_refl _)⟩
          case measure => simp [intOf]; omega
      · have h3 : (∃ f g, mkF OL c.name = some (f, g)) ∧ ∀ v, (c.new, v) ∉ OL := by
          cases HOKC.out with
          | ren hk' h1 h2 h3 =>
            obtain ⟨⟨f, g⟩, hv⟩ := (HEQ.out c.name).2 h1
            refine ⟨⟨f, g, (mkF_iff HNO.out).2 hv⟩, fun v hv => ?_⟩
            obtain ⟨x, hx, e⟩ := (HEQ.out c.new).1 ⟨v, hv⟩
            exact h2 x hx e
          | add hk' => have := HKD.out; omega
          | set hk' => have := HKD.out; omega
          | drop hk' => have := HKD.out; omega
        obtain ⟨⟨f, g, hin⟩, hnew⟩ := h3
        have hne : c.name ≠ c.new := by
          cases HCK.out with
          | ren h0 h1 hk h2 h3 h4 h5 => exact h4
          | put h0 h1 hk => have := HKD.out; omega
          | drop h0 h1 hk => have := HKD.out; omega
        have HF := hid (mkF_ren HKD.out HND.out HNO.out hin hne hnew)
        have HIN := hid hin
        clear hin hnew hne
        go_wp2_with (first | rw [HHW.out] | (at_lookup; refine wpList_lookup_mapK rfl _ _ 136 false rfl (string_keyed Tryz.underlying9) ek_string_inj Tryz.underlying136 (zero_auth _) rfl HM.out c.name rfl HN2.out (.agg #[.string f, .string g]) (by rw [HIN.out]; rfl) ?_) | (at_mapUpdate; refine wpList_update_mapK rfl _ _ _ 136 rfl (string_keyed Tryz.underlying9) ek_string_inj Tryz.underlying136 rfl HM.out c.new (f, g) rfl rfl HN3.out ?_; intro w2 hm2 hg2; have HM2 := hid hm2; have HG2 := hid hg2; have g0 := HM.out.cell rfl hg2 g0; have g2 := HM.out.cell rfl hg2 g2) | (at_delete; refine wpList_delete_mapK rfl _ _ 136 9 rfl (string_keyed Tryz.underlying9) ek_string_inj Tryz.underlying136 rfl HM2.out c.name rfl HN2.out ?_; intro w3 n3 hm3 hg3 hn3))
        go_roundw
        case rel =>
          rw [HF.out] at hm3
          have hb2 := HBW.out.grown HG2.out HBW.out.size (fun q hq => by cases hq; exact Nat.le_refl _)
          exact ⟨k + 1, n3, by omega, by split at hn3 <;> omega, by go_num, by rw [HST.out]; exact hm3, hb2.grown hg3 hb2.size (fun q hq => by cases hq; exact Nat.le_refl _)⟩
        case measure => simp [intOf]; omega
      · have HF := hid (mkF_drop HKD.out HND.out HNO.out)
        go_wp2_with (first | rw [HHW.out] | (at_delete; refine wpList_delete_mapK rfl _ _ 136 9 rfl (string_keyed Tryz.underlying9) ek_string_inj Tryz.underlying136 rfl HM.out c.name rfl HN2.out ?_; intro w2 n2 hm2 hg2 hn2))
        go_roundw
        case rel =>
          rw [HF.out] at hm2
          exact ⟨k + 1, n2, by omega, by omega, by go_num, by rw [HST.out]; exact hm2, HBW.out.grown hg2 HBW.out.size (fun q hq => by cases hq; exact Nat.le_refl _)⟩
        case measure => simp [intOf]; omega
    · have hkl : k = cs.length := by omega
      subst hkl
      rw [List.take_of_length_le (Nat.le_refl _)] at hM
      have HM := hid hM
      clear hM
      go_wp2
      go_ret
      exact ⟨rfl, ⟨n, hnk, HM.out⟩, hb⟩
end Go.Proofs.YtlbjbmpkaniojaaGreat
