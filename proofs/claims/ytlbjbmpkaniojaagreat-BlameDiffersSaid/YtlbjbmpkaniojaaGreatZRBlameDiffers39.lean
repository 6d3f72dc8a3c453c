/-
  WHAT IT HOLDS: the contract of Difference of package blame. Conditions: the arguments read as data; small signs, small libraries.
-/
import Derived.Deep.RegionHeld3
import Derived.Test.YtlbjbmpkaniojaaGreatZRBlameDiffers38
namespace Go.Proofs.YtlbjbmpkaniojaaGreat
open Go Go.RowKit Go.Maps
theorem diffL_no {s : Sg} {a b : List En} {who : Nm} (h : edB s a = false ∨ edB s b = false ∨ nmB who = false) : diffL s a b who = ([], 1) := by
  unfold diffL
  rw [if_neg]
  rw [Bool.and_eq_true, Bool.and_eq_true]
  rintro ⟨h1, h2, h3⟩
  rcases h with h | h | h
  · rw [h1] at h; cases h
  · rw [h2] at h; cases h
  · rw [h3] at h; cases h
theorem diffL_yes {s : Sg} {a b : List En} {who : Nm} (h1 : edB s a = true) (h2 : edB s b = true) (h3 : nmB who = true) : diffL s a b who = match dropsL a.length (now0 a b) b with
    | none => ([], 10)
    | some ds => (((b.filter (difB a)).map (setC who) ++ ds.map (dropC who)) ++ (b.filter (gonB a)).map (addCh who), 0) := by
  unfold diffL
  rw [h1, h2, h3, if_pos (by rfl)]
  rfl
theorem now0_len (a b : List En) : (now0 a b).length = a.length := by
  have := congrArg List.length (fold_names b a)
  simpa using this
theorem now0_take {a b : List En} {k : Nat} (h : k < b.length) : now0 a (b.take (k + 1)) = (now0 a (b.take k)).map (subE b[k]) := by
  unfold now0
  rw [List.take_succ_eq_append_getElem h, List.foldl_append]; rfl
theorem setC_take {a b : List En} {who : Nm} {k : Nat} (h : k < b.length) : ((b.take (k + 1)).filter (difB a)).map (setC who) = ((b.take k).filter (difB a)).map (setC who) ++ (if difB a b[k] then [setC who b[k]] else []) := by
  rw [List.take_succ_eq_append_getElem h, List.filter_append, List.map_append]
  congr 1
  cases hd : difB a b[k] <;> simp [hd]
theorem addC_take {a b : List En} {who : Nm} {k : Nat} (h : k < b.length) : ((b.take (k + 1)).filter (gonB a)).map (addCh who) = ((b.take k).filter (gonB a)).map (addCh who) ++ (if gonB a b[k] then [addCh who b[k]] else []) := by
  rw [List.take_succ_eq_append_getElem h, List.filter_append, List.map_append]
  congr 1
  cases hd : gonB a b[k] <;> simp [hd]
theorem nd_take {b : List En} (hn : (b.map En.name).Nodup) {k : Nat} (h : k < b.length) : b[k].name ∉ (b.take k).map En.name := by
  intro hm
  obtain ⟨y, hy, e⟩ := List.mem_map.1 hm
  obtain ⟨j, hj, rfl⟩ := List.getElem_of_mem hy
  rw [List.length_take] at hj
  rw [List.getElem_take] at e
  have := List.pairwise_iff_getElem.1 hn j k (by simp; omega) (by simpa using h) (by omega)
  exact this (by simpa using e)
/-- an entry put in at its name's place. -/
theorem sub_set {l : List En} (hn : (l.map En.name).Nodup) {i : Nat} (hi : i < l.length) {x : En} (e : l[i].name = x.name) : l.set i x = l.map (subE x) := by
  refine List.ext_getElem (by simp) fun j hj hj' => ?_
  rw [List.getElem_set, List.getElem_map]
  have hj0 : j < l.length := by simpa using hj
  unfold subE
  by_cases e1 : i = j
  · subst e1
    rw [if_pos rfl, if_pos e]
  · rw [if_neg e1, if_neg]
    intro e2
    have h1 := idxN_nd hn hi
    have h2 := idxN_nd hn hj0
    rw [e] at h1
    rw [e2, h1] at h2
    exact e1 (Option.some.inj h2)
/-- whether an entry may be dropped now. -/
def okD (now b : List En) (x : En) : Bool := gonB b x && !usedB now x.name x.name
theorem last_at {α : Type} (l : List α) (p : α → Bool) {j : Nat} (hj : j < l.length) (h : p l[j] = true) (hr : ∀ i (hi : i < l.length), j < i → p l[i] = false) : (l.filter p).getLast? = some l[j] := by
  have e : l.filter p = (l.take j).filter p ++ [l[j]] := by
    conv => lhs; rw [← List.take_append_drop j l, List.filter_append, List.drop_eq_getElem_cons hj, List.filter_cons_of_pos h]
    congr 2
    rw [List.filter_eq_nil_iff]
    intro x hx
    obtain ⟨k, hk, rfl⟩ := List.getElem_of_mem hx
    rw [List.getElem_drop]
    rw [List.length_drop] at hk
    rw [hr _ (by omega) (by omega)]; simp
  rw [e]; simp
theorem lastD_at {now b : List En} {j : Nat} (hj : j < now.length) (h : okD now b now[j] = true) (hr : ∀ i (hi : i < now.length), j < i → okD now b now[i] = false) : lastD now b = some now[j] :=
  last_at now (okD now b) hj h hr
theorem lastD_no {now b : List En} (h : ∀ i (hi : i < now.length), okD now b now[i] = false) : lastD now b = none := by
  unfold lastD
  rw [List.getLast?_eq_none_iff, List.filter_eq_nil_iff]
  intro x hx
  obtain ⟨i, hi, rfl⟩ := List.getElem_of_mem hx
  have := h i hi
  unfold okD at this
  rw [this]; simp
theorem dropsL_stop {k : Nat} {now b : List En} (h : now.any (gonB b) = false) : dropsL k now b = some [] := by
  cases k
  · rfl
  · unfold dropsL; rw [h]; rfl
theorem dropsL_none {k : Nat} {now b : List En} (h : now.any (gonB b) = true) (hl : lastD now b = none) : dropsL (k + 1) now b = none := by
  unfold dropsL; rw [h, hl]; rfl
theorem dropsL_some {k : Nat} {now b : List En} (h : now.any (gonB b) = true) {x : En} (hl : lastD now b = some x) : dropsL (k + 1) now b = (dropsL k (now.filter fun y => decide (y.name ≠ x.name)) b).map (x.name :: ·) := by
  conv => lhs; unfold dropsL
  rw [h, hl]; rfl
theorem erase_ne {l : List En} (ha : AscE l) {j : Nat} (hj : j < l.length) : l.filter (fun y => decide (y.name ≠ l[j].name)) = l.eraseIdx j := by
  refine AscE.unique (List.Pairwise.sublist List.filter_sublist ha) (List.Pairwise.sublist (List.eraseIdx_sublist l j) ha) fun x => ?_
  rw [List.mem_filter, List.mem_eraseIdx_iff_getElem]
  constructor
  · rintro ⟨hx, hne⟩
    obtain ⟨i, hi, rfl⟩ := List.getElem_of_mem hx
    refine ⟨i, hi, fun e => ?_, rfl⟩
    subst e; simp at hne
  · rintro ⟨i, hi, hne, rfl⟩
    refine ⟨List.getElem_mem hi, ?_⟩
    rw [decide_eq_true_eq]
    intro e
    have h1 := idxN_nd ha.nd hi
    have h2 := idxN_nd ha.nd hj
    rw [e, h2] at h1
    exact hne (Option.some.inj h1).symm
theorem any_range_gon (l b : List En) : (List.range l.length).any (fun i => gonB b (l.getD i en0)) = l.any (gonB b) := by
  have e1 : ∀ j (hj : j < l.length), l.getD j en0 = l[j] := fun j hj => by rw [List.getD_eq_getElem?_getD, List.getElem?_eq_getElem hj]; rfl
  rw [Bool.eq_iff_iff, List.any_eq_true, List.any_eq_true]
  constructor
  · rintro ⟨i, hi, h⟩
    have hi := List.mem_range.1 hi
    rw [e1 i hi] at h
    exact ⟨_, List.getElem_mem hi, h⟩
  · rintro ⟨x, hx, h⟩
    obtain ⟨i, hi, rfl⟩ := List.getElem_of_mem hx
    exact ⟨i, List.mem_range.2 hi, by rw [e1 i hi]; exact h⟩
/-- the length of a slice's value. -/
def slen : Value → Nat
  | .slice _ n _ => n
  | _ => 0
theorem grow_cell {w w2 : World} {u : Value} (hg : w.grownBy w2 u.ownBlock) {b o : Nat} {v : Value} (h : w.cell? ⟨b, o, none⟩ = some v) (hne : some b ≠ u.ownBlock) : w2.cell? ⟨b, o, none⟩ = some v :=
  (World.cell?_of_block (hg.block b (World.block_lt_of_cell? _ _ h) hne)).trans h
theorem NowS.fz {wn w : World} {base g n c : Nat} {vs : List V3} {l : List En} (h : NowS wn w base (.slice (some ⟨g, 0, none⟩) n c) vs l) (hn : n = l.length) (j : Nat) : w.frozen? ⟨g, j, none⟩ = false := by
  subst hn; exact h.top.frozenAt j
theorem sets5 (w : World) (g o : Nat) (a b c d e : Value) : (((((w.setCell ⟨g, o, none⟩ a).setCell ⟨g, o + 1, none⟩ b).setCell ⟨g, o + 2, none⟩ c).setCell ⟨g, o + 3, none⟩ d).setCell ⟨g, o + 4, none⟩ e) = w.setCells g o [a, b, c, d, e] := rfl
theorem em_sm : em.size ≤ 140737488355328 := by decide
theorem tkN {P : Program} {md : Region.Mode} {ops : Array Oper} {Q : Exit → Act → World → Prop} {S : World → Prop} {i : Nat} {dst : Option Tmp} {fuel : Nat} {listed : Array Bool} {a : Act} {w : World}
    (hw : (ops[i]?.map fun o => (o.dst, Region.wanted o (yielded ops a.tmps))) = some (dst, false)) (hs : Region.noSelect ops = true) (hf : Region.free md ops listed i = true) (hr : (Region.ready md ops listed).contains i = true)
    (hQ : ∀ c a w, Q (.panic c) (a.put dst undef) w → Q (.panic c) a w) (hS : S w) (h : wpAnyH P md ops Q S fuel (listed.setIfInBounds i true) (a.put dst undef) w) : wpAnyH P md ops Q S (fuel + 1) listed a w := by
  obtain ⟨o, ho, he⟩ := Option.map_eq_some_iff.1 hw
  have h1 : o.dst = dst := congrArg Prod.fst he
  have h2 : Region.wanted o (yielded ops a.tmps) = false := congrArg Prod.snd he
  subst h1
  exact wpAnyH_take ho hs hf hr hQ (Or.inr ⟨h2, rfl⟩) hS h
theorem tkW {P : Program} {md : Region.Mode} {ops : Array Oper} {Q : Exit → Act → World → Prop} {S : World → Prop} {i : Nat} {dst : Option Tmp} {v : Value} {fuel : Nat} {listed : Array Bool} {a : Act} {w : World}
    (hw : (ops[i]?.map fun o => (o.dst, Region.wanted o (yielded ops a.tmps))) = some (dst, true)) (hs : Region.noSelect ops = true) (hf : Region.free md ops listed i = true) (hr : (Region.ready md ops listed).contains i = true)
    (hQ : ∀ c a w, Q (.panic c) (a.put dst v) w → Q (.panic c) a w) (hx : ∀ o, ops[i]? = some o → ∀ w, S w → (execOp a.eval o).run P w = .ok (.value v) w) (hS : S w) (h : wpAnyH P md ops Q S fuel (listed.setIfInBounds i true) (a.put dst v) w) : wpAnyH P md ops Q S (fuel + 1) listed a w := by
  obtain ⟨o, ho, he⟩ := Option.map_eq_some_iff.1 hw
  have h1 : o.dst = dst := congrArg Prod.fst he
  have h2 : Region.wanted o (yielded ops a.tmps) = true := congrArg Prod.snd he
  subst h1
  exact wpAnyH_take ho hs hf hr hQ (Or.inl ⟨h2, hx o ho⟩) hS h
theorem del_ents (base g c i : Nat) (vs : List V3) (l : List En) (w : World) (hi : i < l.length) (hn : l.length ≤ 1000) (h : EnS w base (.slice (some ⟨g, 0, none⟩) l.length c) vs l) :
    Calls Tryz.prog 85 #[.slice (some ⟨g, 0, none⟩) l.length c, .int .i64 i, .int .i64 ((i : Int) + 1)] w fun e w' => e = .returned (.slice (some ⟨g, 0, none⟩) (l.length - 1) c) ∧ EnS w' base (.slice (some ⟨g, 0, none⟩) (l.length - 1) c) (vs.eraseIdx i) (l.eraseIdx i) ∧ Kb (fun k => k = g) w w' := by
  obtain ⟨m, hm⟩ : ∃ m, l.length = m + 1 := ⟨l.length - 1, by omega⟩
  have := sl_Delete_ents base g m c i vs l w hm (by omega) (by omega) (by rw [← hm]; exact h)
  rw [hm]; exact this
theorem blame_Difference1 (p : Nat) (vb : Value) (b : List En) (y : En) (vS vU vP : Value) (w : World) (hb : EntsAt w vb b) (hp : w.cell? ⟨p, 0, none⟩ = some vb) :
    Calls Tryz.prog 83 #[.agg #[.string y.name, .string y.who, vS, vU, vP], .pointer (some ⟨p, 0, none⟩)] w fun e w' => e = .returned (.bool (gonB b y)) ∧ Below w.heap.size w w' := by
  have hbW : Below w.heap.size w (w.alloc (.cells #[.string y.name, .string y.who, vS, vU, vP] 41)) := (Below.refl _ _).alloc (Nat.le_refl _) _
  have EB0 := EB.new w y vS vU vP 41
  obtain ⟨W, hW⟩ : ∃ W, w.alloc (.cells #[.string y.name, .string y.who, vS, vU, vP] 41) = W := ⟨_, rfl⟩
  rw [hW] at hbW EB0
  have HF := hid (blame_find vb b y.name W (hb.below hbW))
  have hp' := (hbW.cell (World.block_lt_of_cell? _ _ hp)).trans hp
  obtain ⟨la, lc, rfl, -⟩ := hb.open
  have HW := hid hW
  have HB := hid hbW
  obtain ⟨c0, c1, c2, c3, c4⟩ := EB0
  clear hW hbW hb hp
  cases h : idxN b y.name with
  | none =>
    have HG : Hid (gonB b y = true) := hid (by unfold gonB; rw [idxN_hasF h]; rfl)
    rw [idxI_no h] at HF
    clear h
    go_enter Tryz.func83, Tryz.ntmps83
    go_wp2_with (rw [HW.out])
    refine HF.out.mono ?_
    rintro e w1 ⟨rfl, hb1⟩
    go_wp2
    go_ret
    exact ⟨ret_bool HG.out.symm, HB.out.trans (hb1.mono HB.out.size)⟩
  | some i =>
    have HG : Hid (gonB b y = false) := hid (by unfold gonB; rw [idxN_hasT h]; rfl)
    rw [idxI_some h] at HF
    have b0 : ¬ (i : Int) < 0 := by omega
    clear h
    go_enter Tryz.func83, Tryz.ntmps83
    go_wp2_with (rw [HW.out])
    refine HF.out.mono ?_
    rintro e w1 ⟨rfl, hb1⟩
    go_wp2
    go_ret
    exact ⟨ret_bool HG.out.symm, HB.out.trans (hb1.mono HB.out.size)⟩
/-- what Difference answers. -/
def DifQ (R : List Chg × Int) (w : World) (e : Ending) (w' : World) : Prop := ∃ u, e = .returned (.tuple #[u, .int .i64 R.2]) ∧ ChsAt w' u R.1 ∧ Below w.heap.size w w'
theorem DifQ.no {R : List Chg × Int} {w w' : World} {er : Int} (hR : R = ([], er)) (h : Below w.heap.size w w') : DifQ R w (.returned (.tuple #[.slice none 0 0, .int .i64 er])) w' := by
  subst hR; exact ⟨_, rfl, ChsAt.nil _, h⟩
set_option maxHeartbeats 8000000 in
set_option maxRecDepth 100000 in
theorem blame_Difference (vs va vb : Value) (s : Sg) (a b : List En) (who : Nm) (w : World) (hs : SignAt w vs s) (ha : EntsAt w va a) (hb : EntsAt w vb b) (hw : who.size ≤ 140737488355328) (hs1 : s.length ≤ 1000) (ha1 : a.length ≤ 1000) (hb1 : b.length ≤ 1000) :
    Calls Tryz.prog 32 #[vs, va, vb, .string who] w fun e w' => DifQ (diffL s a b who) w e w' := by
  have hbV : Below w.heap.size w (w.alloc (.cells #[vb] 24)) := (Below.refl _ _).alloc (Nat.le_refl _) _
  have k0 := box1e w vb 24
  obtain ⟨V, hV⟩ : ∃ V, w.alloc (.cells #[vb] 24) = V := ⟨_, rfl⟩
  rw [hV] at hbV k0
  have HEA := hid (blame_Edition vs va s a V (hs.below hbV) (ha.below hbV) hs1 ha1)
  have HEB := hid (fun (X : World) (hX : Below V.heap.size V X) => blame_Edition vs vb s b X ((hs.below hbV).below hX) ((hb.below hbV).below hX) hs1 hb1)
  have HNM := hid (fun (X : World) => deps_Name who X hw)
  have HB := hid hb
  have HA := hid ha
  have HA0 := hid ha
  obtain ⟨aa, ac, rfl, -, hal, -⟩ := ha.open
  obtain ⟨ba, bc, rfl, -, hbl, -⟩ := hb.open
  have HV := hid hV
  have HBV := hid hbV
  have K0 := hid k0
  clear hV hbV hs ha hb
  cases e1 : edB s a
  · have HF := hid (diffL_no (b := b) (who := who) (Or.inl e1))
    rw [e1] at HEA
    clear e1
    go_enter Tryz.func32, Tryz.ntmps32
    go_wp2_with (rw [HV.out])
    refine HEA.out.mono ?_
    rintro e w1 ⟨rfl, hb1⟩
    go_wp2
    go_ret2
    exact DifQ.no HF.out (HBV.out.trans (hb1.mono HBV.out.size))
  rw [e1] at HEA
  cases e2 : edB s b
  · have HF := hid (diffL_no (a := a) (who := who) (Or.inr (Or.inl e2)))
    simp only [e2] at HEB
    clear e1 e2
    go_enter Tryz.func32, Tryz.ntmps32
    go_wp2_with (rw [HV.out])
    refine HEA.out.mono ?_
    rintro e w1 ⟨rfl, hb1⟩
    have HE1 := hid (HEB.out w1 hb1)
    have k1 := (hb1.cell (World.block_lt_of_cell? _ _ k0)).trans k0
    have HB1 := hid hb1
    clear k0 hb1
    go_wp2_with fail
    refine HE1.out.mono ?_
    rintro e w2 ⟨rfl, hb2⟩
    have HB2 := hid (HBV.out.trans ((HB1.out.trans (hb2.mono HB1.out.size)).mono HBV.out.size))
    clear hb2
    go_wp2
    go_ret2
    exact DifQ.no HF.out HB2.out
  simp only [e2] at HEB
  have HDIF := hid (fun (h : nmB who = true) => diffL_yes e1 e2 h)
  have HDNO := hid (fun (h : nmB who = false) => diffL_no (s := s) (a := a) (b := b) (Or.inr (Or.inr h)))
  have HLA := hid (edB_iff.1 e1)
  have HLB := hid (edB_iff.1 e2)
  clear e1 e2
  go_enter Tryz.func32, Tryz.ntmps32
  go_wp2_with (rw [HV.out])
  refine HEA.out.mono ?_
  rintro e w1 ⟨rfl, hb1'⟩
  have HE1 := hid (HEB.out w1 hb1')
  have k1 := (hb1'.cell (World.block_lt_of_cell? _ _ k0)).trans k0
  have HB1 := hid hb1'
  clear k0 hb1'
  go_wp2_with fail
  refine HE1.out.mono ?_
  rintro e w2 ⟨rfl, hb2⟩
  have HBV2 := hid (HB1.out.trans (hb2.mono HB1.out.size))
  have HN1 := hid (HNM.out w2)
  clear hb2 k1
  cases e3 : nmB who
  · have HF := hid (HDNO.out e3)
    rw [e3] at HN1
    clear e3
    go_wp2_with (go_at_call 71; refine HN1.out.mono ?_; rintro e w3 ⟨rfl, rfl⟩)
    go_ret2
    exact DifQ.no HF.out (HBV.out.trans (HBV2.out.mono HBV.out.size))
  have HF := hid (HDIF.out e3)
  rw [e3] at HN1
  clear e3 HDIF HDNO HNM HE1 HEB HEA
  have HCO := hid (blame_copies (.slice aa a.length ac) a w2 (HA.out.below (HBV.out.trans (HBV2.out.mono HBV.out.size))) ha1 (fun y hy => ent_sm (entryB_iff.2 (HLA.out.1.ents y hy))))
  go_wp2_with (go_at_call 71; refine HN1.out.mono ?_; rintro e w3 ⟨rfl, rfl⟩)
  refine HCO.out.mono ?_
  rintro e w4 ⟨u, vs0, rfl, hE0, hb4⟩
  have HBW4 := hid ((HBV.out.trans (HBV2.out.mono HBV.out.size)).trans (hb4.mono (HBV.out.trans (HBV2.out.mono HBV.out.size)).size))
  have k4 := ((HBV2.out.trans (hb4.mono HBV2.out.size)).cell (World.block_lt_of_cell? _ _ K0.out)).trans K0.out
  have HN0 := hid (NowS.start hE0.toS)
  have HC0 := hid (ChO.nil w4 w4.heap.size)
  have HZ24 := hid hb4.size
  have K4 := hid k4
  obtain ⟨ua, uc, rfl⟩ := hE0.slice
  clear hb4 hE0 HN1 HCO
  go_wp2_with fail
  clear k4
  go_loopw [11, 38] (fun uo kv wr => ∃ (k : Nat) (vsn vso : List V3), k ≤ b.length ∧ kv = .int .i64 k ∧ NowS w4 wr w2.heap.size (.slice ua a.length uc) vsn (now0 a (b.take k)) ∧ ChO wr w4.heap.size uo vso (((b.take k).filter (difB a)).map (setC who)) ∧ Below w.heap.size w wr ∧ Below w4.heap.size w4 w4 ∧ wr.cell? ⟨w.heap.size, 0, none⟩ = some (.slice ba b.length bc)) (fun _ kv _ => b.length - (intOf kv).toNat)
  case atStart => exact ⟨0, vs0, [], by omega, rfl, by simpa [now0] using HN0.out, by simpa using HC0.out, HBW4.out, Below.refl _ _, K4.out⟩
  case round =>
    clear HN0 HC0 K4
    obtain ⟨k, vsn, vso, hk, rfl, hN, hO, hbw, -, hbox⟩ := hrel
    have hwz := hbw.size
    by_cases hlt : k < b.length
    · obtain ⟨ba', bc', e', -, -, -, ZC⟩ := HB.out.open
      cases e'
      obtain ⟨xb, xo, xS, xU, xP, rfl, x0, x1, x2, x3, x4, he0⟩ := ZC k hlt
      have he := he0.below hbw
      have HEX0 := hid he0
      replace x0 := (hbw.cell (World.block_lt_of_cell? _ _ x0)).trans x0
      replace x1 := (hbw.cell (World.block_lt_of_cell? _ _ x1)).trans x1
      replace x2 := (hbw.cell (World.block_lt_of_cell? _ _ x2)).trans x2
      replace x3 := (hbw.cell (World.block_lt_of_cell? _ _ x3)).trans x3
      replace x4 := (hbw.cell (World.block_lt_of_cell? _ _ x4)).trans x4
      clear he0
      obtain ⟨sa, sc, rfl, -⟩ := he.s.open
      obtain ⟨ta, tc, rfl, -⟩ := he.u.open
      obtain ⟨pa, pc, rfl, -⟩ := he.p.open
      have HNT := hid (now0_take (a := a) hlt)
      have HST := hid (setC_take (a := a) (who := who) hlt)
      have hsm := ent_sm (entryB_iff.2 (HLB.out.1.ents _ (List.getElem_mem hlt)))
      have HDN := hid (dif_now (nd_take HLB.out.2.nd hlt) a)
      have hnm := now0_asc HLA.out.2 (b.take k)
      have hnl := now0_len a (b.take k)
      obtain ⟨x, hx⟩ : ∃ x, b[k] = x := ⟨_, rfl⟩
      rw [hx] at x0 x1 x2 x3 x4 he HNT HST hsm HDN HEX0
      have HX := hid hx
      obtain ⟨L, hL⟩ : ∃ L, now0 a (b.take k) = L := ⟨_, rfl⟩
      rw [hL] at hN HNT HDN hnm hnl
      obtain ⟨OL, hOL⟩ : ∃ OL, ((b.take k).filter (difB a)).map (setC who) = OL := ⟨_, rfl⟩
      rw [hOL] at hO HST
      have HOLL : Hid (OL.length ≤ k) := hid (by rw [← hOL, List.length_map]; exact Nat.le_trans (List.length_filter_le _ _) (by rw [List.length_take]; omega))
      clear hx hL hOL ZC
      have EB0 := EB.new wr x (.slice sa x.says.length sc) (.slice ta x.uses.length tc) (.slice pa x.proof.length pc) 41
      obtain ⟨W, hW⟩ : ∃ W, wr.alloc (.cells #[.string x.name, .string x.who, .slice sa x.says.length sc, .slice ta x.uses.length tc, .slice pa x.proof.length pc] 41) = W := ⟨_, rfl⟩
      have hbW : Below wr.heap.size wr W := hW ▸ (Below.refl _ _).alloc (Nat.le_refl _) _
      rw [hW] at EB0
      have HFI := hid (blame_find _ L x.name W ((hN.below hbW).ents (by omega)))
      have HN := hid hN
      have HO := hid hO
      have HHW := hid hW
      have HBR := hid hbW
      have HBX := hid hbox
      have HEB := hid EB0
      have HEX := hid he
      have HBWR := hid hbw
      obtain ⟨oa, oc, rfl⟩ := hO.slice
      obtain ⟨c0, c1, c2, c3, c4⟩ := EB0
      clear hN hO hW hbW hbox he
      cases hi : idxN L x.name with
      | none =>
        have hd : difB L x = false := by unfold difB; rw [idxN_hasF hi]; rfl
        have HS1 := hid (sub_dif hnm hd)
        have HS2 : Hid (difB a x = false) := hid (by rw [← HDN.out]; exact hd)
        rw [idxI_no hi] at HFI
        clear hi hd
        go_wp2_with (rw [HHW.out])
        refine HFI.out.mono ?_
        rintro e w5 ⟨rfl, hb5⟩
        have hbr5 := HBR.out.trans (hb5.mono HBR.out.size)
        have HBR5 := hid hbr5
        clear c0 c1 c2 c3 c4 hb5 hbr5
        go_wp2
        go_quiet (fail)
        go_wp2
        go_roundw
        case rel =>
          have HBRD := HBR5.out.trans ((below_self_drewN w5 nq).mono HBR5.out.size)
          refine ⟨k + 1, vsn, vso, by omega, by go_num, ?_, ?_, HBWR.out.trans (HBRD.mono hwz), Below.refl _ _, (HBRD.cell (World.block_lt_of_cell? _ _ HBX.out)).trans HBX.out⟩
          · rw [HNT.out, HS1.out]; exact HN.out.below HBRD
          · rw [HST.out, HS2.out]; simp only [Bool.false_eq_true, if_false, List.append_nil]; exact HO.out.below HBRD
        case measure => simp [intOf]; omega
      | some i =>
        obtain ⟨hil, hin⟩ := idxN_some hi
        have hmem : x ∈ L ↔ L[i] = x := ⟨fun hm => hnm.inj (List.getElem_mem hil) hm hin, fun e => e ▸ List.getElem_mem hil⟩
        have hdd : difB L x = !decide (L[i] = x) := by
          unfold difB; rw [idxN_hasT hi, Bool.true_and]
          congr 1
          exact decide_eq_decide.2 hmem
        have HDD : Hid (difB a x = !decide (L[i] = x)) := hid (by rw [← HDN.out]; exact hdd)
        have HSUB := hid (sub_set hnm.nd hil hin)
        have HSAM := hid (fun (h : L[i] = x) => sub_same hnm (hmem.2 h))
        rw [idxI_some hi] at HFI
        have b0 : (0 : Int) ≤ (i : Int) := by omega
        have b1 : (i : Int) < (a.length : Int) := by omega
        obtain ⟨g, gc, eg, hg1, hg2, hg3⟩ := HN.out.toS.blk (by omega)
        simp only [Value.slice.injEq] at eg
        obtain ⟨rfl, -, rfl⟩ := eg
        have hgn : g < w4.heap.size := HN.out.bl g rfl
        clear hi hmem hdd
        go_wp2_with (rw [HHW.out])
        refine HFI.out.mono ?_
        rintro e w5 ⟨rfl, hb5⟩
        have hbr5 := HBR.out.trans (hb5.mono HBR.out.size)
        have hS5 := HN.out.below hbr5
        obtain ⟨s1, t1, s2, t2, s3, t3, n0, n1, n2, n3, n4, hey⟩ := hS5.toS.cells hnl.symm hil
        have hEB5 := HEB.out.below hb5
        have HSM := hid (fun (X : World) (hX : Below w5.heap.size w5 X) => blame_Same _ _ _ _ _ _ L[i] x X (hey.below hX) (((HEX.out.below (HBR.out)).below hb5).below hX))
        obtain ⟨m0, m1, m2, m3, m4⟩ := hEB5
        obtain ⟨y, hy⟩ : ∃ y, L[i] = y := ⟨_, rfl⟩
        rw [hy] at n0 n1 n2 n3 n4 HSM HDD HSAM
        have HBR5 := hid hbr5
        have HEB5 := hid hb5
        have N0 := hid n0
        have N1 := hid n1
        have N2 := hid n2
        have N3 := hid n3
        have N4 := hid n4
        have M0 := hid m0
        have M1 := hid m1
        have M2 := hid m2
        have M3 := hid m3
        have M4 := hid m4
        obtain ⟨bb, hbb⟩ : ∃ bb, decide (y = x) = bb := ⟨_, rfl⟩
        rw [hbb] at HSM HDD
        clear c0 c1 c2 c3 c4 hb5 hbr5 hS5 hey hy hin
        go_wp2
        go_region_held3 (fun w' => w'.cell? ⟨g, i * 5, none⟩ = some (.string y.name) ∧ w'.cell? ⟨g, i * 5 + 1, none⟩ = some (.string y.who) ∧ w'.cell? ⟨g, i * 5 + 2, none⟩ = some (.slice s1 y.says.length t1) ∧ w'.cell? ⟨g, i * 5 + 3, none⟩ = some (.slice s2 y.uses.length t2) ∧ w'.cell? ⟨g, i * 5 + 4, none⟩ = some (.slice s3 y.proof.length t3) ∧
            w'.cell? ⟨wr.heap.size, 0, none⟩ = some (.string x.name) ∧ w'.cell? ⟨wr.heap.size, 1, none⟩ = some (.string x.who) ∧ w'.cell? ⟨wr.heap.size, 2, none⟩ = some (.slice sa x.says.length sc) ∧ w'.cell? ⟨wr.heap.size, 3, none⟩ = some (.slice ta x.uses.length tc) ∧ w'.cell? ⟨wr.heap.size, 4, none⟩ = some (.slice pa x.proof.length pc))
          (first | exact ⟨by assumption, by assumption, by assumption, by assumption, by assumption, by assumption, by assumption, by assumption, by assumption, by assumption⟩ | go_keep)
          (first | (go_at_call 35; (with_reducible refine (HSM.out _ (by (repeat (first | with_reducible assumption | with_reducible exact Below.refl _ _ | with_reducible exact below_self_drewN _ _ | with_reducible refine Below.drew ?_ | with_reducible refine below_drewN ?_ _ | (with_reducible refine Below.alloc ?_ ?_ _; rotate_left; focus (first | (simp; done) | omega | (simp; omega))))))).mono ?_); rintro e wz ⟨rfl, hbz⟩; have hbr : Below w5.heap.size w5 wz := Below.trans (by (repeat (first | with_reducible assumption | with_reducible exact Below.refl _ _ | with_reducible exact below_self_drewN _ _ | with_reducible refine Below.drew ?_ | with_reducible refine below_drewN ?_ _ | (with_reducible refine Below.alloc ?_ ?_ _; rotate_left; focus (first | (simp; done) | omega | (simp; omega)))))) (hbz.mono (by (first | (simp; done) | omega | (simp; omega)))); have n0 := (hbr.cell (World.block_lt_of_cell? _ _ N0.out)).trans N0.out; have n1 := (hbr.cell (World.block_lt_of_cell? _ _ N1.out)).trans N1.out; have n2 := (hbr.cell (World.block_lt_of_cell? _ _ N2.out)).trans N2.out; have n3 := (hbr.cell (World.block_lt_of_cell? _ _ N3.out)).trans N3.out; have n4 := (hbr.cell (World.block_lt_of_cell? _ _ N4.out)).trans N4.out; have m0 := (hbr.cell (World.block_lt_of_cell? _ _ M0.out)).trans M0.out; have m1 := (hbr.cell (World.block_lt_of_cell? _ _ M1.out)).trans M1.out; have m2 := (hbr.cell (World.block_lt_of_cell? _ _ M2.out)).trans M2.out; have m3 := (hbr.cell (World.block_lt_of_cell? _ _ M3.out)).trans M3.out; have m4 := (hbr.cell (World.block_lt_of_cell? _ _ M4.out)).trans M4.out))
        have hbrz := HBR5.out.trans (hbr.mono HBR5.out.size)
        have HBRZ := hid hbrz
        cases bb
        case true =>
          have HS1 : Hid (L.map (subE x) = L) := hid (HSAM.out (of_decide_eq_true hbb))
          have HS2 : Hid (difB a x = false) := hid HDD.out
          clear hbb n0 n1 n2 n3 n4 m0 m1 m2 m3 m4 hbr hbrz
          go_wp2
          go_roundw
          case rel =>
            refine ⟨k + 1, vsn, vso, by omega, by go_num, ?_, ?_, HBWR.out.trans (HBRZ.out.mono hwz), Below.refl _ _, (HBRZ.out.cell (World.block_lt_of_cell? _ _ HBX.out)).trans HBX.out⟩
            · rw [HNT.out, HS1.out]; exact HN.out.below HBRZ.out
            · rw [HST.out, HS2.out]; simp only [Bool.false_eq_true, if_false, List.append_nil]; exact HO.out.below HBRZ.out
          case measure => simp [intOf]; omega
        case false =>
          have HS2 : Hid (difB a x = true) := hid HDD.out
          have HCP := hid (blame_copied _ _ _ x wz (HEX.out.below HBRZ.out) hsm.1 hsm.2.1 hsm.2.2.1 hsm.2.2.2)
          clear hbb hbrz HDD HSAM HSM
          go_wp2_with fail
          refine HCP.out.mono ?_
          rintro e w6 ⟨v, rfl, ⟨vS, vU, vP, rfl, hO6⟩, hb6⟩
          obtain ⟨a1, k1, rfl⟩ := owns_slice hO6.s
          obtain ⟨a2, k2, rfl⟩ := owns_slice hO6.u
          obtain ⟨a3, k3, rfl⟩ := owns_slice hO6.p
          have HBRW := hid hbr
          have HBR6 := hid (HBRZ.out.trans (hb6.mono HBRZ.out.size))
          have HB6 := hid hb6
          have HO6 := hid hO6
          have hO66 := HO.out.below HBR6.out
          have hownA := hO66.top.alloc (.cells #[.int .i64 2, .string who, .string ⟨#[]⟩, .string ⟨#[]⟩, .string x.name, .string x.who, .slice a1 x.says.length k1, .slice a2 x.uses.length k2, .slice a3 x.proof.length k3] 43)
          have HROW := hid (row_one_chg w6 (.int .i64 2) (.string who) (.string ⟨#[]⟩) (.string ⟨#[]⟩) (.string x.name) (.string x.who) (.slice a1 x.says.length k1) (.slice a2 x.uses.length k2) (.slice a3 x.proof.length k3) 43)
          have HOT := hid (HO.out.top.lt)
          have HO66 := hid hO66
          have hb66 : Below w6.heap.size w6 (w6.alloc (.cells #[.int .i64 2, .string who, .string ⟨#[]⟩, .string ⟨#[]⟩, .string x.name, .string x.who, .slice a1 x.says.length k1, .slice a2 x.uses.length k2, .slice a3 x.proof.length k3] 43)) := (Below.refl _ _).alloc (Nat.le_refl _) _
          have HB66 := hid hb66
          have hbr6A := HBR6.out.trans (hb66.mono HBR6.out.size)
          have HBR6A := hid hbr6A
          have HOLL2 := HOLL.out
          have HBN := hid ((HBRW.out.trans (HB6.out.mono HBRW.out.size)).trans (hb66.mono (HBRW.out.trans (HB6.out.mono HBRW.out.size)).size))
          have hz46 : w4.heap.size ≤ w6.heap.size := Nat.le_trans HN.out.sz HBR6.out.size
          clear hbr hO66 hb66 hbr6A hb6 hO6 n0 n1 n2 n3 n4 m0 m1 m2 m3 m4
          go_wp2_with (at_builtin; go_loud (refine wpList_append_lie rfl _ _ 25 rfl w4.heap.size 43 el_chg Tryz.underlying25 rfl (by decide) _ OL.length (chsC OL vso) rfl hownA _ 1 (chC (setC who x) (.slice a1 x.says.length k1, .slice a2 x.uses.length k2, .slice a3 x.proof.length k3)) rfl HROW.out (chC_one _ _ _ _ _ _ _ _ _ _) (by omega) (by omega) (by omega) (by simp; omega) _ rfl ?_; intro g7 cap7 w7 hown7 hgrow7 hat7 hlt7; have hne0 : some wr.heap.size ≠ (Value.slice oa OL.length oc).ownBlock := fun e => Nat.lt_irrefl _ (HOT.out _ e.symm).2; have hneg : some g ≠ (Value.slice oa OL.length oc).ownBlock := fun e => Nat.not_lt.2 (HOT.out _ e.symm).1 hgn; have HN7 := hid (HN.out.keep (fun q hq => (hgrow7.block q (Nat.lt_of_lt_of_le (Nat.lt_of_lt_of_le hq HN.out.sz) HBR6A.out.size) (fun e => Nat.not_lt.2 (HOT.out _ e.symm).1 hq)).trans (HBR6A.out.block q (Nat.lt_of_lt_of_le hq HN.out.sz))) (Nat.le_trans HBR6A.out.size hgrow7.size)); have f0 := HN7.out.fz hnl.symm (i * 5); have f1 := HN7.out.fz hnl.symm (i * 5 + 1); have f2 := HN7.out.fz hnl.symm (i * 5 + 2); have f3 := HN7.out.fz hnl.symm (i * 5 + 3); have f4 := HN7.out.fz hnl.symm (i * 5 + 4); have n0 := grow_cell hgrow7 ((HBN.out.cell (World.block_lt_of_cell? _ _ N0.out)).trans N0.out) hneg; have n1 := grow_cell hgrow7 ((HBN.out.cell (World.block_lt_of_cell? _ _ N1.out)).trans N1.out) hneg; have n2 := grow_cell hgrow7 ((HBN.out.cell (World.block_lt_of_cell? _ _ N2.out)).trans N2.out) hneg; have n3 := grow_cell hgrow7 ((HBN.out.cell (World.block_lt_of_cell? _ _ N3.out)).trans N3.out) hneg; have n4 := grow_cell hgrow7 ((HBN.out.cell (World.block_lt_of_cell? _ _ N4.out)).trans N4.out) hneg; have m0 := grow_cell hgrow7 ((HBN.out.cell (World.block_lt_of_cell? _ _ M0.out)).trans M0.out) hne0; have m1 := grow_cell hgrow7 ((HBN.out.cell (World.block_lt_of_cell? _ _ M1.out)).trans M1.out) hne0; have m2 := grow_cell hgrow7 ((HBN.out.cell (World.block_lt_of_cell? _ _ M2.out)).trans M2.out) hne0; have m3 := grow_cell hgrow7 ((HBN.out.cell (World.block_lt_of_cell? _ _ M3.out)).trans M3.out) hne0; have m4 := grow_cell hgrow7 ((HBN.out.cell (World.block_lt_of_cell? _ _ M4.out)).trans M4.out) hne0))
          go_roundw
          case rel =>
            clear n0 n1 n2 n3 n4 m0 m1 m2 m3 m4 f0 f1 f2 f3 f4
            rw [sets5]
            have hgw : w2.heap.size ≤ g := (HN.out.top.lt g rfl).1
            have hVw : w.heap.size < V.heap.size := World.block_lt_of_cell? _ _ K0.out
            have hw2 : V.heap.size ≤ w2.heap.size := HBV2.out.size
            have hS := HN7.out.set hnl.symm hil (x := x) (v := (.slice sa x.says.length sc, .slice ta x.uses.length tc, .slice pa x.proof.length pc)) (fun W' hW => HEX0.out.blocks fun q hq hlt2 => (hW q (Nat.lt_of_lt_of_le hlt2 HBW4.out.size) (by omega)).trans (HBW4.out.block q hlt2))
            unfold enC at hS
            dsimp only at hS
            obtain ⟨hS1, hS2⟩ := hS
            obtain ⟨W8, hW8⟩ : ∃ W8, w7.setCells g (i * 5) [.string x.name, .string x.who, .slice sa x.says.length sc, .slice ta x.uses.length tc, .slice pa x.proof.length pc] = W8 := ⟨_, rfl⟩
            rw [hW8] at hS1 hS2 ⊢
            have hav := EntO.av (v := (.slice a1 x.says.length k1, .slice a2 x.uses.length k2, .slice a3 x.proof.length k3)) (base := w4.heap.size) HO6.out (Nat.le_trans HN.out.sz HBRZ.out.size) HO66.out.top
            have hP := (HO66.out.below HB66.out).push (x := setC who x) (v := (.slice a1 x.says.length k1, .slice a2 x.uses.length k2, .slice a3 x.proof.length k3)) ⟨HO6.out.ent.below HB66.out, hw, em_sm, em_sm⟩ (fun q hq => ⟨(hav q hq).1, Nat.lt_of_lt_of_le (hav q hq).2.1 HB66.out.size, (hav q hq).2.2⟩) rfl hown7 hgrow7 rfl hat7
            refine ⟨k + 1, vsn.set i (.slice sa x.says.length sc, .slice ta x.uses.length tc, .slice pa x.proof.length pc), vso ++ [(.slice a1 x.says.length k1, .slice a2 x.uses.length k2, .slice a3 x.proof.length k3)], by omega, by go_num, ?_, ?_, ?_, Below.refl _ _, ?_⟩
            · rw [HNT.out, ← HSUB.out]; exact hS1
            · rw [HST.out, HS2.out, if_pos rfl]; exact hP.keep (fun q h1 h2 => hS2.same q h2 (by omega)) hS2.size
            · rw [← hW8]; refine below_sets (b := g) ?_ (by omega) (i * 5) (enC x (.slice sa x.says.length sc, .slice ta x.uses.length tc, .slice pa x.proof.length pc))
              exact (HBWR.out.trans (HBR6A.out.mono hwz)).grown hgrow7 (Nat.le_trans hwz HBR6A.out.size) (fun q hq => Nat.le_trans HBW4.out.size (HOT.out q hq).1)
            · refine (World.cell?_of_block (hS2.same w.heap.size ?_ (by omega))).trans (grow_cell hgrow7 ((HBR6A.out.cell (World.block_lt_of_cell? _ _ HBX.out)).trans HBX.out) ?_)
              · have := hgrow7.size; have := HBR6A.out.size; omega
              · intro e; have := (HOT.out _ e.symm).1; have := HBW4.out.size; have := HN.out.sz; omega
          case measure => simp [intOf]; omega
    · have hkb : k = b.length := by omega
      subst hkb
      rw [List.take_of_length_le (Nat.le_refl _)] at hN hO
      have hNL := now0_len a b
      have hASC := now0_asc HLA.out.2 b
      obtain ⟨N0, hN0⟩ : ∃ N0, now0 a b = N0 := ⟨_, rfl⟩
      rw [hN0] at hN HF hNL hASC
      obtain ⟨SL, hSL⟩ : ∃ SL, (b.filter (difB a)).map (setC who) = SL := ⟨_, rfl⟩
      have HSLL : Hid (SL.length ≤ b.length) := hid (by rw [← hSL, List.length_map]; exact List.length_filter_le _ _)
      rw [hSL] at hO HF
      have HN := hid hN
      have HO := hid hO
      have HBX := hid hbox
      have HBWR := hid hbw
      have HASC := hid hASC
      have HNL := hid hNL
      have HG : Hid (∀ (L : List En) (X : World) (u : Value), EntsAt X u L → Below w.heap.size w X → X.cell? ⟨w.heap.size, 0, none⟩ = some (.slice ba b.length bc) → Calls Tryz.prog 84 #[u, .func (.func 83) #[] #[.pointer (some ⟨w.heap.size, 0, none⟩)]] X fun e w' => e = .returned (.bool (L.any (gonB b))) ∧ Below X.heap.size X w') := hid (by
        intro L X u hL hX hc
        have := sl_ContainsFunc_ents 83 #[.pointer (some ⟨w.heap.size, 0, none⟩)] (enters_of Tryz.func83 (by kernel_rfl) rfl) u L X hL (fun i => gonB b (L.getD i en0)) (by
          intro i hi vs vu vp Y hY he
          have e1 : L.getD i en0 = L[i] := by rw [List.getD_eq_getElem?_getD, List.getElem?_eq_getElem hi]; rfl
          simp only [e1]
          exact blame_Difference1 w.heap.size _ b L[i] vs vu vp Y (HB.out.below (hX.trans (hY.mono hX.size))) ((hY.cell (World.block_lt_of_cell? _ _ hc)).trans hc))
        rw [any_range_gon] at this
        exact this)
      clear hN hO hbox hbw hASC hN0 hSL
      obtain ⟨oa, oc, rfl⟩ := HO.out.slice
      rw [← HNL.out] at hal
      go_wp2
      go_loopw [10, 11] (fun un uo wx => ∃ (L : List En) (vsn vso : List V3) (fu : Nat) (dn : List Nm), un = .slice ua L.length uc ∧ NowS w4 wx w2.heap.size (.slice ua L.length uc) vsn L ∧ AscE L ∧ ChO wx w4.heap.size uo vso (SL ++ dn.map (dropC who)) ∧ dn.length + L.length ≤ a.length ∧ L.length ≤ fu ∧ dropsL a.length N0 b = (dropsL fu L b).map (dn ++ ·) ∧ Below w.heap.size w wx ∧ wx.cell? ⟨w.heap.size, 0, none⟩ = some (.slice ba b.length bc)) (fun un _ _ => slen un)
      case atStart => exact ⟨N0, vsn, vso, a.length, [], by rw [HNL.out], by rw [HNL.out]; exact HN.out, HASC.out, by simpa using HO.out, by simp [HNL.out], by rw [HNL.out]; exact Nat.le_refl _, by simp, HBWR.out, HBX.out⟩
      case round =>
        obtain ⟨wo, rfl⟩ : ∃ wo : World, wo = wr := ⟨_, rfl⟩
        clear HN HO HBWR HBX HASC HNL
        obtain ⟨L, vsn, vso, fu, dn, rfl, hN, hA, hO, hdl, hfu, hdr, hbw, hbox⟩ := hrel
        have hwx := hbw.size
        have hLL : L.length ≤ 1000 := by omega
        have HC := hid (HG.out L wo _ (hN.ents hLL) hbw hbox)
        have HN := hid hN
        have HO := hid hO
        have HA := hid hA
        have HDR := hid hdr
        have HBX := hid hbox
        have HBWR := hid hbw
        obtain ⟨oa, oc, rfl⟩ := hO.slice
        cases hg : L.any (gonB b) with
        | true =>
          rw [hg] at HC
          have HGN := hid hg
          have hL0 : 0 < L.length := by cases L <;> simp at hg ⊢
          obtain ⟨g, gc, eg, hg1, hg2, hg3⟩ := hN.toS.blk hL0
          simp only [Value.slice.injEq] at eg
          obtain ⟨rfl, -, rfl⟩ := eg
          have hgn : g < w4.heap.size := hN.bl g rfl
          clear hN hA hO hdr hg hbw hbox
          go_wp2_with fail
          refine HC.out.mono ?_
          rintro e wc ⟨rfl, hbc⟩
          have HBC := hid hbc
          clear hbc HC
          go_wp2
          go_loopw [16] (fun jv wy => ∃ (j : Nat) (jj : Int), j ≤ L.length ∧ jv = .int .i64 jj ∧ (j : Int) = jj + 1 ∧ Below wo.heap.size wo wy ∧ ∀ i (hi : i < L.length), j ≤ i → okD L b L[i] = false) (fun jv _ => (intOf jv + 1).toNat)
          case atStart => exact ⟨L.length, (L.length : Int) - 1, Nat.le_refl _, by go_num, by omega, HBC.out, fun i hi h => absurd h (by omega)⟩
          case round =>
            obtain ⟨j, jj, hj, rfl, hjj, hby, hok⟩ := hrel
            have HOK := hid hok
            have HBY := hid hby
            have hyz := hby.size
            clear hok
            cases j with
            | zero =>
              obtain rfl : jj = -1 := by omega
              clear hjj
              have HR0 : Hid (dropsL a.length N0 b = none) := hid (by
                rw [HDR.out]
                cases fu with
                | zero => omega
                | succ f => rw [dropsL_none HGN.out (lastD_no fun i hi => HOK.out i hi (Nat.zero_le _))]; rfl)
              go_wp2
              go_quiet (fail)
              go_wp2
              go_ret2
              exact DifQ.no (by rw [HF.out, HR0.out]) (below_drewN (HBWR.out.trans (HBY.out.mono hwx)) _)
            | succ j =>
              obtain rfl : jj = (j : Int) := by omega
              clear hjj
              have b0 : (0 : Int) ≤ (j : Int) := by omega
              have b1 : (j : Int) < (L.length : Int) := by omega
              have hSY := HN.out.below hby
              obtain ⟨s1, t1, s2, t2, s3, t3, n0, n1, n2, n3, n4, hey⟩ := hSY.toS.cells rfl (show j < L.length by omega)
              have HCL := hid (fun (X : World) (hX : Below wr.heap.size wr X) => blame_Difference1 w.heap.size _ b L[j] (.slice s1 L[j].says.length t1) (.slice s2 L[j].uses.length t2) (.slice s3 L[j].proof.length t3) X (HB.out.below ((HBWR.out.trans (HBY.out.mono hwx)).trans (hX.mono (Nat.le_trans hwx hyz)))) (((HBY.out.trans (hX.mono HBY.out.size)).cell (World.block_lt_of_cell? _ _ HBX.out)).trans HBX.out))
              have HUS := hid (fun (X : World) (hX : Below wr.heap.size wr X) => blame_used _ L L[j].name L[j].name X ((HN.out.below (HBY.out.trans (hX.mono HBY.out.size))).ents hLL))
              obtain ⟨g1, hg1'⟩ : ∃ g1, gonB b L[j] = g1 := ⟨_, rfl⟩
              obtain ⟨g2, hg2'⟩ : ∃ g2, (L.any fun x => decide (x.name ≠ L[j].name) && hasN x.uses L[j].name) = g2 := ⟨_, rfl⟩
              rw [hg1'] at HCL
              rw [hg2'] at HUS
              have HG1 := hid hg1'
              have HG2 : Hid (usedB L L[j].name L[j].name = g2) := hid hg2'
              obtain ⟨y, hy⟩ : ∃ y, L[j] = y := ⟨_, rfl⟩
              rw [hy] at n0 n1 n2 n3 n4 hey HCL HUS HG1 HG2
              have HY := hid hy
              have HEY := hid hey
              have N0 := hid n0
              have N1 := hid n1
              have N2 := hid n2
              have N3 := hid n3
              have N4 := hid n4
              clear hg1' hg2' hy hey hSY hby
              cases g1
              case false =>
                go_wp2
                refine wp_region_held_drew (S := fun w' => w'.cell? ⟨g, j * 5, none⟩ = some (.string y.name) ∧ w'.cell? ⟨g, j * 5 + 1, none⟩ = some (.string y.who) ∧ w'.cell? ⟨g, j * 5 + 2, none⟩ = some (.slice s1 y.says.length t1) ∧ w'.cell? ⟨g, j * 5 + 3, none⟩ = some (.slice s2 y.uses.length t2) ∧ w'.cell? ⟨g, j * 5 + 4, none⟩ = some (.slice s3 y.proof.length t3)) (by kernel_rfl) (by first | exact ⟨by assumption, by assumption, by assumption, by assumption, by assumption⟩ | go_keep) (fun hHeld => ?_)
                refine tkW (i := 0) (dst := some 76) (v := (.int .i64 j)) (by rfl) (by kernel_rfl) (by kernel_rfl) (by kernel_rfl) (fun _ _ _ h => h) (by intro o ho w' hSw; simp only [List.getElem?_toArray, List.getElem?_cons_succ, List.getElem?_cons_zero, Option.some.injEq] at ho; subst ho; (try dsimp only at hSw); go_simp; (try with_reducible rfl)) (by assumption) ?_
                simp only [Act.put, List.setIfInBounds_toArray, List.set_cons_zero, List.set_cons_succ]
                refine tkW (i := 1) (dst := some 77) (v := (.bool true)) (by rfl) (by kernel_rfl) (by kernel_rfl) (by kernel_rfl) (fun _ _ _ h => h) (by intro o ho w' hSw; simp only [List.getElem?_toArray, List.getElem?_cons_succ, List.getElem?_cons_zero, Option.some.injEq] at ho; subst ho; (try dsimp only at hSw); go_simp; (try with_reducible rfl)) (by assumption) ?_
                simp only [Act.put, List.setIfInBounds_toArray, List.set_cons_zero, List.set_cons_succ]
                refine tkW (i := 2) (dst := some 78) (v := (.bool true)) (by rfl) (by kernel_rfl) (by kernel_rfl) (by kernel_rfl) (fun _ _ _ h => h) (by intro o ho w' hSw; simp only [List.getElem?_toArray, List.getElem?_cons_succ, List.getElem?_cons_zero, Option.some.injEq] at ho; subst ho; (try dsimp only at hSw); go_simp; (try with_reducible rfl)) (by assumption) ?_
                simp only [Act.put, List.setIfInBounds_toArray, List.set_cons_zero, List.set_cons_succ]
                refine tkW (i := 3) (dst := some 79) (v := (.func (.func 83) #[] #[.pointer (some ⟨w.heap.size, 0, none⟩)])) (by rfl) (by kernel_rfl) (by kernel_rfl) (by kernel_rfl) (fun _ _ _ h => h) (by intro o ho w' hSw; simp only [List.getElem?_toArray, List.getElem?_cons_succ, List.getElem?_cons_zero, Option.some.injEq] at ho; subst ho; (try dsimp only at hSw); go_simp; (try with_reducible rfl)) (by assumption) ?_
                simp only [Act.put, List.setIfInBounds_toArray, List.set_cons_zero, List.set_cons_succ]
                refine tkW (i := 4) (dst := some 80) (v := (.slice (some ⟨g, 0, none⟩) L.length uc)) (by rfl) (by kernel_rfl) (by kernel_rfl) (by kernel_rfl) (fun _ _ _ h => h) (by intro o ho w' hSw; simp only [List.getElem?_toArray, List.getElem?_cons_succ, List.getElem?_cons_zero, Option.some.injEq] at ho; subst ho; (try dsimp only at hSw); go_simp; (try with_reducible rfl)) (by assumption) ?_
                simp only [Act.put, List.setIfInBounds_toArray, List.set_cons_zero, List.set_cons_succ]
                refine tkW (i := 5) (dst := some 81) (v := (.int .i64 j)) (by rfl) (by kernel_rfl) (by kernel_rfl) (by kernel_rfl) (fun _ _ _ h => h) (by intro o ho w' hSw; simp only [List.getElem?_toArray, List.getElem?_cons_succ, List.getElem?_cons_zero, Option.some.injEq] at ho; subst ho; (try dsimp only at hSw); go_simp; (try with_reducible rfl)) (by assumption) ?_
                simp only [Act.put, List.setIfInBounds_toArray, List.set_cons_zero, List.set_cons_succ]
                refine tkW (i := 6) (dst := some 82) (v := (.pointer (some ⟨g, j * 5, none⟩))) (by rfl) (by kernel_rfl) (by kernel_rfl) (by kernel_rfl) (fun _ _ _ h => h) (by intro o ho w' hSw; simp only [List.getElem?_toArray, List.getElem?_cons_succ, List.getElem?_cons_zero, Option.some.injEq] at ho; subst ho; (try dsimp only at hSw); go_simp; (try with_reducible rfl)) (by assumption) ?_
                simp only [Act.put, List.setIfInBounds_toArray, List.set_cons_zero, List.set_cons_succ]
                refine tkW (i := 7) (dst := some 83) (v := (.agg #[.string y.name, .string y.who, .slice s1 y.says.length t1, .slice s2 y.uses.length t2, .slice s3 y.proof.length t3])) (by rfl) (by kernel_rfl) (by kernel_rfl) (by kernel_rfl) (fun _ _ _ h => h) (by intro o ho w' hSw; simp only [List.getElem?_toArray, List.getElem?_cons_succ, List.getElem?_cons_zero, Option.some.injEq] at ho; subst ho; (try dsimp only at hSw); go_simp; (try with_reducible rfl)) (by assumption) ?_
                simp only [Act.put, List.setIfInBounds_toArray, List.set_cons_zero, List.set_cons_succ]
                refine wpAnyH_ready (rs := [8]) (by kernel_rfl) (by simp) ?_
                refine AllReadyH.cons rfl (fun K hK => ?_) AllReadyH.nil
                go_simp
                (go_at_call 83; (with_reducible refine (HCL.out _ (by (repeat (first | with_reducible assumption | with_reducible exact Below.refl _ _ | with_reducible exact below_self_drewN _ _ | with_reducible refine Below.drew ?_ | with_reducible refine below_drewN ?_ _ | (with_reducible refine Below.alloc ?_ ?_ _; rotate_left; focus (first | (simp; done) | omega | (simp; omega))))))).mono ?_); rintro e wz ⟨rfl, hbz⟩; have hbr : Below wr.heap.size wr wz := Below.trans (by (repeat (first | with_reducible assumption | with_reducible exact Below.refl _ _ | with_reducible exact below_self_drewN _ _ | with_reducible refine Below.drew ?_ | with_reducible refine below_drewN ?_ _ | (with_reducible refine Below.alloc ?_ ?_ _; rotate_left; focus (first | (simp; done) | omega | (simp; omega)))))) (hbz.mono (by (first | (simp; done) | omega | (simp; omega)))); have n0 := (hbr.cell (World.block_lt_of_cell? _ _ N0.out)).trans N0.out; have n1 := (hbr.cell (World.block_lt_of_cell? _ _ N1.out)).trans N1.out; have n2 := (hbr.cell (World.block_lt_of_cell? _ _ N2.out)).trans N2.out; have n3 := (hbr.cell (World.block_lt_of_cell? _ _ N3.out)).trans N3.out; have n4 := (hbr.cell (World.block_lt_of_cell? _ _ N4.out)).trans N4.out)
                (try go_wp2_with fail)
                refine hK.out _ _ ⟨by assumption, by assumption, by assumption, by assumption, by assumption⟩ (fun hHeld => ?_)
                clear hK K
                try simp only [Act.put, List.setIfInBounds_toArray, List.set_cons_zero, List.set_cons_succ]
                refine tkW (i := 9) (dst := some 85) (v := (.bool true)) (by rfl) (by kernel_rfl) (by kernel_rfl) (by kernel_rfl) (fun _ _ _ h => h) (by intro o ho w' hSw; simp only [List.getElem?_toArray, List.getElem?_cons_succ, List.getElem?_cons_zero, Option.some.injEq] at ho; subst ho; (try dsimp only at hSw); go_simp; (try with_reducible rfl)) (by assumption) ?_
                simp only [Act.put, List.setIfInBounds_toArray, List.set_cons_zero, List.set_cons_succ]
                refine tkW (i := 10) (dst := some 86) (v := (.bool true)) (by rfl) (by kernel_rfl) (by kernel_rfl) (by kernel_rfl) (fun _ _ _ h => h) (by intro o ho w' hSw; simp only [List.getElem?_toArray, List.getElem?_cons_succ, List.getElem?_cons_zero, Option.some.injEq] at ho; subst ho; (try dsimp only at hSw); go_simp; (try with_reducible rfl)) (by assumption) ?_
                simp only [Act.put, List.setIfInBounds_toArray, List.set_cons_zero, List.set_cons_succ]
                refine tkN (i := 11) (dst := some 87) (by rfl) (by kernel_rfl) (by kernel_rfl) (by kernel_rfl) (fun _ _ _ h => h) (by assumption) ?_
                simp only [Act.put, List.setIfInBounds_toArray, List.set_cons_zero, List.set_cons_succ]
                refine tkN (i := 12) (dst := some 88) (by rfl) (by kernel_rfl) (by kernel_rfl) (by kernel_rfl) (fun _ _ _ h => h) (by assumption) ?_
                simp only [Act.put, List.setIfInBounds_toArray, List.set_cons_zero, List.set_cons_succ]
                refine tkN (i := 13) (dst := some 89) (by rfl) (by kernel_rfl) (by kernel_rfl) (by kernel_rfl) (fun _ _ _ h => h) (by assumption) ?_
                simp only [Act.put, List.setIfInBounds_toArray, List.set_cons_zero, List.set_cons_succ]
                refine tkN (i := 14) (dst := some 90) (by rfl) (by kernel_rfl) (by kernel_rfl) (by kernel_rfl) (fun _ _ _ h => h) (by assumption) ?_
                simp only [Act.put, List.setIfInBounds_toArray, List.set_cons_zero, List.set_cons_succ]
                refine tkN (i := 15) (dst := some 91) (by rfl) (by kernel_rfl) (by kernel_rfl) (by kernel_rfl) (fun _ _ _ h => h) (by assumption) ?_
                simp only [Act.put, List.setIfInBounds_toArray, List.set_cons_zero, List.set_cons_succ]
                refine tkN (i := 16) (dst := some 92) (by rfl) (by kernel_rfl) (by kernel_rfl) (by kernel_rfl) (fun _ _ _ h => h) (by assumption) ?_
                simp only [Act.put, List.setIfInBounds_toArray, List.set_cons_zero, List.set_cons_succ]
                refine tkN (i := 17) (dst := some 93) (by rfl) (by kernel_rfl) (by kernel_rfl) (by kernel_rfl) (fun _ _ _ h => h) (by assumption) ?_
                simp only [Act.put, List.setIfInBounds_toArray, List.set_cons_zero, List.set_cons_succ]
                refine tkN (i := 18) (dst := some 94) (by rfl) (by kernel_rfl) (by kernel_rfl) (by kernel_rfl) (fun _ _ _ h => h) (by assumption) ?_
                simp only [Act.put, List.setIfInBounds_toArray, List.set_cons_zero, List.set_cons_succ]
                refine tkN (i := 19) (dst := some 95) (by rfl) (by kernel_rfl) (by kernel_rfl) (by kernel_rfl) (fun _ _ _ h => h) (by assumption) ?_
                simp only [Act.put, List.setIfInBounds_toArray, List.set_cons_zero, List.set_cons_succ]
                refine tkN (i := 20) (dst := some 96) (by rfl) (by kernel_rfl) (by kernel_rfl) (by kernel_rfl) (fun _ _ _ h => h) (by assumption) ?_
                simp only [Act.put, List.setIfInBounds_toArray, List.set_cons_zero, List.set_cons_succ]
                refine tkN (i := 21) (dst := some 97) (by rfl) (by kernel_rfl) (by kernel_rfl) (by kernel_rfl) (fun _ _ _ h => h) (by assumption) ?_
                simp only [Act.put, List.setIfInBounds_toArray, List.set_cons_zero, List.set_cons_succ]
                refine tkN (i := 22) (dst := some 98) (by rfl) (by kernel_rfl) (by kernel_rfl) (by kernel_rfl) (fun _ _ _ h => h) (by assumption) ?_
                simp only [Act.put, List.setIfInBounds_toArray, List.set_cons_zero, List.set_cons_succ]
                refine tkW (i := 23) (dst := some 99) (v := (.bool true)) (by rfl) (by kernel_rfl) (by kernel_rfl) (by kernel_rfl) (fun _ _ _ h => h) (by intro o ho w' hSw; simp only [List.getElem?_toArray, List.getElem?_cons_succ, List.getElem?_cons_zero, Option.some.injEq] at ho; subst ho; (try dsimp only at hSw); go_simp; (try with_reducible rfl)) (by assumption) ?_
                simp only [Act.put, List.setIfInBounds_toArray, List.set_cons_zero, List.set_cons_succ]
                refine tkW (i := 24) (dst := some 100) (v := (.bool true)) (by rfl) (by kernel_rfl) (by kernel_rfl) (by kernel_rfl) (fun _ _ _ h => h) (by intro o ho w' hSw; simp only [List.getElem?_toArray, List.getElem?_cons_succ, List.getElem?_cons_zero, Option.some.injEq] at ho; subst ho; (try dsimp only at hSw); go_simp; (try with_reducible rfl)) (by assumption) ?_
                simp only [Act.put, List.setIfInBounds_toArray, List.set_cons_zero, List.set_cons_succ]
                refine wpAnyH_done (by kernel_rfl) ?_ _
                have HOKF : Hid (okD L b L[j] = false) := hid (by unfold okD; rw [HY.out]; rw [HG1.out]; rfl)
                have HBYZ := hid (HBY.out.trans (hbr.mono HBY.out.size))
                clear n0 n1 n2 n3 n4
                go_wp2
                go_roundw
                case rel =>
                  refine ⟨j, (j : Int) - 1, by omega, rfl, by omega, HBYZ.out, fun i hi h => ?_⟩
                  by_cases e : i = j
                  · subst e; exact HOKF.out
                  · exact HOK.out i hi (by omega)
                case measure => first | (simp [intOf]; done) | (simp [intOf]; omega)
              case true =>
              cases g2
              case true =>
                go_wp2
                go_region_held3 (fun w' => w'.cell? ⟨g, j * 5, none⟩ = some (.string y.name) ∧ w'.cell? ⟨g, j * 5 + 1, none⟩ = some (.string y.who) ∧ w'.cell? ⟨g, j * 5 + 2, none⟩ = some (.slice s1 y.says.length t1) ∧ w'.cell? ⟨g, j * 5 + 3, none⟩ = some (.slice s2 y.uses.length t2) ∧ w'.cell? ⟨g, j * 5 + 4, none⟩ = some (.slice s3 y.proof.length t3))
                  (first | exact ⟨by assumption, by assumption, by assumption, by assumption, by assumption⟩ | go_keep)
                  (first
                    | (go_at_call 83; (with_reducible refine (HCL.out _ (by (repeat (first | with_reducible assumption | with_reducible exact Below.refl _ _ | with_reducible exact below_self_drewN _ _ | with_reducible refine Below.drew ?_ | with_reducible refine below_drewN ?_ _ | (with_reducible refine Below.alloc ?_ ?_ _; rotate_left; focus (first | (simp; done) | omega | (simp; omega))))))).mono ?_); rintro e wz ⟨rfl, hbz⟩; have hbr : Below wr.heap.size wr wz := Below.trans (by (repeat (first | with_reducible assumption | with_reducible exact Below.refl _ _ | with_reducible exact below_self_drewN _ _ | with_reducible refine Below.drew ?_ | with_reducible refine below_drewN ?_ _ | (with_reducible refine Below.alloc ?_ ?_ _; rotate_left; focus (first | (simp; done) | omega | (simp; omega)))))) (hbz.mono (by (first | (simp; done) | omega | (simp; omega)))); have n0 := (hbr.cell (World.block_lt_of_cell? _ _ N0.out)).trans N0.out; have n1 := (hbr.cell (World.block_lt_of_cell? _ _ N1.out)).trans N1.out; have n2 := (hbr.cell (World.block_lt_of_cell? _ _ N2.out)).trans N2.out; have n3 := (hbr.cell (World.block_lt_of_cell? _ _ N3.out)).trans N3.out; have n4 := (hbr.cell (World.block_lt_of_cell? _ _ N4.out)).trans N4.out)
                    | (go_at_call 78; (with_reducible refine (HUS.out _ (by (repeat (first | with_reducible assumption | with_reducible exact Below.refl _ _ | with_reducible exact below_self_drewN _ _ | with_reducible refine Below.drew ?_ | with_reducible refine below_drewN ?_ _ | (with_reducible refine Below.alloc ?_ ?_ _; rotate_left; focus (first | (simp; done) | omega | (simp; omega))))))).mono ?_); rintro e wz ⟨rfl, hbz⟩; have hbr : Below wr.heap.size wr wz := Below.trans (by (repeat (first | with_reducible assumption | with_reducible exact Below.refl _ _ | with_reducible exact below_self_drewN _ _ | with_reducible refine Below.drew ?_ | with_reducible refine below_drewN ?_ _ | (with_reducible refine Below.alloc ?_ ?_ _; rotate_left; focus (first | (simp; done) | omega | (simp; omega)))))) (hbz.mono (by first | exact Below.size (by assumption) | (first | (simp; done) | omega | (simp; omega)))); have n0 := (hbr.cell (World.block_lt_of_cell? _ _ N0.out)).trans N0.out; have n1 := (hbr.cell (World.block_lt_of_cell? _ _ N1.out)).trans N1.out; have n2 := (hbr.cell (World.block_lt_of_cell? _ _ N2.out)).trans N2.out; have n3 := (hbr.cell (World.block_lt_of_cell? _ _ N3.out)).trans N3.out; have n4 := (hbr.cell (World.block_lt_of_cell? _ _ N4.out)).trans N4.out))
                have HOKF : Hid (okD L b L[j] = false) := hid (by unfold okD; rw [HY.out]; rw [HG1.out, HG2.out]; rfl)
                have HBYZ := hid (HBY.out.trans (hbr.mono HBY.out.size))
                clear n0 n1 n2 n3 n4
                go_wp2
                go_roundw
                case rel =>
                  refine ⟨j, (j : Int) - 1, by omega, rfl, by omega, HBYZ.out, fun i hi h => ?_⟩
                  by_cases e : i = j
                  · subst e; exact HOKF.out
                  · exact HOK.out i hi (by omega)
                case measure => first | (simp [intOf]; done) | (simp [intOf]; omega)
              case false =>
                go_wp2
                go_region_held3 (fun w' => w'.cell? ⟨g, j * 5, none⟩ = some (.string y.name) ∧ w'.cell? ⟨g, j * 5 + 1, none⟩ = some (.string y.who) ∧ w'.cell? ⟨g, j * 5 + 2, none⟩ = some (.slice s1 y.says.length t1) ∧ w'.cell? ⟨g, j * 5 + 3, none⟩ = some (.slice s2 y.uses.length t2) ∧ w'.cell? ⟨g, j * 5 + 4, none⟩ = some (.slice s3 y.proof.length t3))
                  (first | exact ⟨by assumption, by assumption, by assumption, by assumption, by assumption⟩ | go_keep)
                  (first
                    | (go_at_call 83; (with_reducible refine (HCL.out _ (by (repeat (first | with_reducible assumption | with_reducible exact Below.refl _ _ | with_reducible exact below_self_drewN _ _ | with_reducible refine Below.drew ?_ | with_reducible refine below_drewN ?_ _ | (with_reducible refine Below.alloc ?_ ?_ _; rotate_left; focus (first | (simp; done) | omega | (simp; omega))))))).mono ?_); rintro e wz ⟨rfl, hbz⟩; have hbr : Below wr.heap.size wr wz := Below.trans (by (repeat (first | with_reducible assumption | with_reducible exact Below.refl _ _ | with_reducible exact below_self_drewN _ _ | with_reducible refine Below.drew ?_ | with_reducible refine below_drewN ?_ _ | (with_reducible refine Below.alloc ?_ ?_ _; rotate_left; focus (first | (simp; done) | omega | (simp; omega)))))) (hbz.mono (by (first | (simp; done) | omega | (simp; omega)))); have n0 := (hbr.cell (World.block_lt_of_cell? _ _ N0.out)).trans N0.out; have n1 := (hbr.cell (World.block_lt_of_cell? _ _ N1.out)).trans N1.out; have n2 := (hbr.cell (World.block_lt_of_cell? _ _ N2.out)).trans N2.out; have n3 := (hbr.cell (World.block_lt_of_cell? _ _ N3.out)).trans N3.out; have n4 := (hbr.cell (World.block_lt_of_cell? _ _ N4.out)).trans N4.out)
                    | (go_at_call 78; (with_reducible refine (HUS.out _ (by (repeat (first | with_reducible assumption | with_reducible exact Below.refl _ _ | with_reducible exact below_self_drewN _ _ | with_reducible refine Below.drew ?_ | with_reducible refine below_drewN ?_ _ | (with_reducible refine Below.alloc ?_ ?_ _; rotate_left; focus (first | (simp; done) | omega | (simp; omega))))))).mono ?_); rintro e wz ⟨rfl, hbz⟩; have hbr : Below wr.heap.size wr wz := Below.trans (by (repeat (first | with_reducible assumption | with_reducible exact Below.refl _ _ | with_reducible exact below_self_drewN _ _ | with_reducible refine Below.drew ?_ | with_reducible refine below_drewN ?_ _ | (with_reducible refine Below.alloc ?_ ?_ _; rotate_left; focus (first | (simp; done) | omega | (simp; omega)))))) (hbz.mono (by first | exact Below.size (by assumption) | (first | (simp; done) | omega | (simp; omega)))); have n0 := (hbr.cell (World.block_lt_of_cell? _ _ N0.out)).trans N0.out; have n1 := (hbr.cell (World.block_lt_of_cell? _ _ N1.out)).trans N1.out; have n2 := (hbr.cell (World.block_lt_of_cell? _ _ N2.out)).trans N2.out; have n3 := (hbr.cell (World.block_lt_of_cell? _ _ N3.out)).trans N3.out; have n4 := (hbr.cell (World.block_lt_of_cell? _ _ N4.out)).trans N4.out))
                have hjl : j < L.length := by omega
                have HOKT : Hid (okD L b L[j] = true) := hid (by unfold okD; rw [HY.out]; rw [HG1.out, HG2.out]; rfl)
                have HBZ := hid (HBY.out.trans (hbr.mono HBY.out.size))
                have hlen : (SL ++ dn.map (dropC who)).length = SL.length + dn.length := by simp
                have hownA := (HO.out.below HBZ.out).top.alloc (.cells #[.int .i64 4, .string who, .string y.name, .string ⟨#[]⟩, .string ⟨#[]⟩, .string ⟨#[]⟩, .slice none 0 0, .slice none 0 0, .slice none 0 0] 43)
                rw [hlen] at hownA
                have HLEN := hid hlen
                have HROW := hid (row_one_chg wz (.int .i64 4) (.string who) (.string y.name) (.string ⟨#[]⟩) (.string ⟨#[]⟩) (.string ⟨#[]⟩) (.slice none 0 0) (.slice none 0 0) (.slice none 0 0) 43)
                have HOT := hid (HO.out.top.lt)
                have hb66 : Below wz.heap.size wz (wz.alloc (.cells #[.int .i64 4, .string who, .string y.name, .string ⟨#[]⟩, .string ⟨#[]⟩, .string ⟨#[]⟩, .slice none 0 0, .slice none 0 0, .slice none 0 0] 43)) := (Below.refl _ _).alloc (Nat.le_refl _) _
                have HB66 := hid hb66
                have HBZA := hid (HBZ.out.trans (hb66.mono HBZ.out.size))
                have hz4 : w4.heap.size ≤ wz.heap.size := Nat.le_trans HN.out.sz HBZ.out.size
                have HSLL2 := HSLL.out
                clear hlen hb66 hbr n1 n2 n3 n4
                go_wp2_with (at_builtin; go_loud (refine wpList_append_lie rfl _ _ 25 rfl w4.heap.size 43 el_chg Tryz.underlying25 rfl (by decide) _ (SL.length + dn.length) (chsC (SL ++ dn.map (dropC who)) vso) rfl hownA _ 1 (chC (dropC who y.name) (.slice none 0 0, .slice none 0 0, .slice none 0 0)) rfl HROW.out (chC_one _ _ _ _ _ _ _ _ _ _) (by omega) (by omega) (by omega) (by simp; omega) _ rfl ?_; intro g7 cap7 w7 hown7 hgrow7 hat7 hlt7))
                replace hgrow7 : (wz.alloc (.cells #[.int .i64 4, .string who, .string y.name, .string ⟨#[]⟩, .string ⟨#[]⟩, .string ⟨#[]⟩, .slice none 0 0, .slice none 0 0, .slice none 0 0] 43)).grownBy w7 (Value.slice oa (SL.length + dn.length) oc).ownBlock := hgrow7
                replace hat7 : (Value.slice oa (SL.length + dn.length) oc).ownBlock = some g7 ∨ g7 = _ := hat7
                rw [← HLEN.out] at hgrow7 hat7
                have HN7 := hid (HN.out.keep (fun q hq => (hgrow7.block q (Nat.lt_of_lt_of_le (Nat.lt_of_lt_of_le hq HN.out.sz) HBZA.out.size) (fun e => Nat.not_lt.2 (HOT.out _ e.symm).1 hq)).trans (HBZA.out.block q (Nat.lt_of_lt_of_le hq HN.out.sz))) (Nat.le_trans HBZA.out.size hgrow7.size))
                have HDEL := hid (del_ents w2.heap.size g uc j vsn L w7 hjl hLL HN7.out.toS)
                refine HDEL.out.mono ?_
                rintro e w8 ⟨rfl, hS8, hK8⟩
                go_wp2
                go_roundw
                case rel =>
                  have hgw : w2.heap.size ≤ g := (HN.out.top.lt g rfl).1
                  have hVw : w.heap.size < V.heap.size := World.block_lt_of_cell? _ _ K0.out
                  have hw2 : V.heap.size ≤ w2.heap.size := HBV2.out.size
                  have hle : (L.eraseIdx j).length = L.length - 1 := List.length_eraseIdx_of_lt hjl
                  have hN8 := HN7.out.erase rfl hjl hle.symm hS8 hK8
                  have hP := ((HO.out.below HBZ.out).below HB66.out).push (x := dropC who y.name) (v := (.slice none 0 0, .slice none 0 0, .slice none 0 0)) ⟨⟨Ints.nil _, TxtsAt.nil _, StepsAt.nil _, em_sm, em_sm⟩, hw, HEY.out.n1, em_sm⟩ (fun q hq => by rcases hq with hq | hq | hq <;> cases hq) HLEN.out.symm hown7 hgrow7 rfl hat7
                  refine ⟨L.eraseIdx j, vsn.eraseIdx j, vso ++ [(.slice none 0 0, .slice none 0 0, .slice none 0 0)], fu - 1, dn ++ [y.name], by rw [hle], by rw [hle]; exact hN8, List.Pairwise.sublist (List.eraseIdx_sublist L j) HA.out, ?_, ?_, ?_, ?_, ?_, ?_⟩
                  · have e1 : SL ++ (dn ++ [y.name]).map (dropC who) = (SL ++ dn.map (dropC who)) ++ [dropC who y.name] := by simp
                    rw [e1]; exact hP.keep (fun q h1 h2 => hK8.same q h2 (by omega)) hK8.size
                  · rw [hle]; simp; omega
                  · rw [hle]; omega
                  · rw [HDR.out]
                    cases fu with
                    | zero => omega
                    | succ f =>
                      rw [dropsL_some HGN.out (lastD_at hjl HOKT.out fun i hi h => HOK.out i hi (by omega)), erase_ne HA.out hjl, HY.out, Option.map_map]
                      congr 1
                      funext x; simp
                  · refine ((HBWR.out.trans (HBZA.out.mono hwx)).grown hgrow7 (Nat.le_trans hwx HBZA.out.size) (fun q hq => Nat.le_trans HBW4.out.size (HOT.out q hq).1)).trans (hK8.below (Nat.le_trans (Nat.le_trans hwx HBZA.out.size) hgrow7.size) (fun k e => by subst e; omega))
                  · refine (World.cell?_of_block (hK8.same w.heap.size ?_ (by omega))).trans (grow_cell hgrow7 ((HBZA.out.cell (World.block_lt_of_cell? _ _ HBX.out)).trans HBX.out) ?_)
                    · have := hgrow7.size; have := HBZA.out.size; omega
                    · intro e; have := (HOT.out _ e.symm).1; have := HBW4.out.size; have := HN.out.sz; omega
                case measure => simp [slen]; omega
        | false =>
          rw [hg] at HC
          have hdn : dropsL a.length N0 b = some dn := by rw [hdr, dropsL_stop hg]; simp
          have HFF : Hid (diffL s a b who = ((SL ++ dn.map (dropC who)) ++ (b.filter (gonB a)).map (addCh who), 0)) := hid (by rw [HF.out, hdn])
          have hPLL : (SL ++ dn.map (dropC who)).length ≤ 120 := by
            have h1 := HSLL.out
            have h2 := HLA.out.1.len
            have h3 := HLB.out.1.len
            simp; omega
          have hple : (SL ++ dn.map (dropC who)).length = SL.length + dn.length := by simp
          obtain ⟨PL, hPL⟩ : ∃ PL, SL ++ dn.map (dropC who) = PL := ⟨_, rfl⟩
          rw [hPL] at hPLL HFF hO HO hple
          have HPLE := hid hple
          have hw4 := hN.sz
          have HPLL := hid hPLL
          have HBL := hid (HLB.out.1.len)
          clear HG HN HA HDR hN hA hdr hg hdn hPL hPLL hdl hfu hLL hple
          go_wp2_with fail
          refine HC.out.mono ?_
          rintro e wc ⟨rfl, hbc⟩
          have kc := (hbc.cell (World.block_lt_of_cell? _ _ hbox)).trans hbox
          have HOC := hid (hO.below hbc)
          have HBC := hid (hbw.trans (hbc.mono hwx))
          have HW4 := hid (Nat.le_trans hw4 hbc.size)
          have KC := hid kc
          clear hbox hbw hO HO HBX HBWR HC hbc
          go_wp2
          go_loopw [11, 122] (fun uo kv wr => ∃ (k : Nat) (vso : List V3), k ≤ b.length ∧ kv = .int .i64 k ∧ ChO wr w4.heap.size uo vso (PL ++ ((b.take k).filter (gonB a)).map (addCh who)) ∧ Below w.heap.size w wr ∧ w4.heap.size ≤ wr.heap.size) (fun _ kv _ => b.length - (intOf kv).toNat)
          case atStart => exact ⟨0, vso, by omega, rfl, by have h := HOC.out; rw [HPLE.out] at h; simpa using h, HBC.out, HW4.out⟩
          case round =>
            clear HOC HBC HW4 KC kc hw4 hwx
            obtain ⟨k, vso, hk, rfl, hO, hbw, hw4⟩ := hrel
            have hwz := hbw.size
            by_cases hlt : k < b.length
            · obtain ⟨ba', bc', e', -, -, -, ZC⟩ := HB.out.open
              cases e'
              obtain ⟨xb, xo, xS, xU, xP, rfl, x0, x1, x2, x3, x4, he0⟩ := ZC k hlt
              have he := he0.below hbw
              replace x0 := (hbw.cell (World.block_lt_of_cell? _ _ x0)).trans x0
              replace x1 := (hbw.cell (World.block_lt_of_cell? _ _ x1)).trans x1
              replace x2 := (hbw.cell (World.block_lt_of_cell? _ _ x2)).trans x2
              replace x3 := (hbw.cell (World.block_lt_of_cell? _ _ x3)).trans x3
              replace x4 := (hbw.cell (World.block_lt_of_cell? _ _ x4)).trans x4
              clear he0
              obtain ⟨sa, sc, rfl, -⟩ := he.s.open
              obtain ⟨ta, tc, rfl, -⟩ := he.u.open
              obtain ⟨pa, pc, rfl, -⟩ := he.p.open
              have HST := hid (addC_take (a := a) (who := who) hlt)
              have hsm := ent_sm (entryB_iff.2 (HLB.out.1.ents _ (List.getElem_mem hlt)))
              obtain ⟨x, hx⟩ : ∃ x, b[k] = x := ⟨_, rfl⟩
              rw [hx] at x0 x1 x2 x3 x4 he HST hsm
              have hOLL : (PL ++ ((b.take k).filter (gonB a)).map (addCh who)).length ≤ 180 := by
                have h1 := HPLL.out
                have h2 := HBL.out
                have h3 := List.length_filter_le (gonB a) (b.take k)
                rw [List.length_take] at h3
                rw [List.length_append, List.length_map]; omega
              obtain ⟨OL, hOL⟩ : ∃ OL, PL ++ ((b.take k).filter (gonB a)).map (addCh who) = OL := ⟨_, rfl⟩
              have HST2 : Hid (PL ++ ((b.take (k + 1)).filter (gonB a)).map (addCh who) = OL ++ (if gonB a x then [addCh who x] else [])) := hid (by rw [HST.out, ← hOL, List.append_assoc])
              rw [hOL] at hO hOLL
              have HOLL := hid hOLL
              clear hx hOL ZC HST hOLL
              have EB0 := EB.new wr x (.slice sa x.says.length sc) (.slice ta x.uses.length tc) (.slice pa x.proof.length pc) 41
              obtain ⟨W, hW⟩ : ∃ W, wr.alloc (.cells #[.string x.name, .string x.who, .slice sa x.says.length sc, .slice ta x.uses.length tc, .slice pa x.proof.length pc] 41) = W := ⟨_, rfl⟩
              have hbW : Below wr.heap.size wr W := hW ▸ (Below.refl _ _).alloc (Nat.le_refl _) _
              rw [hW] at EB0
              have HFI := hid (blame_find _ a x.name W (HA0.out.below (hbw.trans (hbW.mono hwz))))
              have HO := hid hO
              have HHW := hid hW
              have HBR := hid hbW
              have HEB := hid EB0
              have HEX := hid he
              have HBWR := hid hbw
              obtain ⟨oa, oc, rfl⟩ := hO.slice
              obtain ⟨c0, c1, c2, c3, c4⟩ := EB0
              clear hO hW hbW hbw he
              cases hi : idxN a x.name with
              | some i =>
                have HS2 : Hid (gonB a x = false) := hid (by unfold gonB; rw [idxN_hasT hi]; rfl)
                rw [idxI_some hi] at HFI
                have b0 : ¬ (i : Int) < 0 := by omega
                clear hi
                go_wp2_with (rw [HHW.out])
                refine HFI.out.mono ?_
                rintro e w5 ⟨rfl, hb5⟩
                have HBR5 := hid (HBR.out.trans (hb5.mono HBR.out.size))
                clear c0 c1 c2 c3 c4 hb5
                go_wp2
                go_roundw
                case rel =>
                  refine ⟨k + 1, vso, by omega, by go_num, ?_, HBWR.out.trans (HBR5.out.mono hwz), Nat.le_trans hw4 HBR5.out.size⟩
                  rw [HST2.out, HS2.out]; simp only [Bool.false_eq_true, if_false, List.append_nil]; exact HO.out.below HBR5.out
                case measure => simp [intOf]; omega
              | none =>
                have HS2 : Hid (gonB a x = true) := hid (by unfold gonB; rw [idxN_hasF hi]; rfl)
                rw [idxI_no hi] at HFI
                clear hi
                go_wp2_with (rw [HHW.out])
                refine HFI.out.mono ?_
                rintro e w5 ⟨rfl, hb5⟩
                have HBR5 := hid (HBR.out.trans (hb5.mono HBR.out.size))
                obtain ⟨m0, m1, m2, m3, m4⟩ := HEB.out.below hb5
                have HCP := hid (blame_copied _ _ _ x w5 (HEX.out.below HBR5.out) hsm.1 hsm.2.1 hsm.2.2.1 hsm.2.2.2)
                clear c0 c1 c2 c3 c4 hb5
                go_wp2_with fail
                refine HCP.out.mono ?_
                rintro e w6 ⟨v, rfl, ⟨vS, vU, vP, rfl, hO6⟩, hb6⟩
                obtain ⟨a1, k1, rfl⟩ := owns_slice hO6.s
                obtain ⟨a2, k2, rfl⟩ := owns_slice hO6.u
                obtain ⟨a3, k3, rfl⟩ := owns_slice hO6.p
                have HBR6 := hid (HBR5.out.trans (hb6.mono HBR5.out.size))
                have HO6 := hid hO6
                have hO66 := HO.out.below HBR6.out
                have hownA := hO66.top.alloc (.cells #[.int .i64 1, .string who, .string ⟨#[]⟩, .string ⟨#[]⟩, .string x.name, .string x.who, .slice a1 x.says.length k1, .slice a2 x.uses.length k2, .slice a3 x.proof.length k3] 43)
                have HROW := hid (row_one_chg w6 (.int .i64 1) (.string who) (.string ⟨#[]⟩) (.string ⟨#[]⟩) (.string x.name) (.string x.who) (.slice a1 x.says.length k1) (.slice a2 x.uses.length k2) (.slice a3 x.proof.length k3) 43)
                have HOT := hid (HO.out.top.lt)
                have HO66 := hid hO66
                have hb66 : Below w6.heap.size w6 (w6.alloc (.cells #[.int .i64 1, .string who, .string ⟨#[]⟩, .string ⟨#[]⟩, .string x.name, .string x.who, .slice a1 x.says.length k1, .slice a2 x.uses.length k2, .slice a3 x.proof.length k3] 43)) := (Below.refl _ _).alloc (Nat.le_refl _) _
                have HB66 := hid hb66
                have HBR6A := hid (HBR6.out.trans (hb66.mono HBR6.out.size))
                have HOLL2 := HOLL.out
                have hz46 : w4.heap.size ≤ w6.heap.size := Nat.le_trans hw4 HBR6.out.size
                clear hO66 hb66 hb6 hO6 m0 m1 m2 m3 m4
                go_wp2_with (at_builtin; go_loud (refine wpList_append_lie rfl _ _ 25 rfl w4.heap.size 43 el_chg Tryz.underlying25 rfl (by decide) _ OL.length (chsC OL vso) rfl hownA _ 1 (chC (addCh who x) (.slice a1 x.says.length k1, .slice a2 x.uses.length k2, .slice a3 x.proof.length k3)) rfl HROW.out (chC_one _ _ _ _ _ _ _ _ _ _) (by omega) (by omega) (by omega) (by simp; omega) _ rfl ?_; intro g7 cap7 w7 hown7 hgrow7 hat7 hlt7))
                go_roundw
                case rel =>
                  have hav := EntO.av (v := (.slice a1 x.says.length k1, .slice a2 x.uses.length k2, .slice a3 x.proof.length k3)) (base := w4.heap.size) HO6.out (Nat.le_trans hw4 HBR5.out.size) HO66.out.top
                  have hP := (HO66.out.below HB66.out).push (x := addCh who x) (v := (.slice a1 x.says.length k1, .slice a2 x.uses.length k2, .slice a3 x.proof.length k3)) ⟨HO6.out.ent.below HB66.out, hw, em_sm, em_sm⟩ (fun q hq => ⟨(hav q hq).1, Nat.lt_of_lt_of_le (hav q hq).2.1 HB66.out.size, (hav q hq).2.2⟩) rfl hown7 hgrow7 rfl hat7
                  refine ⟨k + 1, vso ++ [(.slice a1 x.says.length k1, .slice a2 x.uses.length k2, .slice a3 x.proof.length k3)], by omega, by go_num, ?_, ?_, ?_⟩
                  · rw [HST2.out, HS2.out, if_pos rfl]; exact hP
                  · exact (HBWR.out.trans (HBR6A.out.mono hwz)).grown hgrow7 (Nat.le_trans hwz HBR6A.out.size) (fun q hq => Nat.le_trans HBW4.out.size (HOT.out q hq).1)
                  · exact Nat.le_trans hw4 (Nat.le_trans HBR6A.out.size hgrow7.size)
                case measure => simp [intOf]; omega
            · have hkb : k = b.length := by omega
              subst hkb
              rw [List.take_of_length_le (Nat.le_refl _)] at hO
              have hlen : (PL ++ (b.filter (gonB a)).map (addCh who)).length ≤ 1000 := by
                have h1 := HPLL.out
                have h2 := HBL.out
                have h3 := List.length_filter_le (gonB a) b
                rw [List.length_append, List.length_map]; omega
              have HE := hid (hO.chs hlen)
              clear hO hlen
              go_wp2
              go_ret2
              rw [HFF.out]
              exact ⟨_, rfl, HE.out, hbw⟩
end Go.Proofs.YtlbjbmpkaniojaaGreat
