/-
  WHAT IT HOLDS: the contract of rename of package blame, and that what the four make is, sorted, what the plain word says. Conditions: the arguments read as data; small libraries.
  WHAT IT HOLDS: contracts of made and Made of package blame. Conditions: the arguments read as data; small libraries.
-/
import Derived.Test.YtlbjbmpkaniojaaGreatZRBlamePlays37
import Derived.Test.YtlbjbmpkaniojaaGreatZRBlamePlays35
namespace Go.Proofs.YtlbjbmpkaniojaaGreat
open Go Go.RowKit Go.Maps
def renaL (l : List En) (c : Chg) : List En × Int := match idxN l c.name with
  | none => ([], 5)
  | some i => if (idxN l c.new).isSome || usedB l c.new em then ([], 6) else ((l.set i { l.getD i en0 with name := c.new }).map (useE c.name c.new), 0)
theorem useE_ren {n m : Nm} {x : En} (h : x.uses.Nodup) : useE n m x = { x with uses := x.uses.map (renN n m) } := by
  unfold useE
  cases hf : x.uses.findIdx? (fun u => decide (u = n)) with
  | none =>
    rw [List.findIdx?_eq_none_iff] at hf
    have : x.uses.map (renN n m) = x.uses := by
      conv => rhs; rw [← List.map_id x.uses]
      refine List.map_congr_left fun u hu => ?_
      unfold renN
      rw [if_neg (by simpa using hf u hu)]; rfl
    simp only [this]
  | some k =>
    obtain ⟨h1, h2, h3⟩ := List.findIdx?_eq_some_iff_getElem.1 hf
    have h2 : x.uses[k] = n := by simpa using h2
    have : x.uses.map (renN n m) = x.uses.set k m := by
      refine List.ext_getElem (by simp) fun j hj hj' => ?_
      rw [List.getElem_map, List.getElem_set]
      unfold renN
      have hj0 : j < x.uses.length := by simpa using hj
      by_cases e : k = j
      · subst e
        rw [if_pos h2, if_pos rfl]
      · rw [if_neg e, if_neg]
        intro e2
        have := List.pairwise_iff_getElem.1 h
        rcases Nat.lt_or_gt_of_ne e with hlt | hlt
        · exact this k j h1 hj0 hlt (h2.trans e2.symm)
        · exact this j k hj0 h1 hlt (e2.trans h2.symm)
    simp only [this]
/-- what is made, sorted, is what the plain word says. -/
def PreOK (P D : List En × Int) : Prop := P.2 = D.2 ∧ ∀ L, L.Perm P.1 → (L.Pairwise fun a b => ¬ ltN b.name a.name) → L = D.1
theorem PreOK.no {P D : List En × Int} {e : Int} (h1 : P = ([], e)) (h2 : D = ([], e)) : PreOK P D := by
  subst h1 h2
  exact ⟨rfl, fun L hp _ => List.perm_nil.1 hp⟩
theorem PreOK.yes {P D : List En × Int} {p d : List En} (h1 : P = (p, 0)) (h2 : D = (d, 0)) (hn : (p.map En.name).Nodup) (ha : AscE d) (hm : ∀ x, x ∈ d ↔ x ∈ p) : PreOK P D := by
  subst h1 h2
  exact ⟨rfl, fun L hp hs => srt_eq hp hs hn ha hm⟩
theorem idxN_hasT {l : List En} {n : Nm} {i : Nat} (h : idxN l n = some i) : hasN (l.map En.name) n = true := by rw [← idxN_has, h]; rfl
theorem idxN_hasF {l : List En} {n : Nm} (h : idxN l n = none) : hasN (l.map En.name) n = false := by rw [← idxN_has, h]; rfl
theorem pre_add {s : Sg} {l : List En} {c : Chg} (h : edB s l = true) (hc : chgB s c = true) (hk : c.kind = 1) : PreOK (addL l c) (doL l c) := by
  obtain ⟨hl, ha⟩ := edB_iff.1 h
  have hD : doL l c = if hasN (l.map En.name) c.ent.name then ([], 6) else if 60 ≤ l.length then ([], 4) else (putE c.ent l, 0) := by unfold doL; rw [if_pos hk]
  unfold addL
  cases hi : idxN l c.ent.name with
  | some i =>
    rw [idxN_hasT hi] at hD
    exact PreOK.no rfl hD
  | none =>
    rw [idxN_hasF hi, if_neg (by simp)] at hD
    have hn := hasE_no.1 (idxN_hasF hi)
    by_cases h60 : l.length = 60
    · rw [if_pos (by omega)] at hD
      exact PreOK.no (by rw [if_neg (by simp), if_pos h60]) hD
    · have := hl.len
      rw [if_neg (by omega)] at hD
      refine PreOK.yes (by rw [if_neg (by simp), if_neg h60]) hD ?_ (putE_asc ha hn) fun x => ?_
      · rw [List.map_append, List.nodup_append]
        refine ⟨hl.nd, by simp, fun a ha b hb e => ?_⟩
        obtain ⟨y, hy, rfl⟩ := List.mem_map.1 ha
        simp at hb
        exact hn y hy (e.trans hb)
      · rw [putE_mem, List.mem_append, List.mem_singleton, or_comm]
theorem pre_set {s : Sg} {l : List En} {c : Chg} (h : edB s l = true) (hc : chgB s c = true) (hk : c.kind = 2) : PreOK (setL l c) (doL l c) := by
  obtain ⟨hl, ha⟩ := edB_iff.1 h
  have hD : doL l c = if hasN (l.map En.name) c.ent.name then if c.ent ∈ l then ([], 8) else (l.map (subE c.ent), 0) else ([], 5) := by unfold doL; rw [if_neg (by omega), if_pos hk]
  unfold setL
  cases hi : idxN l c.ent.name with
  | none =>
    rw [idxN_hasF hi, if_neg (by simp)] at hD
    exact PreOK.no rfl hD
  | some i =>
    rw [idxN_hasT hi, if_pos rfl] at hD
    obtain ⟨hil, hin⟩ := idxN_some hi
    by_cases he : l[i] = c.ent
    · rw [if_pos (he ▸ List.getElem_mem hil)] at hD
      refine PreOK.no ?_ hD
      show (if l.getD i en0 = c.ent then _ else _) = _
      rw [getD_at hil, if_pos he]
    · have hne : c.ent ∉ l := fun hm => he (ha.inj (List.getElem_mem hil) hm hin)
      rw [if_neg hne] at hD
      have hEQ : l.set i c.ent = l.map (subE c.ent) := by
        refine List.ext_getElem (by simp) fun j hj hj' => ?_
        rw [List.getElem_set, List.getElem_map]
        have hj0 : j < l.length := by simpa using hj
        unfold subE
        by_cases e : i = j
        · subst e
          rw [if_pos rfl, if_pos hin]
        · rw [if_neg e, if_neg]
          intro e2
          have h1 := idxN_nd hl.nd hil
          have h2 := idxN_nd hl.nd hj0
          rw [hin] at h1
          rw [e2, h1] at h2
          exact e (Option.some.inj h2)
      refine PreOK.yes (p := l.map (subE c.ent)) ?_ hD ?_ (ascE_names (sub_names _ _).symm ha) fun x => Iff.rfl
      · show (if l.getD i en0 = c.ent then _ else _) = _
        rw [getD_at hil, if_neg he, hEQ]
      · rw [sub_names]; exact hl.nd
theorem pre_drop {s : Sg} {l : List En} {c : Chg} (h : edB s l = true) (hc : chgB s c = true) (hk : c.kind = 4) : PreOK (dropL l c) (doL l c) := by
  obtain ⟨hl, ha⟩ := edB_iff.1 h
  have hD : doL l c = if hasN (l.map En.name) c.name then if usedB l c.name c.name then ([], 10) else (l.filter (fun x => decide (x.name ≠ c.name)), 0) else ([], 5) := by unfold doL; rw [if_neg (by omega), if_neg (by omega), if_neg (by omega)]
  unfold dropL
  cases hi : idxN l c.name with
  | none =>
    rw [idxN_hasF hi, if_neg (by simp)] at hD
    exact PreOK.no rfl hD
  | some i =>
    rw [idxN_hasT hi, if_pos rfl] at hD
    obtain ⟨hil, hin⟩ := idxN_some hi
    by_cases hu : usedB l c.name c.name = true
    · rw [if_pos hu] at hD
      exact PreOK.no (by show (if usedB l c.name c.name = true then _ else _) = _; rw [if_pos hu]) hD
    · rw [if_neg hu] at hD
      have hmem : ∀ x, x ∈ l.filter (fun x => decide (x.name ≠ c.name)) ↔ x ∈ l.eraseIdx i := by
        intro x
        rw [List.mem_filter, List.mem_eraseIdx_iff_getElem]
        constructor
        · rintro ⟨hx, hne⟩
          obtain ⟨j, hj, rfl⟩ := List.getElem_of_mem hx
          refine ⟨j, hj, fun e => ?_, rfl⟩
          subst e
          simp at hne
          exact hne hin
        · rintro ⟨j, hj, hne, rfl⟩
          refine ⟨List.getElem_mem hj, ?_⟩
          have h1 := idxN_nd hl.nd hil
          have h2 := idxN_nd hl.nd hj
          simp only [ne_eq, decide_not, Bool.not_eq_true', decide_eq_false_iff_not]
          intro e2
          rw [hin] at h1
          rw [e2, h1] at h2
          exact hne (Option.some.inj h2).symm
      exact PreOK.yes (by show (if usedB l c.name c.name = true then _ else _) = _; rw [if_neg hu]) hD (hl.nd.sublist ((List.eraseIdx_sublist l i).map En.name)) (List.Pairwise.sublist List.filter_sublist ha) hmem
theorem pre_ren {s : Sg} {l : List En} {c : Chg} (h : edB s l = true) (hc : chgB s c = true) (hk : c.kind = 3) : PreOK (renaL l c) (doL l c) := by
  obtain ⟨hl, ha⟩ := edB_iff.1 h
  have hD : doL l c = if hasN (l.map En.name) c.name then if hasN (l.map En.name) c.new || usedB l c.new em then ([], 6) else (srtE (l.map (renE c.name c.new)), 0) else ([], 5) := by unfold doL; rw [if_neg (by omega), if_neg (by omega), if_pos hk]
  unfold renaL
  cases hi : idxN l c.name with
  | none =>
    rw [idxN_hasF hi, if_neg (by simp)] at hD
    exact PreOK.no rfl hD
  | some i =>
    rw [idxN_hasT hi, if_pos rfl] at hD
    obtain ⟨hil, hin⟩ := idxN_some hi
    rw [← idxN_has] at hD
    by_cases hu : ((idxN l c.new).isSome || usedB l c.new em) = true
    · rw [if_pos hu] at hD
      exact PreOK.no (by show (if ((idxN l c.new).isSome || usedB l c.new em) = true then _ else _) = _; rw [if_pos hu]) hD
    · rw [if_neg hu] at hD
      have hEQ : (l.set i { l.getD i en0 with name := c.new }).map (useE c.name c.new) = l.map (renE c.name c.new) := by
        refine List.ext_getElem (by simp) fun j hj hj' => ?_
        rw [List.getElem_map, List.getElem_map, List.getElem_set]
        have hj0 : j < l.length := by simpa using hj'
        have hnd := (hl.ents _ (List.getElem_mem hj0)).nd
        by_cases e : i = j
        · subst e
          rw [if_pos rfl, getD_at hil, useE_ren (x := { l[i] with name := c.new }) hnd]
          unfold renE
          simp only [En.mk.injEq, and_true]
          unfold renN
          rw [if_pos hin]
        · rw [if_neg e, useE_ren hnd]
          unfold renE
          have hne : l[j].name ≠ c.name := by
            intro e2
            have h1 := idxN_nd hl.nd hil
            have h2 := idxN_nd hl.nd hj0
            rw [hin] at h1
            rw [e2, h1] at h2
            exact e (Option.some.inj h2)
          have hr : renN c.name c.new l[j].name = l[j].name := by unfold renN; rw [if_neg hne]
          rw [hr]
      have hnn : hasN (l.map En.name) c.new = false := by
        rw [← idxN_has]
        cases hx : (idxN l c.new).isSome with
        | false => rfl
        | true => rw [hx] at hu; exact absurd rfl hu
      have hnd := ren_nd (n := c.name) hl.nd hnn
      refine PreOK.yes (p := l.map (renE c.name c.new)) ?_ hD hnd (srtE_asc hnd) fun x => srtE_mem _
      show (if ((idxN l c.new).isSome || usedB l c.new em) = true then _ else _) = _
      rw [if_neg hu, hEQ]
theorem posU (us : List Nm) (n : Nm) : firstI us.length (fun i => decide (n = us.getD i ByteArray.empty)) = match us.findIdx? (fun u => decide (u = n)) with | some k => (k : Int) | none => -1 := by
  have e1 : ∀ j (hj : j < us.length), us.getD j ByteArray.empty = us[j] := fun j hj => by rw [List.getD_eq_getElem?_getD, List.getElem?_eq_getElem hj]; rfl
  cases hf : us.findIdx? (fun u => decide (u = n)) with
  | none =>
    rw [List.findIdx?_eq_none_iff] at hf
    refine firstI_no fun j hj => ?_
    rw [decide_eq_false_iff_not, e1 j hj]
    intro e
    have := hf _ (List.getElem_mem hj)
    rw [← e] at this
    simp at this
  | some k =>
    obtain ⟨h1, h2, h3⟩ := List.findIdx?_eq_some_iff_getElem.1 hf
    refine firstI_at h1 ?_ fun j hj => ?_
    · rw [e1 k h1]; simpa using (show us[k] = n by simpa using h2).symm
    · rw [e1 j (by omega), decide_eq_false_iff_not]
      intro e
      have := h3 j hj
      simp at this
      exact this e.symm
theorem EnW.cells {w : World} {base g n c : Nat} {vs : List V3} {l : List En} (h : EnW w base (.slice (some ⟨g, 0, none⟩) n c) vs l) (hn : n = l.length) {j : Nat} (hj : j < l.length) (hv : j < vs.length) :
    w.cell? ⟨g, j * 5, none⟩ = some (.string l[j].name) ∧ w.cell? ⟨g, j * 5 + 1, none⟩ = some (.string l[j].who) ∧ w.cell? ⟨g, j * 5 + 2, none⟩ = some vs[j].1 ∧ w.cell? ⟨g, j * 5 + 3, none⟩ = some vs[j].2.1 ∧ w.cell? ⟨g, j * 5 + 4, none⟩ = some vs[j].2.2 := by
  subst hn
  obtain ⟨g0, g1, g2, g3, g4⟩ := ensC_get l vs h.len j hj hv
  have key : ∀ r, r < 5 → w.cell? ⟨g, j * 5 + r, none⟩ = (ensC l vs)[j * 5 + r]? := fun r hr => h.top.cellAt (j * 5 + r) (by omega)
  exact ⟨(key 0 (by omega)).trans g0, (key 1 (by omega)).trans g1, (key 2 (by omega)).trans g2, (key 3 (by omega)).trans g3, (key 4 (by omega)).trans g4⟩
/-- the entries behind k rounds: the first k are turned. -/
def turnK (f : En → En) (L : List En) (k : Nat) : List En := (L.take k).map f ++ L.drop k
theorem turnK_0 (f : En → En) (L : List En) : turnK f L 0 = L := by simp [turnK]
theorem turnK_len (f : En → En) (L : List En) (k : Nat) : (turnK f L k).length = L.length := by simp [turnK]; omega
theorem turnK_get {f : En → En} {L : List En} {k : Nat} (h : k < L.length) : (turnK f L k)[k]'(by rw [turnK_len]; exact h) = L[k] := by
  unfold turnK
  rw [List.getElem_append_right (by simp; omega)]
  simp [Nat.min_eq_left (Nat.le_of_lt h)]
theorem turnK_next {f : En → En} {L : List En} {k : Nat} (h : k < L.length) : turnK f L (k + 1) = (turnK f L k).set k (f L[k]) := by
  unfold turnK
  have hlen : ((L.take k).map f).length = k := by simp; omega
  rw [List.take_succ_eq_append_getElem h, List.map_append, List.drop_eq_getElem_cons h, List.set_append, if_neg (by omega), hlen, Nat.sub_self, List.set_cons_zero]
  simp
theorem turnK_all (f : En → En) (L : List En) {k : Nat} (h : L.length ≤ k) : turnK f L k = L.map f := by
  unfold turnK
  rw [List.take_of_length_le h, List.drop_of_length_le h, List.append_nil]
set_option maxHeartbeats 4000000 in
set_option maxRecDepth 100000 in
theorem blame_rename (base : Nat) (u : Value) (vs : List V3) (l : List En) (c : Chg) (vS vU vP : Value) (w : World) (hE : EnW w base u vs l) (hc : ChgAt w vS vU vP c) (hb : base ≤ w.heap.size) (hl : l.length ≤ 60) :
    Calls Tryz.prog 112 #[u, chV c vS vU vP] w fun e w' => MadeQ base (renaL l c) w e w' := by
  obtain ⟨sa, sc, rfl, -⟩ := hc.e.s.open
  obtain ⟨ua, uc, rfl, -⟩ := hc.e.u.open
  obtain ⟨pa, pc, rfl, -⟩ := hc.e.p.open
  unfold chV
  have hCB := CB.new w c (.slice sa c.ent.says.length sc) (.slice ua c.ent.uses.length uc) (.slice pa c.ent.proof.length pc) 43
  obtain ⟨V, hV⟩ : ∃ V, w.alloc (.cells #[.int .i64 c.kind, .string c.who, .string c.name, .string c.new, .string c.ent.name, .string c.ent.who, .slice sa c.ent.says.length sc, .slice ua c.ent.uses.length uc, .slice pa c.ent.proof.length pc] 43) = V := ⟨_, rfl⟩
  have hbV : Below w.heap.size w V := hV ▸ (Below.refl _ _).alloc (Nat.le_refl _) _
  have HVZ := hid (show V.heap.size = w.heap.size + 1 by rw [← hV]; simp)
  rw [hV] at hCB
  have HF := hid (blame_find _ l c.name V ((hE.below hbV).ents (by omega)))
  have HF2 := hid (fun (X : World) (hX : Below V.heap.size V X) => blame_find _ l c.new X (((hE.below hbV).below hX).ents (by omega)))
  have HU := hid (fun (X : World) (hX : Below V.heap.size V X) => blame_used _ l c.new em X (((hE.below hbV).below hX).ents (by omega)))
  have HW := hid hV
  have HBV := hid hbV
  have HCB := hid hCB
  have HE := hid hE
  have HN3 := hid hc.n3
  obtain ⟨c0, c1, c2, c3, c4, c5, c6, c7, c8⟩ := hCB
  clear hV hE hc hbV
  cases hi : idxN l c.name with
  | none =>
    have HR : Hid (renaL l c = ([], 5)) := hid (by unfold renaL; rw [hi])
    rw [idxI_no hi] at HF
    obtain ⟨ra, rc, rfl⟩ := HE.out.slice
    clear hi
    go_enter Tryz.func112, Tryz.ntmps112
    go_wp2_with fail
    rw [HW.out]
    refine HF.out.mono ?_
    rintro e w1 ⟨rfl, hb1⟩
    go_wp2
    go_ret2
    exact MadeQ.no HR.out ((HBV.out.trans (hb1.mono HBV.out.size)).mono hb)
  | some i =>
    rw [idxI_some hi] at HF
    have b0 : (0 : Int) ≤ (i : Int) := by omega
    obtain ⟨hil, -⟩ := idxN_some hi
    have b1 : (i : Int) < (l.length : Int) := by omega
    obtain ⟨g, rc, rfl, hg1, hg2, hg3⟩ := HE.out.toS.blk (by omega)
    have HRR : Hid (renaL l c = if ((idxN l c.new).isSome || usedB l c.new em) = true then ([], 6) else ((l.set i { l[i] with name := c.new }).map (useE c.name c.new), 0)) := hid (by unfold renaL; rw [hi]; show (if ((idxN l c.new).isSome || usedB l c.new em) = true then _ else _) = _; rw [getD_at hil])
    clear hi
    go_enter Tryz.func112, Tryz.ntmps112
    go_wp2_with fail
    rw [HW.out]
    refine HF.out.mono ?_
    rintro e w1 ⟨rfl, hb1⟩
    obtain ⟨d0, d1, d2, d3, d4, d5, d6, d7, d8⟩ := HCB.out.below hb1
    have HF3 := hid (HF2.out w1 hb1)
    have HBa := hid hb1
    clear c0 c1 c2 c3 c4 c5 c6 c7 c8 hb1
    cases hj : idxN l c.new with
    | some j =>
      have HR : Hid (renaL l c = ([], 6)) := hid (by rw [HRR.out, hj]; rfl)
      rw [idxI_some hj] at HF3
      have b3 : (0 : Int) ≤ (j : Int) := by omega
      clear hj
      go_wp2_with fail
      refine HF3.out.mono ?_
      rintro e w2 ⟨rfl, hb2⟩
      go_wp2
      go_ret2
      exact MadeQ.no HR.out ((HBV.out.trans ((HBa.out.trans (hb2.mono HBa.out.size)).mono HBV.out.size)).mono hb)
    | none =>
      rw [idxI_no hj] at HF3
      rw [hj] at HRR
      clear hj
      go_wp2_with fail
      refine HF3.out.mono ?_
      rintro e w2 ⟨rfl, hb2⟩
      have hBb := HBa.out.trans (hb2.mono HBa.out.size)
      have HU2 := hid (HU.out w2 hBb)
      obtain ⟨d0, d1, d2, d3, d4, d5, d6, d7, d8⟩ := HCB.out.below hBb
      have HBb := hid hBb
      clear hb2 hBb
      go_wp2_with fail
      refine HU2.out.mono ?_
      rintro e w3 ⟨rfl, hb3⟩
      have hBc := HBb.out.trans (hb3.mono HBb.out.size)
      have HBc := hid hBc
      obtain ⟨bb, hbb⟩ : ∃ bb, (l.any fun x => decide (x.name ≠ em) && hasN x.uses c.new) = bb := ⟨_, rfl⟩
      have hub : usedB l c.new em = bb := hbb
      rw [hbb]
      cases bb
      case true =>
        have HR : Hid (renaL l c = ([], 6)) := hid (by rw [HRR.out, hub]; rfl)
        clear hbb hub hb3 hBc
        go_wp2
        go_ret2
        exact MadeQ.no HR.out ((HBV.out.trans (HBc.out.mono HBV.out.size)).mono hb)
      case false =>
        have HR : Hid (renaL l c = ((l.set i { l[i] with name := c.new }).map (useE c.name c.new), 0)) := hid (by rw [HRR.out, hub]; rfl)
        have hbw3 := HBV.out.trans (HBc.out.mono HBV.out.size)
        have hE3 := HE.out.below hbw3
        have p0 := hE3.top.frozenAt (i * 5)
        obtain ⟨-, -, -, -, -, -, f0, -⟩ := hE3.toS.cells rfl hil
        obtain ⟨d0, d1, d2, d3, d4, d5, d6, d7, d8⟩ := HCB.out.below hBc
        have hE4 := hE3.setName rfl hil c.new HN3.out
        have hC4 : CB (w3.setCell ⟨g, i * 5, none⟩ (.string c.new)) w.heap.size c (.slice sa c.ent.says.length sc) (.slice ua c.ent.uses.length uc) (.slice pa c.ent.proof.length pc) := (HCB.out.below hBc).block (Below.heap_setCell _ _ _ _ (by show w.heap.size ≠ g; omega))
        have hb4 : Below base w (w3.setCell ⟨g, i * 5, none⟩ (.string c.new)) := (hbw3.mono hb).setCell (p := ⟨g, i * 5, none⟩) hg1 _
        have hUB : ∀ j (h : j < vs.length), ∀ b, vs[j].2.1.ownBlock = some b → base ≤ b ∧ b < w.heap.size := fun j h b hb => (HE.out.own j (by rw [← HE.out.len]; exact h) h).u.lt b hb
        obtain ⟨L0, hL0⟩ : ∃ L0, l.set i { l[i] with name := c.new } = L0 := ⟨_, rfl⟩
        rw [hL0] at hE4 HR
        have hLL : L0.length = l.length := by rw [← hL0, List.length_set]
        obtain ⟨W4, hW4⟩ : ∃ W4, w3.setCell ⟨g, i * 5, none⟩ (.string c.new) = W4 := ⟨_, rfl⟩
        rw [hW4] at hE4 hC4 hb4
        have hz4 : w.heap.size < W4.heap.size := World.block_lt_of_cell? _ _ hC4.c0
        have HW4 := hid hW4
        have HE4 := hid hE4
        have HC4 := hid hC4
        have HB4 := hid hb4
        have HUB := hid hUB
        have HLL := hid hLL
        have HG := hid (And.intro hg1 hg2)
        clear hbb hub hb3 hBc hbw3 hE3 hE4 hC4 hb4 hUB hW4 hL0 HF HF2 HF3 HU HU2
        go_wp2_with (rw [HW4.out])
        clear d0 d1 d2 d3 d4 d5 d6 d7 d8 f0 p0
        go_loopw [35] (fun kv wr => ∃ k : Nat, k ≤ l.length ∧ kv = .int .i64 k ∧ EnW wr base (.slice (some ⟨g, 0, none⟩) l.length rc) vs (turnK (useE c.name c.new) L0 k) ∧ CB wr w.heap.size c (.slice sa c.ent.says.length sc) (.slice ua c.ent.uses.length uc) (.slice pa c.ent.proof.length pc) ∧ Below base w wr) (fun kv _ => l.length - (intOf kv).toNat)
        case atStart => exact ⟨0, by omega, rfl, by rw [turnK_0]; exact HE4.out, HC4.out, HB4.out⟩
        case round =>
          clear HW4 HE4 HC4 HB4
          obtain ⟨k, hk, rfl, hEr, hCr, hbr⟩ := hrel
          have hTL : (turnK (useE c.name c.new) L0 k).length = l.length := by rw [turnK_len]; exact HLL.out
          by_cases hlt : k < l.length
          · have hk0 : k < L0.length := by rw [HLL.out]; exact hlt
            have hk1 : k < vs.length := by rw [hEr.len, hTL]; exact hlt
            have hkt : k < (turnK (useE c.name c.new) L0 k).length := by rw [hTL]; exact hlt
            obtain ⟨e0, e1, e2, e3, e4⟩ := hEr.cells hTL.symm hkt hk1
            have hO := hEr.own k hkt hk1
            have HTN := hid (turnK_next (f := useE c.name c.new) hk0)
            have HGT : Hid ((turnK (useE c.name c.new) L0 k)[k] = L0[k]) := hid (turnK_get hk0)
            rw [HGT.out] at e0 e1 hO
            obtain ⟨x, hx⟩ : ∃ x, L0[k] = x := ⟨_, rfl⟩
            rw [hx] at e0 e1 hO HTN HGT
            obtain ⟨a1, k1, q1⟩ := owns_slice hO.s
            obtain ⟨a2, k2, q2⟩ := owns_slice hO.u
            obtain ⟨a3, k3, q3⟩ := owns_slice hO.p
            have HQ2 := hid q2
            rw [q1, q2, q3] at hO
            rw [q1] at e2
            rw [q2] at e3
            rw [q3] at e4
            have EB0 := EB.new wr x (.slice a1 x.says.length k1) (.slice a2 x.uses.length k2) (.slice a3 x.proof.length k3) 41
            obtain ⟨W, hW⟩ : ∃ W, wr.alloc (.cells #[.string x.name, .string x.who, .slice a1 x.says.length k1, .slice a2 x.uses.length k2, .slice a3 x.proof.length k3] 41) = W := ⟨_, rfl⟩
            have hbW : Below wr.heap.size wr W := hW ▸ (Below.refl _ _).alloc (Nat.le_refl _) _
            rw [hW] at EB0
            have hEW := hEr.below hbW
            have hCW := hCr.below hbW
            have hOW := hO.blocks (Nat.le_refl _) (W' := W) fun q _ hq => hbW.block q hq
            have hzr : w.heap.size < wr.heap.size := World.block_lt_of_cell? _ _ hCr.c0
            have HIX := hid (sl_Index_strs _ x.uses c.name W hOW.ent.u)
            have HPU := hid (posU x.uses c.name)
            have HBW := hid (hbr.trans (hbW.mono (by omega)))
            obtain ⟨g0, g1, g2, g3, g4⟩ := EB0
            obtain ⟨d0, d1, d2, d3, d4, d5, d6, d7, d8⟩ := hCW
            have HCW := hid (CB.mk (c := c) d0 d1 d2 d3 d4 d5 d6 d7 d8)
            have HEW := hid hEW
            have HOW := hid hOW
            have HW := hid hW
            have HTL := hid hTL
            have HKT := hid hkt
            clear hx hW hbW hEW hEr hCr hO hOW q1 q2 q3 hTL hbr
            cases hf : x.uses.findIdx? (fun u => decide (u = c.name)) with
            | none =>
              have HUE : Hid (useE c.name c.new x = x) := hid (by unfold useE; rw [hf])
              rw [hf] at HPU
              obtain ⟨ix, hix⟩ : ∃ ix, firstI x.uses.length (fun i => decide (c.name = x.uses.getD i ByteArray.empty)) = ix := ⟨_, rfl⟩
              rw [hix] at HIX HPU
              have hin : ix = -1 := HPU.out
              subst hin
              clear hf hix HPU
              go_wp2_with (first | rw [HW.out] | (go_at_call 152; refine HIX.out.mono ?_; rintro e w' ⟨rfl, rfl⟩))
              go_roundw
              case rel =>
                refine ⟨k + 1, by omega, by go_num, ?_, HCW.out, HBW.out⟩
                rw [HTN.out, HUE.out]
                have e9 : (turnK (useE c.name c.new) L0 k).set k x = turnK (useE c.name c.new) L0 k := by
                  conv => lhs; rw [← HGT.out]
                  exact List.set_getElem_self HKT.out
                rw [e9]
                exact HEW.out
              case measure => simp [intOf]; omega
            | some p =>
              have HUE : Hid (useE c.name c.new x = { x with uses := x.uses.set p c.new }) := hid (by unfold useE; rw [hf])
              obtain ⟨hpl, -, -⟩ := List.findIdx?_eq_some_iff_getElem.1 hf
              rw [hf] at HPU
              obtain ⟨ix, hix⟩ : ∃ ix, firstI x.uses.length (fun i => decide (c.name = x.uses.getD i ByteArray.empty)) = ix := ⟨_, rfl⟩
              rw [hix] at HIX HPU
              have hin : ix = (p : Int) := HPU.out
              subst hin
              have hu := HOW.out.u
              obtain ⟨bb, ca, e5, hbb⟩ : ∃ bb ca, Value.slice a2 x.uses.length k2 = .slice (some ⟨bb, 0, none⟩) x.uses.length ca ∧ x.uses.length ≤ ca := by
                rcases hu.2 with ⟨-, h0⟩ | ⟨bb, ca, cur, e5, -, -, h6, -⟩
                · omega
                · exact ⟨bb, ca, e5, h6⟩
              cases e5
              have hcell := hu.cellAt p (by omega)
              rw [List.getElem?_map, List.getElem?_eq_getElem hpl] at hcell
              have hcell : W.cell? ⟨bb, p, none⟩ = some (.string x.uses[p]) := hcell
              have hfz := hu.frozenAt p
              have hbn := HUB.out k hk1 bb (by rw [HQ2.out]; rfl)
              have b5 : (0 : Int) ≤ (p : Int) := by omega
              have b6 : (p : Int) < (x.uses.length : Int) := by omega
              have hE5 := HEW.out.setUse HKT.out hk1 HQ2.out (i := p) (by rw [HGT.out]; exact hpl) c.new HN3.out
              have hC5 := HCW.out.block (w' := W.setCell ⟨bb, p, none⟩ (.string c.new)) (Below.heap_setCell _ _ _ _ (by show w.heap.size ≠ bb; omega))
              have hb5 := HBW.out.setCell (p := ⟨bb, p, none⟩) hbn.1 (.string c.new)
              rw [HGT.out] at hE5
              have HE5 := hid hE5
              have HC5 := hid hC5
              have HB5 := hid hb5
              clear hf hix HPU hu hbn hE5 hC5 hb5
              go_wp2_with (first | rw [HW.out] | (go_at_call 152; refine HIX.out.mono ?_; rintro e w' ⟨rfl, rfl⟩))
              go_roundw
              case rel =>
                refine ⟨k + 1, by omega, by go_num, ?_, HC5.out, HB5.out⟩
                rw [HTN.out, HUE.out]
                exact HE5.out
              case measure => simp [intOf]; omega
          · have hkl : k = l.length := by omega
            subst hkl
            rw [turnK_all _ _ (by rw [HLL.out]; exact Nat.le_refl _)] at hEr
            have HER := hid hEr.toS
            have HFR := hid hEr.fr
            clear hEr hCr
            go_wp2
            go_ret2
            exact MadeQ.mk _ _ _ _ HR.out rfl HER.out hbr HFR.out
end Go.Proofs.YtlbjbmpkaniojaaGreat
namespace Go.Proofs.YtlbjbmpkaniojaaGreat
open Go Go.RowKit Go.Maps
theorem EnS.mono {w : World} {base base' : Nat} {u : Value} {vs : List V3} {l : List En} (h : EnS w base u vs l) (hb : base' ≤ base) : EnS w base' u vs l := ⟨owns_base h.top hb, h.len, h.rd⟩
theorem FrB.mono {base base' : Nat} {vs : List V3} (h : FrB base vs) (hb : base' ≤ base) : FrB base' vs := fun v hv q hq => Nat.le_trans hb (h v hv q hq)
/-- a library that lies whole in blocks from 'base' on. -/
def EntsF (w : World) (base : Nat) (u : Value) (l : List En) : Prop := ∃ vs, EnS w base u vs l ∧ FrB base vs ∧ l.length ≤ 1000
theorem rowK_block {w W' : World} {v : Value} {k n : Nat} {xs : List Value} (h : RowK w v k n xs) (hs : ∀ q, v.ownBlock = some q → q < w.heap.size → W'.heap[q]? = w.heap[q]?) : RowK W' v k n xs := by
  obtain ⟨h1, a, cap, h2, h3, h4, h5, h6⟩ := h
  refine ⟨h1, a, cap, h2, h3, h4, h5, fun j u hj => ?_⟩
  obtain ⟨b, o, e, hc⟩ := h6 j u hj
  subst e
  exact ⟨b, o, rfl, (World.cell?_of_block (hs b (by rw [h2]; rfl) (World.block_lt_of_cell? _ _ hc))).trans hc⟩
theorem EntAt.blocks {w W' : World} {vS vU vP : Value} {x : En} (h : EntAt w vS vU vP x) (hs : ∀ q, (vS.ownBlock = some q ∨ vU.ownBlock = some q ∨ vP.ownBlock = some q) → q < w.heap.size → W'.heap[q]? = w.heap[q]?) : EntAt W' vS vU vP x :=
  ⟨rowK_block h.s fun q hq => hs q (Or.inl hq), ⟨rowK_block h.u.1 fun q hq => hs q (Or.inr (Or.inl hq)), h.u.2⟩, rowK_block h.p fun q hq => hs q (Or.inr (Or.inr hq)), h.n1, h.n2⟩
theorem EntsF.ents {w : World} {base : Nat} {u : Value} {l : List En} (h : EntsF w base u l) : EntsAt w u l := by
  obtain ⟨vs, h1, h2, h3⟩ := h
  exact ⟨vs, h1.ents h3⟩
theorem EntsF.nil (w : World) (base : Nat) : EntsF w base (.slice none 0 0) [] := ⟨[], EnS.nil _ _, (fun v hv => by cases hv), by simp⟩
theorem EntsF.mono {w : World} {base base' : Nat} {u : Value} {l : List En} (h : EntsF w base u l) (hb : base' ≤ base) : EntsF w base' u l := by
  obtain ⟨vs, h1, h2, h3⟩ := h
  exact ⟨vs, h1.mono hb, h2.mono hb, h3⟩
/-- it reads as it did wherever the blocks from 'base' on are as they were. -/
theorem EntsF.keep {w W' : World} {base : Nat} {u : Value} {l : List En} (h : EntsF w base u l) (hs : ∀ q, base ≤ q → q < w.heap.size → W'.heap[q]? = w.heap[q]?) : EntsAt W' u l := by
  obtain ⟨vs, h1, h2, h3⟩ := h
  have e := h1.ents h3
  refine ⟨vs, rowK_block e.1 fun q hq => hs q (h1.top.lt q hq).1, h1.len, fun j hj hj' => ?_⟩
  exact (e.2.2 j hj hj').blocks fun q hq => hs q (h2 _ (List.getElem_mem hj') q hq)
theorem addL_len (l : List En) (c : Chg) : (addL l c).1.length ≤ l.length + 1 := by unfold addL; split; simp; split; simp; simp
theorem setL_len (l : List En) (c : Chg) : (setL l c).1.length ≤ l.length + 1 := by unfold setL; split; simp; split; simp; simp
theorem dropL_len (l : List En) (c : Chg) : (dropL l c).1.length ≤ l.length + 1 := by
  unfold dropL
  split
  · simp
  split
  · simp
  · have := (List.eraseIdx_sublist l ‹Nat›).length_le
    show (l.eraseIdx _).length ≤ _
    omega
theorem renaL_len (l : List En) (c : Chg) : (renaL l c).1.length ≤ l.length + 1 := by unfold renaL; split; simp; split; simp; simp
set_option maxHeartbeats 4000000 in
set_option maxRecDepth 100000 in
theorem blame_made1 (vl : Value) (l : List En) (c : Chg) (vS vU vP : Value) (w : World) (hl : EntsAt w vl l) (hc : ChgAt w vS vU vP c) (hk : c.kind = 1) (hl60 : l.length ≤ 60) (hok : ∀ x ∈ l, EnSm x) (hsm : 1 ≤ 2 → EnSm c.ent) :
    Calls Tryz.prog 61 #[vl, chV c vS vU vP] w fun e w' => ∃ u L, e = .returned (.tuple #[u, .int .i64 (addL l c).2]) ∧ EntsF w' w.heap.size u L ∧ L.Perm (addL l c).1 ∧ (L.Pairwise fun a b => ¬ ltN b.name a.name) ∧ Below w.heap.size w w' := by
  obtain ⟨ck, cw, cn, cm, ce⟩ := c
  have hk : ck = 1 := hk
  subst hk
  obtain ⟨sa, sc, rfl, -⟩ := hc.e.s.open
  obtain ⟨ua, uc, rfl, -⟩ := hc.e.u.open
  obtain ⟨pa, pc, rfl, -⟩ := hc.e.p.open
  unfold chV
  simp only
  have hCB := CB.new w ⟨1, cw, cn, cm, ce⟩ (.slice sa ce.says.length sc) (.slice ua ce.uses.length uc) (.slice pa ce.proof.length pc) 43
  simp only at hCB
  obtain ⟨V, hV⟩ : ∃ V, w.alloc (.cells #[.int .i64 1, .string cw, .string cn, .string cm, .string ce.name, .string ce.who, .slice sa ce.says.length sc, .slice ua ce.uses.length uc, .slice pa ce.proof.length pc] 43) = V := ⟨_, rfl⟩
  have hbV : Below w.heap.size w V := hV ▸ (Below.refl _ _).alloc (Nat.le_refl _) _
  have HVZ := hid (show V.heap.size = w.heap.size + 1 by rw [← hV]; simp)
  rw [hV] at hCB
  have HW := hid hV
  clear hV
  have HCO := hid (fun (X : World) (hX : Below w.heap.size w X) => blame_copies vl l X (hl.below hX) (by omega) hok)
  have HC := hid hc
  -- the array of functions
  obtain ⟨A, hA⟩ : ∃ A, V.alloc (.cells #[.nilFunc, .func (.func 110) #[] #[], .func (.func 111) #[] #[], .func (.func 112) #[] #[], .func (.func 113) #[] #[]] 122) = A := ⟨_, rfl⟩
  have hbA : Below V.heap.size V A := hA ▸ (Below.refl _ _).alloc (Nat.le_refl _) _
  have hf : A.cell? ⟨V.heap.size, 1, none⟩ = some (.func (.func 110) #[] #[]) := by rw [← hA, World.cell?_alloc_new]; rfl
  have hbw := hbV.trans (hbA.mono hbV.size)
  have hcA := hCB.below hbA
  have HA := hid hA
  have HCOA := hid (fun (X : World) (hX : Below A.heap.size A X) => HCO.out X (hbw.trans (hX.mono hbw.size)))
  have HCA := hid hcA
  have HBW := hid hbw
  have HFN := hid hf
  have HCK := hid (fun (X : World) (hX : Below A.heap.size A X) => And.intro (hcA.below hX) ((hX.cell (World.block_lt_of_cell? _ _ hf)).trans hf))
  have c0 : A.cell? ⟨w.heap.size, 0, none⟩ = some (.int .i64 1) := hcA.c0
  have c1 : A.cell? ⟨w.heap.size, 1, none⟩ = some (.string cw) := hcA.c1
  have c2 : A.cell? ⟨w.heap.size, 2, none⟩ = some (.string cn) := hcA.c2
  have c3 : A.cell? ⟨w.heap.size, 3, none⟩ = some (.string cm) := hcA.c3
  have c4 : A.cell? ⟨w.heap.size, 4, none⟩ = some (.string ce.name) := hcA.c4
  have c5 : A.cell? ⟨w.heap.size, 5, none⟩ = some (.string ce.who) := hcA.c5
  have c6 : A.cell? ⟨w.heap.size, 6, none⟩ = some (.slice sa ce.says.length sc) := hcA.c6
  have c7 : A.cell? ⟨w.heap.size, 7, none⟩ = some (.slice ua ce.uses.length uc) := hcA.c7
  have c8 : A.cell? ⟨w.heap.size, 8, none⟩ = some (.slice pa ce.proof.length pc) := hcA.c8
  obtain ⟨la, lc, rfl, -⟩ := hl.open
  have hAz : w.heap.size < A.heap.size := World.block_lt_of_cell? _ _ HCA.out.c0
  have hAz2 : V.heap.size < A.heap.size := World.block_lt_of_cell? _ _ hf
  have HSZ := hid (And.intro hAz hAz2)
  clear hA hbA hbw hcA hCB hbV hl hc HCO hAz hAz2
  go_enter Tryz.func61, Tryz.ntmps61
  go_wp2_with (first | rw [HW.out] | rw [HA.out])
  go_region_held3 (fun w' => w'.cell? ⟨w.heap.size, 0, none⟩ = some (.int .i64 1) ∧ w'.cell? ⟨w.heap.size, 1, none⟩ = some (.string cw) ∧ w'.cell? ⟨w.heap.size, 2, none⟩ = some (.string cn) ∧ w'.cell? ⟨w.heap.size, 3, none⟩ = some (.string cm) ∧ w'.cell? ⟨w.heap.size, 4, none⟩ = some (.string ce.name) ∧ w'.cell? ⟨w.heap.size, 5, none⟩ = some (.string ce.who) ∧ w'.cell? ⟨w.heap.size, 6, none⟩ = some (.slice sa ce.says.length sc) ∧ w'.cell? ⟨w.heap.size, 7, none⟩ = some (.slice ua ce.uses.length uc) ∧ w'.cell? ⟨w.heap.size, 8, none⟩ = some (.slice pa ce.proof.length pc) ∧ w'.cell? ⟨V.heap.size, 1, none⟩ = some (.func (.func 110) #[] #[]))
      (first | exact ⟨by assumption, by assumption, by assumption, by assumption, by assumption, by assumption, by assumption, by assumption, by assumption, by assumption⟩ | go_keep)
      (first
      | (go_at_call 65; (with_reducible refine (HCOA.out _ (by (repeat (first | with_reducible assumption | with_reducible exact Below.refl _ _ | with_reducible exact below_self_drewN _ _ | with_reducible refine Below.drew ?_ | with_reducible refine below_drewN ?_ _ | (with_reducible refine Below.alloc ?_ ?_ _; rotate_left; focus (first | (simp; done) | omega | (simp; omega))))))).mono ?_); rintro e wz ⟨ue, vvs, rfl, hEz, hbz⟩; have hbr : Below A.heap.size A wz := Below.trans (by (repeat (first | with_reducible assumption | with_reducible exact Below.refl _ _ | with_reducible exact below_self_drewN _ _ | with_reducible refine Below.drew ?_ | with_reducible refine below_drewN ?_ _ | (with_reducible refine Below.alloc ?_ ?_ _; rotate_left; focus (first | (simp; done) | omega | (simp; omega)))))) (hbz.mono (by (first | (simp; done) | omega | (simp; omega)))); obtain ⟨⟨c0, c1, c2, c3, c4, c5, c6, c7, c8⟩, hf⟩ := HCK.out wz hbr; simp only at c0 c1 c2 c3 c4 c5 c6 c7 c8)
      | (go_at_call 110; (refine (blame_add A.heap.size ue vvs l ⟨1, cw, cn, cm, ce⟩ (.slice sa ce.says.length sc) (.slice ua ce.uses.length uc) (.slice pa ce.proof.length pc) wz (hEz.below (by (repeat (first | with_reducible assumption | with_reducible exact Below.refl _ _ | with_reducible exact below_self_drewN _ _ | with_reducible refine Below.drew ?_ | with_reducible refine below_drewN ?_ _ | (with_reducible refine Below.alloc ?_ ?_ _; rotate_left; focus (first | (simp; done) | omega | (simp; omega))))))) (HC.out.below (HBW.out.trans (hbr.mono HBW.out.size))) (by have := hbr.size; omega) hl60 (hsm (by omega))).mono ?_); rintro e wy ⟨ur, vvr, rfl, hS, hby, hfr⟩; obtain ⟨⟨c0, c1, c2, c3, c4, c5, c6, c7, c8⟩, hf⟩ := HCK.out wy ((hbr.trans hby)); simp only at c0 c1 c2 c3 c4 c5 c6 c7 c8))
  have hzA : A.heap.size ≤ wy.heap.size := Nat.le_trans hbr.size hby.size
  have HBY := hid ((HBW.out.trans (hbr.mono HBW.out.size)).trans (hby.mono HBW.out.size))
  have HSO := hid (sort_row A.heap.size ur vvr _ wy (by have := addL_len l ⟨1, cw, cn, cm, ce⟩; omega) hS hzA)
  have HLN := hid (addL_len l ⟨1, cw, cn, cm, ce⟩)
  have HZ := hid HBW.out.size
  have HFR := hid hfr
  obtain ⟨ra, rc, rfl⟩ := hS.slice
  clear hS hEz hbz hbr hby c0 c1 c2 c3 c4 c5 c6 c7 c8 hf HCOA HCA HFN HCK HSZ hzA
  go_wp2_with fail
  refine HSO.out.mono ?_
  rintro e w5 ⟨vs5, L5, rfl, hS5, hp5, hs5, hb5, hv5⟩
  have HS5 : Hid (EntsF w5 w.heap.size _ L5) := hid ⟨vs5, hS5.mono HZ.out, (HFR.out.sub hv5).mono HZ.out, by rw [hp5.length_eq]; have := HLN.out; omega⟩
  have HP5 := hid (And.intro hp5 hs5)
  have HB5 := hid (HBY.out.trans (hb5.mono HZ.out))
  have hle := hp5.length_eq
  clear hS5 hp5 hs5 hb5
  go_wp2
  go_ret2
  exact ⟨_, L5, rfl, HS5.out, HP5.out.1, HP5.out.2, HB5.out⟩
set_option maxHeartbeats 4000000 in
set_option maxRecDepth 100000 in
theorem blame_made2 (vl : Value) (l : List En) (c : Chg) (vS vU vP : Value) (w : World) (hl : EntsAt w vl l) (hc : ChgAt w vS vU vP c) (hk : c.kind = 2) (hl60 : l.length ≤ 60) (hok : ∀ x ∈ l, EnSm x) (hsm : 2 ≤ 2 → EnSm c.ent) :
    Calls Tryz.prog 61 #[vl, chV c vS vU vP] w fun e w' => ∃ u L, e = .returned (.tuple #[u, .int .i64 (setL l c).2]) ∧ EntsF w' w.heap.size u L ∧ L.Perm (setL l c).1 ∧ (L.Pairwise fun a b => ¬ ltN b.name a.name) ∧ Below w.heap.size w w' := by
  obtain ⟨ck, cw, cn, cm, ce⟩ := c
  have hk : ck = 2 := hk
  subst hk
  obtain ⟨sa, sc, rfl, -⟩ := hc.e.s.open
  obtain ⟨ua, uc, rfl, -⟩ := hc.e.u.open
  obtain ⟨pa, pc, rfl, -⟩ := hc.e.p.open
  unfold chV
  simp only
  have hCB := CB.new w ⟨2, cw, cn, cm, ce⟩ (.slice sa ce.says.length sc) (.slice ua ce.uses.length uc) (.slice pa ce.proof.length pc) 43
  simp only at hCB
  obtain ⟨V, hV⟩ : ∃ V, w.alloc (.cells #[.int .i64 2, .string cw, .string cn, .string cm, .string ce.name, .string ce.who, .slice sa ce.says.length sc, .slice ua ce.uses.length uc, .slice pa ce.proof.length pc] 43) = V := ⟨_, rfl⟩
  have hbV : Below w.heap.size w V := hV ▸ (Below.refl _ _).alloc (Nat.le_refl _) _
  have HVZ := hid (show V.heap.size = w.heap.size + 1 by rw [← hV]; simp)
  rw [hV] at hCB
  have HW := hid hV
  clear hV
  have HCO := hid (fun (X : World) (hX : Below w.heap.size w X) => blame_copies vl l X (hl.below hX) (by omega) hok)
  have HC := hid hc
  -- the array of functions
  obtain ⟨A, hA⟩ : ∃ A, V.alloc (.cells #[.nilFunc, .func (.func 110) #[] #[], .func (.func 111) #[] #[], .func (.func 112) #[] #[], .func (.func 113) #[] #[]] 122) = A := ⟨_, rfl⟩
  have hbA : Below V.heap.size V A := hA ▸ (Below.refl _ _).alloc (Nat.le_refl _) _
  have hf : A.cell? ⟨V.heap.size, 2, none⟩ = some (.func (.func 111) #[] #[]) := by rw [← hA, World.cell?_alloc_new]; rfl
  have hbw := hbV.trans (hbA.mono hbV.size)
  have hcA := hCB.below hbA
  have HA := hid hA
  have HCOA := hid (fun (X : World) (hX : Below A.heap.size A X) => HCO.out X (hbw.trans (hX.mono hbw.size)))
  have HCA := hid hcA
  have HBW := hid hbw
  have HFN := hid hf
  have HCK := hid (fun (X : World) (hX : Below A.heap.size A X) => And.intro (hcA.below hX) ((hX.cell (World.block_lt_of_cell? _ _ hf)).trans hf))
  have c0 : A.cell? ⟨w.heap.size, 0, none⟩ = some (.int .i64 2) := hcA.c0
  have c1 : A.cell? ⟨w.heap.size, 1, none⟩ = some (.string cw) := hcA.c1
  have c2 : A.cell? ⟨w.heap.size, 2, none⟩ = some (.string cn) := hcA.c2
  have c3 : A.cell? ⟨w.heap.size, 3, none⟩ = some (.string cm) := hcA.c3
  have c4 : A.cell? ⟨w.heap.size, 4, none⟩ = some (.string ce.name) := hcA.c4
  have c5 : A.cell? ⟨w.heap.size, 5, none⟩ = some (.string ce.who) := hcA.c5
  have c6 : A.cell? ⟨w.heap.size, 6, none⟩ = some (.slice sa ce.says.length sc) := hcA.c6
  have c7 : A.cell? ⟨w.heap.size, 7, none⟩ = some (.slice ua ce.uses.length uc) := hcA.c7
  have c8 : A.cell? ⟨w.heap.size, 8, none⟩ = some (.slice pa ce.proof.length pc) := hcA.c8
  obtain ⟨la, lc, rfl, -⟩ := hl.open
  have hAz : w.heap.size < A.heap.size := World.block_lt_of_cell? _ _ HCA.out.c0
  have hAz2 : V.heap.size < A.heap.size := World.block_lt_of_cell? _ _ hf
  have HSZ := hid (And.intro hAz hAz2)
  clear hA hbA hbw hcA hCB hbV hl hc HCO hAz hAz2
  go_enter Tryz.func61, Tryz.ntmps61
  go_wp2_with (first | rw [HW.out] | rw [HA.out])
  go_region_held3 (fun w' => w'.cell? ⟨w.heap.size, 0, none⟩ = some (.int .i64 2) ∧ w'.cell? ⟨w.heap.size, 1, none⟩ = some (.string cw) ∧ w'.cell? ⟨w.heap.size, 2, none⟩ = some (.string cn) ∧ w'.cell? ⟨w.heap.size, 3, none⟩ = some (.string cm) ∧ w'.cell? ⟨w.heap.size, 4, none⟩ = some (.string ce.name) ∧ w'.cell? ⟨w.heap.size, 5, none⟩ = some (.string ce.who) ∧ w'.cell? ⟨w.heap.size, 6, none⟩ = some (.slice sa ce.says.length sc) ∧ w'.cell? ⟨w.heap.size, 7, none⟩ = some (.slice ua ce.uses.length uc) ∧ w'.cell? ⟨w.heap.size, 8, none⟩ = some (.slice pa ce.proof.length pc) ∧ w'.cell? ⟨V.heap.size, 2, none⟩ = some (.func (.func 111) #[] #[]))
      (first | exact ⟨by assumption, by assumption, by assumption, by assumption, by assumption, by assumption, by assumption, by assumption, by assumption, by assumption⟩ | go_keep)
      (first
      | (go_at_call 65; (with_reducible refine (HCOA.out _ (by (repeat (first | with_reducible assumption | with_reducible exact Below.refl _ _ | with_reducible exact below_self_drewN _ _ | with_reducible refine Below.drew ?_ | with_reducible refine below_drewN ?_ _ | (with_reducible refine Below.alloc ?_ ?_ _; rotate_left; focus (first | (simp; done) | omega | (simp; omega))))))).mono ?_); rintro e wz ⟨ue, vvs, rfl, hEz, hbz⟩; have hbr : Below A.heap.size A wz := Below.trans (by (repeat (first | with_reducible assumption | with_reducible exact Below.refl _ _ | with_reducible exact below_self_drewN _ _ | with_reducible refine Below.drew ?_ | with_reducible refine below_drewN ?_ _ | (with_reducible refine Below.alloc ?_ ?_ _; rotate_left; focus (first | (simp; done) | omega | (simp; omega)))))) (hbz.mono (by (first | (simp; done) | omega | (simp; omega)))); obtain ⟨⟨c0, c1, c2, c3, c4, c5, c6, c7, c8⟩, hf⟩ := HCK.out wz hbr; simp only at c0 c1 c2 c3 c4 c5 c6 c7 c8)
      | (go_at_call 111; (refine (blame_set A.heap.size ue vvs l ⟨2, cw, cn, cm, ce⟩ (.slice sa ce.says.length sc) (.slice ua ce.uses.length uc) (.slice pa ce.proof.length pc) wz (hEz.below (by (repeat (first | with_reducible assumption | with_reducible exact Below.refl _ _ | with_reducible exact below_self_drewN _ _ | with_reducible refine Below.drew ?_ | with_reducible refine below_drewN ?_ _ | (with_reducible refine Below.alloc ?_ ?_ _; rotate_left; focus (first | (simp; done) | omega | (simp; omega))))))) (HC.out.below (HBW.out.trans (hbr.mono HBW.out.size))) (by have := hbr.size; omega) hl60 (hsm (by omega))).mono ?_); rintro e wy ⟨ur, vvr, rfl, hS, hby, hfr⟩; obtain ⟨⟨c0, c1, c2, c3, c4, c5, c6, c7, c8⟩, hf⟩ := HCK.out wy ((hbr.trans hby)); simp only at c0 c1 c2 c3 c4 c5 c6 c7 c8))
  have hzA : A.heap.size ≤ wy.heap.size := Nat.le_trans hbr.size hby.size
  have HBY := hid ((HBW.out.trans (hbr.mono HBW.out.size)).trans (hby.mono HBW.out.size))
  have HSO := hid (sort_row A.heap.size ur vvr _ wy (by have := setL_len l ⟨2, cw, cn, cm, ce⟩; omega) hS hzA)
  have HLN := hid (setL_len l ⟨2, cw, cn, cm, ce⟩)
  have HZ := hid HBW.out.size
  have HFR := hid hfr
  obtain ⟨ra, rc, rfl⟩ := hS.slice
  clear hS hEz hbz hbr hby c0 c1 c2 c3 c4 c5 c6 c7 c8 hf HCOA HCA HFN HCK HSZ hzA
  go_wp2_with fail
  refine HSO.out.mono ?_
  rintro e w5 ⟨vs5, L5, rfl, hS5, hp5, hs5, hb5, hv5⟩
  have HS5 : Hid (EntsF w5 w.heap.size _ L5) := hid ⟨vs5, hS5.mono HZ.out, (HFR.out.sub hv5).mono HZ.out, by rw [hp5.length_eq]; have := HLN.out; omega⟩
  have HP5 := hid (And.intro hp5 hs5)
  have HB5 := hid (HBY.out.trans (hb5.mono HZ.out))
  have hle := hp5.length_eq
  clear hS5 hp5 hs5 hb5
  go_wp2
  go_ret2
  exact ⟨_, L5, rfl, HS5.out, HP5.out.1, HP5.out.2, HB5.out⟩
set_option maxHeartbeats 4000000 in
set_option maxRecDepth 100000 in
theorem blame_made3 (vl : Value) (l : List En) (c : Chg) (vS vU vP : Value) (w : World) (hl : EntsAt w vl l) (hc : ChgAt w vS vU vP c) (hk : c.kind = 3) (hl60 : l.length ≤ 60) (hok : ∀ x ∈ l, EnSm x) (hsm : 3 ≤ 2 → EnSm c.ent) :
    Calls Tryz.prog 61 #[vl, chV c vS vU vP] w fun e w' => ∃ u L, e = .returned (.tuple #[u, .int .i64 (renaL l c).2]) ∧ EntsF w' w.heap.size u L ∧ L.Perm (renaL l c).1 ∧ (L.Pairwise fun a b => ¬ ltN b.name a.name) ∧ Below w.heap.size w w' := by
  obtain ⟨ck, cw, cn, cm, ce⟩ := c
  have hk : ck = 3 := hk
  subst hk
  obtain ⟨sa, sc, rfl, -⟩ := hc.e.s.open
  obtain ⟨ua, uc, rfl, -⟩ := hc.e.u.open
  obtain ⟨pa, pc, rfl, -⟩ := hc.e.p.open
  unfold chV
  simp only
  have hCB := CB.new w ⟨3, cw, cn, cm, ce⟩ (.slice sa ce.says.length sc) (.slice ua ce.uses.length uc) (.slice pa ce.proof.length pc) 43
  simp only at hCB
  obtain ⟨V, hV⟩ : ∃ V, w.alloc (.cells #[.int .i64 3, .string cw, .string cn, .string cm, .string ce.name, .string ce.who, .slice sa ce.says.length sc, .slice ua ce.uses.length uc, .slice pa ce.proof.length pc] 43) = V := ⟨_, rfl⟩
  have hbV : Below w.heap.size w V := hV ▸ (Below.refl _ _).alloc (Nat.le_refl _) _
  have HVZ := hid (show V.heap.size = w.heap.size + 1 by rw [← hV]; simp)
  rw [hV] at hCB
  have HW := hid hV
  clear hV
  have HCO := hid (fun (X : World) (hX : Below w.heap.size w X) => blame_copies vl l X (hl.below hX) (by omega) hok)
  have HC := hid hc
  -- the array of functions
  obtain ⟨A, hA⟩ : ∃ A, V.alloc (.cells #[.nilFunc, .func (.func 110) #[] #[], .func (.func 111) #[] #[], .func (.func 112) #[] #[], .func (.func 113) #[] #[]] 122) = A := ⟨_, rfl⟩
  have hbA : Below V.heap.size V A := hA ▸ (Below.refl _ _).alloc (Nat.le_refl _) _
  have hf : A.cell? ⟨V.heap.size, 3, none⟩ = some (.func (.func 112) #[] #[]) := by rw [← hA, World.cell?_alloc_new]; rfl
  have hbw := hbV.trans (hbA.mono hbV.size)
  have hcA := hCB.below hbA
  have HA := hid hA
  have HCOA := hid (fun (X : World) (hX : Below A.heap.size A X) => HCO.out X (hbw.trans (hX.mono hbw.size)))
  have HCA := hid hcA
  have HBW := hid hbw
  have HFN := hid hf
  have HCK := hid (fun (X : World) (hX : Below A.heap.size A X) => And.intro (hcA.below hX) ((hX.cell (World.block_lt_of_cell? _ _ hf)).trans hf))
  have c0 : A.cell? ⟨w.heap.size, 0, none⟩ = some (.int .i64 3) := hcA.c0
  have c1 : A.cell? ⟨w.heap.size, 1, none⟩ = some (.string cw) := hcA.c1
  have c2 : A.cell? ⟨w.heap.size, 2, none⟩ = some (.string cn) := hcA.c2
  have c3 : A.cell? ⟨w.heap.size, 3, none⟩ = some (.string cm) := hcA.c3
  have c4 : A.cell? ⟨w.heap.size, 4, none⟩ = some (.string ce.name) := hcA.c4
  have c5 : A.cell? ⟨w.heap.size, 5, none⟩ = some (.string ce.who) := hcA.c5
  have c6 : A.cell? ⟨w.heap.size, 6, none⟩ = some (.slice sa ce.says.length sc) := hcA.c6
  have c7 : A.cell? ⟨w.heap.size, 7, none⟩ = some (.slice ua ce.uses.length uc) := hcA.c7
  have c8 : A.cell? ⟨w.heap.size, 8, none⟩ = some (.slice pa ce.proof.length pc) := hcA.c8
  obtain ⟨la, lc, rfl, -⟩ := hl.open
  have hAz : w.heap.size < A.heap.size := World.block_lt_of_cell? _ _ HCA.out.c0
  have hAz2 : V.heap.size < A.heap.size := World.block_lt_of_cell? _ _ hf
  have HSZ := hid (And.intro hAz hAz2)
  clear hA hbA hbw hcA hCB hbV hl hc HCO hAz hAz2
  go_enter Tryz.func61, Tryz.ntmps61
  go_wp2_with (first | rw [HW.out] | rw [HA.out])
  go_region_held3 (fun w' => w'.cell? ⟨w.heap.size, 0, none⟩ = some (.int .i64 3) ∧ w'.cell? ⟨w.heap.size, 1, none⟩ = some (.string cw) ∧ w'.cell? ⟨w.heap.size, 2, none⟩ = some (.string cn) ∧ w'.cell? ⟨w.heap.size, 3, none⟩ = some (.string cm) ∧ w'.cell? ⟨w.heap.size, 4, none⟩ = some (.string ce.name) ∧ w'.cell? ⟨w.heap.size, 5, none⟩ = some (.string ce.who) ∧ w'.cell? ⟨w.heap.size, 6, none⟩ = some (.slice sa ce.says.length sc) ∧ w'.cell? ⟨w.heap.size, 7, none⟩ = some (.slice ua ce.uses.length uc) ∧ w'.cell? ⟨w.heap.size, 8, none⟩ = some (.slice pa ce.proof.length pc) ∧ w'.cell? ⟨V.heap.size, 3, none⟩ = some (.func (.func 112) #[] #[]))
      (first | exact ⟨by assumption, by assumption, by assumption, by assumption, by assumption, by assumption, by assumption, by assumption, by assumption, by assumption⟩ | go_keep)
      (first
      | (go_at_call 65; (with_reducible refine (HCOA.out _ (by (repeat (first | with_reducible assumption | with_reducible exact Below.refl _ _ | with_reducible exact below_self_drewN _ _ | with_reducible refine Below.drew ?_ | with_reducible refine below_drewN ?_ _ | (with_reducible refine Below.alloc ?_ ?_ _; rotate_left; focus (first | (simp; done) | omega | (simp; omega))))))).mono ?_); rintro e wz ⟨ue, vvs, rfl, hEz, hbz⟩; have hbr : Below A.heap.size A wz := Below.trans (by (repeat (first | with_reducible assumption | with_reducible exact Below.refl _ _ | with_reducible exact below_self_drewN _ _ | with_reducible refine Below.drew ?_ | with_reducible refine below_drewN ?_ _ | (with_reducible refine Below.alloc ?_ ?_ _; rotate_left; focus (first | (simp; done) | omega | (simp; omega)))))) (hbz.mono (by (first | (simp; done) | omega | (simp; omega)))); obtain ⟨⟨c0, c1, c2, c3, c4, c5, c6, c7, c8⟩, hf⟩ := HCK.out wz hbr; simp only at c0 c1 c2 c3 c4 c5 c6 c7 c8)
      | (go_at_call 112; (refine (blame_rename A.heap.size ue vvs l ⟨3, cw, cn, cm, ce⟩ (.slice sa ce.says.length sc) (.slice ua ce.uses.length uc) (.slice pa ce.proof.length pc) wz (hEz.below (by (repeat (first | with_reducible assumption | with_reducible exact Below.refl _ _ | with_reducible exact below_self_drewN _ _ | with_reducible refine Below.drew ?_ | with_reducible refine below_drewN ?_ _ | (with_reducible refine Below.alloc ?_ ?_ _; rotate_left; focus (first | (simp; done) | omega | (simp; omega))))))) (HC.out.below (HBW.out.trans (hbr.mono HBW.out.size))) (by have := hbr.size; omega) hl60 ).mono ?_); rintro e wy ⟨ur, vvr, rfl, hS, hby, hfr⟩; obtain ⟨⟨c0, c1, c2, c3, c4, c5, c6, c7, c8⟩, hf⟩ := HCK.out wy ((hbr.trans hby)); simp only at c0 c1 c2 c3 c4 c5 c6 c7 c8))
  have hzA : A.heap.size ≤ wy.heap.size := Nat.le_trans hbr.size hby.size
  have HBY := hid ((HBW.out.trans (hbr.mono HBW.out.size)).trans (hby.mono HBW.out.size))
  have HSO := hid (sort_row A.heap.size ur vvr _ wy (by have := renaL_len l ⟨3, cw, cn, cm, ce⟩; omega) hS hzA)
  have HLN := hid (renaL_len l ⟨3, cw, cn, cm, ce⟩)
  have HZ := hid HBW.out.size
  have HFR := hid hfr
  obtain ⟨ra, rc, rfl⟩ := hS.slice
  clear hS hEz hbz hbr hby c0 c1 c2 c3 c4 c5 c6 c7 c8 hf HCOA HCA HFN HCK HSZ hzA
  go_wp2_with fail
  refine HSO.out.mono ?_
  rintro e w5 ⟨vs5, L5, rfl, hS5, hp5, hs5, hb5, hv5⟩
  have HS5 : Hid (EntsF w5 w.heap.size _ L5) := hid ⟨vs5, hS5.mono HZ.out, (HFR.out.sub hv5).mono HZ.out, by rw [hp5.length_eq]; have := HLN.out; omega⟩
  have HP5 := hid (And.intro hp5 hs5)
  have HB5 := hid (HBY.out.trans (hb5.mono HZ.out))
  have hle := hp5.length_eq
  clear hS5 hp5 hs5 hb5
  go_wp2
  go_ret2
  exact ⟨_, L5, rfl, HS5.out, HP5.out.1, HP5.out.2, HB5.out⟩
set_option maxHeartbeats 4000000 in
set_option maxRecDepth 100000 in
theorem blame_made4 (vl : Value) (l : List En) (c : Chg) (vS vU vP : Value) (w : World) (hl : EntsAt w vl l) (hc : ChgAt w vS vU vP c) (hk : c.kind = 4) (hl60 : l.length ≤ 60) (hok : ∀ x ∈ l, EnSm x) (hsm : 4 ≤ 2 → EnSm c.ent) :
    Calls Tryz.prog 61 #[vl, chV c vS vU vP] w fun e w' => ∃ u L, e = .returned (.tuple #[u, .int .i64 (dropL l c).2]) ∧ EntsF w' w.heap.size u L ∧ L.Perm (dropL l c).1 ∧ (L.Pairwise fun a b => ¬ ltN b.name a.name) ∧ Below w.heap.size w w' := by
  obtain ⟨ck, cw, cn, cm, ce⟩ := c
  have hk : ck = 4 := hk
  subst hk
  obtain ⟨sa, sc, rfl, -⟩ := hc.e.s.open
  obtain ⟨ua, uc, rfl, -⟩ := hc.e.u.open
  obtain ⟨pa, pc, rfl, -⟩ := hc.e.p.open
  unfold chV
  simp only
  have hCB := CB.new w ⟨4, cw, cn, cm, ce⟩ (.slice sa ce.says.length sc) (.slice ua ce.uses.length uc) (.slice pa ce.proof.length pc) 43
  simp only at hCB
  obtain ⟨V, hV⟩ : ∃ V, w.alloc (.cells #[.int .i64 4, .string cw, .string cn, .string cm, .string ce.name, .string ce.who, .slice sa ce.says.length sc, .slice ua ce.uses.length uc, .slice pa ce.proof.length pc] 43) = V := ⟨_, rfl⟩
  have hbV : Below w.heap.size w V := hV ▸ (Below.refl _ _).alloc (Nat.le_refl _) _
  have HVZ := hid (show V.heap.size = w.heap.size + 1 by rw [← hV]; simp)
  rw [hV] at hCB
  have HW := hid hV
  clear hV
  have HCO := hid (fun (X : World) (hX : Below w.heap.size w X) => blame_copies vl l X (hl.below hX) (by omega) hok)
  have HC := hid hc
  -- the array of functions
  obtain ⟨A, hA⟩ : ∃ A, V.alloc (.cells #[.nilFunc, .func (.func 110) #[] #[], .func (.func 111) #[] #[], .func (.func 112) #[] #[], .func (.func 113) #[] #[]] 122) = A := ⟨_, rfl⟩
  have hbA : Below V.heap.size V A := hA ▸ (Below.refl _ _).alloc (Nat.le_refl _) _
  have hf : A.cell? ⟨V.heap.size, 4, none⟩ = some (.func (.func 113) #[] #[]) := by rw [← hA, World.cell?_alloc_new]; rfl
  have hbw := hbV.trans (hbA.mono hbV.size)
  have hcA := hCB.below hbA
  have HA := hid hA
  have HCOA := hid (fun (X : World) (hX : Below A.heap.size A X) => HCO.out X (hbw.trans (hX.mono hbw.size)))
  have HCA := hid hcA
  have HBW := hid hbw
  have HFN := hid hf
  have HCK := hid (fun (X : World) (hX : Below A.heap.size A X) => And.intro (hcA.below hX) ((hX.cell (World.block_lt_of_cell? _ _ hf)).trans hf))
  have c0 : A.cell? ⟨w.heap.size, 0, none⟩ = some (.int .i64 4) := hcA.c0
  have c1 : A.cell? ⟨w.heap.size, 1, none⟩ = some (.string cw) := hcA.c1
  have c2 : A.cell? ⟨w.heap.size, 2, none⟩ = some (.string cn) := hcA.c2
  have c3 : A.cell? ⟨w.heap.size, 3, none⟩ = some (.string cm) := hcA.c3
  have c4 : A.cell? ⟨w.heap.size, 4, none⟩ = some (.string ce.name) := hcA.c4
  have c5 : A.cell? ⟨w.heap.size, 5, none⟩ = some (.string ce.who) := hcA.c5
  have c6 : A.cell? ⟨w.heap.size, 6, none⟩ = some (.slice sa ce.says.length sc) := hcA.c6
  have c7 : A.cell? ⟨w.heap.size, 7, none⟩ = some (.slice ua ce.uses.length uc) := hcA.c7
  have c8 : A.cell? ⟨w.heap.size, 8, none⟩ = some (.slice pa ce.proof.length pc) := hcA.c8
  obtain ⟨la, lc, rfl, -⟩ := hl.open
  have hAz : w.heap.size < A.heap.size := World.block_lt_of_cell? _ _ HCA.out.c0
  have hAz2 : V.heap.size < A.heap.size := World.block_lt_of_cell? _ _ hf
  have HSZ := hid (And.intro hAz hAz2)
  clear hA hbA hbw hcA hCB hbV hl hc HCO hAz hAz2
  go_enter Tryz.func61, Tryz.ntmps61
  go_wp2_with (first | rw [HW.out] | rw [HA.out])
  go_region_held3 (fun w' => w'.cell? ⟨w.heap.size, 0, none⟩ = some (.int .i64 4) ∧ w'.cell? ⟨w.heap.size, 1, none⟩ = some (.string cw) ∧ w'.cell? ⟨w.heap.size, 2, none⟩ = some (.string cn) ∧ w'.cell? ⟨w.heap.size, 3, none⟩ = some (.string cm) ∧ w'.cell? ⟨w.heap.size, 4, none⟩ = some (.string ce.name) ∧ w'.cell? ⟨w.heap.size, 5, none⟩ = some (.string ce.who) ∧ w'.cell? ⟨w.heap.size, 6, none⟩ = some (.slice sa ce.says.length sc) ∧ w'.cell? ⟨w.heap.size, 7, none⟩ = some (.slice ua ce.uses.length uc) ∧ w'.cell? ⟨w.heap.size, 8, none⟩ = some (.slice pa ce.proof.length pc) ∧ w'.cell? ⟨V.heap.size, 4, none⟩ = some (.func (.func 113) #[] #[]))
      (first | exact ⟨by assumption, by assumption, by assumption, by assumption, by assumption, by assumption, by assumption, by assumption, by assumption, by assumption⟩ | go_keep)
      (first
      | (go_at_call 65; (with_reducible refine (HCOA.out _ (by (repeat (first | with_reducible assumption | with_reducible exact Below.refl _ _ | with_reducible exact below_self_drewN _ _ | with_reducible refine Below.drew ?_ | with_reducible refine below_drewN ?_ _ | (with_reducible refine Below.alloc ?_ ?_ _; rotate_left; focus (first | (simp; done) | omega | (simp; omega))))))).mono ?_); rintro e wz ⟨ue, vvs, rfl, hEz, hbz⟩; have hbr : Below A.heap.size A wz := Below.trans (by (repeat (first | with_reducible assumption | with_reducible exact Below.refl _ _ | with_reducible exact below_self_drewN _ _ | with_reducible refine Below.drew ?_ | with_reducible refine below_drewN ?_ _ | (with_reducible refine Below.alloc ?_ ?_ _; rotate_left; focus (first | (simp; done) | omega | (simp; omega)))))) (hbz.mono (by (first | (simp; done) | omega | (simp; omega)))); obtain ⟨⟨c0, c1, c2, c3, c4, c5, c6, c7, c8⟩, hf⟩ := HCK.out wz hbr; simp only at c0 c1 c2 c3 c4 c5 c6 c7 c8)
      | (go_at_call 113; (refine (blame_drop A.heap.size ue vvs l ⟨4, cw, cn, cm, ce⟩ (.slice sa ce.says.length sc) (.slice ua ce.uses.length uc) (.slice pa ce.proof.length pc) wz (hEz.below (by (repeat (first | with_reducible assumption | with_reducible exact Below.refl _ _ | with_reducible exact below_self_drewN _ _ | with_reducible refine Below.drew ?_ | with_reducible refine below_drewN ?_ _ | (with_reducible refine Below.alloc ?_ ?_ _; rotate_left; focus (first | (simp; done) | omega | (simp; omega))))))) (HC.out.below (HBW.out.trans (hbr.mono HBW.out.size))) (by have := hbr.size; omega) hl60 ).mono ?_); rintro e wy ⟨ur, vvr, rfl, hS, hby, hfr⟩; obtain ⟨⟨c0, c1, c2, c3, c4, c5, c6, c7, c8⟩, hf⟩ := HCK.out wy ((hbr.trans hby)); simp only at c0 c1 c2 c3 c4 c5 c6 c7 c8))
  have hzA : A.heap.size ≤ wy.heap.size := Nat.le_trans hbr.size hby.size
  have HBY := hid ((HBW.out.trans (hbr.mono HBW.out.size)).trans (hby.mono HBW.out.size))
  have HSO := hid (sort_row A.heap.size ur vvr _ wy (by have := dropL_len l ⟨4, cw, cn, cm, ce⟩; omega) hS hzA)
  have HLN := hid (dropL_len l ⟨4, cw, cn, cm, ce⟩)
  have HZ := hid HBW.out.size
  have HFR := hid hfr
  obtain ⟨ra, rc, rfl⟩ := hS.slice
  clear hS hEz hbz hbr hby c0 c1 c2 c3 c4 c5 c6 c7 c8 hf HCOA HCA HFN HCK HSZ hzA
  go_wp2_with fail
  refine HSO.out.mono ?_
  rintro e w5 ⟨vs5, L5, rfl, hS5, hp5, hs5, hb5, hv5⟩
  have HS5 : Hid (EntsF w5 w.heap.size _ L5) := hid ⟨vs5, hS5.mono HZ.out, (HFR.out.sub hv5).mono HZ.out, by rw [hp5.length_eq]; have := HLN.out; omega⟩
  have HP5 := hid (And.intro hp5 hs5)
  have HB5 := hid (HBY.out.trans (hb5.mono HZ.out))
  have hle := hp5.length_eq
  clear hS5 hp5 hs5 hb5
  go_wp2
  go_ret2
  exact ⟨_, L5, rfl, HS5.out, HP5.out.1, HP5.out.2, HB5.out⟩
theorem blame_made (vl : Value) (s : Sg) (l : List En) (c : Chg) (vS vU vP : Value) (w : World) (hl : EntsAt w vl l) (hc : ChgAt w vS vU vP c) (h : edB s l = true) (h' : chgB s c = true) :
    Calls Tryz.prog 61 #[vl, chV c vS vU vP] w fun e w' => ∃ u, e = .returned (.tuple #[u, .int .i64 (doL l c).2]) ∧ EntsF w' w.heap.size u (doL l c).1 ∧ Below w.heap.size w w' := by
  obtain ⟨L, A⟩ := edB_iff.1 h
  have C := chgB_iff.1 h'
  have hok : ∀ x ∈ l, EnSm x := fun x hx => ent_sm (entryB_iff.2 (L.ents x hx))
  have hsm : c.kind ≤ 2 → EnSm c.ent := fun hk => by
    cases C with
    | put h0 h1 hk h2 h3 h4 => exact ent_sm (entryB_iff.2 h4)
    | ren h0 h1 hk' => omega
    | drop h0 h1 hk' => omega
  rcases C.kinds with hk | hk | hk | hk
  · have P := pre_add h h' hk
    refine (blame_made1 vl l c vS vU vP w hl hc hk L.len hok fun _ => hsm (by omega)).mono ?_
    rintro e w' ⟨u, M, rfl, h1, h2, h3, h4⟩
    rw [P.2 M h2 h3] at h1
    exact ⟨u, by rw [P.1], h1, h4⟩
  · have P := pre_set h h' hk
    refine (blame_made2 vl l c vS vU vP w hl hc hk L.len hok fun _ => hsm (by omega)).mono ?_
    rintro e w' ⟨u, M, rfl, h1, h2, h3, h4⟩
    rw [P.2 M h2 h3] at h1
    exact ⟨u, by rw [P.1], h1, h4⟩
  · have P := pre_ren h h' hk
    refine (blame_made3 vl l c vS vU vP w hl hc hk L.len hok fun h => by omega).mono ?_
    rintro e w' ⟨u, M, rfl, h1, h2, h3, h4⟩
    rw [P.2 M h2 h3] at h1
    exact ⟨u, by rw [P.1], h1, h4⟩
  · have P := pre_drop h h' hk
    refine (blame_made4 vl l c vS vU vP w hl hc hk L.len hok fun h => by omega).mono ?_
    rintro e w' ⟨u, M, rfl, h1, h2, h3, h4⟩
    rw [P.2 M h2 h3] at h1
    exact ⟨u, by rw [P.1], h1, h4⟩
end Go.Proofs.YtlbjbmpkaniojaaGreat
