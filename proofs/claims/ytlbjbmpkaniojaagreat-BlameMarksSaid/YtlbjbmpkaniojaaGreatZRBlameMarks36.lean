/-
  WHAT IT HOLDS: the contract of rename of package blame, and that what the four make is, sorted, what the plain word says. Conditions: the arguments read as data; small libraries.
  WHAT IT HOLDS: plain facts for the reference of layer 9: how its lists come to be what the plain words on editions say. No program in sight.
  WHAT IT HOLDS: contracts of put2, used, put and Sorted of the reference of layer 9. Conditions: the arguments read as data; small libraries.
-/
import Derived.BigQuiet
import Derived.Test.YtlbjbmpkaniojaaGreatZRBlameMarks35
import Derived.Test.YtlbjbmpkaniojaaGreatZRBlameMarks32
import Derived.Test.YtlbjbmpkaniojaaGreatZRBlameMarks34
import Derived.Test.YtlbjbmpkaniojaaGreatZRBlameMarks25
import Derived.Test.YtlbjbmpkaniojaaGreatZRBlameMarks33
namespace Go.Proofs.YtlbjbmpkaniojaaGreat
open Go Go.RowKit Go.Maps
def renaL (l : List En) (c : Chg) : List En × Int := match idxN l c.name with
  | none => ([], 5)
  | some i => if (idxN l c.new).isSome || usedB l c.new em then ([], 6) else ((l.set i { l.getD i en0 with name := c.new }).map (useE c.name c.new), 0)
theorem useE_ren {n m : Nm} {x : En} (h : x.uses.Nodup) : useE n m x = { x with uses := x.uses.map (renN n m) } := by
  unfold useE
  cases hf : x.uses.findIdx? (fun u => decide (u = n)) with
  | none =>
    rw [List.findIdx?_eq_none_iff] at hf
    have : x.uses.map (renN n m) = x.uses := by
      conv => rhs; rw [← List.map_id x.uses]
      refine List.map_congr_left fun u hu => ?_
      unfold renN
      rw [if_neg (by simpa using hf u hu)]; rfl
    simp only [this]
  | some k =>
    obtain ⟨h1, h2, h3⟩ := List.findIdx?_eq_some_iff_getElem.1 hf
    have h2 : x.uses[k] = n := by simpa using h2
    have : x.uses.map (renN n m) = x.uses.set k m := by
      refine List.ext_getElem (by simp) fun j hj hj' => ?_
      rw [List.getElem_map, List.getElem_set]
      unfold renN
      have hj0 : j < x.uses.length := by simpa using hj
      by_cases e : k = j
      · subst e
        rw [if_pos h2, if_pos rfl]
      · rw [if_neg e, if_neg]
        intro e2
        have := List.pairwise_iff_getElem.1 h
        rcases Nat.lt_or_gt_of_ne e with hlt | hlt
        · exact this k j h1 hj0 hlt (h2.trans e2.symm)
        · exact this j k hj0 h1 hlt (e2.trans h2.symm)
    simp only [this]
/-- what is made, sorted, is what the plain word says. -/
def PreOK (P D : List En × Int) : Prop := P.2 = D.2 ∧ ∀ L, L.Perm P.1 → (L.Pairwise fun a b => ¬ ltN b.name a.name) → L = D.1
theorem PreOK.no {P D : List En × Int} {e : Int} (h1 : P = ([], e)) (h2 : D = ([], e)) : PreOK P D := by
  subst h1 h2
  exact ⟨rfl, fun L hp _ => List.perm_nil.1 hp⟩
theorem PreOK.yes {P D : List En × Int} {p d : List En} (h1 : P = (p, 0)) (h2 : D = (d, 0)) (hn : (p.map En.name).Nodup) (ha : AscE d) (hm : ∀ x, x ∈ d ↔ x ∈ p) : PreOK P D := by
  subst h1 h2
  exact ⟨rfl, fun L hp hs => srt_eq hp hs hn ha hm⟩
theorem idxN_hasT {l : List En} {n : Nm} {i : Nat} (h : idxN l n = some i) : hasN (l.map En.name) n = true := by rw [← idxN_has, h]; rfl
theorem idxN_hasF {l : List En} {n : Nm} (h : idxN l n = none) : hasN (l.map En.name) n = false := by rw [← idxN_has, h]; rfl
theorem pre_add {s : Sg} {l : List En} {c : Chg} (h : edB s l = true) (hc : chgB s c = true) (hk : c.kind = 1) : PreOK (addL l c) (doL l c) := by
  obtain ⟨hl, ha⟩ := edB_iff.1 h
  have hD : doL l c = if hasN (l.map En.name) c.ent.name then ([], 6) else if 60 ≤ l.length then ([], 4) else (putE c.ent l, 0) := by unfold doL; rw [if_pos hk]
  unfold addL
  cases hi : idxN l c.ent.name with
  | some i =>
    rw [idxN_hasT hi] at hD
    exact PreOK.no rfl hD
  | none =>
    rw [idxN_hasF hi, if_neg (by simp)] at hD
    have hn := hasE_no.1 (idxN_hasF hi)
    by_cases h60 : l.length = 60
    · rw [if_pos (by omega)] at hD
      exact PreOK.no (by rw [if_neg (by simp), if_pos h60]) hD
    · have := hl.len
      rw [if_neg (by omega)] at hD
      refine PreOK.yes (by rw [if_neg (by simp), if_neg h60]) hD ?_ (putE_asc ha hn) fun x => ?_
      · rw [List.map_append, List.nodup_append]
        refine ⟨hl.nd, by simp, fun a ha b hb e => ?_⟩
        obtain ⟨y, hy, rfl⟩ := List.mem_map.1 ha
        simp at hb
        exact hn y hy (e.trans hb)
      · rw [putE_mem, List.mem_append, List.mem_singleton, or_comm]
theorem pre_set {s : Sg} {l : List En} {c : Chg} (h : edB s l = true) (hc : chgB s c = true) (hk : c.kind = 2) : PreOK (setL l c) (doL l c) := by
  obtain ⟨hl, ha⟩ := edB_iff.1 h
  have hD : doL l c = if hasN (l.map En.name) c.ent.name then if c.ent ∈ l then ([], 8) else (l.map (subE c.ent), 0) else ([], 5) := by unfold doL; rw [if_neg (by omega), if_pos hk]
  unfold setL
  cases hi : idxN l c.ent.name with
  | none =>
    rw [idxN_hasF hi, if_neg (by simp)] at hD
    exact PreOK.no rfl hD
  | some i =>
    rw [idxN_hasT hi, if_pos rfl] at hD
    obtain ⟨hil, hin⟩ := idxN_some hi
    by_cases he : l[i] = c.ent
    · rw [if_pos (he ▸ List.getElem_mem hil)] at hD
      refine PreOK.no ?_ hD
      show (if l.getD i en0 = c.ent then _ else _) = _
      rw [getD_at hil, if_pos he]
    · have hne : c.ent ∉ l := fun hm => he (ha.inj (List.getElem_mem hil) hm hin)
      rw [if_neg hne] at hD
      have hEQ : l.set i c.ent = l.map (subE c.ent) := by
        refine List.ext_getElem (by simp) fun j hj hj' => ?_
        rw [List.getElem_set, List.getElem_map]
        have hj0 : j < l.length := by simpa using hj
        unfold subE
        by_cases e : i = j
        · subst e
          rw [if_pos rfl, if_pos hin]
        · rw [if_neg e, if_neg]
          intro e2
          have h1 := idxN_nd hl.nd hil
          have h2 := idxN_nd hl.nd hj0
          rw [hin] at h1
          rw [e2, h1] at h2
          exact e (Option.some.inj h2)
      refine PreOK.yes (p := l.map (subE c.ent)) ?_ hD ?_ (ascE_names (sub_names _ _).symm ha) fun x => Iff.rfl
      · show (if l.getD i en0 = c.ent then _ else _) = _
        rw [getD_at hil, if_neg he, hEQ]
      · rw [sub_names]; exact hl.nd
theorem pre_drop {s : Sg} {l : List En} {c : Chg} (h : edB s l = true) (hc : chgB s c = true) (hk : c.kind = 4) : PreOK (dropL l c) (doL l c) := by
  obtain ⟨hl, ha⟩ := edB_iff.1 h
  have hD : doL l c = if hasN (l.map En.name) c.name then if usedB l c.name c.name then ([], 10) else (l.filter (fun x => decide (x.name ≠ c.name)), 0) else ([], 5) := by unfold doL; rw [if_neg (by omega), if_neg (by omega), if_neg (by omega)]
  unfold dropL
  cases hi : idxN l c.name with
  | none =>
    rw [idxN_hasF hi, if_neg (by simp)] at hD
    exact PreOK.no rfl hD
  | some i =>
    rw [idxN_hasT hi, if_pos rfl] at hD
    obtain ⟨hil, hin⟩ := idxN_some hi
    by_cases hu : usedB l c.name c.name = true
    · rw [if_pos hu] at hD
      exact PreOK.no (by show (if usedB l c.name c.name = true then _ else _) = _; rw [if_pos hu]) hD
    · rw [if_neg hu] at hD
      have hmem : ∀ x, x ∈ l.filter (fun x => decide (x.name ≠ c.name)) ↔ x ∈ l.eraseIdx i := by
        intro x
        rw [List.mem_filter, List.mem_eraseIdx_iff_getElem]
        constructor
        · rintro ⟨hx, hne⟩
          obtain ⟨j, hj, rfl⟩ := List.getElem_of_mem hx
          refine ⟨j, hj, fun e => ?_, rfl⟩
          subst e
          simp at hne
          exact hne hin
        · rintro ⟨j, hj, hne, rfl⟩
          refine ⟨List.getElem_mem hj, ?_⟩
          have h1 := idxN_nd hl.nd hil
          have h2 := idxN_nd hl.nd hj
          simp only [ne_eq, decide_not, Bool.not_eq_true', decide_eq_false_iff_not]
          intro e2
          rw [hin] at h1
          rw [e2, h1] at h2
          exact hne (Option.some.inj h2).symm
      exact PreOK.yes (by show (if usedB l c.name c.name = true then _ else _) = _; rw [if_neg hu]) hD (hl.nd.sublist ((List.eraseIdx_sublist l i).map En.name)) (List.Pairwise.sublist List.filter_sublist ha) hmem
theorem pre_ren {s : Sg} {l : List En} {c : Chg} (h : edB s l = true) (hc : chgB s c = true) (hk : c.kind = 3) : PreOK (renaL l c) (doL l c) := by
  obtain ⟨hl, ha⟩ := edB_iff.1 h
  have hD : doL l c = if hasN (l.map En.name) c.name then if hasN (l.map En.name) c.new || usedB l c.new em then ([], 6) else (srtE (l.map (renE c.name c.new)), 0) else ([], 5) := by unfold doL; rw [if_neg (by omega), if_neg (by omega), if_pos hk]
  unfold renaL
  cases hi : idxN l c.name with
  | none =>
    rw [idxN_hasF hi, if_neg (by simp)] at hD
    exact PreOK.no rfl hD
  | some i =>
    rw [idxN_hasT hi, if_pos rfl] at hD
    obtain ⟨hil, hin⟩ := idxN_some hi
    rw [← idxN_has] at hD
    by_cases hu : ((idxN l c.new).isSome || usedB l c.new em) = true
    · rw [if_pos hu] at hD
      exact PreOK.no (by show (if ((idxN l c.new).isSome || usedB l c.new em) = true then _ else _) = _; rw [if_pos hu]) hD
    · rw [if_neg hu] at hD
      have hEQ : (l.set i { l.getD i en0 with name := c.new }).map (useE c.name c.new) = l.map (renE c.name c.new) := by
        refine List.ext_getElem (by simp) fun j hj hj' => ?_
        rw [List.getElem_map, List.getElem_map, List.getElem_set]
        have hj0 : j < l.length := by simpa using hj'
        have hnd := (hl.ents _ (List.getElem_mem hj0)).nd
        by_cases e : i = j
        · subst e
          rw [if_pos rfl, getD_at hil, useE_ren (x := { l[i] with name := c.new }) hnd]
          unfold renE
          simp only [En.mk.injEq, and_true]
          unfold renN
          rw [if_pos hin]
        · rw [if_neg e, useE_ren hnd]
          unfold renE
          have hne : l[j].name ≠ c.name := by
            intro e2
            have h1 := idxN_nd hl.nd hil
            have h2 := idxN_nd hl.nd hj0
            rw [hin] at h1
            rw [e2, h1] at h2
            exact e (Option.some.inj h2)
          have hr : renN c.name c.new l[j].name = l[j].name := by unfold renN; rw [if_neg hne]
          rw [hr]
      have hnn : hasN (l.map En.name) c.new = false := by
        rw [← idxN_has]
        cases hx : (idxN l c.new).isSome with
        | false => rfl
        | true => rw [hx] at hu; exact absurd rfl hu
      have hnd := ren_nd (n := c.name) hl.nd hnn
      refine PreOK.yes (p := l.map (renE c.name c.new)) ?_ hD hnd (srtE_asc hnd) fun x => srtE_mem _
      show (if ((idxN l c.new).isSome || usedB l c.new em) = true then _ else _) = _
      rw [if_neg hu, hEQ]
theorem posU (us : List Nm) (n : Nm) : firstI us.length (fun i => decide (n = us.getD i ByteArray.empty)) = match us.findIdx? (fun u => decide (u = n)) with | some k => (k : Int) | none => -1 := by
  have e1 : ∀ j (hj : j < us.length), us.getD j ByteArray.empty = us[j] := fun j hj => by rw [List.getD_eq_getElem?_getD, List.getElem?_eq_getElem hj]; rfl
  cases hf : us.findIdx? (fun u => decide (u = n)) with
  | none =>
    rw [List.findIdx?_eq_none_iff] at hf
    refine firstI_no fun j hj => ?_
    rw [decide_eq_false_iff_not, e1 j hj]
    intro e
    have := hf _ (List.getElem_mem hj)
    rw [← e] at this
    simp at this
  | some k =>
    obtain ⟨h1, h2, h3⟩ := List.findIdx?_eq_some_iff_getElem.1 hf
    refine firstI_at h1 ?_ fun j hj => ?_
    · rw [e1 k h1]; simpa using (show us[k] = n by simpa using h2).symm
    · rw [e1 j (by omega), decide_eq_false_iff_not]
      intro e
      have := h3 j hj
      simp at this
      exact this e.symm
theorem EnW.cells {w : World} {base g n c : Nat} {vs : List V3} {l : List En} (h : EnW w base (.slice (some ⟨g, 0, none⟩) n c) vs l) (hn : n = l.length) {j : Nat} (hj : j < l.length) (hv : j < vs.length) :
    w.cell? ⟨g, j * 5, none⟩ = some (.string l[j].name) ∧ w.cell? ⟨g, j * 5 + 1, none⟩ = some (.string l[j].who) ∧ w.cell? ⟨g, j * 5 + 2, none⟩ = some vs[j].1 ∧ w.cell? ⟨g, j * 5 + 3, none⟩ = some vs[j].2.1 ∧ w.cell? ⟨g, j * 5 + 4, none⟩ = some vs[j].2.2 := by
  subst hn
  obtain ⟨g0, g1, g2, g3, g4⟩ := ensC_get l vs h.len j hj hv
  have key : ∀ r, r < 5 → w.cell? ⟨g, j * 5 + r, none⟩ = (ensC l vs)[j * 5 + r]? := fun r hr => h.top.cellAt (j * 5 + r) (by omega)
  exact ⟨(key 0 (by omega)).trans g0, (key 1 (by omega)).trans g1, (key 2 (by omega)).trans g2, (key 3 (by omega)).trans g3, (key 4 (by omega)).trans g4⟩
/-- the entries behind k rounds: the first k are turned. -/
def turnK (f : En → En) (L : List En) (k : Nat) : List En := (L.take k).map f ++ L.drop k
theorem turnK_0 (f : En → En) (L : List En) : turnK f L 0 = L := by simp [turnK]
theorem turnK_len (f : En → En) (L : List En) (k : Nat) : (turnK f L k).length = L.length := by simp [turnK]; omega
theorem turnK_get {f : En → En} {L : List En} {k : Nat} (h : k < L.length) : (turnK f L k)[k]'(by rw [turnK_len]; exact h) = L[k] := by
  unfold turnK
  rw [List.getElem_append_right (by simp; omega)]
  simp [Nat.min_eq_left (Nat.le_of_lt h)]
theorem turnK_next {f : En → En} {L : List En} {k : Nat} (h : k < L.length) : turnK f L (k + 1) = (turnK f L k).set k (f L[k]) := by
  unfold turnK
  have hlen : ((L.take k).map f).length = k := by simp; omega
  rw [List.take_succ_eq_append_getElem h, List.map_append, List.drop_eq_getElem_cons h, List.set_append, if_neg (by omega), hlen, Nat.sub_self, List.set_cons_zero]
  simp
theorem turnK_all (f : En → En) (L : List En) {k : Nat} (h : L.length ≤ k) : turnK f L k = L.map f := by
  unfold turnK
  rw [List.take_of_length_le h, List.drop_of_length_le h, List.append_nil]
set_option maxHeartbeats 4000000 in
set_option maxRecDepth 100000 in
theorem blame_rename (base : Nat) (u : Value) (vs : List V3) (l : List En) (c : Chg) (vS vU vP : Value) (w : World) (hE : EnW w base u vs l) (hc : ChgAt w vS vU vP c) (hb : base ≤ w.heap.size) (hl : l.length ≤ 60) :
    Calls Tryz.prog 112 #[u, chV c vS vU vP] w fun e w' => MadeQ base (renaL l c) w e w' := by
  obtain ⟨sa, sc, rfl, -⟩ := hc.e.s.open
  obtain ⟨ua, uc, rfl, -⟩ := hc.e.u.open
  obtain ⟨pa, pc, rfl, -⟩ := hc.e.p.open
  unfold chV
  have hCB := CB.new w c (.slice sa c.ent.says.length sc) (.slice ua c.ent.uses.length uc) (.slice pa c.ent.proof.length pc) 43
  obtain ⟨V, hV⟩ : ∃ V, w.alloc (.cells #[.int .i64 c.kind, .string c.who, .string c.name, .string c.new, .string c.ent.name, .string c.ent.who, .slice sa c.ent.says.length sc, .slice ua c.ent.uses.length uc, .slice pa c.ent.proof.length pc] 43) = V := ⟨_, rfl⟩
  have hbV : Below w.heap.size w V := hV ▸ (Below.refl _ _).alloc (Nat.le_refl _) _
  have HVZ := hid (show V.heap.size = w.heap.size + 1 by rw [← hV]; simp)
  rw [hV] at hCB
  have HF := hid (blame_find _ l c.name V ((hE.below hbV).ents (by omega)))
  have HF2 := hid (fun (X : World) (hX : Below V.heap.size V X) => blame_find _ l c.new X (((hE.below hbV).below hX).ents (by omega)))
  have HU := hid (fun (X : World) (hX : Below V.heap.size V X) => blame_used _ l c.new em X (((hE.below hbV).below hX).ents (by omega)))
  have HW := hid hV
  have HBV := hid hbV
  have HCB := hid hCB
  have HE := hid hE
  have HN3 := hid hc.n3
  obtain ⟨c0, c1, c2, c3, c4, c5, c6, c7, c8⟩ := hCB
  clear hV hE hc hbV
  cases hi : idxN l c.name with
  | none =>
    have HR : Hid (renaL l c = ([], 5)) := hid (by unfold renaL; rw [hi])
    rw [idxI_no hi] at HF
    obtain ⟨ra, rc, rfl⟩ := HE.out.slice
    clear hi
    go_enter Tryz.func112, Tryz.ntmps112
    go_wp2_with fail
    rw [HW.out]
    refine HF.out.mono ?_
    rintro e w1 ⟨rfl, hb1⟩
    go_wp2
    go_ret2
    exact MadeQ.no HR.out ((HBV.out.trans (hb1.mono HBV.out.size)).mono hb)
  | some i =>
    rw [idxI_some hi] at HF
    have b0 : (0 : Int) ≤ (i : Int) := by omega
    obtain ⟨hil, -⟩ := idxN_some hi
    have b1 : (i : Int) < (l.length : Int) := by omega
    obtain ⟨g, rc, rfl, hg1, hg2, hg3⟩ := HE.out.toS.blk (by omega)
    have HRR : Hid (renaL l c = if ((idxN l c.new).isSome || usedB l c.new em) = true then ([], 6) else ((l.set i { l[i] with name := c.new }).map (useE c.name c.new), 0)) := hid (by unfold renaL; rw [hi]; show (if ((idxN l c.new).isSome || usedB l c.new em) = true then _ else _) = _; rw [getD_at hil])
    clear hi
    go_enter Tryz.func112, Tryz.ntmps112
    go_wp2_with fail
    rw [HW.out]
    refine HF.out.mono ?_
    rintro e w1 ⟨rfl, hb1⟩
    obtain ⟨d0, d1, d2, d3, d4, d5, d6, d7, d8⟩ := HCB.out.below hb1
    have HF3 := hid (HF2.out w1 hb1)
    have HBa := hid hb1
    clear c0 c1 c2 c3 c4 c5 c6 c7 c8 hb1
    cases hj : idxN l c.new with
    | some j =>
      have HR : Hid (renaL l c = ([], 6)) := hid (by rw [HRR.out, hj]; rfl)
      rw [idxI_some hj] at HF3
      have b3 : (0 : Int) ≤ (j : Int) := by omega
      clear hj
      go_wp2_with fail
      refine HF3.out.mono ?_
      rintro e w2 ⟨rfl, hb2⟩
      go_wp2
      go_ret2
      exact MadeQ.no HR.out ((HBV.out.trans ((HBa.out.trans (hb2.mono HBa.out.size)).mono HBV.out.size)).mono hb)
    | none =>
      rw [idxI_no hj] at HF3
      rw [hj] at HRR
      clear hj
      go_wp2_with fail
      refine HF3.out.mono ?_
      rintro e w2 ⟨rfl, hb2⟩
      have hBb := HBa.out.trans (hb2.mono HBa.out.size)
      have HU2 := hid (HU.out w2 hBb)
      obtain ⟨d0, d1, d2, d3, d4, d5, d6, d7, d8⟩ := HCB.out.below hBb
      have HBb := hid hBb
      clear hb2 hBb
      go_wp2_with fail
      refine HU2.out.mono ?_
      rintro e w3 ⟨rfl, hb3⟩
      have hBc := HBb.out.trans (hb3.mono HBb.out.size)
      have HBc := hid hBc
      obtain ⟨bb, hbb⟩ : ∃ bb, (l.any fun x => decide (x.name ≠ em) && hasN x.uses c.new) = bb := ⟨_, rfl⟩
      have hub : usedB l c.new em = bb := hbb
      rw [hbb]
      cases bb
      case true =>
        have HR : Hid (renaL l c = ([], 6)) := hid (by rw [HRR.out, hub]; rfl)
        clear hbb hub hb3 hBc
        go_wp2
        go_ret2
        exact MadeQ.no HR.out ((HBV.out.trans (HBc.out.mono HBV.out.size)).mono hb)
      case false =>
        have HR : Hid (renaL l c = ((l.set i { l[i] with name := c.new }).map (useE c.name c.new), 0)) := hid (by rw [HRR.out, hub]; rfl)
        have hbw3 := HBV.out.trans (HBc.out.mono HBV.out.size)
        have hE3 := HE.out.below hbw3
        have p0 := hE3.top.frozenAt (i * 5)
        obtain ⟨-, -, -, -, -, -, f0, -⟩ := hE3.toS.cells rfl hil
        obtain ⟨d0, d1, d2, d3, d4, d5, d6, d7, d8⟩ := HCB.out.below hBc
        have hE4 := hE3.setName rfl hil c.new HN3.out
        have hC4 : CB (w3.setCell ⟨g, i * 5, none⟩ (.string c.new)) w.heap.size c (.slice sa c.ent.says.length sc) (.slice ua c.ent.uses.length uc) (.slice pa c.ent.proof.length pc) := (HCB.out.below hBc).block (Below.heap_setCell _ _ _ _ (by show w.heap.size ≠ g; omega))
        have hb4 : Below base w (w3.setCell ⟨g, i * 5, none⟩ (.string c.new)) := (hbw3.mono hb).setCell (p := ⟨g, i * 5, none⟩) hg1 _
        have hUB : ∀ j (h : j < vs.length), ∀ b, vs[j].2.1.ownBlock = some b → base ≤ b ∧ b < w.heap.size := fun j h b hb => (HE.out.own j (by rw [← HE.out.len]; exact h) h).u.lt b hb
        obtain ⟨L0, hL0⟩ : ∃ L0, l.set i { l[i] with name := c.new } = L0 := ⟨_, rfl⟩
        rw [hL0] at hE4 HR
        have hLL : L0.length = l.length := by rw [← hL0, List.length_set]
        obtain ⟨W4, hW4⟩ : ∃ W4, w3.setCell ⟨g, i * 5, none⟩ (.string c.new) = W4 := ⟨_, rfl⟩
        rw [hW4] at hE4 hC4 hb4
        have hz4 : w.heap.size < W4.heap.size := World.block_lt_of_cell? _ _ hC4.c0
        have HW4 := hid hW4
        have HE4 := hid hE4
        have HC4 := hid hC4
        have HB4 := hid hb4
        have HUB := hid hUB
        have HLL := hid hLL
        have HG := hid (And.intro hg1 hg2)
        clear hbb hub hb3 hBc hbw3 hE3 hE4 hC4 hb4 hUB hW4 hL0 HF HF2 HF3 HU HU2
        go_wp2_with (rw [HW4.out])
        clear d0 d1 d2 d3 d4 d5 d6 d7 d8 f0 p0
        go_loopw [35] (fun kv wr => ∃ k : Nat, k ≤ l.length ∧ kv = .int .i64 k ∧ EnW wr base (.slice (some ⟨g, 0, none⟩) l.length rc) vs (turnK (useE c.name c.new) L0 k) ∧ CB wr w.heap.size c (.slice sa c.ent.says.length sc) (.slice ua c.ent.uses.length uc) (.slice pa c.ent.proof.length pc) ∧ Below base w wr) (fun kv _ => l.length - (intOf kv).toNat)
        case atStart => exact ⟨0, by omega, rfl, by rw [turnK_0]; exact HE4.out, HC4.out, HB4.out⟩
        case round =>
          clear HW4 HE4 HC4 HB4
          obtain ⟨k, hk, rfl, hEr, hCr, hbr⟩ := hrel
          have hTL : (turnK (useE c.name c.new) L0 k).length = l.length := by rw [turnK_len]; exact HLL.out
          by_cases hlt : k < l.length
          · have hk0 : k < L0.length := by rw [HLL.out]; exact hlt
            have hk1 : k < vs.length := by rw [hEr.len, hTL]; exact hlt
            have hkt : k < (turnK (useE c.name c.new) L0 k).length := by rw [hTL]; exact hlt
            obtain ⟨e0, e1, e2, e3, e4⟩ := hEr.cells hTL.symm hkt hk1
            have hO := hEr.own k hkt hk1
            have HTN := hid (turnK_next (f := useE c.name c.new) hk0)
            have HGT : Hid ((turnK (useE c.name c.new) L0 k)[k] = L0[k]) := hid (turnK_get hk0)
            rw [HGT.out] at e0 e1 hO
            obtain ⟨x, hx⟩ : ∃ x, L0[k] = x := ⟨_, rfl⟩
            rw [hx] at e0 e1 hO HTN HGT
            obtain ⟨a1, k1, q1⟩ := owns_slice hO.s
            obtain ⟨a2, k2, q2⟩ := owns_slice hO.u
            obtain ⟨a3, k3, q3⟩ := owns_slice hO.p
            have HQ2 := hid q2
            rw [q1, q2, q3] at hO
            rw [q1] at e2
            rw [q2] at e3
            rw [q3] at e4
            have EB0 := EB.new wr x (.slice a1 x.says.length k1) (.slice a2 x.uses.length k2) (.slice a3 x.proof.length k3) 41
            obtain ⟨W, hW⟩ : ∃ W, wr.alloc (.cells #[.string x.name, .string x.who, .slice a1 x.says.length k1, .slice a2 x.uses.length k2, .slice a3 x.proof.length k3] 41) = W := ⟨_, rfl⟩
            have hbW : Below wr.heap.size wr W := hW ▸ (Below.refl _ _).alloc (Nat.le_refl _) _
            rw [hW] at EB0
            have hEW := hEr.below hbW
            have hCW := hCr.below hbW
            have hOW := hO.blocks (Nat.le_refl _) (W' := W) fun q _ hq => hbW.block q hq
            have hzr : w.heap.size < wr.heap.size := World.block_lt_of_cell? _ _ hCr.c0
            have HIX := hid (sl_Index_strs _ x.uses c.name W hOW.ent.u)
            have HPU := hid (posU x.uses c.name)
            have HBW := hid (hbr.trans (hbW.mono (by omega)))
            obtain ⟨g0, g1, g2, g3, g4⟩ := EB0
            obtain ⟨d0, d1, d2, d3, d4, d5, d6, d7, d8⟩ := hCW
            have HCW := hid (CB.mk (c := c) d0 d1 d2 d3 d4 d5 d6 d7 d8)
            have HEW := hid hEW
            have HOW := hid hOW
            have HW := hid hW
            have HTL := hid hTL
            have HKT := hid hkt
            clear hx hW hbW hEW hEr hCr hO hOW q1 q2 q3 hTL hbr
            cases hf : x.uses.findIdx? (fun u => decide (u = c.name)) with
            | none =>
              have HUE : Hid (useE c.name c.new x = x) := hid (by unfold useE; rw [hf])
              rw [hf] at HPU
              obtain ⟨ix, hix⟩ : ∃ ix, firstI x.uses.length (fun i => decide (c.name = x.uses.getD i ByteArray.empty)) = ix := ⟨_, rfl⟩
              rw [hix] at HIX HPU
              have hin : ix = -1 := HPU.out
              subst hin
              clear hf hix HPU
              go_wp2_with (first | rw [HW.out] | (go_at_call 152; refine HIX.out.mono ?_; rintro e w' ⟨rfl, rfl⟩))
              go_roundw
              case rel =>
                refine ⟨k + 1, by omega, by go_num, ?_, HCW.out, HBW.out⟩
                rw [HTN.out, HUE.out]
                have e9 : (turnK (useE c.name c.new) L0 k).set k x = turnK (useE c.name c.new) L0 k := by
                  conv => lhs; rw [← HGT.out]
                  exact List.set_getElem_self HKT.out
                rw [e9]
                exact HEW.out
              case measure => simp [intOf]; omega
            | some p =>
              have HUE : Hid (useE c.name c.new x = { x with uses := x.uses.set p c.new }) := hid (by unfold useE; rw [hf])
              obtain ⟨hpl, -, -⟩ := List.findIdx?_eq_some_iff_getElem.1 hf
              rw [hf] at HPU
              obtain ⟨ix, hix⟩ : ∃ ix, firstI x.uses.length (fun i => decide (c.name = x.uses.getD i ByteArray.empty)) = ix := ⟨_, rfl⟩
              rw [hix] at HIX HPU
              have hin : ix = (p : Int) := HPU.out
              subst hin
              have hu := HOW.out.u
              obtain ⟨bb, ca, e5, hbb⟩ : ∃ bb ca, Value.slice a2 x.uses.length k2 = .slice (some ⟨bb, 0, none⟩) x.uses.length ca ∧ x.uses.length ≤ ca := by
                rcases hu.2 with ⟨-, h0⟩ | ⟨bb, ca, cur, e5, -, -, h6, -⟩
                · omega
                · exact ⟨bb, ca, e5, h6⟩
              cases e5
              have hcell := hu.cellAt p (by omega)
              rw [List.getElem?_map, List.getElem?_eq_getElem hpl] at hcell
              have hcell : W.cell? ⟨bb, p, none⟩ = some (.string x.uses[p]) := hcell
              have hfz := hu.frozenAt p
              have hbn := HUB.out k hk1 bb (by rw [HQ2.out]; rfl)
              have b5 : (0 : Int) ≤ (p : Int) := by omega
              have b6 : (p : Int) < (x.uses.length : Int) := by omega
              have hE5 := HEW.out.setUse HKT.out hk1 HQ2.out (i := p) (by rw [HGT.out]; exact hpl) c.new HN3.out
              have hC5 := HCW.out.block (w' := W.setCell ⟨bb, p, none⟩ (.string c.new)) (Below.heap_setCell _ _ _ _ (by show w.heap.size ≠ bb; omega))
              have hb5 := HBW.out.setCell (p := ⟨bb, p, none⟩) hbn.1 (.string c.new)
              rw [HGT.out] at hE5
              have HE5 := hid hE5
              have HC5 := hid hC5
              have HB5 := hid hb5
              clear hf hix HPU hu hbn hE5 hC5 hb5
              go_wp2_with (first | rw [HW.out] | (go_at_call 152; refine HIX.out.mono ?_; rintro e w' ⟨rfl, rfl⟩))
              go_roundw
              case rel =>
                refine ⟨k + 1, by omega, by go_num, ?_, HC5.out, HB5.out⟩
                rw [HTN.out, HUE.out]
                exact HE5.out
              case measure => simp [intOf]; omega
          · have hkl : k = l.length := by omega
            subst hkl
            rw [turnK_all _ _ (by rw [HLL.out]; exact Nat.le_refl _)] at hEr
            have HER := hid hEr.toS
            have HFR := hid hEr.fr
            clear hEr hCr
            go_wp2
            go_ret2
            exact MadeQ.mk _ _ _ _ HR.out rfl HER.out hbr HFR.out
end Go.Proofs.YtlbjbmpkaniojaaGreat
namespace Go.Proofs.YtlbjbmpkaniojaaGreat
open Go Go.RowKit
theorem asc_adj {l : List En} (h : ∀ (i : Nat) (hi : i + 1 < l.length), ltN l[i].name l[i + 1].name) : AscE l := by
  have key : ∀ (d i : Nat) (hj : i + d + 1 < l.length), ltN (l[i]'(by omega)).name l[i + d + 1].name := by
    intro d
    induction d with
    | zero => intro i hj; exact h i (by omega)
    | succ d ih =>
      intro i hj
      exact (ih i (by omega)).trans (h (i + d + 1) (by omega))
  refine List.pairwise_iff_getElem.2 fun i j hi hj hij => ?_
  have e : j = i + (j - i - 1) + 1 := by omega
  have := key (j - i - 1) i (by omega)
  have e2 : l[i + (j - i - 1) + 1]'(by omega) = l[j] := by congr 1; omega
  rw [e2] at this
  exact this
theorem asc_next {l : List En} (h : AscE l) {i : Nat} (hi : i + 1 < l.length) : ltN (l[i]'(by omega)).name l[i + 1].name := List.pairwise_iff_getElem.1 h i (i + 1) (by omega) hi (by omega)
theorem edB_no {s : Sg} {l : List En} {i : Nat} (hi : i + 1 < l.length) (h : ¬ ltN (l[i]'(by omega)).name l[i + 1].name) : edB s l = false := by
  cases e : edB s l with
  | false => rfl
  | true => exact absurd (asc_next (edB_iff.1 e).2 hi) h
theorem edB_asc {s : Sg} {l : List En} (h : AscE l) : edB s l = libB s l := by
  unfold edB; rw [decide_eq_true h, Bool.and_true]
theorem put_lt {x y : En} {r : List En} (h : ltN x.name y.name) : putE x (y :: r) = x :: y :: r := by conv => lhs; unfold putE; rw [if_pos h]
theorem put_ge {x y : En} {r : List En} (h : ¬ ltN x.name y.name) : putE x (y :: r) = y :: putE x r := by conv => lhs; unfold putE; rw [if_neg h]
/-- what stands behind the first k entries. -/
def putR (z : Bool) (x : En) (l : List En) : List En := if z then l else putE x l
theorem putR_end (z : Bool) (x : En) : putR z x [] = if z then [] else [x] := by cases z <;> rfl
/-- the set of an entry is: out and in again. -/
theorem put_erase {l : List En} (ha : AscE l) {i : Nat} (hi : i < l.length) {x : En} (e : l[i].name = x.name) : putE x (l.eraseIdx i) = l.map (subE x) := by
  have hn : hasN (l.map En.name) x.name = true := hasE_iff.2 ⟨_, List.getElem_mem hi, e⟩
  have hne : ∀ y ∈ l.eraseIdx i, y.name ≠ x.name := by
    intro y hy h
    obtain ⟨j, hj, hji, rfl⟩ := List.mem_eraseIdx_iff_getElem.1 hy
    have h1 := idxN_nd ha.nd hi
    have h2 := idxN_nd ha.nd hj
    rw [e] at h1
    rw [h, h1] at h2
    exact hji (Option.some.inj h2).symm
  refine AscE.unique (putE_asc (List.Pairwise.sublist (List.eraseIdx_sublist l i) ha) hne) (ascE_names (sub_names x l).symm ha) fun z => ?_
  rw [putE_mem, sub_mem ha hn]
  constructor
  · rintro (h | h)
    · exact Or.inl h
    · exact Or.inr ⟨List.mem_of_mem_eraseIdx h, hne z h⟩
  · rintro (h | ⟨h1, h2⟩)
    · exact Or.inl h
    · right
      obtain ⟨j, hj, rfl⟩ := List.getElem_of_mem h1
      refine List.mem_eraseIdx_iff_getElem.2 ⟨j, hj, fun hji => ?_, rfl⟩
      subst hji; exact h2 e
theorem drop_erase {l : List En} (ha : AscE l) {i : Nat} (hi : i < l.length) {n : Nm} (e : l[i].name = n) : l.eraseIdx i = l.filter (fun x => decide (x.name ≠ n)) := by
  subst e
  refine AscE.unique (List.Pairwise.sublist (List.eraseIdx_sublist l i) ha) (List.Pairwise.sublist List.filter_sublist ha) fun x => ?_
  rw [List.mem_filter, List.mem_eraseIdx_iff_getElem]
  constructor
  · rintro ⟨j, hj, hne, rfl⟩
    refine ⟨List.getElem_mem hj, ?_⟩
    rw [decide_eq_true_eq]
    intro h
    have h1 := idxN_nd ha.nd hi
    have h2 := idxN_nd ha.nd hj
    rw [h, h1] at h2
    exact hne (Option.some.inj h2).symm
  · rintro ⟨hx, hne⟩
    obtain ⟨j, hj, rfl⟩ := List.getElem_of_mem hx
    refine ⟨j, hj, fun h => ?_, rfl⟩
    subst h; simp at hne
/-- whether an entry, but the one at an index, uses a name. -/
def usedI (l : List En) (n : Nm) (but : Int) : Bool := (List.range l.length).any fun i => !decide ((i : Int) = but) && hasN (l.getD i en0).uses n
theorem usedI_iff {l : List En} {n : Nm} {but : Int} : usedI l n but = true ↔ ∃ (i : Nat) (h : i < l.length), (i : Int) ≠ but ∧ n ∈ l[i].uses := by
  unfold usedI
  rw [List.any_eq_true]
  constructor
  · rintro ⟨i, hi, h⟩
    have hi := List.mem_range.1 hi
    rw [Bool.and_eq_true, getD_at hi] at h
    exact ⟨i, hi, by simpa using h.1, hasN_iff.1 h.2⟩
  · rintro ⟨i, hi, h1, h2⟩
    refine ⟨i, List.mem_range.2 hi, ?_⟩
    rw [Bool.and_eq_true, getD_at hi]
    exact ⟨by simpa using h1, hasN_iff.2 h2⟩
theorem usedI_at {l : List En} (hn : (l.map En.name).Nodup) {i : Nat} (hi : i < l.length) {m : Nm} (e : l[i].name = m) (n : Nm) : usedI l n i = usedB l n m := by
  subst e
  rw [Bool.eq_iff_iff, usedI_iff]
  constructor
  · rintro ⟨j, hj, h1, h2⟩
    refine Bool.of_not_eq_false fun hf => usedB_no.1 hf _ (List.getElem_mem hj) (fun h => ?_) h2
    have k1 := idxN_nd hn hi
    have k2 := idxN_nd hn hj
    rw [h, k1] at k2
    exact h1 (by rw [Option.some.inj k2])
  · intro h
    refine Classical.byContradiction fun hc => ?_
    have : usedB l n l[i].name = false := usedB_no.2 fun x hx hne hu => hc (by
      obtain ⟨j, hj, rfl⟩ := List.getElem_of_mem hx
      exact ⟨j, hj, fun h => hne (by obtain rfl : j = i := by omega
                                     rfl), hu⟩)
    rw [this] at h; cases h
theorem usedI_all {l : List En} {m : Nm} (hm : ∀ x ∈ l, x.name ≠ m) (n : Nm) : usedI l n (-1) = usedB l n m := by
  rw [Bool.eq_iff_iff, usedI_iff]
  constructor
  · rintro ⟨j, hj, h1, h2⟩
    exact Bool.of_not_eq_false fun hf => usedB_no.1 hf _ (List.getElem_mem hj) (hm _ (List.getElem_mem hj)) h2
  · intro h
    refine Classical.byContradiction fun hc => ?_
    have : usedB l n m = false := usedB_no.2 fun x hx _ hu => hc (by
      obtain ⟨j, hj, rfl⟩ := List.getElem_of_mem hx
      exact ⟨j, hj, by omega, hu⟩)
    rw [this] at h; cases h
theorem em_names {s : Sg} {l : List En} (h : LibOK s l) : ∀ x ∈ l, x.name ≠ em := fun x hx => nm_ne (h.ents x hx).name
/-- the rename of one entry as the reference does it. -/
theorem ren_at {l : List En} (hn : (l.map En.name).Nodup) {i : Nat} (hi : i < l.length) {n m : Nm} (e : l[i].name = n) {k : Nat} (hk : k < l.length) : renE n m l[k] = { name := if k = i then m else l[k].name, who := l[k].who, says := l[k].says, uses := l[k].uses.map (renN n m), proof := l[k].proof } := by
  subst e
  unfold renE renN
  congr 1
  by_cases h : k = i
  · subst h; rw [if_pos rfl, if_pos rfl]
  · rw [if_neg h, if_neg]
    intro h2
    have k1 := idxN_nd hn hi
    have k2 := idxN_nd hn hk
    rw [h2, k1] at k2
    exact h (Option.some.inj k2).symm
/-- what a change makes, as the reference tells it. -/
def doI (l : List En) (c : Chg) (i : Option Nat) : List En × Int :=
  if c.kind = 1 then (if i.isSome then ([], 6) else if 60 ≤ l.length then ([], 4) else (putE c.ent l, 0))
  else match i with
  | none => ([], 5)
  | some i =>
    if c.kind = 2 then (if l.getD i en0 = c.ent then ([], 8) else (putE c.ent (l.eraseIdx i), 0))
    else if c.kind = 4 then (if usedI l c.name i then ([], 10) else (l.eraseIdx i, 0))
    else if (idxN l c.new).isSome || usedI l c.new (-1) then ([], 6) else (srtE (l.map (renE c.name c.new)), 0)
/-- the name that a change is about. -/
def nameC (c : Chg) : Nm := if c.kind = 1 ∨ c.kind = 2 then c.ent.name else c.name
theorem doI_eq {s : Sg} {l : List En} {c : Chg} (h : edB s l = true) (hc : chgB s c = true) : doI l c (idxN l (nameC c)) = doL l c := by
  obtain ⟨hl, ha⟩ := edB_iff.1 h
  have hk := (chgB_iff.1 hc).kinds
  unfold doI doL nameC
  by_cases h1 : c.kind = 1
  · rw [if_pos h1, if_pos h1, if_pos (Or.inl h1), idxN_has]
  rw [if_neg h1, if_neg h1]
  by_cases h2 : c.kind = 2
  · rw [if_pos (Or.inr h2), if_pos h2]
    cases hi : idxN l c.ent.name with
    | none =>
      have : hasN (l.map En.name) c.ent.name = false := by rw [← idxN_has, hi]; rfl
      rw [this]; rfl
    | some i =>
      have : hasN (l.map En.name) c.ent.name = true := by rw [← idxN_has, hi]; rfl
      rw [this]
      obtain ⟨hil, e⟩ := idxN_some hi
      simp only [if_pos rfl, h2, if_true]
      rw [getD_at hil, put_erase ha hil e]
      by_cases hm : l[i] = c.ent
      · rw [if_pos hm, if_pos (hm ▸ List.getElem_mem hil)]
      · rw [if_neg hm, if_neg fun hin => hm (ha.inj (List.getElem_mem hil) hin e)]
  have h12 : ¬ (c.kind = 1 ∨ c.kind = 2) := by omega
  rw [if_neg h12, if_neg h2]
  cases hi : idxN l c.name with
  | none =>
    have : hasN (l.map En.name) c.name = false := by rw [← idxN_has, hi]; rfl
    rw [this]; simp
  | some i =>
    have : hasN (l.map En.name) c.name = true := by rw [← idxN_has, hi]; rfl
    rw [this]
    obtain ⟨hil, e⟩ := idxN_some hi
    simp only [h2, if_false, if_true]
    rw [usedI_at ha.nd hil e, usedI_all (em_names hl), drop_erase ha hil e, idxN_has]
    rcases hk with h | h | h | h
    · exact absurd h h1
    · exact absurd h h2
    · simp [h]
    · simp [h]
end Go.Proofs.YtlbjbmpkaniojaaGreat
namespace Go.Proofs.YtlbjbmpkaniojaaGreat
open Go Go.RowKit Go.Maps
set_option maxHeartbeats 2000000 in
set_option maxRecDepth 100000 in
theorem ref9_put2 (vl : Value) (l : List En) (w : World) (hl : EntsAt w vl l) (hl1 : l.length ≤ 1000) (hok : ∀ x ∈ l, EnSm x) :
    Calls Tryz.prog 108 #[vl] w fun e w' => ∃ u vs, e = .returned u ∧ EnW w' w.heap.size u vs l ∧ Below w.heap.size w w' := by
  obtain ⟨la, lc, rfl, -, ll, -, HC⟩ := hl.open
  have HC' := hid HC
  have HOK := hid hok
  have h00 := hid (EnW.nil w w.heap.size)
  clear HC hl hok
  go_enter Tryz.func108, Tryz.ntmps108
  go_wp2
  go_loopw [3, 4] (fun uo kv wr => ∃ (k : Nat) (vs : List V3), k ≤ l.length ∧ kv = .int .i64 k ∧ EnW wr w.heap.size uo vs (l.take k) ∧ Below w.heap.size w wr) (fun _ kv _ => l.length - (intOf kv).toNat)
  case atStart => exact ⟨0, [], by omega, rfl, by simpa using h00.out, Below.refl _ _⟩
  case round =>
    clear h00
    obtain ⟨m, vs, hk, rfl, hE, hb⟩ := hrel
    have hsz := hb.size
    by_cases hlt : m < l.length
    · obtain ⟨b, o, vS, vu, vp, rfl, c0, c1, c2, c3, c4, he⟩ := HC'.out m hlt
      have he' := he.below hb
      obtain ⟨sa, sc, rfl, -⟩ := he'.s.open
      obtain ⟨ua, uc, rfl, -⟩ := he'.u.open
      obtain ⟨pa, pc, rfl, -⟩ := he'.p.open
      have d0 := (hb.cell (World.block_lt_of_cell? _ _ c0)).trans c0
      have d1 := (hb.cell (World.block_lt_of_cell? _ _ c1)).trans c1
      have d2 := (hb.cell (World.block_lt_of_cell? _ _ c2)).trans c2
      have d3 := (hb.cell (World.block_lt_of_cell? _ _ c3)).trans c3
      have d4 := (hb.cell (World.block_lt_of_cell? _ _ c4)).trans c4
      obtain ⟨s0, s1, s2, s3⟩ := HOK.out _ (List.getElem_mem hlt)
      have HTK := hid (show l.take (m + 1) = l.take m ++ [l[m]] from List.take_succ_eq_append_getElem hlt)
      have hlen : (l.take m).length = m := by simp; omega
      obtain ⟨x, hx⟩ : ∃ x, l[m] = x := ⟨_, rfl⟩
      rw [hx] at d0 d1 d2 d3 d4 he' s0 s1 s2 s3 HTK
      obtain ⟨L, hL⟩ : ∃ L, l.take m = L := ⟨_, rfl⟩
      rw [hL] at hE HTK hlen
      clear c0 c1 c2 c3 c4 he hx hL
      have HCP := hid (ref9_copied (.slice sa x.says.length sc) (.slice ua x.uses.length uc) (.slice pa x.proof.length pc) x wr he' s1 s2 s3)
      have HE := hid hE
      have HB := hid hb
      have HLEN := hid hlen
      obtain ⟨ra, rc, rfl⟩ := hE.slice
      rw [hlen] at HE
      have hm0 : (L.length : Nat) = m := hlen
      clear hE hb he'
      go_wp2_with fail
      refine HCP.out.mono ?_; rintro e w2 ⟨v, rfl, ⟨vS, vU, vP, rfl, hO⟩, hb2⟩; obtain ⟨a1, k1, rfl⟩ := owns_slice hO.s; obtain ⟨a2, k2, rfl⟩ := owns_slice hO.u; obtain ⟨a3, k3, rfl⟩ := owns_slice hO.p; have HE2 := hid (HE.out.below hb2); have HBR2 := hid hb2; have HO2 := hid hO; have HB2 := hid (HB.out.trans (hb2.mono HB.out.size)); have HU := hid HE.out.top.lt; have hown2 := HE2.out.top; rw [HLEN.out] at hown2; have hownA := hown2.alloc (.cells #[.string x.name, .string x.who, .slice a1 x.says.length k1, .slice a2 x.uses.length k2, .slice a3 x.proof.length k3] 41); have HROW := hid (row_one_ent w2 (.string x.name) (.string x.who) (.slice a1 x.says.length k1) (.slice a2 x.uses.length k2) (.slice a3 x.proof.length k3) 41); have hwz := HB2.out.size; clear hO hb2 hown2
      go_wp2_with (at_builtin; go_loud (refine wpList_append_lie rfl _ _ 24 rfl w.heap.size 41 el_ent Tryz.underlying24 rfl (by decide) _ (m) (ensC L vs) rfl hownA _ 1 (enC x (.slice a1 x.says.length k1, .slice a2 x.uses.length k2, .slice a3 x.proof.length k3)) rfl HROW.out (enC_one _ _ _ _ _ _ _ _ _ _) (by omega) (by omega) (by omega) (by simp; omega) _ rfl ?_; intro g cap w4 hown4 hgrow4 hat4 hlt4; have hB4 := (HB2.out.alloc HB2.out.size (.cells #[.string x.name, .string x.who, .slice a1 x.says.length k1, .slice a2 x.uses.length k2, .slice a3 x.proof.length k3] 41)).grown hgrow4 (by simp; omega) (fun q hq => (HU.out q hq).1)))
      go_roundw
      case rel =>
        have hba : Below w2.heap.size w2 (w2.alloc (.cells #[.string x.name, .string x.who, .slice a1 x.says.length k1, .slice a2 x.uses.length k2, .slice a3 x.proof.length k3] 41)) := (Below.refl _ _).alloc (Nat.le_refl _) _; have hE4 := HE.out.push (w1 := w2.alloc _) (HBR2.out.trans (hba.mono HBR2.out.size)) (HO2.out.blocks (Nat.le_refl _) fun q _ hq => hba.block q hq) HB.out.size HLEN.out.symm hown4 hgrow4
        exact ⟨m + 1, vs ++ [(.slice a1 x.says.length k1, .slice a2 x.uses.length k2, .slice a3 x.proof.length k3)], by omega, by go_num, by rw [HTK.out]; exact hE4, hB4⟩
      case measure => simp [intOf]; omega
    · have hkl : m = l.length := by omega
      subst hkl
      rw [List.take_of_length_le (Nat.le_refl _)] at hE
      have HE := hid hE
      clear hE
      go_wp2
      go_ret
      exact ⟨_, vs, rfl, HE.out, hb⟩
set_option maxHeartbeats 2000000 in
theorem ref9_used (vl : Value) (l : List En) (n : Nm) (but : Int) (w : World) (hl : EntsAt w vl l) :
    Calls Tryz.prog 81 #[vl, .string n, .int .i64 but] w fun e w' => e = .returned (.bool (usedI l n but)) ∧ w = w' := by
  obtain ⟨la, lc, rfl, -, ll, -, HC⟩ := hl.open
  have HC' := hid HC
  clear HC hl
  go_enter Tryz.func81, Tryz.ntmps81
  go_wp2
  go_loop [7] (fun i => ∃ k : Nat, k ≤ l.length ∧ i = .int .i64 k ∧ ∀ j (hj : j < l.length), j < k → (j : Int) ≠ but → n ∉ l[j].uses) (fun i => l.length - (intOf i).toNat)
  case atStart => exact ⟨0, by omega, rfl, fun j _ h => absurd h (by omega)⟩
  case round =>
    obtain ⟨k, hk, rfl, hrel⟩ := hrel
    have HR := hid hrel
    clear hrel
    by_cases hlt : k < l.length
    · obtain ⟨b, o, vS, vu, vp, rfl, c0, c1, c2, c3, c4, he⟩ := HC'.out k hlt
      have HH := hid (ref6_Has vu l[k].uses n w he.u)
      have HF := hid (fun (h1 : (k : Int) ≠ but) (h2 : n ∈ l[k].uses) => (usedI_iff (l := l) (n := n) (but := but)).2 ⟨k, hlt, h1, h2⟩)
      obtain ⟨ua, uc, rfl, -⟩ := he.u.open
      have HIF := hid (hasN_iff (l := l[k].uses) (n := n))
      have HNO := hid (hasN_no (l := l[k].uses) (n := n))
      obtain ⟨z, hz⟩ : ∃ z, hasN l[k].uses n = z := ⟨_, rfl⟩
      rw [hz] at HH HIF HNO
      have y0 : (k : Int) < (l.length : Int) := by omega
      clear c0 c1 c2 c4 he hz
      by_cases hbut : (k : Int) = but
      · have q1 : ((k : Int) != but) = false := by simpa using hbut
        have HBT := hid hbut
        clear hbut HH
        go_wp2
        go_round
        case rel =>
          refine ⟨k + 1, by omega, by go_num, fun j hj hjk hne => ?_⟩
          by_cases e : j = k
          · subst e; exact absurd HBT.out hne
          · exact HR.out j hj (by omega) hne
        case measure => simp [intOf]; omega
      · have q1 : ((k : Int) != but) = true := by simpa using hbut
        have HBT := hid hbut
        clear hbut
        cases z with
        | true =>
          have HU := hid (HF.out HBT.out (HIF.out.1 rfl))
          go_wp2_with (go_at_call 63; refine HH.out.mono ?_; rintro e w2 ⟨rfl, rfl⟩)
          go_ret
          exact ⟨ret_bool HU.out.symm, rfl⟩
        | false =>
          have HU := hid (HNO.out.1 rfl)
          go_wp2_with (go_at_call 63; refine HH.out.mono ?_; rintro e w2 ⟨rfl, rfl⟩)
          go_round
          case rel =>
            refine ⟨k + 1, by omega, by go_num, fun j hj hjk hne => ?_⟩
            by_cases e : j = k
            · subst e; exact HU.out
            · exact HR.out j hj (by omega) hne
          case measure => simp [intOf]; omega
    · have HF : Hid (usedI l n but = false) := hid (by
        rw [Bool.eq_false_iff]
        intro h
        obtain ⟨j, hj, h1, h2⟩ := usedI_iff.1 h
        exact HR.out j hj (by omega) h1 h2)
      go_wp2
      go_ret
      exact ⟨ret_bool HF.out.symm, rfl⟩
set_option maxHeartbeats 8000000 in
set_option maxRecDepth 100000 in
theorem ref9_putW (vl vS vU vP : Value) (l : List En) (x : En) (w : World) (hl : EntsAt w vl l) (hx : EntAt w vS vU vP x) (hl1 : l.length ≤ 900) (hok : ∀ y ∈ l, EnSm y) (hok2 : EnSm x) :
    Calls Tryz.prog 69 #[vl, .agg #[.string x.name, .string x.who, vS, vU, vP]] w fun e w' => ∃ u vs B, w.heap.size ≤ B ∧ e = .returned u ∧ EnW w' B u vs (putE x l) ∧ Below w.heap.size w w' := by
  obtain ⟨la, lc, rfl, -, ll, -, HC⟩ := hl.open
  obtain ⟨qa, qc, rfl, -⟩ := hx.s.open
  obtain ⟨ra, rc, rfl, -⟩ := hx.u.open
  obtain ⟨oa, oc, rfl, -⟩ := hx.p.open
  have EB0 := EB.new w x (.slice qa x.says.length qc) (.slice ra x.uses.length rc) (.slice oa x.proof.length oc) 41
  obtain ⟨V, hV⟩ : ∃ V, w.alloc (.cells #[.string x.name, .string x.who, .slice qa x.says.length qc, .slice ra x.uses.length rc, .slice oa x.proof.length oc] 41) = V := ⟨_, rfl⟩
  have hbV : Below w.heap.size w V := hV ▸ (Below.refl _ _).alloc (Nat.le_refl _) _
  rw [hV] at EB0
  have HV := hid hV
  have HBV := hid hbV
  have HEB := hid EB0
  have HC' := hid HC
  have HOK := hid hok
  have HXX := hid (hx.below hbV)
  have h00 := hid (EnW.nil V V.heap.size)
  obtain ⟨t0, t1, t2, t3⟩ := hok2
  have HT := hid (And.intro t1 (And.intro t2 t3))
  clear HC hl hok hV hbV hx EB0 t0 t1 t2 t3
  go_enter Tryz.func69, Tryz.ntmps69
  go_wp2_with (rw [HV.out])
  go_loopw [5, 6, 7] (fun uo zv kv wr => ∃ (k m : Nat) (z : Bool) (O : List En) (vs : List V3), k ≤ l.length ∧ kv = .int .i64 k ∧ zv = .bool z ∧ EnW wr V.heap.size uo vs O ∧ putE x l = O ++ putR z x (l.drop k) ∧ O.length = m ∧ (m ≤ k + 1 ∧ (z = false → m ≤ k)) ∧ Below V.heap.size V wr) (fun _ _ kv _ => l.length - (intOf kv).toNat)
  case atStart => exact ⟨0, 0, false, [], [], by omega, rfl, rfl, h00.out, rfl, rfl, by omega, Below.refl _ _⟩
  case round =>
    clear h00
    obtain ⟨k, m, z, O, vs, hk, rfl, rfl, hE, hput, hlen, ⟨hm1, hmz⟩, hb⟩ := hrel
    have HMZ := hid hmz
    clear hmz
    have hsz := hb.size
    have HPUT := hid hput
    have HE := hid hE
    have HB := hid hb
    have HLEN := hid hlen
    obtain ⟨xa, xc, rfl⟩ : ∃ a c, u5 = .slice a m c := hlen ▸ hE.slice
    obtain ⟨c0, c1, c2, c3, c4⟩ := HEB.out.below hb
    clear hput hE hb hlen
    by_cases hlt : k < l.length
    · obtain ⟨b, o, vS, vu, vp, rfl, d0, d1, d2, d3, d4, he⟩ := HC'.out k hlt
      have he' := he.below (HBV.out.trans (HB.out.mono HBV.out.size))
      obtain ⟨sa, sc, rfl, -⟩ := he'.s.open
      obtain ⟨ua, uc, rfl, -⟩ := he'.u.open
      obtain ⟨pa, pc, rfl, -⟩ := he'.p.open
      have HBB := hid (HBV.out.trans (HB.out.mono HBV.out.size))
      have D0 := hid d0
      have D1 := hid d1
      have D2 := hid d2
      have D3 := hid d3
      have D4 := hid d4
      have HDK := hid (fun (X : World) (hX : Below V.heap.size V X) => (fun {p : Addr} {u : Value} (h : w.cell? p = some u) => ((HBV.out.trans (hX.mono HBV.out.size)).cell (World.block_lt_of_cell? _ _ h)).trans h))
      have HHE := hid he
      replace d0 := HDK.out wr HB.out D0.out
      replace d1 := HDK.out wr HB.out D1.out
      replace d2 := HDK.out wr HB.out D2.out
      replace d3 := HDK.out wr HB.out D3.out
      replace d4 := HDK.out wr HB.out D4.out
      obtain ⟨s0, s1, s2, s3⟩ := HOK.out _ (List.getElem_mem hlt)
      have hdr : l.drop k = l[k] :: l.drop (k + 1) := List.drop_eq_getElem_cons hlt
      rw [hdr] at HPUT
      obtain ⟨y, hy⟩ : ∃ y, l[k] = y := ⟨_, rfl⟩
      rw [hy] at d0 d1 d2 d3 d4 s0 s1 s2 s3 HPUT D0 D1 D2 D3 D4 HHE
      have HSS := hid (And.intro s1 (And.intro s2 s3))
      have HCY := hid (fun (X : World) (hX : Below V.heap.size V X) => ref9_copied _ _ _ y X (HHE.out.below (HBV.out.trans (hX.mono HBV.out.size))) HSS.out.1 HSS.out.2.1 HSS.out.2.2)
      have HCX := hid (fun (X : World) (hX : Below V.heap.size V X) => ref9_copied _ _ _ x X (HXX.out.below hX) HT.out.1 HT.out.2.1 HT.out.2.2)
      have y0 : (k : Int) < (l.length : Int) := by omega
      clear he hy hdr he' s0 s1 s2 s3
      cases z with
      | true =>
        have HP1 : Hid (putE x l = (O ++ [y]) ++ putR true x (l.drop (k + 1))) := hid (by rw [HPUT.out, List.append_assoc]; rfl)
        clear HPUT
        go_wp2
        go_quiet (fail)
        have hbn := below_self_drewN wr nq; obtain ⟨wq, hwq⟩ : ∃ wq, wr.drewN nq = wq := ⟨_, rfl⟩; rw [hwq] at hbn ⊢; have HE := hid (HE.out.below hbn); have HB := hid (HB.out.trans (hbn.mono hsz)); clear c0 c1 c2 c3 c4 d0 d1 d2 d3 d4; obtain ⟨c0, c1, c2, c3, c4⟩ := HEB.out.below HB.out; have d0 := HDK.out wq HB.out D0.out; have d1 := HDK.out wq HB.out D1.out; have d2 := HDK.out wq HB.out D2.out; have d3 := HDK.out wq HB.out D3.out; have d4 := HDK.out wq HB.out D4.out; clear hbn hwq
        have HCP := hid (HCY.out wq HB.out)
        go_wp2_with fail
        refine HCP.out.mono ?_; rintro e w2 ⟨v, rfl, ⟨vS, vU, vP, rfl, hO⟩, hb2⟩; obtain ⟨a1, k1, rfl⟩ := owns_slice hO.s; obtain ⟨a2, k2, rfl⟩ := owns_slice hO.u; obtain ⟨a3, k3, rfl⟩ := owns_slice hO.p; have HE2 := hid (HE.out.below hb2); have HBR2 := hid hb2; have HO2 := hid hO; have HB2 := hid (HB.out.trans (hb2.mono HB.out.size)); have HU := hid HE.out.top.lt; have hown2 := HE2.out.top; rw [HLEN.out] at hown2; have hownA := hown2.alloc (.cells #[.string y.name, .string y.who, .slice a1 y.says.length k1, .slice a2 y.uses.length k2, .slice a3 y.proof.length k3] 41); have HROW := hid (row_one_ent w2 (.string y.name) (.string y.who) (.slice a1 y.says.length k1) (.slice a2 y.uses.length k2) (.slice a3 y.proof.length k3) 41); have hwz := HB2.out.size; clear hO hb2 hown2
        go_wp2_with (at_builtin; go_loud (refine wpList_append_lie rfl _ _ 24 rfl V.heap.size 41 el_ent Tryz.underlying24 rfl (by decide) _ (m) (ensC O vs) rfl hownA _ 1 (enC y (.slice a1 y.says.length k1, .slice a2 y.uses.length k2, .slice a3 y.proof.length k3)) rfl HROW.out (enC_one _ _ _ _ _ _ _ _ _ _) (by omega) (by omega) (by omega) (by simp; omega) _ rfl ?_; intro g cap w4 hown4 hgrow4 hat4 hlt4; have hB4 := (HB2.out.alloc HB2.out.size (.cells #[.string y.name, .string y.who, .slice a1 y.says.length k1, .slice a2 y.uses.length k2, .slice a3 y.proof.length k3] 41)).grown hgrow4 (by simp; omega) (fun q hq => (HU.out q hq).1)))
        go_roundw
        case rel =>
          have hba : Below w2.heap.size w2 (w2.alloc (.cells #[.string y.name, .string y.who, .slice a1 y.says.length k1, .slice a2 y.uses.length k2, .slice a3 y.proof.length k3] 41)) := (Below.refl _ _).alloc (Nat.le_refl _) _; have hE4 := HE.out.push (w1 := w2.alloc _) (HBR2.out.trans (hba.mono HBR2.out.size)) (HO2.out.blocks (Nat.le_refl _) fun q _ hq => hba.block q hq) HB.out.size HLEN.out.symm hown4 hgrow4
          exact ⟨k + 1, m + 1, true, O ++ [y], _, by omega, by go_num, rfl, hE4, HP1.out, by rw [List.length_append, HLEN.out]; rfl, ⟨by omega, by first | (intro h; cases h; done) | (intro _; omega)⟩, hB4⟩
        case measure => simp [intOf]; omega
      | false =>
        have hmk : m ≤ k := HMZ.out rfl
        by_cases hgt : ltN x.name y.name
        · have q1 := ble' (x := y.name) (y := x.name) hgt
          have HP1 : Hid (putE x l = (O ++ [x] ++ [y]) ++ putR true x (l.drop (k + 1))) := hid (by rw [HPUT.out]; show O ++ putE x (y :: l.drop (k + 1)) = _; rw [put_lt hgt, List.append_assoc, List.append_assoc]; rfl)
          clear HPUT hgt
          go_wp2
          go_quiet (fail)
          have hbn := below_self_drewN wr nq; obtain ⟨wq, hwq⟩ : ∃ wq, wr.drewN nq = wq := ⟨_, rfl⟩; rw [hwq] at hbn ⊢; have HE := hid (HE.out.below hbn); have HB := hid (HB.out.trans (hbn.mono hsz)); clear c0 c1 c2 c3 c4 d0 d1 d2 d3 d4; obtain ⟨c0, c1, c2, c3, c4⟩ := HEB.out.below HB.out; have d0 := HDK.out wq HB.out D0.out; have d1 := HDK.out wq HB.out D1.out; have d2 := HDK.out wq HB.out D2.out; have d3 := HDK.out wq HB.out D3.out; have d4 := HDK.out wq HB.out D4.out; clear hbn hwq
          have HCP := hid (HCX.out wq HB.out)
          go_wp2_with fail
          refine HCP.out.mono ?_; rintro e w2 ⟨v, rfl, ⟨vS, vU, vP, rfl, hO⟩, hb2⟩; obtain ⟨a1, k1, rfl⟩ := owns_slice hO.s; obtain ⟨a2, k2, rfl⟩ := owns_slice hO.u; obtain ⟨a3, k3, rfl⟩ := owns_slice hO.p; have HE2 := hid (HE.out.below hb2); have HBR2 := hid hb2; have HO2 := hid hO; have HB2 := hid (HB.out.trans (hb2.mono HB.out.size)); have HU := hid HE.out.top.lt; have hown2 := HE2.out.top; rw [HLEN.out] at hown2; have hownA := hown2.alloc (.cells #[.string x.name, .string x.who, .slice a1 x.says.length k1, .slice a2 x.uses.length k2, .slice a3 x.proof.length k3] 41); have HROW := hid (row_one_ent w2 (.string x.name) (.string x.who) (.slice a1 x.says.length k1) (.slice a2 x.uses.length k2) (.slice a3 x.proof.length k3) 41); have hwz := HB2.out.size; clear hO hb2 hown2
          go_wp2_with (at_builtin; go_loud (refine wpList_append_lie rfl _ _ 24 rfl V.heap.size 41 el_ent Tryz.underlying24 rfl (by decide) _ (m) (ensC O vs) rfl hownA _ 1 (enC x (.slice a1 x.says.length k1, .slice a2 x.uses.length k2, .slice a3 x.proof.length k3)) rfl HROW.out (enC_one _ _ _ _ _ _ _ _ _ _) (by omega) (by omega) (by omega) (by simp; omega) _ rfl ?_; intro g cap w4 hown4 hgrow4 hat4 hlt4; have hB4 := (HB2.out.alloc HB2.out.size (.cells #[.string x.name, .string x.who, .slice a1 x.says.length k1, .slice a2 x.uses.length k2, .slice a3 x.proof.length k3] 41)).grown hgrow4 (by simp; omega) (fun q hq => (HU.out q hq).1); have d0 := HDK.out w4 hB4 D0.out; have d1 := HDK.out w4 hB4 D1.out; have d2 := HDK.out w4 hB4 D2.out; have d3 := HDK.out w4 hB4 D3.out; have d4 := HDK.out w4 hB4 D4.out))
          have hba : Below w2.heap.size w2 (w2.alloc (.cells #[.string x.name, .string x.who, .slice a1 x.says.length k1, .slice a2 x.uses.length k2, .slice a3 x.proof.length k3] 41)) := (Below.refl _ _).alloc (Nat.le_refl _) _; have hE4 := HE.out.push (w1 := w2.alloc _) (HBR2.out.trans (hba.mono HBR2.out.size)) (HO2.out.blocks (Nat.le_refl _) fun q _ hq => hba.block q hq) HB.out.size HLEN.out.symm hown4 hgrow4
          have hlen1 : (O ++ [x]).length = m + 1 := by rw [List.length_append, HLEN.out]; rfl
          have HE := hid hE4
          have HB := hid hB4
          have HLEN := hid hlen1
          have HCP := hid (HCY.out w4 HB.out)
          clear hE4 hB4 hlen1 hown4 hgrow4 hba
          obtain ⟨O1, hO1⟩ : ∃ O1, O ++ [x] = O1 := ⟨_, rfl⟩
          obtain ⟨vs1, hvs1⟩ : ∃ vs1, vs ++ [(Value.slice a1 x.says.length k1, Value.slice a2 x.uses.length k2, Value.slice a3 x.proof.length k3)] = vs1 := ⟨_, rfl⟩
          rw [hO1, hvs1] at HE
          rw [hO1] at HLEN HP1
          clear hO1 hvs1
          refine HCP.out.mono ?_; rintro e w5 ⟨v, rfl, ⟨vS, vU, vP, rfl, hO⟩, hb2⟩; obtain ⟨a1, k1, rfl⟩ := owns_slice hO.s; obtain ⟨a2, k2, rfl⟩ := owns_slice hO.u; obtain ⟨a3, k3, rfl⟩ := owns_slice hO.p; have HE2 := hid (HE.out.below hb2); have HBR2 := hid hb2; have HO2 := hid hO; have HB2 := hid (HB.out.trans (hb2.mono HB.out.size)); have HU := hid HE.out.top.lt; have hown2 := HE2.out.top; rw [HLEN.out] at hown2; have hownA := hown2.alloc (.cells #[.string y.name, .string y.who, .slice a1 y.says.length k1, .slice a2 y.uses.length k2, .slice a3 y.proof.length k3] 41); have HROW := hid (row_one_ent w5 (.string y.name) (.string y.who) (.slice a1 y.says.length k1) (.slice a2 y.uses.length k2) (.slice a3 y.proof.length k3) 41); have hwz := HB2.out.size; clear hO hb2 hown2
          go_wp2_with (at_builtin; go_loud (refine wpList_append_lie rfl _ _ 24 rfl V.heap.size 41 el_ent Tryz.underlying24 rfl (by decide) _ (m + 1) (ensC O1 vs1) rfl hownA _ 1 (enC y (.slice a1 y.says.length k1, .slice a2 y.uses.length k2, .slice a3 y.proof.length k3)) rfl HROW.out (enC_one _ _ _ _ _ _ _ _ _ _) (by omega) (by omega) (by omega) (by simp; omega) _ rfl ?_; intro g cap w4 hown4 hgrow4 hat4 hlt4; have hB4 := (HB2.out.alloc HB2.out.size (.cells #[.string y.name, .string y.who, .slice a1 y.says.length k1, .slice a2 y.uses.length k2, .slice a3 y.proof.length k3] 41)).grown hgrow4 (by simp; omega) (fun q hq => (HU.out q hq).1)))
          go_roundw
          case rel =>
            have hba : Below w5.heap.size w5 (w5.alloc (.cells #[.string y.name, .string y.who, .slice a1 y.says.length k1, .slice a2 y.uses.length k2, .slice a3 y.proof.length k3] 41)) := (Below.refl _ _).alloc (Nat.le_refl _) _; have hE4 := HE.out.push (w1 := w5.alloc _) (HBR2.out.trans (hba.mono HBR2.out.size)) (HO2.out.blocks (Nat.le_refl _) fun q _ hq => hba.block q hq) HB.out.size HLEN.out.symm hown4 hgrow4
            exact ⟨k + 1, m + 1 + 1, true, O1 ++ [y], _, by omega, by go_num, rfl, hE4, HP1.out, by rw [List.length_append, HLEN.out]; rfl, ⟨by omega, by first | (intro h; cases h; done) | (intro _; omega)⟩, hB4⟩
          case measure => simp [intOf]; omega
        · have q1 := ble (x := y.name) (y := x.name) hgt
          have HP1 : Hid (putE x l = (O ++ [y]) ++ putR false x (l.drop (k + 1))) := hid (by rw [HPUT.out]; show O ++ putE x (y :: l.drop (k + 1)) = _; rw [put_ge hgt, List.append_assoc]; rfl)
          clear HPUT hgt
          go_wp2
          go_quiet (fail)
          have hbn := below_self_drewN wr nq; obtain ⟨wq, hwq⟩ : ∃ wq, wr.drewN nq = wq := ⟨_, rfl⟩; rw [hwq] at hbn ⊢; have HE := hid (HE.out.below hbn); have HB := hid (HB.out.trans (hbn.mono hsz)); clear c0 c1 c2 c3 c4 d0 d1 d2 d3 d4; obtain ⟨c0, c1, c2, c3, c4⟩ := HEB.out.below HB.out; have d0 := HDK.out wq HB.out D0.out; have d1 := HDK.out wq HB.out D1.out; have d2 := HDK.out wq HB.out D2.out; have d3 := HDK.out wq HB.out D3.out; have d4 := HDK.out wq HB.out D4.out; clear hbn hwq
          have HCP := hid (HCY.out wq HB.out)
          go_wp2_with fail
          refine HCP.out.mono ?_; rintro e w2 ⟨v, rfl, ⟨vS, vU, vP, rfl, hO⟩, hb2⟩; obtain ⟨a1, k1, rfl⟩ := owns_slice hO.s; obtain ⟨a2, k2, rfl⟩ := owns_slice hO.u; obtain ⟨a3, k3, rfl⟩ := owns_slice hO.p; have HE2 := hid (HE.out.below hb2); have HBR2 := hid hb2; have HO2 := hid hO; have HB2 := hid (HB.out.trans (hb2.mono HB.out.size)); have HU := hid HE.out.top.lt; have hown2 := HE2.out.top; rw [HLEN.out] at hown2; have hownA := hown2.alloc (.cells #[.string y.name, .string y.who, .slice a1 y.says.length k1, .slice a2 y.uses.length k2, .slice a3 y.proof.length k3] 41); have HROW := hid (row_one_ent w2 (.string y.name) (.string y.who) (.slice a1 y.says.length k1) (.slice a2 y.uses.length k2) (.slice a3 y.proof.length k3) 41); have hwz := HB2.out.size; clear hO hb2 hown2
          go_wp2_with (at_builtin; go_loud (refine wpList_append_lie rfl _ _ 24 rfl V.heap.size 41 el_ent Tryz.underlying24 rfl (by decide) _ (m) (ensC O vs) rfl hownA _ 1 (enC y (.slice a1 y.says.length k1, .slice a2 y.uses.length k2, .slice a3 y.proof.length k3)) rfl HROW.out (enC_one _ _ _ _ _ _ _ _ _ _) (by omega) (by omega) (by omega) (by simp; omega) _ rfl ?_; intro g cap w4 hown4 hgrow4 hat4 hlt4; have hB4 := (HB2.out.alloc HB2.out.size (.cells #[.string y.name, .string y.who, .slice a1 y.says.length k1, .slice a2 y.uses.length k2, .slice a3 y.proof.length k3] 41)).grown hgrow4 (by simp; omega) (fun q hq => (HU.out q hq).1)))
          go_roundw
          case rel =>
            have hba : Below w2.heap.size w2 (w2.alloc (.cells #[.string y.name, .string y.who, .slice a1 y.says.length k1, .slice a2 y.uses.length k2, .slice a3 y.proof.length k3] 41)) := (Below.refl _ _).alloc (Nat.le_refl _) _; have hE4 := HE.out.push (w1 := w2.alloc _) (HBR2.out.trans (hba.mono HBR2.out.size)) (HO2.out.blocks (Nat.le_refl _) fun q _ hq => hba.block q hq) HB.out.size HLEN.out.symm hown4 hgrow4
            exact ⟨k + 1, m + 1, false, O ++ [y], _, by omega, by go_num, rfl, hE4, HP1.out, by rw [List.length_append, HLEN.out]; rfl, ⟨by omega, by first | (intro h; cases h; done) | (intro _; omega)⟩, hB4⟩
          case measure => simp [intOf]; omega
    · have hkl : k = l.length := by omega
      subst hkl
      rw [List.drop_of_length_le (Nat.le_refl _), putR_end] at HPUT
      cases z with
      | true =>
        have HP1 : Hid (putE x l = O) := hid (by rw [HPUT.out]; simp)
        clear HPUT
        go_wp2
        go_ret
        exact ⟨_, _, V.heap.size, HBV.out.size, rfl, by rw [HP1.out]; exact (show EnW wr V.heap.size (.slice xa m xc) vs O from HE.out), HBV.out.trans (HB.out.mono HBV.out.size)⟩
      | false =>
        have HP1 : Hid (putE x l = O ++ [x]) := hid (by rw [HPUT.out]; simp)
        have HCP := hid (ref9_copied _ _ _ x wr (HXX.out.below HB.out) HT.out.1 HT.out.2.1 HT.out.2.2)
        clear HPUT
        go_wp2_with fail
        refine HCP.out.mono ?_; rintro e w2 ⟨v, rfl, ⟨vS, vU, vP, rfl, hO⟩, hb2⟩; obtain ⟨a1, k1, rfl⟩ := owns_slice hO.s; obtain ⟨a2, k2, rfl⟩ := owns_slice hO.u; obtain ⟨a3, k3, rfl⟩ := owns_slice hO.p; have HE2 := hid (HE.out.below hb2); have HBR2 := hid hb2; have HO2 := hid hO; have HB2 := hid (HB.out.trans (hb2.mono HB.out.size)); have HU := hid HE.out.top.lt; have hown2 := HE2.out.top; rw [HLEN.out] at hown2; have hownA := hown2.alloc (.cells #[.string x.name, .string x.who, .slice a1 x.says.length k1, .slice a2 x.uses.length k2, .slice a3 x.proof.length k3] 41); have HROW := hid (row_one_ent w2 (.string x.name) (.string x.who) (.slice a1 x.says.length k1) (.slice a2 x.uses.length k2) (.slice a3 x.proof.length k3) 41); have hwz := HB2.out.size; clear hO hb2 hown2
        go_wp2_with (at_builtin; go_loud (refine wpList_append_lie rfl _ _ 24 rfl V.heap.size 41 el_ent Tryz.underlying24 rfl (by decide) _ (m) (ensC O vs) rfl hownA _ 1 (enC x (.slice a1 x.says.length k1, .slice a2 x.uses.length k2, .slice a3 x.proof.length k3)) rfl HROW.out (enC_one _ _ _ _ _ _ _ _ _ _) (by omega) (by omega) (by omega) (by simp; omega) _ rfl ?_; intro g cap w4 hown4 hgrow4 hat4 hlt4; have hB4 := (HB2.out.alloc HB2.out.size (.cells #[.string x.name, .string x.who, .slice a1 x.says.length k1, .slice a2 x.uses.length k2, .slice a3 x.proof.length k3] 41)).grown hgrow4 (by simp; omega) (fun q hq => (HU.out q hq).1)))
        go_ret
        have hba : Below w2.heap.size w2 (w2.alloc (.cells #[.string x.name, .string x.who, .slice a1 x.says.length k1, .slice a2 x.uses.length k2, .slice a3 x.proof.length k3] 41)) := (Below.refl _ _).alloc (Nat.le_refl _) _; have hE4 := HE.out.push (w1 := w2.alloc _) (HBR2.out.trans (hba.mono HBR2.out.size)) (HO2.out.blocks (Nat.le_refl _) fun q _ hq => hba.block q hq) HB.out.size HLEN.out.symm hown4 hgrow4
        exact ⟨_, _, V.heap.size, HBV.out.size, rfl, by rw [HP1.out]; exact hE4, HBV.out.trans (hB4.mono HBV.out.size)⟩
end Go.Proofs.YtlbjbmpkaniojaaGreat
