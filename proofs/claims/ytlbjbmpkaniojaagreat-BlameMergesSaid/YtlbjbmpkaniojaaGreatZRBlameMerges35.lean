/-
  WHAT IT HOLDS: the contract of rename of package blame, and that what the four make is, sorted, what the plain word says. Conditions: the arguments read as data; small libraries.
  WHAT IT HOLDS: plain facts for the reference of layer 9: how its lists come to be what the plain words on editions say. No program in sight.
  WHAT IT HOLDS: plain words on the merge of three editions: what is put out, what is in conflict; a merge with the base is the other side, and the sides may be swapped. No program in sight.
  WHAT IT HOLDS: contracts of put2, used, put and Sorted of the reference of layer 9. Conditions: the arguments read as data; small libraries.
  WHAT IT HOLDS: contracts of empty and Valid of the reference of layer 9. Conditions: the arguments read as data; small signs.
  WHAT IT HOLDS: contracts of without and Do of the reference of layer 9. Conditions: the arguments read as data; an edition and a valid change.
  WHAT IT HOLDS: contract of Do of the reference of layer 9. Conditions: the arguments read as data; an edition and a valid change.
-/
import Derived.BigQuiet
import Derived.Deep.RegionLaw
import Derived.Deep.RegionHeld3
import Derived.Test.YtlbjbmpkaniojaaGreatZRBlameMerges34
import Derived.Test.YtlbjbmpkaniojaaGreatZRBlameMerges31
import Derived.Test.YtlbjbmpkaniojaaGreatZRBlameMerges32
import Derived.Test.YtlbjbmpkaniojaaGreatZRBlameMerges25
import Derived.Test.YtlbjbmpkaniojaaGreatZRBlameMerges33
import Derived.Test.YtlbjbmpkaniojaaGreatZRBlameMerges18
import Derived.Test.YtlbjbmpkaniojaaGreatZRBlameMerges14
namespace Go.Proofs.YtlbjbmpkaniojaaGreat
open Go Go.RowKit Go.Maps
def renaL (l : List En) (c : Chg) : List En × Int := match idxN l c.name with
  | none => ([], 5)
  | some i => if (idxN l c.new).isSome || usedB l c.new em then ([], 6) else ((l.set i { l.getD i en0 with name := c.new }).map (useE c.name c.new), 0)
theorem useE_ren {n m : Nm} {x : En} (h : x.uses.Nodup) : useE n m x = { x with uses := x.uses.map (renN n m) } := by
  unfold useE
  cases hf : x.uses.findIdx? (fun u => decide (u = n)) with
  | none =>
    rw [List.findIdx?_eq_none_iff] at hf
    have : x.uses.map (renN n m) = x.uses := by
      conv => rhs; rw [← List.map_id x.uses]
      refine List.map_congr_left fun u hu => ?_
      unfold renN
      rw [if_neg (by simpa using hf u hu)]; rfl
    simp only [this]
  | some k =>
    obtain ⟨h1, h2, h3⟩ := List.findIdx?_eq_some_iff_getElem.1 hf
    have h2 : x.uses[k] = n := by simpa using h2
    have : x.uses.map (renN n m) = x.uses.set k m := by
      refine List.ext_getElem (by simp) fun j hj hj' => ?_
      rw [List.getElem_map, List.getElem_set]
      unfold renN
      have hj0 : j < x.uses.length := by simpa using hj
      by_cases e : k = j
      · subst e
        rw [if_pos h2, if_pos rfl]
      · rw [if_neg e, if_neg]
        intro e2
        have := List.pairwise_iff_getElem.1 h
        rcases Nat.lt_or_gt_of_ne e with hlt | hlt
        · exact this k j h1 hj0 hlt (h2.trans e2.symm)
        · exact this j k hj0 h1 hlt (e2.trans h2.symm)
    simp only [this]
/-- what is made, sorted, is what the plain word says. -/
def PreOK (P D : List En × Int) : Prop := P.2 = D.2 ∧ ∀ L, L.Perm P.1 → (L.Pairwise fun a b => ¬ ltN b.name a.name) → L = D.1
theorem PreOK.no {P D : List En × Int} {e : Int} (h1 : P = ([], e)) (h2 : D = ([], e)) : PreOK P D := by
  subst h1 h2
  exact ⟨rfl, fun L hp _ => List.perm_nil.1 hp⟩
theorem PreOK.yes {P D : List En × Int} {p d : List En} (h1 : P = (p, 0)) (h2 : D = (d, 0)) (hn : (p.map En.name).Nodup) (ha : AscE d) (hm : ∀ x, x ∈ d ↔ x ∈ p) : PreOK P D := by
  subst h1 h2
  exact ⟨rfl, fun L hp hs => srt_eq hp hs hn ha hm⟩
theorem idxN_hasT {l : List En} {n : Nm} {i : Nat} (h : idxN l n = some i) : hasN (l.map En.name) n = true := by rw [← idxN_has, h]; rfl
theorem idxN_hasF {l : List En} {n : Nm} (h : idxN l n = none) : hasN (l.map En.name) n = false := by rw [← idxN_has, h]; rfl
theorem pre_add {s : Sg} {l : List En} {c : Chg} (h : edB s l = true) (hc : chgB s c = true) (hk : c.kind = 1) : PreOK (addL l c) (doL l c) := by
  obtain ⟨hl, ha⟩ := edB_iff.1 h
  have hD : doL l c = if hasN (l.map En.name) c.ent.name then ([], 6) else if 60 ≤ l.length then ([], 4) else (putE c.ent l, 0) := by unfold doL; rw [if_pos hk]
  unfold addL
  cases hi : idxN l c.ent.name with
  | some i =>
    rw [idxN_hasT hi] at hD
    exact PreOK.no rfl hD
  | none =>
    rw [idxN_hasF hi, if_neg (by simp)] at hD
    have hn := hasE_no.1 (idxN_hasF hi)
    by_cases h60 : l.length = 60
    · rw [if_pos (by omega)] at hD
      exact PreOK.no (by rw [if_neg (by simp), if_pos h60]) hD
    · have := hl.len
      rw [if_neg (by omega)] at hD
      refine PreOK.yes (by rw [if_neg (by simp), if_neg h60]) hD ?_ (putE_asc ha hn) fun x => ?_
      · rw [List.map_append, List.nodup_append]
        refine ⟨hl.nd, by simp, fun a ha b hb e => ?_⟩
        obtain ⟨y, hy, rfl⟩ := List.mem_map.1 ha
        simp at hb
        exact hn y hy (e.trans hb)
      · rw [putE_mem, List.mem_append, List.mem_singleton, or_comm]
theorem pre_set {s : Sg} {l : List En} {c : Chg} (h : edB s l = true) (hc : chgB s c = true) (hk : c.kind = 2) : PreOK (setL l c) (doL l c) := by
  obtain ⟨hl, ha⟩ := edB_iff.1 h
  have hD : doL l c = if hasN (l.map En.name) c.ent.name then if c.ent ∈ l then ([], 8) else (l.map (subE c.ent), 0) else ([], 5) := by unfold doL; rw [if_neg (by omega), if_pos hk]
  unfold setL
  cases hi : idxN l c.ent.name with
  | none =>
    rw [idxN_hasF hi, if_neg (by simp)] at hD
    exact PreOK.no rfl hD
  | some i =>
    rw [idxN_hasT hi, if_pos rfl] at hD
    obtain ⟨hil, hin⟩ := idxN_some hi
    by_cases he : l[i] = c.ent
    · rw [if_pos (he ▸ List.getElem_mem hil)] at hD
      refine PreOK.no ?_ hD
      show (if l.getD i en0 = c.ent then _ else _) = _
      rw [getD_at hil, if_pos he]
    · have hne : c.ent ∉ l := fun hm => he (ha.inj (List.getElem_mem hil) hm hin)
      rw [if_neg hne] at hD
      have hEQ : l.set i c.ent = l.map (subE c.ent) := by
        refine List.ext_getElem (by simp) fun j hj hj' => ?_
        rw [List.getElem_set, List.getElem_map]
        have hj0 : j < l.length := by simpa using hj
        unfold subE
        by_cases e : i = j
        · subst e
          rw [if_pos rfl, if_pos hin]
        · rw [if_neg e, if_neg]
          intro e2
          have h1 := idxN_nd hl.nd hil
          have h2 := idxN_nd hl.nd hj0
          rw [hin] at h1
          rw [e2, h1] at h2
          exact e (Option.some.inj h2)
      refine PreOK.yes (p := l.map (subE c.ent)) ?_ hD ?_ (ascE_names (sub_names _ _).symm ha) fun x => Iff.rfl
      · show (if l.getD i en0 = c.ent then _ else _) = _
        rw [getD_at hil, if_neg he, hEQ]
      · rw [sub_names]; exact hl.nd
theorem pre_drop {s : Sg} {l : List En} {c : Chg} (h : edB s l = true) (hc : chgB s c = true) (hk : c.kind = 4) : PreOK (dropL l c) (doL l c) := by
  obtain ⟨hl, ha⟩ := edB_iff.1 h
  have hD : doL l c = if hasN (l.map En.name) c.name then if usedB l c.name c.name then ([], 10) else (l.filter (fun x => decide (x.name ≠ c.name)), 0) else ([], 5) := by unfold doL; rw [if_neg (by omega), if_neg (by omega), if_neg (by omega)]
  unfold dropL
  cases hi : idxN l c.name with
  | none =>
    rw [idxN_hasF hi, if_neg (by simp)] at hD
    exact PreOK.no rfl hD
  | some i =>
    rw [idxN_hasT hi, if_pos rfl] at hD
    obtain ⟨hil, hin⟩ := idxN_some hi
    by_cases hu : usedB l c.name c.name = true
    · rw [if_pos hu] at hD
      exact PreOK.no (by show (if usedB l c.name c.name = true then _ else _) = _; rw [if_pos hu]) hD
    · rw [if_neg hu] at hD
      have hmem : ∀ x, x ∈ l.filter (fun x => decide (x.name ≠ c.name)) ↔ x ∈ l.eraseIdx i := by
        intro x
        rw [List.mem_filter, List.mem_eraseIdx_iff_getElem]
        constructor
        · rintro ⟨hx, hne⟩
          obtain ⟨j, hj, rfl⟩ := List.getElem_of_mem hx
          refine ⟨j, hj, fun e => ?_, rfl⟩
          subst e
          simp at hne
          exact hne hin
        · rintro ⟨j, hj, hne, rfl⟩
          refine ⟨List.getElem_mem hj, ?_⟩
          have h1 := idxN_nd hl.nd hil
          have h2 := idxN_nd hl.nd hj
          simp only [ne_eq, decide_not, Bool.not_eq_true', decide_eq_false_iff_not]
          intro e2
          rw [hin] at h1
          rw [e2, h1] at h2
          exact hne (Option.some.inj h2).symm
      exact PreOK.yes (by show (if usedB l c.name c.name = true then _ else _) = _; rw [if_neg hu]) hD (hl.nd.sublist ((List.eraseIdx_sublist l i).map En.name)) (List.Pairwise.sublist List.filter_sublist ha) hmem
theorem pre_ren {s : Sg} {l : List En} {c : Chg} (h : edB s l = true) (hc : chgB s c = true) (hk : c.kind = 3) : PreOK (renaL l c) (doL l c) := by
  obtain ⟨hl, ha⟩ := edB_iff.1 h
  have hD : doL l c = if hasN (l.map En.name) c.name then if hasN (l.map En.name) c.new || usedB l c.new em then ([], 6) else (srtE (l.map (renE c.name c.new)), 0) else ([], 5) := by unfold doL; rw [if_neg (by omega), if_neg (by omega), if_pos hk]
  unfold renaL
  cases hi : idxN l c.name with
  | none =>
    rw [idxN_hasF hi, if_neg (by simp)] at hD
    exact PreOK.no rfl hD
  | some i =>
    rw [idxN_hasT hi, if_pos rfl] at hD
    obtain ⟨hil, hin⟩ := idxN_some hi
    rw [← idxN_has] at hD
    by_cases hu : ((idxN l c.new).isSome || usedB l c.new em) = true
    · rw [if_pos hu] at hD
      exact PreOK.no (by show (if ((idxN l c.new).isSome || usedB l c.new em) = true then _ else _) = _; rw [if_pos hu]) hD
    · rw [if_neg hu] at hD
      have hEQ : (l.set i { l.getD i en0 with name := c.new }).map (useE c.name c.new) = l.map (renE c.name c.new) := by
        refine List.ext_getElem (by simp) fun j hj hj' => ?_
        rw [List.getElem_map, List.getElem_map, List.getElem_set]
        have hj0 : j < l.length := by simpa using hj'
        have hnd := (hl.ents _ (List.getElem_mem hj0)).nd
        by_cases e : i = j
        · subst e
          rw [if_pos rfl, getD_at hil, useE_ren (x := { l[i] with name := c.new }) hnd]
          unfold renE
          simp only [En.mk.injEq, and_true]
          unfold renN
          rw [if_pos hin]
        · rw [if_neg e, useE_ren hnd]
          unfold renE
          have hne : l[j].name ≠ c.name := by
            intro e2
            have h1 := idxN_nd hl.nd hil
            have h2 := idxN_nd hl.nd hj0
            rw [hin] at h1
            rw [e2, h1] at h2
            exact e (Option.some.inj h2)
          have hr : renN c.name c.new l[j].name = l[j].name := by unfold renN; rw [if_neg hne]
          rw [hr]
      have hnn : hasN (l.map En.name) c.new = false := by
        rw [← idxN_has]
        cases hx : (idxN l c.new).isSome with
        | false => rfl
        | true => rw [hx] at hu; exact absurd rfl hu
      have hnd := ren_nd (n := c.name) hl.nd hnn
      refine PreOK.yes (p := l.map (renE c.name c.new)) ?_ hD hnd (srtE_asc hnd) fun x => srtE_mem _
      show (if ((idxN l c.new).isSome || usedB l c.new em) = true then _ else _) = _
      rw [if_neg hu, hEQ]
theorem posU (us : List Nm) (n : Nm) : firstI us.length (fun i => decide (n = us.getD i ByteArray.empty)) = match us.findIdx? (fun u => decide (u = n)) with | some k => (k : Int) | none => -1 := by
  have e1 : ∀ j (hj : j < us.length), us.getD j ByteArray.empty = us[j] := fun j hj => by rw [List.getD_eq_getElem?_getD, List.getElem?_eq_getElem hj]; rfl
  cases hf : us.findIdx? (fun u => decide (u = n)) with
  | none =>
    rw [List.findIdx?_eq_none_iff] at hf
    refine firstI_no fun j hj => ?_
    rw [decide_eq_false_iff_not, e1 j hj]
    intro e
    have := hf _ (List.getElem_mem hj)
    rw [← e] at this
    simp at this
  | some k =>
    obtain ⟨h1, h2, h3⟩ := List.findIdx?_eq_some_iff_getElem.1 hf
    refine firstI_at h1 ?_ fun j hj => ?_
    · rw [e1 k h1]; simpa using (show us[k] = n by simpa using h2).symm
    · rw [e1 j (by omega), decide_eq_false_iff_not]
      intro e
      have := h3 j hj
      simp at this
      exact this e.symm
theorem EnW.cells {w : World} {base g n c : Nat} {vs : List V3} {l : List En} (h : EnW w base (.slice (some ⟨g, 0, none⟩) n c) vs l) (hn : n = l.length) {j : Nat} (hj : j < l.length) (hv : j < vs.length) :
    w.cell? ⟨g, j * 5, none⟩ = some (.string l[j].name) ∧ w.cell? ⟨g, j * 5 + 1, none⟩ = some (.string l[j].who) ∧ w.cell? ⟨g, j * 5 + 2, none⟩ = some vs[j].1 ∧ w.cell? ⟨g, j * 5 + 3, none⟩ = some vs[j].2.1 ∧ w.cell? ⟨g, j * 5 + 4, none⟩ = some vs[j].2.2 := by
  subst hn
  obtain ⟨g0, g1, g2, g3, g4⟩ := ensC_get l vs h.len j hj hv
  have key : ∀ r, r < 5 → w.cell? ⟨g, j * 5 + r, none⟩ = (ensC l vs)[j * 5 + r]? := fun r hr => h.top.cellAt (j * 5 + r) (by omega)
  exact ⟨(key 0 (by omega)).trans g0, (key 1 (by omega)).trans g1, (key 2 (by omega)).trans g2, (key 3 (by omega)).trans g3, (key 4 (by omega)).trans g4⟩
/-- the entries behind k rounds: the first k are turned. -/
def turnK (f : En → En) (L : List En) (k : Nat) : List En := (L.take k).map f ++ L.drop k
theorem turnK_0 (f : En → En) (L : List En) : turnK f L 0 = L := by simp [turnK]
theorem turnK_len (f : En → En) (L : List En) (k : Nat) : (turnK f L k).length = L.length := by simp [turnK]; omega
theorem turnK_get {f : En → En} {L : List En} {k : Nat} (h : k < L.length) : (turnK f L k)[k]'(by rw [turnK_len]; exact h) = L[k] := by
  unfold turnK
  rw [List.getElem_append_right (by simp; omega)]
  simp [Nat.min_eq_left (Nat.le_of_lt h)]
theorem turnK_next {f : En → En} {L : List En} {k : Nat} (h : k < L.length) : turnK f L (k + 1) = (turnK f L k).set k (f L[k]) := by
  unfold turnK
  have hlen : ((L.take k).map f).length = k := by simp; omega
  rw [List.take_succ_eq_append_getElem h, List.map_append, List.drop_eq_getElem_cons h, List.set_append, if_neg (by omega), hlen, Nat.sub_self, List.set_cons_zero]
  simp
theorem turnK_all (f : En → En) (L : List En) {k : Nat} (h : L.length ≤ k) : turnK f L k = L.map f := by
  unfold turnK
  rw [List.take_of_length_le h, List.drop_of_length_le h, List.append_nil]
set_option maxHeartbeats 4000000 in
set_option maxRecDepth 100000 in
theorem blame_rename (base : Nat) (u : Value) (vs : List V3) (l : List En) (c : Chg) (vS vU vP : Value) (w : World) (hE : EnW w base u vs l) (hc : ChgAt w vS vU vP c) (hb : base ≤ w.heap.size) (hl : l.length ≤ 60) :
    Calls Tryz.prog 112 #[u, chV c vS vU vP] w fun e w' => MadeQ base (renaL l c) w e w' := by
  obtain ⟨sa, sc, rfl, -⟩ := hc.e.s.open
  obtain ⟨ua, uc, rfl, -⟩ := hc.e.u.open
  obtain ⟨pa, pc, rfl, -⟩ := hc.e.p.open
  unfold chV
  have hCB := CB.new w c (.slice sa c.ent.says.length sc) (.slice ua c.ent.uses.length uc) (.slice pa c.ent.proof.length pc) 43
  obtain ⟨V, hV⟩ : ∃ V, w.alloc (.cells #[.int .i64 c.kind, .string c.who, .string c.name, .string c.new, .string c.ent.name, .string c.ent.who, .slice sa c.ent.says.length sc, .slice ua c.ent.uses.length uc, .slice pa c.ent.proof.length pc] 43) = V := ⟨_, rfl⟩
  have hbV : Below w.heap.size w V := hV ▸ (Below.refl _ _).alloc (Nat.le_refl _) _
  have HVZ := hid (show V.heap.size = w.heap.size + 1 by rw [← hV]; simp)
  rw [hV] at hCB
  have HF := hid (blame_find _ l c.name V ((hE.below hbV).ents (by omega)))
  have HF2 := hid (fun (X : World) (hX : Below V.heap.size V X) => blame_find _ l c.new X (((hE.below hbV).below hX).ents (by omega)))
  have HU := hid (fun (X : World) (hX : Below V.heap.size V X) => blame_used _ l c.new em X (((hE.below hbV).below hX).ents (by omega)))
  have HW := hid hV
  have HBV := hid hbV
  have HCB := hid hCB
  have HE := hid hE
  have HN3 := hid hc.n3
  obtain ⟨c0, c1, c2, c3, c4, c5, c6, c7, c8⟩ := hCB
  clear hV hE hc hbV
  cases hi : idxN l c.name with
  | none =>
    have HR : Hid (renaL l c = ([], 5)) := hid (by unfold renaL; rw [hi])
    rw [idxI_no hi] at HF
    obtain ⟨ra, rc, rfl⟩ := HE.out.slice
    clear hi
    go_enter Tryz.func112, Tryz.ntmps112
    go_wp2_with fail
    rw [HW.out]
    refine HF.out.mono ?_
    rintro e w1 ⟨rfl, hb1⟩
    go_wp2
    go_ret2
    exact MadeQ.no HR.out ((HBV.out.trans (hb1.mono HBV.out.size)).mono hb)
  | some i =>
    rw [idxI_some hi] at HF
    have b0 : (0 : Int) ≤ (i : Int) := by omega
    obtain ⟨hil, -⟩ := idxN_some hi
    have b1 : (i : Int) < (l.length : Int) := by omega
    obtain ⟨g, rc, rfl, hg1, hg2, hg3⟩ := HE.out.toS.blk (by omega)
    have HRR : Hid (renaL l c = if ((idxN l c.new).isSome || usedB l c.new em) = true then ([], 6) else ((l.set i { l[i] with name := c.new }).map (useE c.name c.new), 0)) := hid (by unfold renaL; rw [hi]; show (if ((idxN l c.new).isSome || usedB l c.new em) = true then _ else _) = _; rw [getD_at hil])
    clear hi
    go_enter Tryz.func112, Tryz.ntmps112
    go_wp2_with fail
    rw [HW.out]
    refine HF.out.mono ?_
    rintro e w1 ⟨rfl, hb1⟩
    obtain ⟨d0, d1, d2, d3, d4, d5, d6, d7, d8⟩ := HCB.out.below hb1
    have HF3 := hid (HF2.out w1 hb1)
    have HBa := hid hb1
    clear c0 c1 c2 c3 c4 c5 c6 c7 c8 hb1
    cases hj : idxN l c.new with
    | some j =>
      have HR : Hid (renaL l c = ([], 6)) := hid (by rw [HRR.out, hj]; rfl)
      rw [idxI_some hj] at HF3
      have b3 : (0 : Int) ≤ (j : Int) := by omega
      clear hj
      go_wp2_with fail
      refine HF3.out.mono ?_
      rintro e w2 ⟨rfl, hb2⟩
      go_wp2
      go_ret2
      exact MadeQ.no HR.out ((HBV.out.trans ((HBa.out.trans (hb2.mono HBa.out.size)).mono HBV.out.size)).mono hb)
    | none =>
      rw [idxI_no hj] at HF3
      rw [hj] at HRR
      clear hj
      go_wp2_with fail
      refine HF3.out.mono ?_
      rintro e w2 ⟨rfl, hb2⟩
      have hBb := HBa.out.trans (hb2.mono HBa.out.size)
      have HU2 := hid (HU.out w2 hBb)
      obtain ⟨d0, d1, d2, d3, d4, d5, d6, d7, d8⟩ := HCB.out.below hBb
      have HBb := hid hBb
      clear hb2 hBb
      go_wp2_with fail
      refine HU2.out.mono ?_
      rintro e w3 ⟨rfl, hb3⟩
      have hBc := HBb.out.trans (hb3.mono HBb.out.size)
      have HBc := hid hBc
      obtain ⟨bb, hbb⟩ : ∃ bb, (l.any fun x => decide (x.name ≠ em) && hasN x.uses c.new) = bb := ⟨_, rfl⟩
      have hub : usedB l c.new em = bb := hbb
      rw [hbb]
      cases bb
      case true =>
        have HR : Hid (renaL l c = ([], 6)) := hid (by rw [HRR.out, hub]; rfl)
        clear hbb hub hb3 hBc
        go_wp2
        go_ret2
        exact MadeQ.no HR.out ((HBV.out.trans (HBc.out.mono HBV.out.size)).mono hb)
      case false =>
        have HR : Hid (renaL l c = ((l.set i { l[i] with name := c.new }).map (useE c.name c.new), 0)) := hid (by rw [HRR.out, hub]; rfl)
        have hbw3 := HBV.out.trans (HBc.out.mono HBV.out.size)
        have hE3 := HE.out.below hbw3
        have p0 := hE3.top.frozenAt (i * 5)
        obtain ⟨-, -, -, -, -, -, f0, -⟩ := hE3.toS.cells rfl hil
        obtain ⟨d0, d1, d2, d3, d4, d5, d6, d7, d8⟩ := HCB.out.below hBc
        have hE4 := hE3.setName rfl hil c.new HN3.out
        have hC4 : CB (w3.setCell ⟨g, i * 5, none⟩ (.string c.new)) w.heap.size c (.slice sa c.ent.says.length sc) (.slice ua c.ent.uses.length uc) (.slice pa c.ent.proof.length pc) := (HCB.out.below hBc).block (Below.heap_setCell _ _ _ _ (by show w.heap.size ≠ g; omega))
        have hb4 : Below base w (w3.setCell ⟨g, i * 5, none⟩ (.string c.new)) := (hbw3.mono hb).setCell (p := ⟨g, i * 5, none⟩) hg1 _
        have hUB : ∀ j (h : j < vs.length), ∀ b, vs[j].2.1.ownBlock = some b → base ≤ b ∧ b < w.heap.size := fun j h b hb => (HE.out.own j (by rw [← HE.out.len]; exact h) h).u.lt b hb
        obtain ⟨L0, hL0⟩ : ∃ L0, l.set i { l[i] with name := c.new } = L0 := ⟨_, rfl⟩
        rw [hL0] at hE4 HR
        have hLL : L0.length = l.length := by rw [← hL0, List.length_set]
        obtain ⟨W4, hW4⟩ : ∃ W4, w3.setCell ⟨g, i * 5, none⟩ (.string c.new) = W4 := ⟨_, rfl⟩
        rw [hW4] at hE4 hC4 hb4
        have hz4 : w.heap.size < W4.heap.size := World.block_lt_of_cell? _ _ hC4.c0
        have HW4 := hid hW4
        have HE4 := hid hE4
        have HC4 := hid hC4
        have HB4 := hid hb4
        have HUB := hid hUB
        have HLL := hid hLL
        have HG := hid (And.intro hg1 hg2)
        clear hbb hub hb3 hBc hbw3 hE3 hE4 hC4 hb4 hUB hW4 hL0 HF HF2 HF3 HU HU2
        go_wp2_with (rw [HW4.out])
        clear d0 d1 d2 d3 d4 d5 d6 d7 d8 f0 p0
        go_loopw [35] (fun kv wr => ∃ k : Nat, k ≤ l.length ∧ kv = .int .i64 k ∧ EnW wr base (.slice (some ⟨g, 0, none⟩) l.length rc) vs (turnK (useE c.name c.new) L0 k) ∧ CB wr w.heap.size c (.slice sa c.ent.says.length sc) (.slice ua c.ent.uses.length uc) (.slice pa c.ent.proof.length pc) ∧ Below base w wr) (fun kv _ => l.length - (intOf kv).toNat)
        case atStart => exact ⟨0, by omega, rfl, by rw [turnK_0]; exact HE4.out, HC4.out, HB4.out⟩
        case round =>
          clear HW4 HE4 HC4 HB4
          obtain ⟨k, hk, rfl, hEr, hCr, hbr⟩ := hrel
          have hTL : (turnK (useE c.name c.new) L0 k).length = l.length := by rw [turnK_len]; exact HLL.out
          by_cases hlt : k < l.length
          · have hk0 : k < L0.length := by rw [HLL.out]; exact hlt
            have hk1 : k < vs.length := by rw [hEr.len, hTL]; exact hlt
            have hkt : k < (turnK (useE c.name c.new) L0 k).length := by rw [hTL]; exact hlt
            obtain ⟨e0, e1, e2, e3, e4⟩ := hEr.cells hTL.symm hkt hk1
            have hO := hEr.own k hkt hk1
            have HTN := hid (turnK_next (f := useE c.name c.new) hk0)
            have HGT : Hid ((turnK (useE c.name c.new) L0 k)[k] = L0[k]) := hid (turnK_get hk0)
            rw [HGT.out] at e0 e1 hO
            obtain ⟨x, hx⟩ : ∃ x, L0[k] = x := ⟨_, rfl⟩
            rw [hx] at e0 e1 hO HTN HGT
            obtain ⟨a1, k1, q1⟩ := owns_slice hO.s
            obtain ⟨a2, k2, q2⟩ := owns_slice hO.u
            obtain ⟨a3, k3, q3⟩ := owns_slice hO.p
            have HQ2 := hid q2
            rw [q1, q2, q3] at hO
            rw [q1] at e2
            rw [q2] at e3
            rw [q3] at e4
            have EB0 := EB.new wr x (.slice a1 x.says.length k1) (.slice a2 x.uses.length k2) (.slice a3 x.proof.length k3) 41
            obtain ⟨W, hW⟩ : ∃ W, wr.alloc (.cells #[.string x.name, .string x.who, .slice a1 x.says.length k1, .slice a2 x.uses.length k2, .slice a3 x.proof.length k3] 41) = W := ⟨_, rfl⟩
            have hbW : Below wr.heap.size wr W := hW ▸ (Below.refl _ _).alloc (Nat.le_refl _) _
            rw [hW] at EB0
            have hEW := hEr.below hbW
            have hCW := hCr.below hbW
            have hOW := hO.blocks (Nat.le_refl _) (W' := W) fun q _ hq => hbW.block q hq
            have hzr : w.heap.size < wr.heap.size := World.block_lt_of_cell? _ _ hCr.c0
            have HIX := hid (sl_Index_strs _ x.uses c.name W hOW.ent.u)
            have HPU := hid (posU x.uses c.name)
            have HBW := hid (hbr.trans (hbW.mono (by omega)))
            obtain ⟨g0, g1, g2, g3, g4⟩ := EB0
            obtain ⟨d0, d1, d2, d3, d4, d5, d6, d7, d8⟩ := hCW
            have HCW := hid (CB.mk (c := c) d0 d1 d2 d3 d4 d5 d6 d7 d8)
            have HEW := hid hEW
            have HOW := hid hOW
            have HW := hid hW
            have HTL := hid hTL
            have HKT := hid hkt
            clear hx hW hbW hEW hEr hCr hO hOW q1 q2 q3 hTL hbr
            cases hf : x.uses.findIdx? (fun u => decide (u = c.name)) with
            | none =>
              have HUE : Hid (useE c.name c.new x = x) := hid (by unfold useE; rw [hf])
              rw [hf] at HPU
              obtain ⟨ix, hix⟩ : ∃ ix, firstI x.uses.length (fun i => decide (c.name = x.uses.getD i ByteArray.empty)) = ix := ⟨_, rfl⟩
              rw [hix] at HIX HPU
              have hin : ix = -1 := HPU.out
              subst hin
              clear hf hix HPU
              go_wp2_with (first | rw [HW.out] | (go_at_call 152; refine HIX.out.mono ?_; rintro e w' ⟨rfl, rfl⟩))
              go_roundw
              case rel =>
                refine ⟨k + 1, by omega, by go_num, ?_, HCW.out, HBW.out⟩
                rw [HTN.out, HUE.out]
                have e9 : (turnK (useE c.name c.new) L0 k).set k x = turnK (useE c.name c.new) L0 k := by
                  conv => lhs; rw [← HGT.out]
                  exact List.set_getElem_self HKT.out
                rw [e9]
                exact HEW.out
              case measure => simp [intOf]; omega
            | some p =>
              have HUE : Hid (useE c.name c.new x = { x with uses := x.uses.set p c.new }) := hid (by unfold useE; rw [hf])
              obtain ⟨hpl, -, -⟩ := List.findIdx?_eq_some_iff_getElem.1 hf
              rw [hf] at HPU
              obtain ⟨ix, hix⟩ : ∃ ix, firstI x.uses.length (fun i => decide (c.name = x.uses.getD i ByteArray.empty)) = ix := ⟨_, rfl⟩
              rw [hix] at HIX HPU
              have hin : ix = (p : Int) := HPU.out
              subst hin
              have hu := HOW.out.u
              obtain ⟨bb, ca, e5, hbb⟩ : ∃ bb ca, Value.slice a2 x.uses.length k2 = .slice (some ⟨bb, 0, none⟩) x.uses.length ca ∧ x.uses.length ≤ ca := by
                rcases hu.2 with ⟨-, h0⟩ | ⟨bb, ca, cur, e5, -, -, h6, -⟩
                · omega
                · exact ⟨bb, ca, e5, h6⟩
              cases e5
              have hcell := hu.cellAt p (by omega)
              rw [List.getElem?_map, List.getElem?_eq_getElem hpl] at hcell
              have hcell : W.cell? ⟨bb, p, none⟩ = some (.string x.uses[p]) := hcell
              have hfz := hu.frozenAt p
              have hbn := HUB.out k hk1 bb (by rw [HQ2.out]; rfl)
              have b5 : (0 : Int) ≤ (p : Int) := by omega
              have b6 : (p : Int) < (x.uses.length : Int) := by omega
              have hE5 := HEW.out.setUse HKT.out hk1 HQ2.out (i := p) (by rw [HGT.out]; exact hpl) c.new HN3.out
              have hC5 := HCW.out.block (w' := W.setCell ⟨bb, p, none⟩ (.string c.new)) (Below.heap_setCell _ _ _ _ (by show w.heap.size ≠ bb; omega))
              have hb5 := HBW.out.setCell (p := ⟨bb, p, none⟩) hbn.1 (.string c.new)
              rw [HGT.out] at hE5
              have HE5 := hid hE5
              have HC5 := hid hC5
              have HB5 := hid hb5
              clear hf hix HPU hu hbn hE5 hC5 hb5
              go_wp2_with (first | rw [HW.out] | (go_at_call 152; refine HIX.out.mono ?_; rintro e w' ⟨rfl, rfl⟩))
              go_roundw
              case rel =>
                refine ⟨k + 1, by omega, by go_num, ?_, HC5.out, HB5.out⟩
                rw [HTN.out, HUE.out]
                exact HE5.out
              case measure => simp [intOf]; omega
          · have hkl : k = l.length := by omega
            subst hkl
            rw [turnK_all _ _ (by rw [HLL.out]; exact Nat.le_refl _)] at hEr
            have HER := hid hEr.toS
            have HFR := hid hEr.fr
            clear hEr hCr
            go_wp2
            go_ret2
            exact MadeQ.mk _ _ _ _ HR.out rfl HER.out hbr HFR.out
end Go.Proofs.YtlbjbmpkaniojaaGreat
namespace Go.Proofs.YtlbjbmpkaniojaaGreat
open Go Go.RowKit
theorem asc_adj {l : List En} (h : ∀ (i : Nat) (hi : i + 1 < l.length), ltN l[i].name l[i + 1].name) : AscE l := by
  have key : ∀ (d i : Nat) (hj : i + d + 1 < l.length), ltN (l[i]'(by omega)).name l[i + d + 1].name := by
    intro d
    induction d with
    | zero => intro i hj; exact h i (by omega)
    | succ d ih =>
      intro i hj
      exact (ih i (by omega)).trans (h (i + d + 1) (by omega))
  refine List.pairwise_iff_getElem.2 fun i j hi hj hij => ?_
  have e : j = i + (j - i - 1) + 1 := by omega
  have := key (j - i - 1) i (by omega)
  have e2 : l[i + (j - i - 1) + 1]'(by omega) = l[j] := by congr 1; omega
  rw [e2] at this
  exact this
theorem asc_next {l : List En} (h : AscE l) {i : Nat} (hi : i + 1 < l.length) : ltN (l[i]'(by omega)).name l[i + 1].name := List.pairwise_iff_getElem.1 h i (i + 1) (by omega) hi (by omega)
theorem edB_no {s : Sg} {l : List En} {i : Nat} (hi : i + 1 < l.length) (h : ¬ ltN (l[i]'(by omega)).name l[i + 1].name) : edB s l = false := by
  cases e : edB s l with
  | false => rfl
  | true => exact absurd (asc_next (edB_iff.1 e).2 hi) h
theorem edB_asc {s : Sg} {l : List En} (h : AscE l) : edB s l = libB s l := by
  unfold edB; rw [decide_eq_true h, Bool.and_true]
end Go.Proofs.YtlbjbmpkaniojaaGreat
namespace Go.Proofs.YtlbjbmpkaniojaaGreat
open Go Go.RowKit
/-- the entry with a name; the empty one if there is none. -/
def lkE (l : List En) (n : Nm) : En := match idxN l n with | some i => l.getD i en0 | none => en0
def pkE (x y z : En) : En := if y = z then y else if x = y then z else y
def pkC (x y z : En) : Bool := !decide (y = z) && (!decide (x = y) && !decide (x = z))
def mrgN (base a b : List En) : List Nm := srtN (((base ++ a) ++ b).map En.name)
def pkN (base a b : List En) (n : Nm) : En := pkE (lkE base n) (lkE a n) (lkE b n)
def bdN (base a b : List En) (n : Nm) : Bool := pkC (lkE base n) (lkE a n) (lkE b n)
def badM (base a b : List En) : List Nm := (mrgN base a b).filter (bdN base a b)
def keepN (base a b : List En) (n : Nm) : Bool := !decide ((pkN base a b n).name = em)
def outB (base a b : List En) (ns : List Nm) : List En := (ns.filter fun n => !bdN base a b n && keepN base a b n).map (pkN base a b)
def outR (base a b : List En) (ns : List Nm) : List En := (ns.filter (keepN base a b)).map (pkN base a b)
def cnfL (s : Sg) (base a b : List En) : List Nm × Int := if (edB s base && (edB s a && edB s b)) = true then (badM base a b, 0) else ([], 1)
def mrgL (s : Sg) (base a b : List En) : List En × Int := if (edB s base && (edB s a && edB s b)) = true then (if 0 < (badM base a b).length then ([], 10) else if 60 < (outB base a b (mrgN base a b)).length then ([], 4) else (outB base a b (mrgN base a b), 0)) else ([], 1)
theorem outB_take {base a b : List En} {ns : List Nm} {k : Nat} (h : k < ns.length) : outB base a b (ns.take (k + 1)) = outB base a b (ns.take k) ++ (if (!bdN base a b ns[k] && keepN base a b ns[k]) = true then [pkN base a b ns[k]] else []) := by
  unfold outB
  rw [List.take_succ_eq_append_getElem h, List.filter_append, List.map_append]
  congr 1
  cases hd : (!bdN base a b ns[k] && keepN base a b ns[k]) <;> simp [hd]
theorem outR_take {base a b : List En} {ns : List Nm} {k : Nat} (h : k < ns.length) : outR base a b (ns.take (k + 1)) = outR base a b (ns.take k) ++ (if keepN base a b ns[k] = true then [pkN base a b ns[k]] else []) := by
  unfold outR
  rw [List.take_succ_eq_append_getElem h, List.filter_append, List.map_append]
  congr 1
  cases hd : keepN base a b ns[k] <;> simp [hd]
theorem bad_take {base a b : List En} {ns : List Nm} {k : Nat} (h : k < ns.length) : (ns.take (k + 1)).filter (bdN base a b) = (ns.take k).filter (bdN base a b) ++ (if bdN base a b ns[k] = true then [ns[k]] else []) := by
  rw [List.take_succ_eq_append_getElem h, List.filter_append]
  congr 1
  cases hd : bdN base a b ns[k] <;> simp [hd]
theorem outR_eq {base a b : List En} {ns : List Nm} (h : ns.filter (bdN base a b) = []) : outR base a b ns = outB base a b ns := by
  unfold outR outB
  congr 1
  refine List.filter_congr fun n hn => ?_
  have := List.filter_eq_nil_iff.1 h n hn
  cases e : bdN base a b n
  · rfl
  · exact absurd e this
theorem lkE_at {l : List En} (hn : (l.map En.name).Nodup) {x : En} (h : x ∈ l) : lkE l x.name = x := by
  obtain ⟨i, hi, rfl⟩ := List.getElem_of_mem h
  unfold lkE
  rw [idxN_nd hn hi]
  exact getD_at hi
theorem lkE_no {l : List En} {n : Nm} (h : ∀ x ∈ l, x.name ≠ n) : lkE l n = en0 := by
  unfold lkE
  cases e : idxN l n with
  | none => rfl
  | some i =>
    obtain ⟨hi, hin⟩ := idxN_some e
    exact absurd hin (h _ (List.getElem_mem hi))
theorem lkE_cases (l : List En) (n : Nm) : (lkE l n ∈ l ∧ (lkE l n).name = n) ∨ (lkE l n = en0 ∧ ∀ x ∈ l, x.name ≠ n) := by
  unfold lkE
  cases e : idxN l n with
  | none =>
    right
    refine ⟨rfl, fun x hx hxn => ?_⟩
    have := idxN_hasF e
    rw [hasE_no] at this
    exact this x hx hxn
  | some i =>
    obtain ⟨hi, hin⟩ := idxN_some e
    left
    show l.getD i en0 ∈ l ∧ (l.getD i en0).name = n
    rw [getD_at hi]
    exact ⟨List.getElem_mem hi, hin⟩
theorem lkE_name {s : Sg} {l : List En} (h : LibOK s l) (n : Nm) : (lkE l n).name ≠ em ↔ ∃ x ∈ l, x.name = n := by
  rcases lkE_cases l n with ⟨h1, h2⟩ | ⟨h1, h2⟩
  · exact ⟨fun _ => ⟨_, h1, h2⟩, fun _ => nm_ne (h.ents _ h1).name⟩
  · rw [h1]
    exact ⟨fun h => absurd rfl h, fun ⟨x, hx, e⟩ => absurd e (h2 x hx)⟩
theorem pk_in (x y z : En) : pkE x y z = y ∨ pkE x y z = z := by
  unfold pkE
  split
  · exact Or.inl rfl
  split
  · exact Or.inr rfl
  · exact Or.inl rfl
theorem pk_swap {x y z : En} (h : pkC x y z = false) : pkE x y z = pkE x z y := by
  unfold pkC at h
  unfold pkE
  by_cases h1 : y = z
  · rw [if_pos h1, if_pos h1.symm, h1]
  · rw [if_neg h1, if_neg (show ¬ z = y from fun e => h1 e.symm)]
    by_cases h2 : x = y
    · rw [if_pos h2, if_neg (show ¬ x = z from fun e => h1 (h2.symm.trans e))]
    · rw [if_neg h2]
      by_cases h3 : x = z
      · rw [if_pos h3]
      · simp [h1, h2, h3] at h
theorem pkC_swap (x y z : En) : pkC x y z = pkC x z y := by
  unfold pkC
  rw [show decide (y = z) = decide (z = y) from decide_eq_decide.2 ⟨Eq.symm, Eq.symm⟩, Bool.and_comm (!decide (x = y))]
theorem mrgN_mem {base a b : List En} {n : Nm} : n ∈ mrgN base a b ↔ (∃ x ∈ base, x.name = n) ∨ (∃ x ∈ a, x.name = n) ∨ (∃ x ∈ b, x.name = n) := by
  unfold mrgN
  rw [(srtN_asc _).2]
  simp only [List.map_append, List.mem_append, List.mem_map, or_assoc]
theorem mrgN_swap (base a b : List En) : mrgN base a b = mrgN base b a := by
  refine AscN.unique (srtN_asc _).1 (srtN_asc _).1 fun n => ?_
  show n ∈ mrgN base a b ↔ n ∈ mrgN base b a
  rw [mrgN_mem, mrgN_mem]
  exact or_congr Iff.rfl or_comm
theorem bad_swap (base a b : List En) : badM base a b = badM base b a := by
  unfold badM
  rw [mrgN_swap]
  refine List.filter_congr fun n _ => pkC_swap _ _ _
theorem out_swap {base a b : List En} : outB base a b (mrgN base a b) = outB base b a (mrgN base b a) := by
  rw [mrgN_swap base b a]
  have hk : ∀ n, bdN base a b n = false → pkN base a b n = pkN base b a n := fun n h => pk_swap h
  have hb : ∀ n, bdN base a b n = bdN base b a n := fun n => pkC_swap _ _ _
  unfold outB
  have hf : (mrgN base a b).filter (fun n => !bdN base a b n && keepN base a b n) = (mrgN base a b).filter (fun n => !bdN base b a n && keepN base b a n) := by
    refine List.filter_congr fun n _ => ?_
    rw [← hb n]
    cases e : bdN base a b n with
    | true => rfl
    | false => unfold keepN; rw [hk n e]
  rw [← hf]
  refine List.map_congr_left fun n hn => ?_
  have h2 := (List.mem_filter.1 hn).2
  rw [Bool.and_eq_true, Bool.not_eq_true'] at h2
  exact hk n h2.1
theorem mrg_swap (s : Sg) (base a b : List En) : mrgL s base a b = mrgL s base b a := by
  unfold mrgL
  rw [Bool.and_comm (edB s a), ← bad_swap base a b, ← out_swap (base := base) (a := a) (b := b)]
/-- a merge with the base is the other side. -/
theorem mrg_base {s : Sg} {base a : List En} (hb : edB s base = true) (ha : edB s a = true) : mrgL s base a base = (a, 0) := by
  obtain ⟨Lb, Ab⟩ := edB_iff.1 hb
  obtain ⟨La, Aa⟩ := edB_iff.1 ha
  have hpc : ∀ n, bdN base a base n = false := fun n => by unfold bdN pkC; simp
  have hpk : ∀ n, pkN base a base n = lkE a n := fun n => by
    unfold pkN pkE
    split
    · rfl
    split
    · rename_i h1 h2; exact absurd h2.symm h1
    · rfl
  have hbad : badM base a base = [] := List.filter_eq_nil_iff.2 fun n _ => by rw [hpc n]; simp
  have hout : outB base a base (mrgN base a base) = a := by
    refine AscE.unique ?_ Aa fun z => ?_
    · unfold outB AscE
      rw [List.pairwise_map]
      have h1 := (srtN_asc (((base ++ a) ++ base).map En.name)).1
      have h2 : ((mrgN base a base).filter (fun n => !bdN base a base n && keepN base a base n)).Pairwise ltN := List.Pairwise.sublist List.filter_sublist h1
      refine h2.imp_of_mem fun {m n} hm hn hlt => ?_
      have key : ∀ n ∈ (mrgN base a base).filter (fun n => !bdN base a base n && keepN base a base n), (pkN base a base n).name = n := fun n hn => by
        have h3 := (List.mem_filter.1 hn).2
        rw [Bool.and_eq_true] at h3
        rw [hpk]
        rcases lkE_cases a n with ⟨-, h5⟩ | ⟨h4, -⟩
        · exact h5
        · have h6 := h3.2
          unfold keepN at h6
          rw [hpk, h4] at h6
          simp [en0] at h6
      show ltN (pkN base a base m).name (pkN base a base n).name
      rw [key m hm, key n hn]; exact hlt
    · unfold outB
      rw [List.mem_map]
      constructor
      · rintro ⟨n, hn, rfl⟩
        have h3 := (List.mem_filter.1 hn).2
        rw [Bool.and_eq_true] at h3
        rw [hpk]
        rcases lkE_cases a n with ⟨h4, -⟩ | ⟨h4, -⟩
        · exact h4
        · have h6 := h3.2
          unfold keepN at h6
          rw [hpk, h4] at h6
          simp [en0] at h6
      · intro hz
        refine ⟨z.name, List.mem_filter.2 ⟨mrgN_mem.2 (Or.inr (Or.inl ⟨z, hz, rfl⟩)), ?_⟩, by rw [hpk]; exact lkE_at Aa.nd hz⟩
        unfold keepN
        rw [hpc, hpk, lkE_at Aa.nd hz]
        have := nm_ne (La.ents z hz).name
        simp [this]
  unfold mrgL
  rw [hb, ha, if_pos (by rfl), hbad, hout, if_neg (by simp), if_neg (by have := La.len; omega)]
/-- what is put out is of one of the two sides. -/
theorem mrg_from {s : Sg} {base a b : List En} (h : (mrgL s base a b).2 = 0) : edB s base = true ∧ edB s a = true ∧ edB s b = true ∧ badM base a b = [] ∧ (mrgL s base a b).1 = outB base a b (mrgN base a b) ∧ ∀ x ∈ (mrgL s base a b).1, (x ∈ a ∧ lkE a x.name = x) ∨ (x ∈ b ∧ lkE b x.name = x) := by
  unfold mrgL at h ⊢
  split at h
  case isFalse => cases h
  rename_i hh
  rw [Bool.and_eq_true, Bool.and_eq_true] at hh
  rw [if_pos (by rw [hh.1, hh.2.1, hh.2.2]; rfl)]
  split at h
  · cases h
  rename_i h1
  split at h
  · cases h
  rename_i h2
  rw [if_neg h1, if_neg h2]
  refine ⟨hh.1, hh.2.1, hh.2.2, List.length_eq_zero_iff.1 (by omega), rfl, fun x hx => ?_⟩
  obtain ⟨n, hn, rfl⟩ := List.mem_map.1 hx
  have h3 := (List.mem_filter.1 hn).2
  rw [Bool.and_eq_true] at h3
  have h4 : (pkN base a b n).name ≠ em := by have := h3.2; unfold keepN at this; simpa using this
  have fin : ∀ {l : List En}, edB s l = true → pkN base a b n = lkE l n → pkN base a b n ∈ l ∧ lkE l (pkN base a b n).name = pkN base a b n := fun {l} hl e => by
    obtain ⟨-, Al⟩ := edB_iff.1 hl
    rw [e] at h4 ⊢
    rcases lkE_cases l n with ⟨h5, -⟩ | ⟨h5, -⟩
    · exact ⟨h5, lkE_at Al.nd h5⟩
    · rw [h5] at h4; exact absurd rfl h4
  rcases pk_in (lkE base n) (lkE a n) (lkE b n) with e | e
  · exact Or.inl (fin hh.2.1 e)
  · exact Or.inr (fin hh.2.2 e)
end Go.Proofs.YtlbjbmpkaniojaaGreat
namespace Go.Proofs.YtlbjbmpkaniojaaGreat
open Go Go.RowKit Go.Maps
end Go.Proofs.YtlbjbmpkaniojaaGreat
namespace Go.Proofs.YtlbjbmpkaniojaaGreat
open Go Go.RowKit Go.Maps
end Go.Proofs.YtlbjbmpkaniojaaGreat
namespace Go.Proofs.YtlbjbmpkaniojaaGreat
open Go Go.RowKit Go.Maps
theorem ents_one1 {w : World} {vs : List V3} {l : List En} (h : ∀ (j : Nat) (h : j < l.length) (h' : j < vs.length), EntAt w vs[j].1 vs[j].2.1 vs[j].2.2 l[j]) (hl : vs.length = l.length) : ∀ u ∈ ensC l vs, u.oneCell' = true := by
  intro u hu
  obtain ⟨i, hi, rfl⟩ := List.getElem_of_mem hu
  rw [ensC_len l vs hl] at hi
  have hj : i / 5 < l.length := by omega
  have hjv : i / 5 < vs.length := by omega
  obtain ⟨g0, g1, g2, g3, g4⟩ := ensC_get l vs hl (i / 5) hj hjv
  have he := h (i / 5) hj hjv
  obtain ⟨a1, k1, e1, -⟩ := he.s.open
  obtain ⟨a2, k2, e2, -⟩ := he.u.open
  obtain ⟨a3, k3, e3, -⟩ := he.p.open
  have key : ∀ {r : Nat} {v : Value}, (ensC l vs)[r]? = some v → ∀ (hr : r < (ensC l vs).length), (ensC l vs)[r] = v := fun {r v} e hr => by rw [List.getElem?_eq_getElem hr] at e; exact Option.some.inj e
  have hm5 : i = i / 5 * 5 ∨ i = i / 5 * 5 + 1 ∨ i = i / 5 * 5 + 2 ∨ i = i / 5 * 5 + 3 ∨ i = i / 5 * 5 + 4 := by omega
  have hlt : i < (ensC l vs).length := by rw [ensC_len l vs hl]; exact hi
  rcases hm5 with e | e | e | e | e
  · have q := g0; rw [← e] at q; rw [key q hlt]; rfl
  · have q := g1; rw [← e] at q; rw [key q hlt]; rfl
  · have q := g2; rw [← e] at q; rw [key q hlt, e1]; rfl
  · have q := g3; rw [← e] at q; rw [key q hlt, e2]; rfl
  · have q := g4; rw [← e] at q; rw [key q hlt, e3]; rfl
theorem EntsV.erase {w : World} {v : Value} {vs : List V3} {l : List En} (h : EntsV w v vs l) (i : Nat) (hi : i < l.length) (j : Nat) (h1 : j < (l.eraseIdx i).length) (h2 : j < (vs.eraseIdx i).length) : EntAt w (vs.eraseIdx i)[j].1 (vs.eraseIdx i)[j].2.1 (vs.eraseIdx i)[j].2.2 (l.eraseIdx i)[j] := by
  have hel : (l.eraseIdx i).length = l.length - 1 := List.length_eraseIdx_of_lt hi
  have hlen := h.2.1
  rw [List.getElem_eraseIdx, List.getElem_eraseIdx]
  split
  · exact h.2.2 j (by omega) (by omega)
  · exact h.2.2 (j + 1) (by omega) (by omega)
end Go.Proofs.YtlbjbmpkaniojaaGreat
namespace Go.Proofs.YtlbjbmpkaniojaaGreat
open Go Go.RowKit Go.Maps
/-- what Do answers: an edition in memory of its own. -/
def DoQ (R : List En × Int) (w : World) (e : Ending) (w' : World) : Prop := ∃ u vs B, w.heap.size ≤ B ∧ e = .returned (.tuple #[u, .int .i64 R.2]) ∧ EnW w' B u vs R.1 ∧ Below w.heap.size w w'
theorem DoQ.no {R : List En × Int} {w w' : World} {er : Int} (hR : R = ([], er)) (h : Below w.heap.size w w') : DoQ R w (.returned (.tuple #[.slice none 0 0, .int .i64 er])) w' := by
  subst hR; exact ⟨_, [], w.heap.size, Nat.le_refl _, rfl, EnW.nil _ _, h⟩
theorem DoQ.yes {R : List En × Int} {w w' : World} {L : List En} {B : Nat} {u : Value} {vs : List V3} (hR : R = (L, 0)) (hB : w.heap.size ≤ B) (hE : EnW w' B u vs L) (h : Below w.heap.size w w') : DoQ R w (.returned (.tuple #[u, .int .i64 0])) w' := by
  subst hR; exact ⟨u, vs, B, hB, rfl, hE, h⟩
theorem DoQ.ents {R : List En × Int} {w w' : World} {e : Ending} (h : DoQ R w e w') (hl : R.1.length ≤ 1000) : ∃ u, e = .returned (.tuple #[u, .int .i64 R.2]) ∧ EntsAt w' u R.1 ∧ Below w.heap.size w w' := by
  obtain ⟨u, vs, B, -, h1, h2, h3⟩ := h
  exact ⟨u, h1, h2.ents hl, h3⟩
end Go.Proofs.YtlbjbmpkaniojaaGreat
