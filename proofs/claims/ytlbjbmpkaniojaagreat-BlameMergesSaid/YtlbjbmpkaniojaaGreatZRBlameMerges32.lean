/-
  WHAT IT HOLDS: contracts of strings.Compare, of byName of package blame, of slices.SortFunc and slices.IsSortedFunc at entries with it. Conditions: the arguments read as data.
  WHAT IT HOLDS: contracts of copies, find and used of package blame. Conditions: the arguments read as data; small libraries.
  WHAT IT HOLDS: contracts of slices.IsSortedFunc at entries, of Edition and Sorted of package blame. Conditions: the arguments read as data; small signs, small libraries.
-/
import Derived.Lib.Strings
import Derived.Lib.Bytealg
import Derived.Test.YtlbjbmpkaniojaaGreatZRBlameMerges31
import Derived.Test.YtlbjbmpkaniojaaGreatZRBlameMerges18
namespace Go.Proofs.YtlbjbmpkaniojaaGreat
open Go Go.RowKit Go.Maps
set_option maxRecDepth 100000 in
theorem str_CompareString (a b : Nm) (w : World) : Calls Tryz.prog 163 #[.string a, .string b] w fun e w' => e = .returned (.int .i64 (cpN a b)) ∧ w = w' := by
  have HC := hid (show Lib.compareBytes a.data.toList b.data.toList = cpN a b from cmp_N a b)
  go_enter Tryz.func163, Tryz.ntmps163
  go_wp2
  rw [run_callFunc_extern Tryz.func189 (by kernel_rfl) (by kernel_rfl) (by kernel_rfl) (e := Extern.BytealgCompare.compare) (by kernel_rfl), Lib.run_compareString]
  simp only [Result.andThen]
  rw [Oper.upon_value]
  go_wp2
  go_ret
  exact ⟨by rw [HC.out]; rfl, rfl⟩
theorem str_Compare (a b : Nm) (w : World) : Calls Tryz.prog 117 #[.string a, .string b] w fun e w' => e = .returned (.int .i64 (cpN a b)) ∧ w = w' := by
  go_enter Tryz.func117, Tryz.ntmps117
  go_wp2_with (go_at_call 163; refine (str_CompareString _ _ _).mono ?_; rintro e w' ⟨rfl, rfl⟩)
  go_ret
  exact ⟨rfl, rfl⟩
theorem gw2 (w : World) (a b : Obj) : (w.alloc a).alloc b = Go.Sort.grow (w.drewN 0) #[a, b] := by
  rw [Go.Sort.alloc_eq_grow, Go.Sort.alloc_eq_grow, Go.Sort.grow_grow]
  rfl
set_option maxRecDepth 100000 in
theorem blame_byName (x y : En) (a1 b1 c1 a2 b2 c2 : Option Addr) (n1 k1 n2 k2 n3 k3 m1 j1 m2 j2 m3 j3 : Nat) (w : World) :
    Calls Tryz.prog 67 #[.agg #[.string x.name, .string x.who, .slice a1 n1 k1, .slice b1 n2 k2, .slice c1 n3 k3], .agg #[.string y.name, .string y.who, .slice a2 m1 j1, .slice b2 m2 j2, .slice c2 m3 j3]] w fun e w' => e = .returned (.int .i64 (cpN x.name y.name)) ∧ ∃ q os, w' = Go.Sort.grow (w.drewN q) os := by
  have HG := hid (gw2 w (.cells #[.string x.name, .string x.who, .slice a1 n1 k1, .slice b1 n2 k2, .slice c1 n3 k3] 41) (.cells #[.string y.name, .string y.who, .slice a2 m1 j1, .slice b2 m2 j2, .slice c2 m3 j3] 41))
  go_enter Tryz.func67, Tryz.ntmps67
  go_wp2_with (go_at_call 117; refine (str_Compare _ _ _).mono ?_; rintro e w' ⟨rfl, rfl⟩)
  go_ret
  exact ⟨rfl, _, _, HG.out⟩
/-- a value, turned into a slice if it is none. -/
def slV : Value → Value | .slice a n c => .slice a n c | _ => .slice none 0 0
def nrmV (v : V3) : V3 := (slV v.1, slV v.2.1, slV v.2.2)
abbrev EV := En × V3
instance : Inhabited EV := ⟨(en0, (.slice none 0 0, .slice none 0 0, .slice none 0 0))⟩
def encE (p : EV) : List Value := enC p.1 (nrmV p.2)
def eC (L : List EV) : List Value := L.flatMap encE
theorem eC_len (L : List EV) : (eC L).length = L.length * 5 := by
  unfold eC
  induction L with
  | nil => rfl
  | cons p L ih => simp [encE, enC, ih]; omega
theorem eC_get : ∀ (L : List EV) (j : Nat) (h : j < L.length) (r : Nat), r < 5 → (eC L)[j * 5 + r]? = (encE L[j])[r]?
  | [], j, h, _, _ => by simp at h
  | p :: L, 0, _, r, hr => by
    show (encE p ++ eC L)[0 * 5 + r]? = _
    rw [Nat.zero_mul, Nat.zero_add, List.getElem?_append_left (by simp [encE, enC]; exact hr)]
    rfl
  | p :: L, j + 1, h, r, hr => by
    show (encE p ++ eC L)[(j + 1) * 5 + r]? = _
    have h5 : (encE p).length = 5 := rfl
    rw [List.getElem?_append_right (by rw [h5]; omega), h5, show (j + 1) * 5 + r - 5 = j * 5 + r by omega]
    exact eC_get L j (by simpa using h) r hr
theorem flat_eC (d : Array EV) : (Go.Sort.flatK encE 5 d).toList = eC d.toList := by
  apply List.ext_getElem?
  intro t
  by_cases ht : t < d.size * 5
  · have h1 := Go.Sort.get_flatK encE 5 d t ht
    rw [getElem!_pos _ t (by simpa using ht)] at h1
    rw [Array.getElem?_toList, Array.getElem?_eq_getElem (by simpa using ht), h1]
    have hj : t / 5 < d.size := by omega
    rw [getElem!_pos d _ hj]
    have hm : t % 5 < 5 := Nat.mod_lt _ (by omega)
    have g := eC_get d.toList (t / 5) (by simpa using hj) (t % 5) hm
    rw [show t / 5 * 5 + t % 5 = t by omega] at g
    rw [g]
    have h5 : t % 5 = 0 ∨ t % 5 = 1 ∨ t % 5 = 2 ∨ t % 5 = 3 ∨ t % 5 = 4 := by omega
    rcases h5 with e | e | e | e | e <;> (rw [e]; simp [encE, enC])
  · rw [Array.getElem?_toList, Array.getElem?_eq_none (by simp; omega), List.getElem?_eq_none (by rw [eC_len]; simp; omega)]
theorem ensC_zip : ∀ (l : List En) (vs : List V3), vs.length = l.length → (∀ v ∈ vs, nrmV v = v) → ensC l vs = eC (l.zip vs)
  | [], [], _, _ => rfl
  | [], _ :: _, h, _ => by simp at h
  | _ :: _, [], h, _ => by simp at h
  | x :: l, v :: vs, h, hn => by
    show enC x v ++ ensC l vs = encE (x, v) ++ eC (l.zip vs)
    rw [ensC_zip l vs (by simpa using h) fun u hu => hn u (by simp [hu])]
    unfold encE
    rw [hn v (by simp)]
theorem eC_map : ∀ (L : List EV), (∀ p ∈ L, nrmV p.2 = p.2) → eC L = ensC (L.map Prod.fst) (L.map Prod.snd)
  | [], _ => rfl
  | p :: L, h => by
    show encE p ++ eC L = enC p.1 p.2 ++ ensC (L.map Prod.fst) (L.map Prod.snd)
    rw [eC_map L fun q hq => h q (by simp [hq])]
    unfold encE
    rw [h p (by simp)]
theorem EnS.nrm {w : World} {base : Nat} {u : Value} {vs : List V3} {l : List En} (h : EnS w base u vs l) : ∀ v ∈ vs, nrmV v = v := by
  intro v hv
  obtain ⟨j, hj, rfl⟩ := List.getElem_of_mem hv
  have he := h.rd w (fun _ _ _ => rfl) j (by rw [← h.len]; exact hj) hj
  obtain ⟨a1, k1, h1, -⟩ := he.s.open
  obtain ⟨a2, k2, h2, -⟩ := he.u.open
  obtain ⟨a3, k3, h3, -⟩ := he.p.open
  unfold nrmV
  rw [show slV vs[j].1 = vs[j].1 by rw [h1]; rfl, show slV vs[j].2.1 = vs[j].2.1 by rw [h2]; rfl, show slV vs[j].2.2 = vs[j].2.2 by rw [h3]; rfl]
def cpE (a b : EV) : Int := cpN a.1.name b.1.name
theorem nrm_open (v : V3) : ∃ a1 n1 k1 a2 n2 k2 a3 n3 k3, nrmV v = (.slice a1 n1 k1, .slice a2 n2 k2, .slice a3 n3 k3) := by
  have key : ∀ v : Value, ∃ a n k, slV v = .slice a n k := by
    intro v
    cases v <;> exact ⟨_, _, _, rfl⟩
  obtain ⟨a1, n1, k1, h1⟩ := key v.1
  obtain ⟨a2, n2, k2, h2⟩ := key v.2.1
  obtain ⟨a3, n3, k3, h3⟩ := key v.2.2
  exact ⟨a1, n1, k1, a2, n2, k2, a3, n3, k3, by unfold nrmV; rw [h1, h2, h3]⟩
set_option maxRecDepth 100000 in
theorem sort_ents (base g n c : Nat) (vs : List V3) (l : List En) (w : World) (hl : l.length = n) (hn1 : n ≤ 100000) (h : EnS w base (.slice (some ⟨g, 0, none⟩) n c) vs l) :
    Calls Tryz.prog 66 #[.slice (some ⟨g, 0, none⟩) n c, .func (.func 67) #[] #[]] w fun e w' => ∃ vs' l', e = .returned (.tuple #[]) ∧ EnS w' base (.slice (some ⟨g, 0, none⟩) n c) vs' l' ∧ l'.length = n ∧ l'.Perm l ∧ l'.Pairwise (fun a b => ¬ ltN b.name a.name) ∧ Kb (fun k => k = g) w w' ∧ (∀ v ∈ vs', v ∈ vs) := by
  have hblk : g < w.heap.size := (h.top.lt g rfl).2
  have hnr := h.nrm
  have hsw : Go.Sort.SWO (ltOf cpE) := {
    irrefl := fun x => by unfold ltOf; exact decide_eq_false (fun h => ltN.irr _ (cpN_lt.1 h))
    trans := fun x y z h1 h2 => by
      unfold ltOf at *; rw [decide_eq_true_eq] at *; exact cpN_lt.2 ((cpN_lt.1 h1).trans (cpN_lt.1 h2))
    ntrans := fun x y z h1 h2 => by
      unfold ltOf cpE at *
      rw [decide_eq_false_iff_not, cpN_lt] at *
      intro h3
      rcases ltN.tri x.1.name y.1.name with k | k | k
      · exact h1 k
      · rw [k] at h3; exact h2 h3
      · exact h2 (ltN.trans k h3) }
  obtain ⟨L, hL⟩ : ∃ L, l.zip vs = L := ⟨_, rfl⟩
  have hLn : L.length = n := by rw [← hL, List.length_zip, h.len, hl]; simp
  have htop := h.top
  rw [hl, ensC_zip l vs h.len hnr, hL] at htop
  have hds : L.toArray.size = n := by simpa using hLn
  have hH : Go.Sort.HoldsK encE 5 w g 0 L.toArray := fun j hj => by
    have hj : j < n * 5 := by simpa [hLn] using hj
    rw [Nat.zero_add]
    have hc := htop.cellAt j hj
    refine ⟨?_, htop.frozenAt j⟩
    rw [hc]
    have e : (Go.Sort.flatK encE 5 L.toArray).toList = eC L := flat_eC L.toArray
    rw [← e, Array.getElem?_toList, Array.getElem?_eq_getElem (by simpa [hLn] using hj), getElem!_pos _ j (by simpa [hLn] using hj)]
    rfl
  have hcon := AnyQ.slices_SortFunc Tryz.sort66 5 (fun w => by kernel_rfl) (fun w => by kernel_rfl) encE (fun _ => rfl) (fun p v hv => by
      obtain ⟨a1, n1, k1, a2, n2, k2, a3, n3, k3, e⟩ := nrm_open p.2
      unfold encE at hv
      rw [e] at hv
      simp [enC] at hv
      rcases hv with rfl | rfl | rfl | rfl | rfl <;> rfl) cpE hsw 67 #[] g 0 c L.toArray w (enters_of Tryz.func67 (by kernel_rfl) rfl)
    (fun m os dk hs x y => by
      obtain ⟨a1, n1, k1, a2, n2, k2, a3, n3, k3, e⟩ := nrm_open x.2
      obtain ⟨b1, m1, j1, b2, m2, j2, b3, m3, j3, e'⟩ := nrm_open y.2
      have := blame_byName x.1 y.1 a1 a2 a3 b1 b2 b3 n1 k1 n2 k2 n3 k3 m1 j1 m2 j2 m3 j3 (Go.Sort.grow ((sortWorld id w g 0 m (Go.Sort.flatK encE 5 dk) os)) #[])
      simp only [encE, e, e']
      exact blame_byName x.1 y.1 a1 a2 a3 b1 b2 b3 n1 k1 n2 k2 n3 k3 m1 j1 m2 j2 m3 j3 _) hH hblk (by omega)
  rw [hds] at hcon
  change Calls Tryz.prog 66 _ _ _ at hcon
  refine hcon.mono ?_
  rintro e w' ⟨rfl, d', m, os, hp, hsd, rfl⟩
  obtain ⟨hps, -, hpp⟩ := hp
  have hds' : d'.size = n := by rw [hps]; exact hds
  have hpp : d'.toList.Perm L := by
    have ex : ∀ (D : Array EV) (m : Nat), D.size = m → D.extract 0 m = D := fun D m h => by subst h; simp
    have e1 := ex d' n hds'
    have e2 := ex L.toArray n hds
    rw [e1, e2] at hpp
    simpa using hpp
  have hnr' : ∀ p ∈ d'.toList, nrmV p.2 = p.2 := fun p hp => hnr p.2 (by
    have := hpp.mem_iff.1 hp
    rw [← hL] at this
    exact (List.of_mem_zip this).2)
  have hkb := kb_sort id w g m (Go.Sort.flatK encE 5 d') os
  refine ⟨d'.toList.map Prod.snd, d'.toList.map Prod.fst, rfl, ⟨?_, by simp, fun W' hW j h1 h2 => ?_⟩, by simp [hds'], ?_, ?_, hkb, fun v hv => ?_⟩
  · rw [← eC_map _ hnr', ← flat_eC, List.length_map, Array.length_toList, hds']
    exact own_sortK htop m (Go.Sort.flatK encE 5 d') (by simp [hds']) os
  · have hj : j < d'.toList.length := by simpa using h1
    simp only [List.getElem_map]
    have hm : d'.toList[j] ∈ l.zip vs := by rw [hL]; exact hpp.mem_iff.1 (List.getElem_mem hj)
    obtain ⟨i, hi, e⟩ := List.getElem_of_mem hm
    rw [← e, List.getElem_zip]
    rw [List.length_zip] at hi
    exact h.rd W' (fun q hq hne => (hW q (Nat.lt_of_lt_of_le hq hkb.size) hne).trans (hkb.same q hq fun e => hne (by rw [e]; rfl))) i (by omega) (by omega)
  · have := hpp.map Prod.fst
    rw [← hL, List.map_fst_zip (by rw [h.len]; exact Nat.le_refl _)] at this
    exact this
  · rw [List.pairwise_map, List.pairwise_iff_getElem]
    intro i j hi hj hij
    have := hsd i j (Nat.zero_le _) hij (by simpa [hds'] using hj)
    unfold ltOf cpE at this
    rw [decide_eq_false_iff_not, getElem!_pos d' j (by simpa using hj), getElem!_pos d' i (by simpa using hi), cpN_lt] at this
    simpa using this
  · obtain ⟨p, hp, rfl⟩ := List.mem_map.1 hv
    have := hpp.mem_iff.1 hp
    rw [← hL] at this
    exact (List.of_mem_zip this).2
theorem sort_ents0 (p : Option Addr) (c : Nat) (fv : Value) (w : World) : Calls Tryz.prog 66 #[.slice p 0 c, fv] w fun e w' => e = .returned (.tuple #[]) ∧ w' = w :=
  AnyF.slices_SortFunc_none Tryz.sort66 p c fv w
end Go.Proofs.YtlbjbmpkaniojaaGreat
namespace Go.Proofs.YtlbjbmpkaniojaaGreat
open Go Go.RowKit Go.Maps
set_option maxHeartbeats 2000000 in
set_option maxRecDepth 100000 in
theorem blame_copies (vl : Value) (l : List En) (w : World) (hl : EntsAt w vl l) (hl1 : l.length ≤ 1000) (hok : ∀ x ∈ l, EnSm x) :
    Calls Tryz.prog 65 #[vl] w fun e w' => ∃ u vs, e = .returned u ∧ EnW w' w.heap.size u vs l ∧ Below w.heap.size w w' := by
  obtain ⟨la, lc, rfl, -, ll, -, HC⟩ := hl.open
  have HC' := hid HC
  have HOK := hid hok
  have h00 := hid (EnW.nil w w.heap.size)
  clear HC hl hok
  go_enter Tryz.func65, Tryz.ntmps65
  go_wp2
  go_loopw [3, 8] (fun u kv wr => ∃ (k : Nat) (vs : List V3), k ≤ l.length ∧ kv = .int .i64 k ∧ EnW wr w.heap.size u vs (l.take k) ∧ Below w.heap.size w wr) (fun _ kv _ => l.length - (intOf kv).toNat)
  case atStart => exact ⟨0, [], by omega, rfl, by simpa using h00.out, Below.refl _ _⟩
  case round =>
    clear h00
    obtain ⟨k, vs, hk, rfl, hE, hb⟩ := hrel
    have hsz := hb.size
    by_cases hlt : k < l.length
    · obtain ⟨b, o, vS, vu, vp, rfl, c0, c1, c2, c3, c4, he⟩ := HC'.out k hlt
      have he' := he.below hb
      obtain ⟨sa, sc, rfl, -⟩ := he'.s.open
      obtain ⟨ua, uc, rfl, -⟩ := he'.u.open
      obtain ⟨pa, pc, rfl, -⟩ := he'.p.open
      have d0 := (hb.cell (World.block_lt_of_cell? _ _ c0)).trans c0
      have d1 := (hb.cell (World.block_lt_of_cell? _ _ c1)).trans c1
      have d2 := (hb.cell (World.block_lt_of_cell? _ _ c2)).trans c2
      have d3 := (hb.cell (World.block_lt_of_cell? _ _ c3)).trans c3
      have d4 := (hb.cell (World.block_lt_of_cell? _ _ c4)).trans c4
      obtain ⟨s0, s1, s2, s3⟩ := HOK.out _ (List.getElem_mem hlt)
      have HTK := hid (show l.take (k + 1) = l.take k ++ [l[k]] from List.take_succ_eq_append_getElem hlt)
      have hlen : (l.take k).length = k := by simp; omega
      obtain ⟨x, hx⟩ : ∃ x, l[k] = x := ⟨_, rfl⟩
      rw [hx] at d0 d1 d2 d3 d4 he' s0 s1 s2 s3 HTK
      obtain ⟨L, hL⟩ : ∃ L, l.take k = L := ⟨_, rfl⟩
      rw [hL] at hE HTK hlen
      clear c0 c1 c2 c3 c4 he hx hL
      have EB0 := EB.new wr x (.slice sa x.says.length sc) (.slice ua x.uses.length uc) (.slice pa x.proof.length pc) 41
      obtain ⟨W, hW⟩ : ∃ W, wr.alloc (.cells #[.string x.name, .string x.who, .slice sa x.says.length sc, .slice ua x.uses.length uc, .slice pa x.proof.length pc] 41) = W := ⟨_, rfl⟩
      have hbr : Below wr.heap.size wr W := hW ▸ (Below.refl _ _).alloc (Nat.le_refl _) _
      rw [hW] at EB0
      have HCP := hid (blame_copied (.slice sa x.says.length sc) (.slice ua x.uses.length uc) (.slice pa x.proof.length pc) x W (he'.below hbr) s0 s1 s2 s3)
      have HHW := hid hW
      have HBR := hid hbr
      have HE := hid hE
      have HB := hid hb
      clear EB0 hW hbr hE hb he'
      go_wp2_with fail
      rw [HHW.out]
      refine HCP.out.mono ?_
      rintro e w2 ⟨v, rfl, ⟨vS, vU, vP, rfl, hO⟩, hb2⟩
      have hbr2 : Below wr.heap.size wr w2 := HBR.out.trans (hb2.mono HBR.out.size)
      have hbw2 := HB.out.trans (hbr2.mono hsz)
      obtain ⟨a1, k1, rfl⟩ := owns_slice hO.s
      obtain ⟨a2, k2, rfl⟩ := owns_slice hO.u
      obtain ⟨a3, k3, rfl⟩ := owns_slice hO.p
      have HE2 := hid (HE.out.below hbr2)
      have HBR2 := hid hbr2
      have HO2 := hid hO
      have HB2 := hid hbw2
      have HSZ2 := hid hbw2.size
      have HU := hid HE.out.top.lt
      have hown2 := HE2.out.top
      rw [hlen] at hown2
      have hownA := hown2.alloc (.cells #[.string x.name, .string x.who, .slice a1 x.says.length k1, .slice a2 x.uses.length k2, .slice a3 x.proof.length k3] 41)
      have HROW := hid (row_one_ent w2 (.string x.name) (.string x.who) (.slice a1 x.says.length k1) (.slice a2 x.uses.length k2) (.slice a3 x.proof.length k3) 41)
      have HRS := hid HBR.out.size
      have HRW := hid hsz
      have hwz := hbw2.size
      clear hO hb2 hbr2 hbw2 hown2
      go_wp2_with (at_builtin; refine wpList_append_lie rfl _ _ 24 rfl w.heap.size 41 el_ent Tryz.underlying24 rfl (by decide) u3 k (ensC L vs) rfl hownA _ 1 (enC x (.slice a1 x.says.length k1, .slice a2 x.uses.length k2, .slice a3 x.proof.length k3)) rfl HROW.out (enC_one _ _ _ _ _ _ _ _ _ _) (by omega) (by omega) (by omega) (by simp; omega) _ rfl ?_; intro g cap w4 hown4 hgrow4 hat4 hlt4)
      go_roundw
      case rel =>
        refine ⟨k + 1, vs ++ [(.slice a1 x.says.length k1, .slice a2 x.uses.length k2, .slice a3 x.proof.length k3)], by omega, by go_num, ?_, (HB2.out.alloc HSZ2.out _).grown hgrow4 (by simp; have := HSZ2.out; omega) (fun q hq => (HU.out q hq).1)⟩
        rw [HTK.out]
        have hba : Below w2.heap.size w2 (w2.alloc (.cells #[.string x.name, .string x.who, .slice a1 x.says.length k1, .slice a2 x.uses.length k2, .slice a3 x.proof.length k3] 41)) := (Below.refl _ _).alloc (Nat.le_refl _) _
        exact HE.out.push (w1 := w2.alloc _) (HBR2.out.trans (hba.mono HBR2.out.size)) (HO2.out.blocks HRS.out fun q _ hq => hba.block q hq) HRW.out hlen.symm hown4 hgrow4
      case measure => simp [intOf]; omega
    · have hkl : k = l.length := by omega
      subst hkl
      rw [List.take_of_length_le (Nat.le_refl _)] at hE
      have HE := hid hE
      clear hE
      go_wp2
      go_ret
      exact ⟨_, vs, rfl, HE.out, hb⟩
theorem blame_find1 (p : Nat) (n : Nm) (y : En) (vS vU vP : Value) (w : World) (hE : w.cell? ⟨p, 0, none⟩ = some (.string n)) :
    Calls Tryz.prog 134 #[.agg #[.string y.name, .string y.who, vS, vU, vP], .pointer (some ⟨p, 0, none⟩)] w fun e w' => e = .returned (.bool (decide (y.name = n))) ∧ Below w.heap.size w w' := by
  have HB := hid (show Below w.heap.size w (w.alloc (.cells #[.string y.name, .string y.who, vS, vU, vP] 41)) from (Below.refl _ _).alloc (Nat.le_refl _) _)
  have hlt : p < w.heap.size := World.block_lt_of_cell? _ _ hE
  by_cases h : y.name = n
  · have q : (y.name.toList == n.toList) = true := by rw [bytes_eq]; simpa using h
    have HF := hid (decide_eq_true h)
    clear h
    go_enter Tryz.func134, Tryz.ntmps134
    go_wp2
    go_ret
    exact ⟨ret_bool HF.out.symm, HB.out⟩
  · have q : (y.name.toList == n.toList) = false := by rw [bytes_eq]; simpa using h
    have HF := hid (decide_eq_false h)
    clear h
    go_enter Tryz.func134, Tryz.ntmps134
    go_wp2
    go_ret
    exact ⟨ret_bool HF.out.symm, HB.out⟩
theorem firstI_idx (l : List En) (n : Nm) : firstI l.length (fun i => decide ((l.getD i en0).name = n)) = idxI l n := by
  unfold idxI
  cases h : idxN l n with
  | none =>
    refine firstI_no fun j hj => ?_
    rw [decide_eq_false_iff_not]
    have e1 : l.getD j en0 = l[j] := by rw [List.getD_eq_getElem?_getD, List.getElem?_eq_getElem hj]; rfl
    rw [e1]
    exact idxN_none h _ (List.getElem_mem hj)
  | some i =>
    have hi := (idxN_some h).1
    unfold idxN at h
    obtain ⟨h1, h2, h3⟩ := List.findIdx?_eq_some_iff_getElem.1 h
    have e1 : ∀ j (hj : j < l.length), l.getD j en0 = l[j] := fun j hj => by rw [List.getD_eq_getElem?_getD, List.getElem?_eq_getElem hj]; rfl
    refine firstI_at hi ?_ fun j hj => ?_
    · rw [e1 i hi]; simpa using h2
    · rw [e1 j (by omega)]; simpa using h3 j hj
theorem box1e (w : World) (x : Value) (t : TypeId) : (w.alloc (.cells #[x] t)).cell? ⟨w.heap.size, 0, none⟩ = some x := by rw [World.cell?_alloc_new]; rfl
theorem blame_find (vl : Value) (l : List En) (n : Nm) (w : World) (hl : EntsAt w vl l) :
    Calls Tryz.prog 80 #[vl, .string n] w fun e w' => e = .returned (.int .i64 (idxI l n)) ∧ Below w.heap.size w w' := by
  have hbW : Below w.heap.size w (w.alloc (.cells #[.string n] 9)) := (Below.refl _ _).alloc (Nat.le_refl _) _
  have k0 := box1e w (.string n) 9
  obtain ⟨W, hW⟩ : ∃ W, w.alloc (.cells #[.string n] 9) = W := ⟨_, rfl⟩
  rw [hW] at hbW k0
  have HI := hid (sl_IndexFunc_ents 134 #[.pointer (some ⟨w.heap.size, 0, none⟩)] (enters_of Tryz.func134 (by kernel_rfl) rfl) vl l W (hl.below hbW) (fun i => decide ((l.getD i en0).name = n)) (by
    intro i hi vs vu vp X hX _
    have e1 : l.getD i en0 = l[i] := by rw [List.getD_eq_getElem?_getD, List.getElem?_eq_getElem hi]; rfl
    simp only [e1]
    exact blame_find1 w.heap.size n l[i] vs vu vp X ((hX.cell (World.block_lt_of_cell? _ _ k0)).trans k0)))
  rw [firstI_idx] at HI
  obtain ⟨la, lc, rfl, -⟩ := hl.open
  have HW := hid hW
  have HB := hid hbW
  clear hl hW hbW k0
  go_enter Tryz.func80, Tryz.ntmps80
  go_wp2_with fail
  rw [HW.out]
  refine HI.out.mono ?_
  rintro e w1 ⟨rfl, hb1⟩
  go_wp2
  go_ret
  exact ⟨rfl, HB.out.trans (hb1.mono HB.out.size)⟩
set_option maxHeartbeats 1000000 in
theorem blame_used1 (p q : Nat) (n but : Nm) (y : En) (vS vU vP : Value) (w : World) (hy : EntAt w vS vU vP y) (hp : w.cell? ⟨p, 0, none⟩ = some (.string but)) (hq : w.cell? ⟨q, 0, none⟩ = some (.string n)) :
    Calls Tryz.prog 128 #[.agg #[.string y.name, .string y.who, vS, vU, vP], .pointer (some ⟨p, 0, none⟩), .pointer (some ⟨q, 0, none⟩)] w fun e w' => e = .returned (.bool (decide (y.name ≠ but) && hasN y.uses n)) ∧ Below w.heap.size w w' := by
  obtain ⟨sa, sc, rfl, -⟩ := hy.s.open
  obtain ⟨ua, uc, rfl, -⟩ := hy.u.open
  obtain ⟨pa, pc, rfl, -⟩ := hy.p.open
  have hb : Below w.heap.size w (w.alloc (.cells #[.string y.name, .string y.who, .slice sa y.says.length sc, .slice ua y.uses.length uc, .slice pa y.proof.length pc] 41)) := (Below.refl _ _).alloc (Nat.le_refl _) _
  have HC := hid (sl_Contains_strs _ y.uses n _ (hy.below hb).u)
  have HB := hid hb
  have hlt : p < w.heap.size := World.block_lt_of_cell? _ _ hp
  have hlt' : q < w.heap.size := World.block_lt_of_cell? _ _ hq
  clear hy hb
  by_cases h : y.name = but
  · have q1 : (y.name.toList == but.toList) = true := by rw [bytes_eq]; simpa using h
    have q2 : (y.name.toList != but.toList) = false := by rw [bne, q1]; rfl
    have HF := hid (show (decide (y.name ≠ but) && hasN y.uses n) = false by simp [h])
    clear h
    go_enter Tryz.func128, Tryz.ntmps128
    go_wp2
    go_ret
    exact ⟨ret_bool HF.out.symm, HB.out⟩
  · have q1 : (y.name.toList == but.toList) = false := by rw [bytes_eq]; simpa using h
    have q2 : (y.name.toList != but.toList) = true := by rw [bne, q1]; rfl
    have HF := hid (show hasN y.uses n = (decide (y.name ≠ but) && hasN y.uses n) by simp [h])
    clear h
    go_enter Tryz.func128, Tryz.ntmps128
    go_wp2_with (go_at_call 129; refine HC.out.mono ?_; rintro e w' ⟨rfl, rfl⟩)
    go_ret
    exact ⟨ret_bool HF.out, HB.out⟩
theorem used_any (l : List En) (n but : Nm) : (List.range l.length).any (fun i => decide ((l.getD i en0).name ≠ but) && hasN (l.getD i en0).uses n) = l.any (fun x => decide (x.name ≠ but) && hasN x.uses n) := by
  have e1 : ∀ j (hj : j < l.length), l.getD j en0 = l[j] := fun j hj => by rw [List.getD_eq_getElem?_getD, List.getElem?_eq_getElem hj]; rfl
  rw [Bool.eq_iff_iff, List.any_eq_true, List.any_eq_true]
  constructor
  · rintro ⟨i, hi, h⟩
    have hi := List.mem_range.1 hi
    rw [e1 i hi] at h
    exact ⟨l[i], List.getElem_mem hi, h⟩
  · rintro ⟨x, hx, h⟩
    obtain ⟨i, hi, rfl⟩ := List.getElem_of_mem hx
    exact ⟨i, List.mem_range.2 hi, by rw [e1 i hi]; exact h⟩
theorem blame_used (vl : Value) (l : List En) (n but : Nm) (w : World) (hl : EntsAt w vl l) :
    Calls Tryz.prog 78 #[vl, .string n, .string but] w fun e w' => e = .returned (.bool (l.any fun x => decide (x.name ≠ but) && hasN x.uses n)) ∧ Below w.heap.size w w' := by
  have hbV : Below w.heap.size w (w.alloc (.cells #[.string n] 9)) := (Below.refl _ _).alloc (Nat.le_refl _) _
  have k0 := box1e w (.string n) 9
  obtain ⟨V, hV⟩ : ∃ V, w.alloc (.cells #[.string n] 9) = V := ⟨_, rfl⟩
  have hVz : V.heap.size = w.heap.size + 1 := by rw [← hV]; simp
  rw [hV] at hbV k0
  have hbW : Below V.heap.size V (V.alloc (.cells #[.string but] 9)) := (Below.refl _ _).alloc (Nat.le_refl _) _
  have k1 := box1e V (.string but) 9
  have k0' := (hbW.cell (World.block_lt_of_cell? _ _ k0)).trans k0
  obtain ⟨W, hW⟩ : ∃ W, V.alloc (.cells #[.string but] 9) = W := ⟨_, rfl⟩
  rw [hW] at hbW k1 k0'
  rw [hVz] at k1
  have hb := hbV.trans (hbW.mono hbV.size)
  have HI := hid (sl_ContainsFunc_ents 128 #[.pointer (some ⟨w.heap.size + 1, 0, none⟩), .pointer (some ⟨w.heap.size, 0, none⟩)] (enters_of Tryz.func128 (by kernel_rfl) rfl) vl l W (hl.below hb) (fun i => decide ((l.getD i en0).name ≠ but) && hasN (l.getD i en0).uses n) (by
    intro i hi vs vu vp X hX he
    have e1 : l.getD i en0 = l[i] := by rw [List.getD_eq_getElem?_getD, List.getElem?_eq_getElem hi]; rfl
    simp only [e1]
    exact blame_used1 (w.heap.size + 1) w.heap.size n but l[i] vs vu vp X he ((hX.cell (World.block_lt_of_cell? _ _ k1)).trans k1) ((hX.cell (World.block_lt_of_cell? _ _ k0')).trans k0')))
  rw [used_any] at HI
  obtain ⟨la, lc, rfl, -⟩ := hl.open
  have HW : Hid ((w.alloc (.cells #[.string n] 9)).alloc (.cells #[.string but] 9) = W) := hid (by rw [hV, hW])
  have HB := hid hb
  clear hl hV hW hbV hbW hb k0 k0' k1 hVz
  go_enter Tryz.func78, Tryz.ntmps78
  go_wp2_with fail
  rw [HW.out]
  refine HI.out.mono ?_
  rintro e w1 ⟨rfl, hb1⟩
  go_wp2
  go_ret
  exact ⟨ret_bool (by simp), HB.out.trans (hb1.mono HB.out.size)⟩
end Go.Proofs.YtlbjbmpkaniojaaGreat
namespace Go.Proofs.YtlbjbmpkaniojaaGreat
open Go Go.RowKit Go.Maps
/-- whether no name is smaller than the one ahead of it. -/
def srtB (l : List En) : Bool := (List.range (l.length - 1)).all fun i => !decide (ltN (l.getD (i + 1) en0).name (l.getD i en0).name)
theorem getD_at {l : List En} {i : Nat} (h : i < l.length) : l.getD i en0 = l[i] := by rw [List.getD_eq_getElem?_getD, List.getElem?_eq_getElem h]; rfl
theorem srtB_iff {l : List En} : srtB l = true ↔ ∀ i (h : i + 1 < l.length), ¬ ltN l[i + 1].name (l[i]'(by omega)).name := by
  unfold srtB
  rw [List.all_eq_true]
  constructor
  · intro h i hi
    have := h i (List.mem_range.2 (by omega))
    rw [getD_at hi, getD_at (by omega : i < l.length)] at this
    simpa using this
  · intro h i hi
    have hi := List.mem_range.1 hi
    rw [getD_at (by omega : i + 1 < l.length), getD_at (by omega : i < l.length)]
    simpa using h i (by omega)
/-- a library whose names are different is sorted if it is ascending. -/
theorem srtB_asc {l : List En} (hn : (l.map En.name).Nodup) : srtB l = decide (AscE l) := by
  rw [Bool.eq_iff_iff, decide_eq_true_iff, srtB_iff]
  constructor
  · intro h
    have step : ∀ i (hi : i + 1 < l.length), ltN (l[i]'(by omega)).name l[i + 1].name := by
      intro i hi
      rcases ltN.tri (l[i]'(by omega)).name l[i + 1].name with k | k | k
      · exact k
      · have h1 := idxN_nd hn hi
        have h2 := idxN_nd hn (show i < l.length by omega)
        rw [k, h1] at h2
        exact absurd (Option.some.inj h2) (by omega)
      · exact absurd k (h i hi)
    refine List.pairwise_iff_getElem.2 fun i j hi hj hij => ?_
    induction j with
    | zero => omega
    | succ j ih =>
      by_cases e : i = j
      · subst e; exact step i hj
      · exact (ih (by omega) (by omega)).trans (step j hj)
  · intro h i hi k
    exact (List.pairwise_iff_getElem.1 h i (i + 1) (by omega) hi (by omega)).asym k
theorem edB_eq (s : Sg) (l : List En) : edB s l = (libB s l && srtB l) := by
  unfold edB
  cases h : libB s l with
  | false => rfl
  | true => rw [srtB_asc (libB_iff.1 h).nd]
set_option maxRecDepth 100000 in
theorem blame_byNameB (x y : En) (vS vU vP uS uU uP : Value) (w : World) (hx : EntAt w vS vU vP x) (hy : EntAt w uS uU uP y) :
    Calls Tryz.prog 67 #[.agg #[.string x.name, .string x.who, vS, vU, vP], .agg #[.string y.name, .string y.who, uS, uU, uP]] w fun e w' => e = .returned (.int .i64 (cpN x.name y.name)) ∧ Below w.heap.size w w' := by
  obtain ⟨a1, k1, rfl, -⟩ := hx.s.open
  obtain ⟨a2, k2, rfl, -⟩ := hx.u.open
  obtain ⟨a3, k3, rfl, -⟩ := hx.p.open
  obtain ⟨b1, j1, rfl, -⟩ := hy.s.open
  obtain ⟨b2, j2, rfl, -⟩ := hy.u.open
  obtain ⟨b3, j3, rfl, -⟩ := hy.p.open
  have h1 : Below w.heap.size w (w.alloc (.cells #[.string x.name, .string x.who, .slice a1 x.says.length k1, .slice a2 x.uses.length k2, .slice a3 x.proof.length k3] 41)) := (Below.refl _ _).alloc (Nat.le_refl _) _
  have h2 := h1.alloc h1.size (.cells #[.string y.name, .string y.who, .slice b1 y.says.length j1, .slice b2 y.uses.length j2, .slice b3 y.proof.length j3] 41)
  have HB := hid h2
  clear h1 h2 hx hy
  go_enter Tryz.func67, Tryz.ntmps67
  go_wp2_with (go_at_call 117; refine (str_Compare _ _ _).mono ?_; rintro e w' ⟨rfl, rfl⟩)
  go_ret
  exact ⟨rfl, HB.out⟩
set_option maxHeartbeats 2000000 in
set_option maxRecDepth 100000 in
theorem sl_IsSorted (v : Value) (l : List En) (w : World) (hv : EntsAt w v l) :
    Calls Tryz.prog 70 #[v, .func (.func 67) #[] #[]] w fun e w' => e = .returned (.bool (srtB l)) ∧ Below w.heap.size w w' := by
  obtain ⟨a, cap, rfl, h1, h2, h3, HC⟩ := hv.open
  have HC' := hid HC
  clear HC h3 hv
  go_enter Tryz.func70, Tryz.ntmps70
  go_wp2
  go_loopw [5] (fun i wr => ∃ k : Int, -1 ≤ k ∧ k ≤ (l.length : Int) - 1 ∧ i = .int .i64 k ∧ Below w.heap.size w wr ∧ ∀ j : Nat, k ≤ j → ∀ h : j + 1 < l.length, ¬ ltN l[j + 1].name (l[j]'(by omega)).name) (fun i _ => (intOf i).toNat)
  case atStart => exact ⟨(l.length : Int) - 1, by omega, by omega, rfl, Below.refl _ _, fun j h1 h2 => by omega⟩
  case round =>
    obtain ⟨k, hk0, hk1, rfl, hb, hrel⟩ := hrel
    have HR := hid hrel
    clear hrel
    by_cases hlt : 0 < k
    · obtain ⟨i, rfl⟩ : ∃ i : Nat, k = (i : Int) + 1 := ⟨(k - 1).toNat, by omega⟩
      have hi1 : i + 1 < l.length := by omega
      have hi : i < l.length := by omega
      obtain ⟨b, o, vS, vu, vp, rfl, c0, c1, c2, c3, c4, he⟩ := HC'.out (i + 1) hi1
      obtain ⟨b', o', uS, uu, up, e', d0, d1, d2, d3, d4, he2⟩ := HC'.out i hi
      cases e'
      have HK := hid (fun (X : World) (hX : Below wr.heap.size wr X) => (fun {p : Addr} {u : Value} (h : w.cell? p = some u) => ((hb.trans (hX.mono hb.size)).cell (World.block_lt_of_cell? _ _ h)).trans h))
      have g0 := HK.out wr (Below.refl _ _) c0
      have g1 := HK.out wr (Below.refl _ _) c1
      have g2 := HK.out wr (Below.refl _ _) c2
      have g3 := HK.out wr (Below.refl _ _) c3
      have g4 := HK.out wr (Below.refl _ _) c4
      have f0 := HK.out wr (Below.refl _ _) d0
      have f1 := HK.out wr (Below.refl _ _) d1
      have f2 := HK.out wr (Below.refl _ _) d2
      have f3 := HK.out wr (Below.refl _ _) d3
      have f4 := HK.out wr (Below.refl _ _) d4
      have C0 := hid c0
      have C1 := hid c1
      have C2 := hid c2
      have C3 := hid c3
      have C4 := hid c4
      have D0 := hid d0
      have D1 := hid d1
      have D2 := hid d2
      have D3 := hid d3
      have D4 := hid d4
      have HBN := hid (fun (X : World) (hX : Below wr.heap.size wr X) => blame_byNameB l[i + 1] l[i] vS vu vp uS uu up X (he.below (hb.trans (hX.mono hb.size))) (he2.below (hb.trans (hX.mono hb.size))))
      have HLT := hid (cpN_lt (x := l[i + 1].name) (y := l[i].name))
      have HS1 := hid (srtB_iff (l := l))
      have q1 : (i : Int) + 1 - 1 = (i : Int) := by omega
      have q2 : IntKind.i64.wrap ((i : Int) + 1 - 1) = (i : Int) := by rw [IntWalk.i64_in _ (by omega)]; omega
      have q7 : IntKind.i64.wrap (i : Int) = (i : Int) := by rw [IntWalk.i64_in _ (by omega)]
      have q3 : ((i : Int) + 1).toNat = i + 1 := by omega
      have q4 : (0 : Int) ≤ (i : Int) + 1 := by omega
      have q5 : (i : Int) + 1 < (l.length : Int) := by omega
      have q6 : (i : Int) < (l.length : Int) := by omega
      clear c0 c1 c2 c3 c4 d0 d1 d2 d3 d4 he he2
      obtain ⟨x, hx⟩ : ∃ x, l[i + 1] = x := ⟨_, rfl⟩
      obtain ⟨y, hy⟩ : ∃ y, l[i] = y := ⟨_, rfl⟩
      have HX := hid hx
      have HY := hid hy
      rw [hx] at g0 g1 HBN HLT C0 C1
      rw [hy] at f0 f1 HBN HLT D0 D1
      clear hx hy
      obtain ⟨c, hc⟩ : ∃ c, cpN x.name y.name = c := ⟨_, rfl⟩
      rw [hc] at HBN HLT
      clear hc
      have HBR : Hid (Below wr.heap.size wr wr) := hid (Below.refl _ _)
      have HB := hid hb
      have hsz := hb.size
      clear hb
      by_cases hneg : c < 0
      case pos =>
        have HF : Hid (srtB l = false) := hid (by
          rw [Bool.eq_false_iff]
          intro h
          refine HS1.out.1 h i hi1 ?_
          rw [HX.out, HY.out]
          exact HLT.out.1 hneg)
        go_wp2
        go_region_held3 (fun w' => w'.cell? ⟨b, o + (i + 1) * 5, none⟩ = some (.string x.name) ∧ w'.cell? ⟨b, o + (i + 1) * 5 + 1, none⟩ = some (.string x.who) ∧ w'.cell? ⟨b, o + (i + 1) * 5 + 2, none⟩ = some vS ∧ w'.cell? ⟨b, o + (i + 1) * 5 + 3, none⟩ = some vu ∧ w'.cell? ⟨b, o + (i + 1) * 5 + 4, none⟩ = some vp ∧
            w'.cell? ⟨b, o + i * 5, none⟩ = some (.string y.name) ∧ w'.cell? ⟨b, o + i * 5 + 1, none⟩ = some (.string y.who) ∧ w'.cell? ⟨b, o + i * 5 + 2, none⟩ = some uS ∧ w'.cell? ⟨b, o + i * 5 + 3, none⟩ = some uu ∧ w'.cell? ⟨b, o + i * 5 + 4, none⟩ = some up)
          (first | exact ⟨by assumption, by assumption, by assumption, by assumption, by assumption, by assumption, by assumption, by assumption, by assumption, by assumption⟩ | go_keep)
          (first | (go_at_call 67; (with_reducible refine (HBN.out _ (by (repeat (first | with_reducible assumption | with_reducible exact Below.refl _ _ | with_reducible exact below_self_drewN _ _ | with_reducible refine Below.drew ?_ | with_reducible refine below_drewN ?_ _ | (with_reducible refine Below.alloc ?_ ?_ _; rotate_left; focus (first | (simp; done) | omega | (simp; omega))))))).mono ?_); rintro e wz ⟨rfl, hbz⟩; have hbr : Below wr.heap.size wr wz := Below.trans (by (repeat (first | with_reducible assumption | with_reducible exact Below.refl _ _ | with_reducible exact below_self_drewN _ _ | with_reducible refine Below.drew ?_ | with_reducible refine below_drewN ?_ _ | (with_reducible refine Below.alloc ?_ ?_ _; rotate_left; focus (first | (simp; done) | omega | (simp; omega)))))) (hbz.mono (by (first | (simp; done) | omega | (simp; omega)))); have g0 := HK.out wz hbr C0.out; have g1 := HK.out wz hbr C1.out; have g2 := HK.out wz hbr C2.out; have g3 := HK.out wz hbr C3.out; have g4 := HK.out wz hbr C4.out; have f0 := HK.out wz hbr D0.out; have f1 := HK.out wz hbr D1.out; have f2 := HK.out wz hbr D2.out; have f3 := HK.out wz hbr D3.out; have f4 := HK.out wz hbr D4.out))
        clear g0 g1 g2 g3 g4 f0 f1 f2 f3 f4
        go_wp2
        go_ret
        exact ⟨ret_bool HF.out.symm, HB.out.trans (hbr.mono hsz)⟩
      case neg =>
        have HNE : Hid (∀ j : Nat, (i : Int) ≤ j → ∀ h : j + 1 < l.length, ¬ ltN l[j + 1].name (l[j]'(by omega)).name) := hid (by
          intro j h1 h2 h3
          by_cases e : j = i
          · subst e
            rw [HX.out, HY.out] at h3
            exact hneg (HLT.out.2 h3)
          · exact HR.out j (by omega) h2 h3)
        go_wp2
        go_region_held3 (fun w' => w'.cell? ⟨b, o + (i + 1) * 5, none⟩ = some (.string x.name) ∧ w'.cell? ⟨b, o + (i + 1) * 5 + 1, none⟩ = some (.string x.who) ∧ w'.cell? ⟨b, o + (i + 1) * 5 + 2, none⟩ = some vS ∧ w'.cell? ⟨b, o + (i + 1) * 5 + 3, none⟩ = some vu ∧ w'.cell? ⟨b, o + (i + 1) * 5 + 4, none⟩ = some vp ∧
            w'.cell? ⟨b, o + i * 5, none⟩ = some (.string y.name) ∧ w'.cell? ⟨b, o + i * 5 + 1, none⟩ = some (.string y.who) ∧ w'.cell? ⟨b, o + i * 5 + 2, none⟩ = some uS ∧ w'.cell? ⟨b, o + i * 5 + 3, none⟩ = some uu ∧ w'.cell? ⟨b, o + i * 5 + 4, none⟩ = some up)
          (first | exact ⟨by assumption, by assumption, by assumption, by assumption, by assumption, by assumption, by assumption, by assumption, by assumption, by assumption⟩ | go_keep)
          (first | (go_at_call 67; (with_reducible refine (HBN.out _ (by (repeat (first | with_reducible assumption | with_reducible exact Below.refl _ _ | with_reducible exact below_self_drewN _ _ | with_reducible refine Below.drew ?_ | with_reducible refine below_drewN ?_ _ | (with_reducible refine Below.alloc ?_ ?_ _; rotate_left; focus (first | (simp; done) | omega | (simp; omega))))))).mono ?_); rintro e wz ⟨rfl, hbz⟩; have hbr : Below wr.heap.size wr wz := Below.trans (by (repeat (first | with_reducible assumption | with_reducible exact Below.refl _ _ | with_reducible exact below_self_drewN _ _ | with_reducible refine Below.drew ?_ | with_reducible refine below_drewN ?_ _ | (with_reducible refine Below.alloc ?_ ?_ _; rotate_left; focus (first | (simp; done) | omega | (simp; omega)))))) (hbz.mono (by (first | (simp; done) | omega | (simp; omega)))); have g0 := HK.out wz hbr C0.out; have g1 := HK.out wz hbr C1.out; have g2 := HK.out wz hbr C2.out; have g3 := HK.out wz hbr C3.out; have g4 := HK.out wz hbr C4.out; have f0 := HK.out wz hbr D0.out; have f1 := HK.out wz hbr D1.out; have f2 := HK.out wz hbr D2.out; have f3 := HK.out wz hbr D3.out; have f4 := HK.out wz hbr D4.out))
        clear g0 g1 g2 g3 g4 f0 f1 f2 f3 f4
        go_wp2
        go_roundw
        case rel => exact ⟨(i : Int), by omega, by omega, rfl, HB.out.trans (hbr.mono hsz), HNE.out⟩
        case measure => simp [intOf]
    · have HF : Hid (srtB l = true) := hid (srtB_iff.2 fun i h => HR.out i (by omega) h)
      go_wp2
      go_ret
      exact ⟨ret_bool HF.out.symm, hb⟩
theorem blame_Edition (vs vl : Value) (s : Sg) (l : List En) (w : World) (hs : SignAt w vs s) (hl : EntsAt w vl l) (hs1 : s.length ≤ 1000) (hl1 : l.length ≤ 1000) :
    Calls Tryz.prog 24 #[vs, vl] w fun e w' => e = .returned (.bool (edB s l)) ∧ Below w.heap.size w w' := by
  have HV := hid (deps_Valid vs vl s l w hs hl hs1 hl1)
  have HS := hid (fun (X : World) (hX : Below w.heap.size w X) => sl_IsSorted vl l X (hl.below hX))
  have HE := hid (edB_eq s l)
  obtain ⟨la, lc, rfl, -⟩ := hl.open
  clear hl hs
  cases h : libB s l
  · have HF : Hid (edB s l = false) := hid (by rw [HE.out, h]; rfl)
    rw [h] at HV
    clear h
    go_enter Tryz.func24, Tryz.ntmps24
    go_wp2_with fail
    refine HV.out.mono ?_
    rintro e w1 ⟨rfl, hb1⟩
    go_wp2
    go_ret
    exact ⟨ret_bool HF.out.symm, hb1⟩
  · have HF : Hid (edB s l = srtB l) := hid (by rw [HE.out, h]; rfl)
    rw [h] at HV
    clear h
    go_enter Tryz.func24, Tryz.ntmps24
    go_wp2_with fail
    refine HV.out.mono ?_
    rintro e w1 ⟨rfl, hb1⟩
    have HS1 := hid (HS.out w1 hb1)
    go_wp2_with fail
    refine HS1.out.mono ?_
    rintro e w2 ⟨rfl, hb2⟩
    go_wp2
    go_ret
    exact ⟨ret_bool HF.out.symm, hb1.trans (hb2.mono hb1.size)⟩
theorem below_of_kb {B : Nat} {w V V' : World} {g : Nat} (h : Below B w V) (hk : Kb (fun k => k = g) V V') (hg : B ≤ g) (hB : B ≤ V.heap.size) : Below B w V' :=
  ⟨hk.os.trans h.os, hk.tape.trans h.tape, hk.output.trans h.output, Nat.le_trans h.size hk.size, fun q hq => (hk.same q (by omega) (by omega)).trans (h.block q hq)⟩
/-- the sorted row, whatever its length. -/
theorem sort_row (base : Nat) (u : Value) (vs : List V3) (l : List En) (w : World) (hl1 : l.length ≤ 1000) (h : EnS w base u vs l) (hbw : base ≤ w.heap.size) :
    Calls Tryz.prog 66 #[u, .func (.func 67) #[] #[]] w fun e w' => ∃ vs' l', e = .returned (.tuple #[]) ∧ EnS w' base u vs' l' ∧ l'.Perm l ∧ l'.Pairwise (fun a b => ¬ ltN b.name a.name) ∧ Below base w w' ∧ (∀ v ∈ vs', v ∈ vs) := by
  have htop := h.top
  rcases htop.2 with ⟨rfl, h0⟩ | ⟨g, cap, cur, rfl, hg, -⟩
  · have hl : l = [] := List.length_eq_zero_iff.1 h0
    subst hl
    refine (sort_ents0 none 0 _ w).mono ?_
    rintro e w' ⟨rfl, rfl⟩
    exact ⟨vs, [], rfl, h, List.Perm.refl _, by simp, Below.refl _ _, fun _ hv => hv⟩
  · refine (sort_ents base g l.length cap vs l w rfl (by omega) h).mono ?_
    rintro e w' ⟨vs', l', rfl, h1, h2, h3, h4, h5, h6⟩
    exact ⟨vs', l', rfl, h1, h3, h4, below_of_kb (Below.refl _ _) h5 hg hbw, h6⟩
end Go.Proofs.YtlbjbmpkaniojaaGreat
