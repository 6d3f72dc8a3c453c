/-
  WHAT IT HOLDS: plain facts for the reference of layer 9: how its lists come to be what the plain words on editions say. No program in sight.
  WHAT IT HOLDS: contracts of put2, used, put and Sorted of the reference of layer 9. Conditions: the arguments read as data; small libraries.
  WHAT IT HOLDS: contracts of Made and Undone of package blame. Conditions: the arguments read as data; small signs, small libraries.
  WHAT IT HOLDS: how the two lists lie that Difference of package blame works on: the changes that are put out, and the edition that they turn. No program's walk in sight.
  WHAT IT HOLDS: the contract of Difference of package blame. Conditions: the arguments read as data; small signs, small libraries.
  WHAT IT HOLDS: contracts of Edition of the reference of layer 9 and of the helper awake9 of the law TopUndone. Conditions: the arguments read as data; small signs, small libraries.
-/
import Derived.BigQuiet
import Derived.Deep.RegionHeld3
import Derived.Test.YtlbjbmpkaniojaaGreatZRBlamePlays35
import Derived.Test.YtlbjbmpkaniojaaGreatZRBlamePlays36
import Derived.Test.YtlbjbmpkaniojaaGreatZRBlamePlays38
import Derived.Test.YtlbjbmpkaniojaaGreatZRBlamePlays33
import Derived.Test.YtlbjbmpkaniojaaGreatZRBlamePlays26
import Derived.Test.YtlbjbmpkaniojaaGreatZRBlamePlays37
import Derived.Test.YtlbjbmpkaniojaaGreatZRBlamePlays27
namespace Go.Proofs.YtlbjbmpkaniojaaGreat
open Go Go.RowKit
theorem asc_adj {l : List En} (h : ∀ (i : Nat) (hi : i + 1 < l.length), ltN l[i].name l[i + 1].name) : AscE l := by
  have key : ∀ (d i : Nat) (hj : i + d + 1 < l.length), ltN (l[i]'(by omega)).name l[i + d + 1].name := by
    intro d
    induction d with
    | zero => intro i hj; exact h i (by omega)
    | succ d ih =>
      intro i hj
      exact (ih i (by omega)).trans (h (i + d + 1) (by omega))
  refine List.pairwise_iff_getElem.2 fun i j hi hj hij => ?_
  have e : j = i + (j - i - 1) + 1 := by omega
  have := key (j - i - 1) i (by omega)
  have e2 : l[i + (j - i - 1) + 1]'(by omega) = l[j] := by congr 1; omega
  rw [e2] at this
  exact this
theorem asc_next {l : List En} (h : AscE l) {i : Nat} (hi : i + 1 < l.length) : ltN (l[i]'(by omega)).name l[i + 1].name := List.pairwise_iff_getElem.1 h i (i + 1) (by omega) hi (by omega)
theorem edB_no {s : Sg} {l : List En} {i : Nat} (hi : i + 1 < l.length) (h : ¬ ltN (l[i]'(by omega)).name l[i + 1].name) : edB s l = false := by
  cases e : edB s l with
  | false => rfl
  | true => exact absurd (asc_next (edB_iff.1 e).2 hi) h
theorem edB_asc {s : Sg} {l : List En} (h : AscE l) : edB s l = libB s l := by
  unfold edB; rw [decide_eq_true h, Bool.and_true]
theorem put_lt {x y : En} {r : List En} (h : ltN x.name y.name) : putE x (y :: r) = x :: y :: r := by conv => lhs; unfold putE; rw [if_pos h]
theorem put_ge {x y : En} {r : List En} (h : ¬ ltN x.name y.name) : putE x (y :: r) = y :: putE x r := by conv => lhs; unfold putE; rw [if_neg h]
/-- what stands behind the first k entries. -/
def putR (z : Bool) (x : En) (l : List En) : List En := if z then l else putE x l
theorem putR_end (z : Bool) (x : En) : putR z x [] = if z then [] else [x] := by cases z <;> rfl
/-- the set of an entry is: out and in again. -/
theorem put_erase {l : List En} (ha : AscE l) {i : Nat} (hi : i < l.length) {x : En} (e : l[i].name = x.name) : putE x (l.eraseIdx i) = l.map (subE x) := by
  have hn : hasN (l.map En.name) x.name = true := hasE_iff.2 ⟨_, List.getElem_mem hi, e⟩
  have hne : ∀ y ∈ l.eraseIdx i, y.name ≠ x.name := by
    intro y hy h
    obtain ⟨j, hj, hji, rfl⟩ := List.mem_eraseIdx_iff_getElem.1 hy
    have h1 := idxN_nd ha.nd hi
    have h2 := idxN_nd ha.nd hj
    rw [e] at h1
    rw [h, h1] at h2
    exact hji (Option.some.inj h2).symm
  refine AscE.unique (putE_asc (List.Pairwise.sublist (List.eraseIdx_sublist l i) ha) hne) (ascE_names (sub_names x l).symm ha) fun z => ?_
  rw [putE_mem, sub_mem ha hn]
  constructor
  · rintro (h | h)
    · exact Or.inl h
    · exact Or.inr ⟨List.mem_of_mem_eraseIdx h, hne z h⟩
  · rintro (h | ⟨h1, h2⟩)
    · exact Or.inl h
    · right
      obtain ⟨j, hj, rfl⟩ := List.getElem_of_mem h1
      refine List.mem_eraseIdx_iff_getElem.2 ⟨j, hj, fun hji => ?_, rfl⟩
      subst hji; exact h2 e
theorem drop_erase {l : List En} (ha : AscE l) {i : Nat} (hi : i < l.length) {n : Nm} (e : l[i].name = n) : l.eraseIdx i = l.filter (fun x => decide (x.name ≠ n)) := by
  subst e
  refine AscE.unique (List.Pairwise.sublist (List.eraseIdx_sublist l i) ha) (List.Pairwise.sublist List.filter_sublist ha) fun x => ?_
  rw [List.mem_filter, List.mem_eraseIdx_iff_getElem]
  constructor
  · rintro ⟨j, hj, hne, rfl⟩
    refine ⟨List.getElem_mem hj, ?_⟩
    rw [decide_eq_true_eq]
    intro h
    have h1 := idxN_nd ha.nd hi
    have h2 := idxN_nd ha.nd hj
    rw [h, h1] at h2
    exact hne (Option.some.inj h2).symm
  · rintro ⟨hx, hne⟩
    obtain ⟨j, hj, rfl⟩ := List.getElem_of_mem hx
    refine ⟨j, hj, fun h => ?_, rfl⟩
    subst h; simp at hne
/-- whether an entry, but the one at an index, uses a name. -/
def usedI (l : List En) (n : Nm) (but : Int) : Bool := (List.range l.length).any fun i => !decide ((i : Int) = but) && hasN (l.getD i en0).uses n
theorem usedI_iff {l : List En} {n : Nm} {but : Int} : usedI l n but = true ↔ ∃ (i : Nat) (h : i < l.length), (i : Int) ≠ but ∧ n ∈ l[i].uses := by
  unfold usedI
  rw [List.any_eq_true]
  constructor
  · rintro ⟨i, hi, h⟩
    have hi := List.mem_range.1 hi
    rw [Bool.and_eq_true, getD_at hi] at h
    exact ⟨i, hi, by simpa using h.1, hasN_iff.1 h.2⟩
  · rintro ⟨i, hi, h1, h2⟩
    refine ⟨i, List.mem_range.2 hi, ?_⟩
    rw [Bool.and_eq_true, getD_at hi]
    exact ⟨by simpa using h1, hasN_iff.2 h2⟩
theorem usedI_at {l : List En} (hn : (l.map En.name).Nodup) {i : Nat} (hi : i < l.length) {m : Nm} (e : l[i].name = m) (n : Nm) : usedI l n i = usedB l n m := by
  subst e
  rw [Bool.eq_iff_iff, usedI_iff]
  constructor
  · rintro ⟨j, hj, h1, h2⟩
    refine Bool.of_not_eq_false fun hf => usedB_no.1 hf _ (List.getElem_mem hj) (fun h => ?_) h2
    have k1 := idxN_nd hn hi
    have k2 := idxN_nd hn hj
    rw [h, k1] at k2
    exact h1 (by rw [Option.some.inj k2])
  · intro h
    refine Classical.byContradiction fun hc => ?_
    have : usedB l n l[i].name = false := usedB_no.2 fun x hx hne hu => hc (by
      obtain ⟨j, hj, rfl⟩ := List.getElem_of_mem hx
      exact ⟨j, hj, fun h => hne (by obtain rfl : j = i := by omega
                                     rfl), hu⟩)
    rw [this] at h; cases h
theorem usedI_all {l : List En} {m : Nm} (hm : ∀ x ∈ l, x.name ≠ m) (n : Nm) : usedI l n (-1) = usedB l n m := by
  rw [Bool.eq_iff_iff, usedI_iff]
  constructor
  · rintro ⟨j, hj, h1, h2⟩
    exact Bool.of_not_eq_false fun hf => usedB_no.1 hf _ (List.getElem_mem hj) (hm _ (List.getElem_mem hj)) h2
  · intro h
    refine Classical.byContradiction fun hc => ?_
    have : usedB l n m = false := usedB_no.2 fun x hx _ hu => hc (by
      obtain ⟨j, hj, rfl⟩ := List.getElem_of_mem hx
      exact ⟨j, hj, by omega, hu⟩)
    rw [this] at h; cases h
theorem em_names {s : Sg} {l : List En} (h : LibOK s l) : ∀ x ∈ l, x.name ≠ em := fun x hx => nm_ne (h.ents x hx).name
/-- the rename of one entry as the reference does it. -/
theorem ren_at {l : List En} (hn : (l.map En.name).Nodup) {i : Nat} (hi : i < l.length) {n m : Nm} (e : l[i].name = n) {k : Nat} (hk : k < l.length) : renE n m l[k] = { name := if k = i then m else l[k].name, who := l[k].who, says := l[k].says, uses := l[k].uses.map (renN n m), proof := l[k].proof } := by
  subst e
  unfold renE renN
  congr 1
  by_cases h : k = i
  · subst h; rw [if_pos rfl, if_pos rfl]
  · rw [if_neg h, if_neg]
    intro h2
    have k1 := idxN_nd hn hi
    have k2 := idxN_nd hn hk
    rw [h2, k1] at k2
    exact h (Option.some.inj k2).symm
/-- what a change makes, as the reference tells it. -/
def doI (l : List En) (c : Chg) (i : Option Nat) : List En × Int :=
  if c.kind = 1 then (if i.isSome then ([], 6) else if 60 ≤ l.length then ([], 4) else (putE c.ent l, 0))
  else match i with
  | none => ([], 5)
  | some i =>
    if c.kind = 2 then (if l.getD i en0 = c.ent then ([], 8) else (putE c.ent (l.eraseIdx i), 0))
    else if c.kind = 4 then (if usedI l c.name i then ([], 10) else (l.eraseIdx i, 0))
    else if (idxN l c.new).isSome || usedI l c.new (-1) then ([], 6) else (srtE (l.map (renE c.name c.new)), 0)
/-- the name that a change is about. -/
def nameC (c : Chg) : Nm := if c.kind = 1 ∨ c.kind = 2 then c.ent.name else c.name
theorem doI_eq {s : Sg} {l : List En} {c : Chg} (h : edB s l = true) (hc : chgB s c = true) : doI l c (idxN l (nameC c)) = doL l c := by
  obtain ⟨hl, ha⟩ := edB_iff.1 h
  have hk := (chgB_iff.1 hc).kinds
  unfold doI doL nameC
  by_cases h1 : c.kind = 1
  · rw [if_pos h1, if_pos h1, if_pos (Or.inl h1), idxN_has]
  rw [if_neg h1, if_neg h1]
  by_cases h2 : c.kind = 2
  · rw [if_pos (Or.inr h2), if_pos h2]
    cases hi : idxN l c.ent.name with
    | none =>
      have : hasN (l.map En.name) c.ent.name = false := by rw [← idxN_has, hi]; rfl
      rw [this]; rfl
    | some i =>
      have : hasN (l.map En.name) c.ent.name = true := by rw [← idxN_has, hi]; rfl
      rw [this]
      obtain ⟨hil, e⟩ := idxN_some hi
      simp only [if_pos rfl, h2, if_true]
      rw [getD_at hil, put_erase ha hil e]
      by_cases hm : l[i] = c.ent
      · rw [if_pos hm, if_pos (hm ▸ List.getElem_mem hil)]
      · rw [if_neg hm, if_neg fun hin => hm (ha.inj (List.getElem_mem hil) hin e)]
  have h12 : ¬ (c.kind = 1 ∨ c.kind = 2) := by omega
  rw [if_neg h12, if_neg h2]
  cases hi : idxN l c.name with
  | none =>
    have : hasN (l.map En.name) c.name = false := by rw [← idxN_has, hi]; rfl
    rw [this]; simp
  | some i =>
    have : hasN (l.map En.name) c.name = true := by rw [← idxN_has, hi]; rfl
    rw [this]
    obtain ⟨hil, e⟩ := idxN_some hi
    simp only [h2, if_false, if_true]
    rw [usedI_at ha.nd hil e, usedI_all (em_names hl), drop_erase ha hil e, idxN_has]
    rcases hk with h | h | h | h
    · exact absurd h h1
    · exact absurd h h2
    · simp [h]
    · simp [h]
end Go.Proofs.YtlbjbmpkaniojaaGreat
namespace Go.Proofs.YtlbjbmpkaniojaaGreat
open Go Go.RowKit Go.Maps
set_option maxHeartbeats 2000000 in
set_option maxRecDepth 100000 in
theorem ref9_put2 (vl : Value) (l : List En) (w : World) (hl : EntsAt w vl l) (hl1 : l.length ≤ 1000) (hok : ∀ x ∈ l, EnSm x) :
    Calls Tryz.prog 108 #[vl] w fun e w' => ∃ u vs, e = .returned u ∧ EnW w' w.heap.size u vs l ∧ Below w.heap.size w w' := by
  obtain ⟨la, lc, rfl, -, ll, -, HC⟩ := hl.open
  have HC' := hid HC
  have HOK := hid hok
  have h00 := hid (EnW.nil w w.heap.size)
  clear HC hl hok
  go_enter Tryz.func108, Tryz.ntmps108
  go_wp2
  go_loopw [3, 4] (fun uo kv wr => ∃ (k : Nat) (vs : List V3), k ≤ l.length ∧ kv = .int .i64 k ∧ EnW wr w.heap.size uo vs (l.take k) ∧ Below w.heap.size w wr) (fun _ kv _ => l.length - (intOf kv).toNat)
  case atStart => exact ⟨0, [], by omega, rfl, by simpa using h00.out, Below.refl _ _⟩
  case round =>
    clear h00
    obtain ⟨m, vs, hk, rfl, hE, hb⟩ := hrel
    have hsz := hb.size
    by_cases hlt : m < l.length
    · obtain ⟨b, o, vS, vu, vp, rfl, c0, c1, c2, c3, c4, he⟩ := HC'.out m hlt
      have he' := he.below hb
      obtain ⟨sa, sc, rfl, -⟩ := he'.s.open
      obtain ⟨ua, uc, rfl, -⟩ := he'.u.open
      obtain ⟨pa, pc, rfl, -⟩ := he'.p.open
      have d0 := (hb.cell (World.block_lt_of_cell? _ _ c0)).trans c0
      have d1 := (hb.cell (World.block_lt_of_cell? _ _ c1)).trans c1
      have d2 := (hb.cell (World.block_lt_of_cell? _ _ c2)).trans c2
      have d3 := (hb.cell (World.block_lt_of_cell? _ _ c3)).trans c3
      have d4 := (hb.cell (World.block_lt_of_cell? _ _ c4)).trans c4
      obtain ⟨s0, s1, s2, s3⟩ := HOK.out _ (List.getElem_mem hlt)
      have HTK := hid (show l.take (m + 1) = l.take m ++ [l[m]] from List.take_succ_eq_append_getElem hlt)
      have hlen : (l.take m).length = m := by simp; omega
      obtain ⟨x, hx⟩ : ∃ x, l[m] = x := ⟨_, rfl⟩
      rw [hx] at d0 d1 d2 d3 d4 he' s0 s1 s2 s3 HTK
      obtain ⟨L, hL⟩ : ∃ L, l.take m = L := ⟨_, rfl⟩
      rw [hL] at hE HTK hlen
      clear c0 c1 c2 c3 c4 he hx hL
      have HCP := hid (ref9_copied (.slice sa x.says.length sc) (.slice ua x.uses.length uc) (.slice pa x.proof.length pc) x wr he' s1 s2 s3)
      have HE := hid hE
      have HB := hid hb
      have HLEN := hid hlen
      obtain ⟨ra, rc, rfl⟩ := hE.slice
      rw [hlen] at HE
      have hm0 : (L.length : Nat) = m := hlen
      clear hE hb he'
      go_wp2_with fail
      refine HCP.out.mono ?_; rintro e w2 ⟨v, rfl, ⟨vS, vU, vP, rfl, hO⟩, hb2⟩; obtain ⟨a1, k1, rfl⟩ := owns_slice hO.s; obtain ⟨a2, k2, rfl⟩ := owns_slice hO.u; obtain ⟨a3, k3, rfl⟩ := owns_slice hO.p; have HE2 := hid (HE.out.below hb2); have HBR2 := hid hb2; have HO2 := hid hO; have HB2 := hid (HB.out.trans (hb2.mono HB.out.size)); have HU := hid HE.out.top.lt; have hown2 := HE2.out.top; rw [HLEN.out] at hown2; have hownA := hown2.alloc (.cells #[.string x.name, .string x.who, .slice a1 x.says.length k1, .slice a2 x.uses.length k2, .slice a3 x.proof.length k3] 41); have HROW := hid (row_one_ent w2 (.string x.name) (.string x.who) (.slice a1 x.says.length k1) (.slice a2 x.uses.length k2) (.slice a3 x.proof.length k3) 41); have hwz := HB2.out.size; clear hO hb2 hown2
      go_wp2_with (at_builtin; go_loud (refine wpList_append_lie rfl _ _ 24 rfl w.heap.size 41 el_ent Tryz.underlying24 rfl (by decide) _ (m) (ensC L vs) rfl hownA _ 1 (enC x (.slice a1 x.says.length k1, .slice a2 x.uses.length k2, .slice a3 x.proof.length k3)) rfl HROW.out (enC_one _ _ _ _ _ _ _ _ _ _) (by omega) (by omega) (by omega) (by simp; omega) _ rfl ?_; intro g cap w4 hown4 hgrow4 hat4 hlt4; have hB4 := (HB2.out.alloc HB2.out.size (.cells #[.string x.name, .string x.who, .slice a1 x.says.length k1, .slice a2 x.uses.length k2, .slice a3 x.proof.length k3] 41)).grown hgrow4 (by simp; omega) (fun q hq => (HU.out q hq).1)))
      go_roundw
      case rel =>
        have hba : Below w2.heap.size w2 (w2.alloc (.cells #[.string x.name, .string x.who, .slice a1 x.says.length k1, .slice a2 x.uses.length k2, .slice a3 x.proof.length k3] 41)) := (Below.refl _ _).alloc (Nat.le_refl _) _; have hE4 := HE.out.push (w1 := w2.alloc _) (HBR2.out.trans (hba.mono HBR2.out.size)) (HO2.out.blocks (Nat.le_refl _) fun q _ hq => hba.block q hq) HB.out.size HLEN.out.symm hown4 hgrow4
        exact ⟨m + 1, vs ++ [(.slice a1 x.says.length k1, .slice a2 x.uses.length k2, .slice a3 x.proof.length k3)], by omega, by go_num, by rw [HTK.out]; exact hE4, hB4⟩
      case measure => simp [intOf]; omega
    · have hkl : m = l.length := by omega
      subst hkl
      rw [List.take_of_length_le (Nat.le_refl _)] at hE
      have HE := hid hE
      clear hE
      go_wp2
      go_ret
      exact ⟨_, vs, rfl, HE.out, hb⟩
set_option maxHeartbeats 2000000 in
theorem ref9_used (vl : Value) (l : List En) (n : Nm) (but : Int) (w : World) (hl : EntsAt w vl l) :
    Calls Tryz.prog 81 #[vl, .string n, .int .i64 but] w fun e w' => e = .returned (.bool (usedI l n but)) ∧ w = w' := by
  obtain ⟨la, lc, rfl, -, ll, -, HC⟩ := hl.open
  have HC' := hid HC
  clear HC hl
  go_enter Tryz.func81, Tryz.ntmps81
  go_wp2
  go_loop [7] (fun i => ∃ k : Nat, k ≤ l.length ∧ i = .int .i64 k ∧ ∀ j (hj : j < l.length), j < k → (j : Int) ≠ but → n ∉ l[j].uses) (fun i => l.length - (intOf i).toNat)
  case atStart => exact ⟨0, by omega, rfl, fun j _ h => absurd h (by omega)⟩
  case round =>
    obtain ⟨k, hk, rfl, hrel⟩ := hrel
    have HR := hid hrel
    clear hrel
    by_cases hlt : k < l.length
    · obtain ⟨b, o, vS, vu, vp, rfl, c0, c1, c2, c3, c4, he⟩ := HC'.out k hlt
      have HH := hid (ref6_Has vu l[k].uses n w he.u)
      have HF := hid (fun (h1 : (k : Int) ≠ but) (h2 : n ∈ l[k].uses) => (usedI_iff (l := l) (n := n) (but := but)).2 ⟨k, hlt, h1, h2⟩)
      obtain ⟨ua, uc, rfl, -⟩ := he.u.open
      have HIF := hid (hasN_iff (l := l[k].uses) (n := n))
      have HNO := hid (hasN_no (l := l[k].uses) (n := n))
      obtain ⟨z, hz⟩ : ∃ z, hasN l[k].uses n = z := ⟨_, rfl⟩
      rw [hz] at HH HIF HNO
      have y0 : (k : Int) < (l.length : Int) := by omega
      clear c0 c1 c2 c4 he hz
      by_cases hbut : (k : Int) = but
      · have q1 : ((k : Int) != but) = false := by simpa using hbut
        have HBT := hid hbut
        clear hbut HH
        go_wp2
        go_round
        case rel =>
          refine ⟨k + 1, by omega, by go_num, fun j hj hjk hne => ?_⟩
          by_cases e : j = k
          · subst e; exact absurd HBT.out hne
          · exact HR.out j hj (by omega) hne
        case measure => simp [intOf]; omega
      · have q1 : ((k : Int) != but) = true := by simpa using hbut
        have HBT := hid hbut
        clear hbut
        cases z with
        | true =>
          have HU := hid (HF.out HBT.out (HIF.out.1 rfl))
          go_wp2_with (go_at_call 63; refine HH.out.mono ?_; rintro e w2 ⟨rfl, rfl⟩)
          go_ret
          exact ⟨ret_bool HU.out.symm, rfl⟩
        | false =>
          have HU := hid (HNO.out.1 rfl)
          go_wp2_with (go_at_call 63; refine HH.out.mono ?_; rintro e w2 ⟨rfl, rfl⟩)
          go_round
          case rel =>
            refine ⟨k + 1, by omega, by go_num, fun j hj hjk hne => ?_⟩
            by_cases e : j = k
            · subst e; exact HU.out
            · exact HR.out j hj (by omega) hne
          case measure => simp [intOf]; omega
    · have HF : Hid (usedI l n but = false) := hid (by
        rw [Bool.eq_false_iff]
        intro h
        obtain ⟨j, hj, h1, h2⟩ := usedI_iff.1 h
        exact HR.out j hj (by omega) h1 h2)
      go_wp2
      go_ret
      exact ⟨ret_bool HF.out.symm, rfl⟩
set_option maxHeartbeats 8000000 in
set_option maxRecDepth 100000 in
theorem ref9_put (vl vS vU vP : Value) (l : List En) (x : En) (w : World) (hl : EntsAt w vl l) (hx : EntAt w vS vU vP x) (hl1 : l.length ≤ 900) (hok : ∀ y ∈ l, EnSm y) (hok2 : EnSm x) :
    Calls Tryz.prog 69 #[vl, .agg #[.string x.name, .string x.who, vS, vU, vP]] w fun e w' => ∃ u, e = .returned u ∧ EntsAt w' u (putE x l) ∧ Below w.heap.size w w' := by
  obtain ⟨la, lc, rfl, -, ll, -, HC⟩ := hl.open
  obtain ⟨qa, qc, rfl, -⟩ := hx.s.open
  obtain ⟨ra, rc, rfl, -⟩ := hx.u.open
  obtain ⟨oa, oc, rfl, -⟩ := hx.p.open
  have EB0 := EB.new w x (.slice qa x.says.length qc) (.slice ra x.uses.length rc) (.slice oa x.proof.length oc) 41
  obtain ⟨V, hV⟩ : ∃ V, w.alloc (.cells #[.string x.name, .string x.who, .slice qa x.says.length qc, .slice ra x.uses.length rc, .slice oa x.proof.length oc] 41) = V := ⟨_, rfl⟩
  have hbV : Below w.heap.size w V := hV ▸ (Below.refl _ _).alloc (Nat.le_refl _) _
  rw [hV] at EB0
  have HV := hid hV
  have HBV := hid hbV
  have HEB := hid EB0
  have HC' := hid HC
  have HOK := hid hok
  have HXX := hid (hx.below hbV)
  have h00 := hid (EnW.nil V V.heap.size)
  obtain ⟨t0, t1, t2, t3⟩ := hok2
  have HT := hid (And.intro t1 (And.intro t2 t3))
  clear HC hl hok hV hbV hx EB0 t0 t1 t2 t3
  go_enter Tryz.func69, Tryz.ntmps69
  go_wp2_with (rw [HV.out])
  go_loopw [5, 6, 7] (fun uo zv kv wr => ∃ (k m : Nat) (z : Bool) (O : List En) (vs : List V3), k ≤ l.length ∧ kv = .int .i64 k ∧ zv = .bool z ∧ EnW wr V.heap.size uo vs O ∧ putE x l = O ++ putR z x (l.drop k) ∧ O.length = m ∧ (m ≤ k + 1 ∧ (z = false → m ≤ k)) ∧ Below V.heap.size V wr) (fun _ _ kv _ => l.length - (intOf kv).toNat)
  case atStart => exact ⟨0, 0, false, [], [], by omega, rfl, rfl, h00.out, rfl, rfl, by omega, Below.refl _ _⟩
  case round =>
    clear h00
    obtain ⟨k, m, z, O, vs, hk, rfl, rfl, hE, hput, hlen, ⟨hm1, hmz⟩, hb⟩ := hrel
    have HMZ := hid hmz
    clear hmz
    have hsz := hb.size
    have HPUT := hid hput
    have HE := hid hE
    have HB := hid hb
    have HLEN := hid hlen
    obtain ⟨xa, xc, rfl⟩ : ∃ a c, u5 = .slice a m c := hlen ▸ hE.slice
    obtain ⟨c0, c1, c2, c3, c4⟩ := HEB.out.below hb
    clear hput hE hb hlen
    by_cases hlt : k < l.length
    · obtain ⟨b, o, vS, vu, vp, rfl, d0, d1, d2, d3, d4, he⟩ := HC'.out k hlt
      have he' := he.below (HBV.out.trans (HB.out.mono HBV.out.size))
      obtain ⟨sa, sc, rfl, -⟩ := he'.s.open
      obtain ⟨ua, uc, rfl, -⟩ := he'.u.open
      obtain ⟨pa, pc, rfl, -⟩ := he'.p.open
      have HBB := hid (HBV.out.trans (HB.out.mono HBV.out.size))
      have D0 := hid d0
      have D1 := hid d1
      have D2 := hid d2
      have D3 := hid d3
      have D4 := hid d4
      have HDK := hid (fun (X : World) (hX : Below V.heap.size V X) => (fun {p : Addr} {u : Value} (h : w.cell? p = some u) => ((HBV.out.trans (hX.mono HBV.out.size)).cell (World.block_lt_of_cell? _ _ h)).trans h))
      have HHE := hid he
      replace d0 := HDK.out wr HB.out D0.out
      replace d1 := HDK.out wr HB.out D1.out
      replace d2 := HDK.out wr HB.out D2.out
      replace d3 := HDK.out wr HB.out D3.out
      replace d4 := HDK.out wr HB.out D4.out
      obtain ⟨s0, s1, s2, s3⟩ := HOK.out _ (List.getElem_mem hlt)
      have hdr : l.drop k = l[k] :: l.drop (k + 1) := List.drop_eq_getElem_cons hlt
      rw [hdr] at HPUT
      obtain ⟨y, hy⟩ : ∃ y, l[k] = y := ⟨_, rfl⟩
      rw [hy] at d0 d1 d2 d3 d4 s0 s1 s2 s3 HPUT D0 D1 D2 D3 D4 HHE
      have HSS := hid (And.intro s1 (And.intro s2 s3))
      have HCY := hid (fun (X : World) (hX : Below V.heap.size V X) => ref9_copied _ _ _ y X (HHE.out.below (HBV.out.trans (hX.mono HBV.out.size))) HSS.out.1 HSS.out.2.1 HSS.out.2.2)
      have HCX := hid (fun (X : World) (hX : Below V.heap.size V X) => ref9_copied _ _ _ x X (HXX.out.below hX) HT.out.1 HT.out.2.1 HT.out.2.2)
      have y0 : (k : Int) < (l.length : Int) := by omega
      clear he hy hdr he' s0 s1 s2 s3
      cases z with
      | true =>
        have HP1 : Hid (putE x l = (O ++ [y]) ++ putR true x (l.drop (k + 1))) := hid (by rw [HPUT.out, List.append_assoc]; rfl)
        clear HPUT
        go_wp2
        go_quiet (fail)
        have hbn := below_self_drewN wr nq; obtain ⟨wq, hwq⟩ : ∃ wq, wr.drewN nq = wq := ⟨_, rfl⟩; rw [hwq] at hbn ⊢; have HE := hid (HE.out.below hbn); have HB := hid (HB.out.trans (hbn.mono hsz)); clear c0 c1 c2 c3 c4 d0 d1 d2 d3 d4; obtain ⟨c0, c1, c2, c3, c4⟩ := HEB.out.below HB.out; have d0 := HDK.out wq HB.out D0.out; have d1 := HDK.out wq HB.out D1.out; have d2 := HDK.out wq HB.out D2.out; have d3 := HDK.out wq HB.out D3.out; have d4 := HDK.out wq HB.out D4.out; clear hbn hwq
        have HCP := hid (HCY.out wq HB.out)
        go_wp2_with fail
        refine HCP.out.mono ?_; rintro e w2 ⟨v, rfl, ⟨vS, vU, vP, rfl, hO⟩, hb2⟩; obtain ⟨a1, k1, rfl⟩ := owns_slice hO.s; obtain ⟨a2, k2, rfl⟩ := owns_slice hO.u; obtain ⟨a3, k3, rfl⟩ := owns_slice hO.p; have HE2 := hid (HE.out.below hb2); have HBR2 := hid hb2; have HO2 := hid hO; have HB2 := hid (HB.out.trans (hb2.mono HB.out.size)); have HU := hid HE.out.top.lt; have hown2 := HE2.out.top; rw [HLEN.out] at hown2; have hownA := hown2.alloc (.cells #[.string y.name, .string y.who, .slice a1 y.says.length k1, .slice a2 y.uses.length k2, .slice a3 y.proof.length k3] 41); have HROW := hid (row_one_ent w2 (.string y.name) (.string y.who) (.slice a1 y.says.length k1) (.slice a2 y.uses.length k2) (.slice a3 y.proof.length k3) 41); have hwz := HB2.out.size; clear hO hb2 hown2
        go_wp2_with (at_builtin; go_loud (refine wpList_append_lie rfl _ _ 24 rfl V.heap.size 41 el_ent Tryz.underlying24 rfl (by decide) _ (m) (ensC O vs) rfl hownA _ 1 (enC y (.slice a1 y.says.length k1, .slice a2 y.uses.length k2, .slice a3 y.proof.length k3)) rfl HROW.out (enC_one _ _ _ _ _ _ _ _ _ _) (by omega) (by omega) (by omega) (by simp; omega) _ rfl ?_; intro g cap w4 hown4 hgrow4 hat4 hlt4; have hB4 := (HB2.out.alloc HB2.out.size (.cells #[.string y.name, .string y.who, .slice a1 y.says.length k1, .slice a2 y.uses.length k2, .slice a3 y.proof.length k3] 41)).grown hgrow4 (by simp; omega) (fun q hq => (HU.out q hq).1)))
        go_roundw
        case rel =>
          have hba : Below w2.heap.size w2 (w2.alloc (.cells #[.string y.name, .string y.who, .slice a1 y.says.length k1, .slice a2 y.uses.length k2, .slice a3 y.proof.length k3] 41)) := (Below.refl _ _).alloc (Nat.le_refl _) _; have hE4 := HE.out.push (w1 := w2.alloc _) (HBR2.out.trans (hba.mono HBR2.out.size)) (HO2.out.blocks (Nat.le_refl _) fun q _ hq => hba.block q hq) HB.out.size HLEN.out.symm hown4 hgrow4
          exact ⟨k + 1, m + 1, true, O ++ [y], _, by omega, by go_num, rfl, hE4, HP1.out, by rw [List.length_append, HLEN.out]; rfl, ⟨by omega, by first | (intro h; cases h; done) | (intro _; omega)⟩, hB4⟩
        case measure => simp [intOf]; omega
      | false =>
        have hmk : m ≤ k := HMZ.out rfl
        by_cases hgt : ltN x.name y.name
        · have q1 := ble' (x := y.name) (y := x.name) hgt
          have HP1 : Hid (putE x l = (O ++ [x] ++ [y]) ++ putR true x (l.drop (k + 1))) := hid (by rw [HPUT.out]; show O ++ putE x (y :: l.drop (k + 1)) = _; rw [put_lt hgt, List.append_assoc, List.append_assoc]; rfl)
          clear HPUT hgt
          go_wp2
          go_quiet (fail)
          have hbn := below_self_drewN wr nq; obtain ⟨wq, hwq⟩ : ∃ wq, wr.drewN nq = wq := ⟨_, rfl⟩; rw [hwq] at hbn ⊢; have HE := hid (HE.out.below hbn); have HB := hid (HB.out.trans (hbn.mono hsz)); clear c0 c1 c2 c3 c4 d0 d1 d2 d3 d4; obtain ⟨c0, c1, c2, c3, c4⟩ := HEB.out.below HB.out; have d0 := HDK.out wq HB.out D0.out; have d1 := HDK.out wq HB.out D1.out; have d2 := HDK.out wq HB.out D2.out; have d3 := HDK.out wq HB.out D3.out; have d4 := HDK.out wq HB.out D4.out; clear hbn hwq
          have HCP := hid (HCX.out wq HB.out)
          go_wp2_with fail
          refine HCP.out.mono ?_; rintro e w2 ⟨v, rfl, ⟨vS, vU, vP, rfl, hO⟩, hb2⟩; obtain ⟨a1, k1, rfl⟩ := owns_slice hO.s; obtain ⟨a2, k2, rfl⟩ := owns_slice hO.u; obtain ⟨a3, k3, rfl⟩ := owns_slice hO.p; have HE2 := hid (HE.out.below hb2); have HBR2 := hid hb2; have HO2 := hid hO; have HB2 := hid (HB.out.trans (hb2.mono HB.out.size)); have HU := hid HE.out.top.lt; have hown2 := HE2.out.top; rw [HLEN.out] at hown2; have hownA := hown2.alloc (.cells #[.string x.name, .string x.who, .slice a1 x.says.length k1, .slice a2 x.uses.length k2, .slice a3 x.proof.length k3] 41); have HROW := hid (row_one_ent w2 (.string x.name) (.string x.who) (.slice a1 x.says.length k1) (.slice a2 x.uses.length k2) (.slice a3 x.proof.length k3) 41); have hwz := HB2.out.size; clear hO hb2 hown2
          go_wp2_with (at_builtin; go_loud (refine wpList_append_lie rfl _ _ 24 rfl V.heap.size 41 el_ent Tryz.underlying24 rfl (by decide) _ (m) (ensC O vs) rfl hownA _ 1 (enC x (.slice a1 x.says.length k1, .slice a2 x.uses.length k2, .slice a3 x.proof.length k3)) rfl HROW.out (enC_one _ _ _ _ _ _ _ _ _ _) (by omega) (by omega) (by omega) (by simp; omega) _ rfl ?_; intro g cap w4 hown4 hgrow4 hat4 hlt4; have hB4 := (HB2.out.alloc HB2.out.size (.cells #[.string x.name, .string x.who, .slice a1 x.says.length k1, .slice a2 x.uses.length k2, .slice a3 x.proof.length k3] 41)).grown hgrow4 (by simp; omega) (fun q hq => (HU.out q hq).1); have d0 := HDK.out w4 hB4 D0.out; have d1 := HDK.out w4 hB4 D1.out; have d2 := HDK.out w4 hB4 D2.out; have d3 := HDK.out w4 hB4 D3.out; have d4 := HDK.out w4 hB4 D4.out))
          have hba : Below w2.heap.size w2 (w2.alloc (.cells #[.string x.name, .string x.who, .slice a1 x.says.length k1, .slice a2 x.uses.length k2, .slice a3 x.proof.length k3] 41)) := (Below.refl _ _).alloc (Nat.le_refl _) _; have hE4 := HE.out.push (w1 := w2.alloc _) (HBR2.out.trans (hba.mono HBR2.out.size)) (HO2.out.blocks (Nat.le_refl _) fun q _ hq => hba.block q hq) HB.out.size HLEN.out.symm hown4 hgrow4
          have hlen1 : (O ++ [x]).length = m + 1 := by rw [List.length_append, HLEN.out]; rfl
          have HE := hid hE4
          have HB := hid hB4
          have HLEN := hid hlen1
          have HCP := hid (HCY.out w4 HB.out)
          clear hE4 hB4 hlen1 hown4 hgrow4 hba
          obtain ⟨O1, hO1⟩ : ∃ O1, O ++ [x] = O1 := ⟨_, rfl⟩
          obtain ⟨vs1, hvs1⟩ : ∃ vs1, vs ++ [(Value.slice a1 x.says.length k1, Value.slice a2 x.uses.length k2, Value.slice a3 x.proof.length k3)] = vs1 := ⟨_, rfl⟩
          rw [hO1, hvs1] at HE
          rw [hO1] at HLEN HP1
          clear hO1 hvs1
          refine HCP.out.mono ?_; rintro e w5 ⟨v, rfl, ⟨vS, vU, vP, rfl, hO⟩, hb2⟩; obtain ⟨a1, k1, rfl⟩ := owns_slice hO.s; obtain ⟨a2, k2, rfl⟩ := owns_slice hO.u; obtain ⟨a3, k3, rfl⟩ := owns_slice hO.p; have HE2 := hid (HE.out.below hb2); have HBR2 := hid hb2; have HO2 := hid hO; have HB2 := hid (HB.out.trans (hb2.mono HB.out.size)); have HU := hid HE.out.top.lt; have hown2 := HE2.out.top; rw [HLEN.out] at hown2; have hownA := hown2.alloc (.cells #[.string y.name, .string y.who, .slice a1 y.says.length k1, .slice a2 y.uses.length k2, .slice a3 y.proof.length k3] 41); have HROW := hid (row_one_ent w5 (.string y.name) (.string y.who) (.slice a1 y.says.length k1) (.slice a2 y.uses.length k2) (.slice a3 y.proof.length k3) 41); have hwz := HB2.out.size; clear hO hb2 hown2
          go_wp2_with (at_builtin; go_loud (refine wpList_append_lie rfl _ _ 24 rfl V.heap.size 41 el_ent Tryz.underlying24 rfl (by decide) _ (m + 1) (ensC O1 vs1) rfl hownA _ 1 (enC y (.slice a1 y.says.length k1, .slice a2 y.uses.length k2, .slice a3 y.proof.length k3)) rfl HROW.out (enC_one _ _ _ _ _ _ _ _ _ _) (by omega) (by omega) (by omega) (by simp; omega) _ rfl ?_; intro g cap w4 hown4 hgrow4 hat4 hlt4; have hB4 := (HB2.out.alloc HB2.out.size (.cells #[.string y.name, .string y.who, .slice a1 y.says.length k1, .slice a2 y.uses.length k2, .slice a3 y.proof.length k3] 41)).grown hgrow4 (by simp; omega) (fun q hq => (HU.out q hq).1)))
          go_roundw
          case rel =>
            have hba : Below w5.heap.size w5 (w5.alloc (.cells #[.string y.name, .string y.who, .slice a1 y.says.length k1, .slice a2 y.uses.length k2, .slice a3 y.proof.length k3] 41)) := (Below.refl _ _).alloc (Nat.le_refl _) _; have hE4 := HE.out.push (w1 := w5.alloc _) (HBR2.out.trans (hba.mono HBR2.out.size)) (HO2.out.blocks (Nat.le_refl _) fun q _ hq => hba.block q hq) HB.out.size HLEN.out.symm hown4 hgrow4
            exact ⟨k + 1, m + 1 + 1, true, O1 ++ [y], _, by omega, by go_num, rfl, hE4, HP1.out, by rw [List.length_append, HLEN.out]; rfl, ⟨by omega, by first | (intro h; cases h; done) | (intro _; omega)⟩, hB4⟩
          case measure => simp [intOf]; omega
        · have q1 := ble (x := y.name) (y := x.name) hgt
          have HP1 : Hid (putE x l = (O ++ [y]) ++ putR false x (l.drop (k + 1))) := hid (by rw [HPUT.out]; show O ++ putE x (y :: l.drop (k + 1)) = _; rw [put_ge hgt, List.append_assoc]; rfl)
          clear HPUT hgt
          go_wp2
          go_quiet (fail)
          have hbn := below_self_drewN wr nq; obtain ⟨wq, hwq⟩ : ∃ wq, wr.drewN nq = wq := ⟨_, rfl⟩; rw [hwq] at hbn ⊢; have HE := hid (HE.out.below hbn); have HB := hid (HB.out.trans (hbn.mono hsz)); clear c0 c1 c2 c3 c4 d0 d1 d2 d3 d4; obtain ⟨c0, c1, c2, c3, c4⟩ := HEB.out.below HB.out; have d0 := HDK.out wq HB.out D0.out; have d1 := HDK.out wq HB.out D1.out; have d2 := HDK.out wq HB.out D2.out; have d3 := HDK.out wq HB.out D3.out; have d4 := HDK.out wq HB.out D4.out; clear hbn hwq
          have HCP := hid (HCY.out wq HB.out)
          go_wp2_with fail
          refine HCP.out.mono ?_; rintro e w2 ⟨v, rfl, ⟨vS, vU, vP, rfl, hO⟩, hb2⟩; obtain ⟨a1, k1, rfl⟩ := owns_slice hO.s; obtain ⟨a2, k2, rfl⟩ := owns_slice hO.u; obtain ⟨a3, k3, rfl⟩ := owns_slice hO.p; have HE2 := hid (HE.out.below hb2); have HBR2 := hid hb2; have HO2 := hid hO; have HB2 := hid (HB.out.trans (hb2.mono HB.out.size)); have HU := hid HE.out.top.lt; have hown2 := HE2.out.top; rw [HLEN.out] at hown2; have hownA := hown2.alloc (.cells #[.string y.name, .string y.who, .slice a1 y.says.length k1, .slice a2 y.uses.length k2, .slice a3 y.proof.length k3] 41); have HROW := hid (row_one_ent w2 (.string y.name) (.string y.who) (.slice a1 y.says.length k1) (.slice a2 y.uses.length k2) (.slice a3 y.proof.length k3) 41); have hwz := HB2.out.size; clear hO hb2 hown2
          go_wp2_with (at_builtin; go_loud (refine wpList_append_lie rfl _ _ 24 rfl V.heap.size 41 el_ent Tryz.underlying24 rfl (by decide) _ (m) (ensC O vs) rfl hownA _ 1 (enC y (.slice a1 y.says.length k1, .slice a2 y.uses.length k2, .slice a3 y.proof.length k3)) rfl HROW.out (enC_one _ _ _ _ _ _ _ _ _ _) (by omega) (by omega) (by omega) (by simp; omega) _ rfl ?_; intro g cap w4 hown4 hgrow4 hat4 hlt4; have hB4 := (HB2.out.alloc HB2.out.size (.cells #[.string y.name, .string y.who, .slice a1 y.says.length k1, .slice a2 y.uses.length k2, .slice a3 y.proof.length k3] 41)).grown hgrow4 (by simp; omega) (fun q hq => (HU.out q hq).1)))
          go_roundw
          case rel =>
            have hba : Below w2.heap.size w2 (w2.alloc (.cells #[.string y.name, .string y.who, .slice a1 y.says.length k1, .slice a2 y.uses.length k2, .slice a3 y.proof.length k3] 41)) := (Below.refl _ _).alloc (Nat.le_refl _) _; have hE4 := HE.out.push (w1 := w2.alloc _) (HBR2.out.trans (hba.mono HBR2.out.size)) (HO2.out.blocks (Nat.le_refl _) fun q _ hq => hba.block q hq) HB.out.size HLEN.out.symm hown4 hgrow4
            exact ⟨k + 1, m + 1, false, O ++ [y], _, by omega, by go_num, rfl, hE4, HP1.out, by rw [List.length_append, HLEN.out]; rfl, ⟨by omega, by first | (intro h; cases h; done) | (intro _; omega)⟩, hB4⟩
          case measure => simp [intOf]; omega
    · have hkl : k = l.length := by omega
      subst hkl
      rw [List.drop_of_length_le (Nat.le_refl _), putR_end] at HPUT
      cases z with
      | true =>
        have HP1 : Hid (putE x l = O) := hid (by rw [HPUT.out]; simp)
        clear HPUT
        go_wp2
        go_ret
        exact ⟨_, rfl, by rw [HP1.out]; exact HE.out.ents (by have := HLEN.out; omega), HBV.out.trans (HB.out.mono HBV.out.size)⟩
      | false =>
        have HP1 : Hid (putE x l = O ++ [x]) := hid (by rw [HPUT.out]; simp)
        have HCP := hid (ref9_copied _ _ _ x wr (HXX.out.below HB.out) HT.out.1 HT.out.2.1 HT.out.2.2)
        clear HPUT
        go_wp2_with fail
        refine HCP.out.mono ?_; rintro e w2 ⟨v, rfl, ⟨vS, vU, vP, rfl, hO⟩, hb2⟩; obtain ⟨a1, k1, rfl⟩ := owns_slice hO.s; obtain ⟨a2, k2, rfl⟩ := owns_slice hO.u; obtain ⟨a3, k3, rfl⟩ := owns_slice hO.p; have HE2 := hid (HE.out.below hb2); have HBR2 := hid hb2; have HO2 := hid hO; have HB2 := hid (HB.out.trans (hb2.mono HB.out.size)); have HU := hid HE.out.top.lt; have hown2 := HE2.out.top; rw [HLEN.out] at hown2; have hownA := hown2.alloc (.cells #[.string x.name, .string x.who, .slice a1 x.says.length k1, .slice a2 x.uses.length k2, .slice a3 x.proof.length k3] 41); have HROW := hid (row_one_ent w2 (.string x.name) (.string x.who) (.slice a1 x.says.length k1) (.slice a2 x.uses.length k2) (.slice a3 x.proof.length k3) 41); have hwz := HB2.out.size; clear hO hb2 hown2
        go_wp2_with (at_builtin; go_loud (refine wpList_append_lie rfl _ _ 24 rfl V.heap.size 41 el_ent Tryz.underlying24 rfl (by decide) _ (m) (ensC O vs) rfl hownA _ 1 (enC x (.slice a1 x.says.length k1, .slice a2 x.uses.length k2, .slice a3 x.proof.length k3)) rfl HROW.out (enC_one _ _ _ _ _ _ _ _ _ _) (by omega) (by omega) (by omega) (by simp; omega) _ rfl ?_; intro g cap w4 hown4 hgrow4 hat4 hlt4; have hB4 := (HB2.out.alloc HB2.out.size (.cells #[.string x.name, .string x.who, .slice a1 x.says.length k1, .slice a2 x.uses.length k2, .slice a3 x.proof.length k3] 41)).grown hgrow4 (by simp; omega) (fun q hq => (HU.out q hq).1)))
        go_ret
        have hba : Below w2.heap.size w2 (w2.alloc (.cells #[.string x.name, .string x.who, .slice a1 x.says.length k1, .slice a2 x.uses.length k2, .slice a3 x.proof.length k3] 41)) := (Below.refl _ _).alloc (Nat.le_refl _) _; have hE4 := HE.out.push (w1 := w2.alloc _) (HBR2.out.trans (hba.mono HBR2.out.size)) (HO2.out.blocks (Nat.le_refl _) fun q _ hq => hba.block q hq) HB.out.size HLEN.out.symm hown4 hgrow4
        exact ⟨_, rfl, by rw [HP1.out]; exact hE4.ents (by rw [List.length_append, HLEN.out]; simp; omega), HBV.out.trans (hB4.mono HBV.out.size)⟩
end Go.Proofs.YtlbjbmpkaniojaaGreat
namespace Go.Proofs.YtlbjbmpkaniojaaGreat
open Go Go.RowKit Go.Maps
/-- a change of the call's own: what its entry holds lies in blocks from 'base' on. -/
def UnQ (base : Nat) (R : Chg × Int) (w : World) (e : Ending) (w' : World) : Prop := ∃ vS vU vP, e = .returned (.tuple #[chV R.1 vS vU vP, .int .i64 R.2]) ∧ EntO w' base vS vU vP R.1.ent ∧ Below base w w'
theorem UnQ.mk {base : Nat} {R : Chg × Int} {w w' : World} {e : Ending} (c : Chg) (er : Int) (vS vU vP : Value) (hR : R = (c, er)) (h1 : e = .returned (.tuple #[chV c vS vU vP, .int .i64 er])) (h2 : EntO w' base vS vU vP c.ent) (h3 : Below base w w') : UnQ base R w e w' := by
  subst hR; exact ⟨vS, vU, vP, h1, h2, h3⟩
theorem BX.drew {w : World} {b : Nat} {xs : List Value} (h : BX w b xs) : BX w.drew b xs := ⟨h.c, h.z⟩
def z9 : List Value := [.int .i64 0, .string ⟨#[]⟩, .string ⟨#[]⟩, .string ⟨#[]⟩, .string ⟨#[]⟩, .string ⟨#[]⟩, .slice none 0 0, .slice none 0 0, .slice none 0 0]
end Go.Proofs.YtlbjbmpkaniojaaGreat
namespace Go.Proofs.YtlbjbmpkaniojaaGreat
open Go Go.RowKit Go.Maps
/-- the blocks of an entry. -/
def blkV (v : V3) (q : Nat) : Prop := v.1.ownBlock = some q ∨ v.2.1.ownBlock = some q ∨ v.2.2.ownBlock = some q
/-- a list of changes of the call's own, all that it holds in blocks from 'base' on. -/
structure ChO (w : World) (base : Nat) (u : Value) (vs : List V3) (l : List Chg) : Prop where
  top : w.ownsRow base 43 9 u l.length (chsC l vs)
  len : vs.length = l.length
  rd : ∀ (j : Nat) (h : j < l.length) (h' : j < vs.length), ChgAt w vs[j].1 vs[j].2.1 vs[j].2.2 l[j]
  av : ∀ v ∈ vs, ∀ q, blkV v q → base ≤ q ∧ q < w.heap.size ∧ some q ≠ u.ownBlock
theorem ChO.nil (w : World) (base : Nat) : ChO w base (.slice none 0 0) [] [] := ⟨World.ownsRow_nil _ _ _ _, rfl, fun j h => by simp at h, fun v hv => by cases hv⟩
theorem ChO.slice {w : World} {base : Nat} {u : Value} {vs : List V3} {l : List Chg} (h : ChO w base u vs l) : ∃ a c, u = .slice a l.length c := owns_slice h.top
theorem ChgAt.blocks {w W' : World} {v : V3} {c : Chg} (h : ChgAt w v.1 v.2.1 v.2.2 c) (hs : ∀ q, blkV v q → q < w.heap.size → W'.heap[q]? = w.heap[q]?) : ChgAt W' v.1 v.2.1 v.2.2 c := ⟨h.e.blocks hs, h.n1, h.n2, h.n3⟩
/-- kept where the blocks from 'base' on are as they were. -/
theorem ChO.keep {w W' : World} {base : Nat} {u : Value} {vs : List V3} {l : List Chg} (h : ChO w base u vs l) (hs : ∀ q, base ≤ q → q < w.heap.size → W'.heap[q]? = w.heap[q]?) (hz : w.heap.size ≤ W'.heap.size) : ChO W' base u vs l :=
  ⟨owns_blocks h.top fun q h1 h2 _ => hs q h1 h2, h.len, fun j h1 h2 => (h.rd j h1 h2).blocks fun q hq hlt => hs q (h.av _ (List.getElem_mem h2) q hq).1 hlt, fun v hv q hq => ⟨(h.av v hv q hq).1, Nat.lt_of_lt_of_le (h.av v hv q hq).2.1 hz, (h.av v hv q hq).2.2⟩⟩
theorem ChO.below {w w' : World} {base : Nat} {u : Value} {vs : List V3} {l : List Chg} (h : ChO w base u vs l) (hb : Below w.heap.size w w') : ChO w' base u vs l := h.keep (fun q _ hq => hb.block q hq) hb.size
theorem ChO.push {w w2 : World} {base : Nat} {u : Value} {vs : List V3} {l : List Chg} (h : ChO w base u vs l) {x : Chg} {v : V3}
    (hx : ChgAt w v.1 v.2.1 v.2.2 x) (hv : ∀ q, blkV v q → base ≤ q ∧ q < w.heap.size ∧ some q ≠ u.ownBlock)
    {g cap n : Nat} (hn : n = l.length) (hown : w2.ownsRow base 43 9 (.slice (some ⟨g, 0, none⟩) (n + 1) cap) (n + 1) (chsC l vs ++ chC x v)) (hg : w.grownBy w2 u.ownBlock) {H : Nat} (hH : H = w.heap.size) (hat : u.ownBlock = some g ∨ g = H) :
    ChO w2 base (.slice (some ⟨g, 0, none⟩) (n + 1) cap) (vs ++ [v]) (l ++ [x]) := by
  subst hn
  have hav : ∀ z ∈ vs ++ [v], ∀ q, blkV z q → base ≤ q ∧ q < w.heap.size ∧ some q ≠ u.ownBlock := by
    intro z hz q hq
    rcases List.mem_append.1 hz with hz | hz
    · exact h.av z hz q hq
    · simp at hz; subst hz; exact hv q hq
  have hsame : ∀ z ∈ vs ++ [v], ∀ q, blkV z q → q < w.heap.size → w2.heap[q]? = w.heap[q]? := fun z hz q hq hlt => hg.block q hlt (hav z hz q hq).2.2
  refine ⟨by rw [chsC_snoc _ _ _ _ h.len]; simpa using hown, by simp [h.len], fun j hj hj' => ?_, fun z hz q hq => ?_⟩
  · have hz := List.getElem_mem hj'
    have key : ∀ (c : Chg), ChgAt w (vs ++ [v])[j].1 (vs ++ [v])[j].2.1 (vs ++ [v])[j].2.2 c → ChgAt w2 (vs ++ [v])[j].1 (vs ++ [v])[j].2.1 (vs ++ [v])[j].2.2 c := fun c hc => hc.blocks (hsame _ hz)
    refine key _ ?_
    by_cases hlt : j < l.length
    · have hv : j < vs.length := by rw [h.len]; exact hlt
      rw [List.getElem_append_left hlt, List.getElem_append_left hv]
      exact h.rd j hlt hv
    · have e : j = l.length := by simp at hj; omega
      subst e
      have e1 : (l ++ [x])[l.length] = x := by simp
      have e2 : (vs ++ [v])[l.length] = v := by rw [List.getElem_append_right (by rw [h.len]; exact Nat.le_refl _)]; simp [h.len]
      rw [e1, e2]
      exact hx
  · obtain ⟨a1, a2, a3⟩ := hav z hz q hq
    refine ⟨a1, Nat.lt_of_lt_of_le a2 hg.size, fun e => ?_⟩
    have e : q = g := Option.some.inj e
    rcases hat with ha | ha
    · exact a3 (by rw [ha, e])
    · omega
/-- a copy lies in blocks of its own. -/
theorem EntO.av {w : World} {b base : Nat} {u : Value} {v : V3} {x : En} {n : Nat} {xs : List Value} (h : EntO w b v.1 v.2.1 v.2.2 x) (hb : base ≤ b) (hu : w.ownsRow base 43 9 u n xs) : ∀ q, blkV v q → base ≤ q ∧ q < w.heap.size ∧ some q ≠ u.ownBlock := by
  intro q hq
  rcases hq with hq | hq | hq
  · exact ⟨Nat.le_trans hb (h.s.lt q hq).1, (h.s.lt q hq).2, fun e => owns_ne h.s hu (by decide) hq e.symm⟩
  · exact ⟨Nat.le_trans hb (h.u.lt q hq).1, (h.u.lt q hq).2, fun e => owns_ne h.u hu (by decide) hq e.symm⟩
  · exact ⟨Nat.le_trans hb (h.p.lt q hq).1, (h.p.lt q hq).2, fun e => owns_ne h.p hu (by decide) hq e.symm⟩
/-- the edition that is turned: its row is the call's own, what it holds lies in blocks that were there in wn. -/
structure NowS (wn w : World) (base : Nat) (u : Value) (vs : List V3) (l : List En) : Prop where
  top : w.ownsRow base 41 5 u l.length (ensC l vs)
  len : vs.length = l.length
  rd : ∀ W' : World, (∀ q, q < wn.heap.size → some q ≠ u.ownBlock → W'.heap[q]? = wn.heap[q]?) → ∀ (j : Nat) (h : j < l.length) (h' : j < vs.length), EntAt W' vs[j].1 vs[j].2.1 vs[j].2.2 l[j]
  ag : ∀ q, q < wn.heap.size → some q ≠ u.ownBlock → w.heap[q]? = wn.heap[q]?
  sz : wn.heap.size ≤ w.heap.size
  bl : ∀ q, u.ownBlock = some q → q < wn.heap.size
theorem NowS.toS {wn w : World} {base : Nat} {u : Value} {vs : List V3} {l : List En} (h : NowS wn w base u vs l) : EnS w base u vs l :=
  ⟨h.top, h.len, fun W' hW => h.rd W' fun q hq hne => (hW q (Nat.lt_of_lt_of_le hq h.sz) hne).trans (h.ag q hq hne)⟩
theorem NowS.ents {wn w : World} {base : Nat} {u : Value} {vs : List V3} {l : List En} (h : NowS wn w base u vs l) (hl : l.length ≤ 1000) : EntsAt w u l := ⟨vs, h.toS.ents hl⟩
/-- kept where the blocks of wn are as they were. -/
theorem NowS.keep {wn w W' : World} {base : Nat} {u : Value} {vs : List V3} {l : List En} (h : NowS wn w base u vs l) (hs : ∀ q, q < wn.heap.size → W'.heap[q]? = w.heap[q]?) (hz : w.heap.size ≤ W'.heap.size) : NowS wn W' base u vs l :=
  ⟨owns_blocks h.top fun q _ _ hq => hs q (h.bl q hq), h.len, h.rd, fun q hq hne => (hs q hq).trans (h.ag q hq hne), Nat.le_trans h.sz hz, h.bl⟩
theorem NowS.below {wn w w' : World} {base : Nat} {u : Value} {vs : List V3} {l : List En} (h : NowS wn w base u vs l) (hb : Below w.heap.size w w') : NowS wn w' base u vs l := h.keep (fun q hq => hb.block q (Nat.lt_of_lt_of_le hq h.sz)) hb.size
theorem NowS.set {wn w : World} {base g n c : Nat} {vs : List V3} {l : List En} (h : NowS wn w base (.slice (some ⟨g, 0, none⟩) n c) vs l) (hn : n = l.length) {j : Nat} (hj : j < l.length) {x : En} {v : V3}
    (hx : ∀ W' : World, (∀ q, q < wn.heap.size → q ≠ g → W'.heap[q]? = wn.heap[q]?) → EntAt W' v.1 v.2.1 v.2.2 x) :
    NowS wn (w.setCells g (j * 5) (enC x v)) base (.slice (some ⟨g, 0, none⟩) n c) (vs.set j v) (l.set j x) ∧ Kb (fun q => q = g) w (w.setCells g (j * 5) (enC x v)) := by
  subst hn
  obtain ⟨h1, h2⟩ := owns_over (enC x v) (j * 5) w _ h.top
  refine ⟨⟨?_, by simp [h.len], fun W' hW k hk hk' => ?_, fun q hq hne => ?_, Nat.le_trans h.sz h2.size, h.bl⟩, h2⟩
  · rw [ensC_set l vs h.len j hj, List.length_set]
    exact h1
  · have hk0 : k < l.length := by simpa using hk
    have hk1 : k < vs.length := by rw [h.len]; exact hk0
    by_cases e : j = k
    · subst e
      rw [List.getElem_set_self, List.getElem_set_self]
      exact hx W' fun q hq hne => hW q hq fun e => hne (Option.some.inj e)
    · rw [List.getElem_set_ne (by omega), List.getElem_set_ne (by omega)]
      exact h.rd W' hW k hk0 hk1
  · exact (h2.same q (Nat.lt_of_lt_of_le hq h.sz) fun e => hne (by rw [e]; rfl)).trans (h.ag q hq hne)
theorem NowS.erase {wn w w' : World} {base g n c m : Nat} {vs : List V3} {l : List En} (h : NowS wn w base (.slice (some ⟨g, 0, none⟩) n c) vs l) (hn : n = l.length) {i : Nat} (hi : i < l.length) (hm : m = (l.eraseIdx i).length)
    (hS : EnS w' base (.slice (some ⟨g, 0, none⟩) m c) (vs.eraseIdx i) (l.eraseIdx i)) (hk : Kb (fun q => q = g) w w') :
    NowS wn w' base (.slice (some ⟨g, 0, none⟩) m c) (vs.eraseIdx i) (l.eraseIdx i) := by
  subst hn
  have hlen : (l.eraseIdx i).length = l.length - 1 := List.length_eraseIdx_of_lt hi
  refine ⟨hS.top, hS.len, fun W' hW k hk1 hk2 => ?_, fun q hq hne => (hk.same q (Nat.lt_of_lt_of_le hq h.sz) fun e => hne (by rw [e]; rfl)).trans (h.ag q hq hne), Nat.le_trans h.sz hk.size, h.bl⟩
  rw [hlen] at hk1
  rw [List.getElem_eraseIdx, List.getElem_eraseIdx]
  split
  · exact h.rd W' hW k (by omega) (by rw [h.len]; omega)
  · exact h.rd W' hW (k + 1) (by omega) (by rw [h.len]; omega)
end Go.Proofs.YtlbjbmpkaniojaaGreat
namespace Go.Proofs.YtlbjbmpkaniojaaGreat
open Go Go.RowKit Go.Maps
/-- what Difference answers. -/
def DifQ (R : List Chg × Int) (w : World) (e : Ending) (w' : World) : Prop := ∃ u, e = .returned (.tuple #[u, .int .i64 R.2]) ∧ ChsAt w' u R.1 ∧ Below w.heap.size w w'
theorem DifQ.no {R : List Chg × Int} {w w' : World} {er : Int} (hR : R = ([], er)) (h : Below w.heap.size w w') : DifQ R w (.returned (.tuple #[.slice none 0 0, .int .i64 er])) w' := by
  subst hR; exact ⟨_, rfl, ChsAt.nil _, h⟩
end Go.Proofs.YtlbjbmpkaniojaaGreat
namespace Go.Proofs.YtlbjbmpkaniojaaGreat
open Go Go.RowKit Go.Maps
set_option maxHeartbeats 4000000 in
set_option maxRecDepth 100000 in
theorem ref9_Edition (vs vl : Value) (s : Sg) (l : List En) (w : World) (hs : SignAt w vs s) (hl : EntsAt w vl l) (hs1 : s.length ≤ 1000) (hl1 : l.length ≤ 1000) :
    Calls Tryz.prog 25 #[vs, vl] w fun e w' => e = .returned (.bool (edB s l)) ∧ Below w.heap.size w w' := by
  have HS := hid hs
  have HL := hid hl
  obtain ⟨la, lc, rfl, -, ll, -, HC⟩ := hl.open
  have HC' := hid HC
  clear HC hl hs
  go_enter Tryz.func25, Tryz.ntmps25
  go_wp2
  go_loopw [5] (fun i wr => ∃ k q : Nat, i = .int .i64 ((k : Int) + 1) ∧ wr = w.drewN q ∧ (k + 1 ≤ l.length ∨ k = 0) ∧ ∀ j (h : j + 1 < l.length), j < k → ltN (l[j]'(by omega)).name l[j + 1].name) (fun i _ => l.length - (intOf i).toNat)
  case atStart => exact ⟨0, 0, rfl, rfl, Or.inr rfl, fun j h h2 => absurd h2 (by omega)⟩
  case round =>
    obtain ⟨k, q, rfl, hw, hk, hrel⟩ := hrel
    have HW := hid hw
    have HR := hid hrel
    have hbq : Below w.heap.size w wr := hw ▸ below_self_drewN _ _
    clear hrel
    by_cases hlt : k + 1 < l.length
    · obtain ⟨b, o, vS, vu, vp, rfl, c0, -⟩ := HC'.out (k + 1) hlt
      obtain ⟨b', o', uS, uu, up, e', d0, -⟩ := HC'.out k (by omega)
      cases e'
      have f0 := (hbq.cell (World.block_lt_of_cell? _ _ c0)).trans c0
      have g0 := (hbq.cell (World.block_lt_of_cell? _ _ d0)).trans d0
      have HNO := hid (fun h => edB_no (s := s) hlt h)
      have HYES := hid (show ltN (l[k]'(by omega)).name l[k + 1].name → ltN (l[k]'(by omega)).name l[k + 1].name from id)
      obtain ⟨x, hx⟩ : ∃ x, l[k + 1].name = x := ⟨_, rfl⟩
      obtain ⟨y, hy⟩ : ∃ y, (l[k]'(by omega)).name = y := ⟨_, rfl⟩
      have HX := hid hx
      have HY := hid hy
      rw [hx] at f0 HNO
      rw [hy] at g0 HNO
      have q1 : (k : Int) + 1 - 1 = (k : Int) := by omega
      have q2 : IntKind.i64.wrap ((k : Int) + 1 - 1) = (k : Int) := by rw [IntWalk.i64_in _ (by omega)]; omega
      have q7 : IntKind.i64.wrap (k : Int) = (k : Int) := by rw [IntWalk.i64_in _ (by omega)]
      have q3 : ((k : Int) + 1).toNat = k + 1 := by omega
      have q4 : (0 : Int) ≤ (k : Int) + 1 := by omega
      have q5 : (k : Int) + 1 < (l.length : Int) := by omega
      have q6 : (k : Int) < (l.length : Int) := by omega
      clear c0 d0 hx hy hw
      by_cases h2 : ltN y x
      · have q0 := ble' h2
        have H2 := hid h2
        clear h2 HNO
        go_wp2
        go_quiet (fail)
        go_wp2
        go_roundw
        case rel =>
          refine ⟨k + 1, _, by go_num, by rw [HW.out, World.drewN_drewN], Or.inl (by omega), fun j hj hjk => ?_⟩
          by_cases e : j = k
          · subst e; rw [HX.out, HY.out]; exact H2.out
          · exact HR.out j hj (by omega)
        case measure => simp [intOf]; omega
      · have q0 := ble h2
        have HF := hid (HNO.out h2)
        clear h2 HNO
        go_wp2
        go_quiet (fail)
        go_wp2
        go_ret
        exact ⟨ret_bool HF.out.symm, hbq.trans ((below_self_drewN _ _).mono hbq.size)⟩
    · have HF : Hid (edB s l = libB s l) := hid (edB_asc (asc_adj fun i hi => HR.out i hi (by omega)))
      have HV := hid (ref6_Valid _ _ s l wr (HS.out.below hbq) (HL.out.below hbq) hs1 hl1)
      clear hw
      go_wp2_with fail
      refine HV.out.mono ?_
      rintro e w2 ⟨rfl, hb2⟩
      go_wp2
      go_ret
      exact ⟨ret_bool HF.out.symm, hbq.trans (hb2.mono hbq.size)⟩
def sg1 : Sg := [(⟨#[67]⟩, 2)]
theorem sign9 (w : World) (T : TypeId) : SignAt (w.alloc (.cells #[.string ⟨#[67]⟩, .int .i64 2] T)) (.slice (some ⟨w.heap.size, 0, none⟩) 1 1) sg1 := by
  have r1 := World.ownsRow_lit (base := 0) (e := T) (size := 2) w #[.string ⟨#[67]⟩, .int .i64 2] 1 (by omega) (by simp [maxLen]) rfl
  refine ⟨RowK.of_owns r1 (by simp [sg1]), ?_⟩
  intro x hx
  simp [sg1] at hx
  subst hx; simp [ByteArray.size]
end Go.Proofs.YtlbjbmpkaniojaaGreat
