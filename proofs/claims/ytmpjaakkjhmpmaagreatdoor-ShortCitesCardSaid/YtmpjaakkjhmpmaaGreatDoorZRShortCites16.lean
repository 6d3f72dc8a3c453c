/-
  WHAT IT HOLDS: contracts of slices.Clone, of canonical and Alike and Canonical of package term, of named of package unify: canonical forms. Conditions: the arguments read as data; numbers are small.
  WHAT IT HOLDS: contracts of args and Args of package term. Conditions: the arguments read as data; a valid sign.
  WHAT IT HOLDS: contracts of Instance of package unify, of Alike and Canonical of package term. Conditions: the arguments read as data; the sign is small.
  WHAT IT HOLDS: what is kept over a yield: it depends only on blocks that the loop's body does not turn. Over any program. No condition.
  WHAT IT HOLDS: contracts of Variables and Renamed of the reference of layer 1: canonical forms. Conditions: the argument reads as data; numbers are small.
  WHAT IT HOLDS: plain functions on binds (layer 2): validity, what binds make of a variable and of a term, composing, solved, renaming; how they are put together. No program in sight. No condition.
  WHAT IT HOLDS: contracts of slices.SortFunc and slices.CompactFunc at []api.Term, of a slice of the call's own, by Compare and by equality. Conditions: the elements read as terms, in blocks other than the slice's own.
-/
import Derived.Lib.SliceRun
import Derived.Test.YtmpjaakkjhmpmaaGreatDoorZRShortCites5
import Derived.Test.YtmpjaakkjhmpmaaGreatDoorZRShortCites9
import Derived.Test.YtmpjaakkjhmpmaaGreatDoorZRShortCites6
import Derived.Test.YtmpjaakkjhmpmaaGreatDoorZRShortCites14
import Derived.Test.YtmpjaakkjhmpmaaGreatDoorZRShortCites2
import Derived.Test.YtmpjaakkjhmpmaaGreatDoorZRShortCites15
namespace Go.Proofs.YtmpjaakkjhmpmaaGreatDoor
open Go Go.RowKit Go.Maps
set_option maxRecDepth 100000 in
theorem sl_CloneT (v : Value) (t : List Int) (w : World) (ht : Ints w v t) (h0 : 0 < t.length) (hl : t.length ≤ 1000) :
    Calls Tryz.prog 160 #[v] w fun e w' => ∃ u, e = .returned u ∧ w'.ownsRow w.heap.size 3 1 u t.length (t.map (Value.int .i64)) ∧ Below w.heap.size w w' := by
  obtain ⟨ta, tcap, rfl, ht1, ht2, -, TC⟩ := ht.open
  obtain ⟨tb, to, rfl, -⟩ := TC 0 h0
  have hb0 : Below w.heap.size w (w.alloc (.cells #[] 3)) := (Below.refl _ _).alloc (Nat.le_refl _) _
  have HT := hid (ht.below hb0)
  have HOWN := hid (World.ownsRow_lit (base := w.heap.size) (e := 3) (size := 1) w #[] 0 (Nat.le_refl _) (by simp [maxLen]) rfl)
  have HB0 := hid hb0
  clear TC ht hb0
  have q37 := fun (w : World) (a : Option Addr) (n c n' c' : Nat) => Lib.run_eql_slice_nil (P := Tryz.prog) w _ _ a n c n' c' Tryz.underlying34
  go_enter Tryz.func160, Tryz.ntmps160
  go_wp2_with (at_builtin; refine wpList_append_row rfl _ _ 34 rfl w.heap.size 3 el_int Tryz.underlying34 rfl (by decide) _ _ _ rfl HOWN.out _ t.length (t.map (Value.int .i64)) rfl HT.out (ints_one t) (by omega) (by omega) (by simp) ?_; intro v' w4 hown4 hgrow4 _)
  go_ret
  exact ⟨_, rfl, by simpa using hown4, HB0.out.grown hgrow4 (by simp) (fun q hq => by cases hq; exact Nat.le_refl _)⟩
def numM (vs : List Int) (x : Int) : Option Int := if x ∈ vs then some (-(vs.idxOf x : Int) - 1) else none
theorem numM_nil : numM [] = fun _ => none := by funext x; simp [numM]
theorem numM_yes {vs : List Int} {x : Int} (h : x ∈ vs) : numM vs x = some (-(vs.idxOf x : Int) - 1) := by unfold numM; rw [if_pos h]
theorem numM_no {vs : List Int} {x : Int} (h : x ∉ vs) : numM vs x = none := by unfold numM; rw [if_neg h]
theorem numM_ins {vs : List Int} {x : Int} (h : x ∉ vs) : (fun y => if y = x then some (-(vs.length : Int) - 1) else numM vs y) = numM (vs ++ [x]) := by
  funext y
  unfold numM
  by_cases e : y = x
  · subst e
    simp [List.idxOf_append, h]
  · rw [if_neg e]
    by_cases hy : y ∈ vs
    · rw [if_pos hy, if_pos (by simp [hy]), List.idxOf_append, if_pos hy]
    · rw [if_neg hy, if_neg (by simp [hy, e])]
abbrev NMap (w : World) (b : Nat) (vs : List Int) : Prop := MapK Tryz.prog 3 eI eI w b vs.length (numM vs)
theorem nmap_ins {w : World} {b : Nat} {vs : List Int} {x : Int} (hN : numM vs x = none) (hI : (fun y => if y = x then some (-(vs.length : Int) - 1) else numM vs y) = numM (vs ++ [x]))
    (h : MapK Tryz.prog 3 eI eI w b (if (numM vs x).isSome then vs.length else vs.length + 1) (fun y => if y = x then some (-(vs.length : Int) - 1) else numM vs y)) : NMap w b (vs ++ [x]) := by
  rw [hN, hI] at h
  simpa [NMap] using h
/-- a list whose first k numbers have their names. -/
def outL (t : List Int) (k : Nat) : List Int := (t.take k).map (numV (varsF [] (t.take k))) ++ t.drop k
theorem outL_zero (t : List Int) : outL t 0 = t := by simp [outL]
theorem outL_all (t : List Int) {k : Nat} (h : t.length ≤ k) : outL t k = canonL t := by
  unfold outL canonL
  rw [List.take_of_length_le h, List.drop_eq_nil_of_le h, List.append_nil]
theorem varsF_take (t : List Int) {k : Nat} (h : k < t.length) : varsF [] (t.take (k + 1)) = if t[k] < 0 ∧ t[k] ∉ varsF [] (t.take k) then varsF [] (t.take k) ++ [t[k]] else varsF [] (t.take k) := by
  rw [List.take_succ_eq_append_getElem h, varsF_append]
  simp only [varsF]
theorem outL_step (t : List Int) {k : Nat} (h : k < t.length) : outL t (k + 1) = (outL t k).set k (numV (varsF [] (t.take (k + 1))) t[k]) := by
  have e1 : (t.take k).map (numV (varsF [] (t.take (k + 1)))) = (t.take k).map (numV (varsF [] (t.take k))) := by
    apply List.map_congr_left
    intro n hn
    rw [List.take_succ_eq_append_getElem h, varsF_append]
    exact numV_stable' _ _ fun hn0 => (varsF_mem _ _ _).2 (Or.inr ⟨hn, hn0⟩)
  unfold outL
  conv => lhs; rw [List.take_succ_eq_append_getElem h, List.map_append, ← List.take_succ_eq_append_getElem h]
  rw [e1, List.set_append_right _ _ (by simp; omega)]
  have e2 : k - ((t.take k).map (numV (varsF [] (t.take k)))).length = 0 := by simp; omega
  rw [e2, List.drop_eq_getElem_cons h, List.set_cons_zero, List.append_assoc]
  rfl
theorem outL_same (t : List Int) {k : Nat} (h : k < t.length) (h0 : 0 ≤ t[k]) : outL t (k + 1) = outL t k := by
  rw [outL_step t h]
  unfold outL
  rw [List.set_append_right _ _ (by simp; omega)]
  have e2 : k - ((t.take k).map (numV (varsF [] (t.take k)))).length = 0 := by simp; omega
  rw [e2, List.drop_eq_getElem_cons h]
  have : numV (varsF [] (t.take (k + 1))) t[k] = t[k] := by unfold numV; rw [if_neg (by omega)]
  rw [this, List.set_cons_zero]
theorem outL_map (t : List Int) (k : Nat) (x : Int) : ((outL t k).map (Value.int .i64)).set k (Value.int .i64 x) = ((outL t k).set k x).map (Value.int .i64) := by rw [List.map_set]
theorem outL_get (t : List Int) {k : Nat} (h : k < t.length) : ((outL t k).map (Value.int .i64))[k]? = some (.int .i64 t[k]) := by
  have : (outL t k)[k]? = some t[k] := by
    unfold outL
    rw [List.getElem?_append_right (by simp; omega)]
    simp [h]
    have : k - min k t.length = 0 := by omega
    rw [this]
    simp
  rw [List.getElem?_map, this]; rfl
theorem varsF_take_len (t : List Int) (k : Nat) : (varsF [] (t.take k)).length ≤ k := by
  have key : ∀ (a vs : List Int), (varsF vs a).length ≤ vs.length + a.length := by
    intro a
    induction a with
    | nil => intro vs; simp [varsF]
    | cons n a ih =>
      intro vs
      simp only [varsF]
      split
      · have := ih (vs ++ [n]); simp at this ⊢; omega
      · have := ih vs; simp; omega
  have := key (t.take k) []
  simp at this
  omega
set_option maxHeartbeats 1000000 in
set_option maxRecDepth 100000 in
theorem term_canonical (v : Value) (t : List Int) (w : World) (ht : Ints w v t) (h0 : 0 < t.length) (hl : t.length ≤ 1000) (hr : ∀ x ∈ t, -1000000 ≤ x ∧ x ≤ 1000000) :
    Calls Tryz.prog 124 #[v] w fun e w' => ∃ u, e = .returned u ∧ w'.ownsRow w.heap.size 3 1 u (canonL t).length ((canonL t).map (Value.int .i64)) ∧ Below w.heap.size w w' := by
  obtain ⟨ta, tcap, rfl, ht1, ht2, -, TC⟩ := ht.open
  have TC' := hid TC
  have HR := hid hr
  have HT := hid ht
  have hmm := @run_makeMap Tryz.prog
  clear TC ht hr
  go_enter Tryz.func124, Tryz.ntmps124
  go_wp2_with fail
  clear hmm
  have hb1 : Below w.heap.size w (w.alloc (.map #[] 0)) := (Below.refl _ _).alloc (Nat.le_refl _) _
  refine (sl_CloneT _ t _ (HT.out.below hb1) h0 hl).mono ?_
  rintro e w1 ⟨u, rfl, hown, hb2⟩
  have hm0 : NMap w1 w.heap.size [] := by
    have := (MapK.made Tryz.prog 3 eI eI w).belowS hb2
    unfold NMap
    rw [numM_nil]
    exact this
  obtain ⟨g, cap, rfl, hg, hgc⟩ := owns_some hown h0
  have hb3 := hb1.trans (hb2.mono hb1.size)
  have HOWN := hid hown
  have HM0 := hid hm0
  have HB3 := hid hb3
  simp only [World.size_alloc] at hg
  clear hown hm0 hb3 hb2 hb1
  go_wp2
  go_loopw [14] (fun kv wr => ∃ k : Nat, k ≤ t.length ∧ kv = .int .i64 k ∧ wr.ownsRow (w.heap.size + 1) 3 1 (.slice (some ⟨g, 0, none⟩) t.length cap) t.length ((outL t k).map (Value.int .i64)) ∧ NMap wr w.heap.size (varsF [] (t.take k)) ∧ Below w.heap.size w wr) (fun kv _ => t.length - (intOf kv).toNat)
  case atStart => exact ⟨0, by omega, rfl, by rw [outL_zero]; simpa using HOWN.out, by simpa [varsF] using HM0.out, HB3.out⟩
  case round =>
    clear HOWN HM0 HB3
    obtain ⟨k, hk, rfl, hown, hm, hb⟩ := hrel
    have hbs := hb.size
    by_cases hlt : k < t.length
    · obtain ⟨tb, to, rfl, hc0⟩ := TC'.out k hlt
      have hcell := (hb.cell (World.block_lt_of_cell? _ _ hc0)).trans hc0
      have hrk := HR.out t[k] (List.getElem_mem hlt)
      by_cases hn : 0 ≤ t[k]
      · have hge : decide (t[k] ≥ 0) = true := by simp; omega
        have HV := hid (varsF_take t hlt)
        have HO := hid (outL_same t hlt hn)
        clear hc0
        go_wp2
        go_roundw
        case rel => exact ⟨k + 1, by omega, by go_num, by rw [HO.out]; exact hown, by rw [HV.out, if_neg (by omega)]; exact hm, hb⟩
        case measure => simp [intOf]; omega
      · have hge : decide (t[k] ≥ 0) = false := by simp; omega
        have hkey := int_key t[k] (wf_small hrk.1 hrk.2)
        have HV := hid (varsF_take t hlt)
        have HO := hid (outL_step t hlt)
        have HOM := hid (outL_map t k)
        have hvl := varsF_take_len t k
        have hc1 := hown.cellAt k (by omega)
        rw [outL_get t hlt] at hc1
        have hf1 := hown.frozenAt k
        clear hc0
        obtain ⟨vs, hvs⟩ : ∃ vs, varsF [] (t.take k) = vs := ⟨_, rfl⟩
        rw [hvs] at hm hvl HV
        have HKEY := hid hkey
        clear hkey
        by_cases hv : t[k] ∈ vs
        · have HY := hid (numM_yes hv)
          have hV2 : varsF [] (t.take (k + 1)) = vs := by rw [HV.out, if_neg (by simp [hv])]
          have hnv : numV vs t[k] = -(vs.idxOf t[k] : Int) - 1 := by unfold numV; rw [if_pos (by omega)]
          have HV2 := hid hV2
          have HNV := hid hnv
          have hst := hown.stored k (.int .i64 (-(vs.idxOf t[k] : Int) - 1))
          have hb2 : Below w.heap.size w (wr.setCell ⟨g, k, none⟩ (.int .i64 (-(vs.idxOf t[k] : Int) - 1))) := hb.setCell (p := ⟨g, k, none⟩) (by show w.heap.size ≤ g; omega) _
          have hm2 : NMap (wr.setCell ⟨g, k, none⟩ (.int .i64 (-(vs.idxOf t[k] : Int) - 1))) w.heap.size vs := hm.setCell (a := ⟨g, k, none⟩) (by show w.heap.size ≠ g; omega) _
          have HST := hid hst
          have HB2 := hid hb2
          have HM2 := hid hm2
          clear hv hV2 hnv hst hb2 hm2 hvs
          go_wp2_with (first
            | (at_lookup; refine wpList_lookup_mapK rfl _ _ 125 true rfl (int_keyed Tryz.underlying3) eI_inj Tryz.underlying125 (zero_int _) rfl hm t[k] rfl HKEY.out (.tuple #[.int .i64 (-(vs.idxOf t[k] : Int) - 1), .bool true]) (by rw [HY.out]; rfl) ?_)
            | (at_lookup; refine wpList_lookup_mapK rfl _ _ 125 false rfl (int_keyed Tryz.underlying3) eI_inj Tryz.underlying125 (zero_int _) rfl hm t[k] rfl HKEY.out (.int .i64 (-(vs.idxOf t[k] : Int) - 1)) (by rw [HY.out]; rfl) ?_))
          go_roundw
          case rel => exact ⟨k + 1, by omega, by go_num, by rw [HO.out, HV2.out, HNV.out, ← HOM.out]; exact HST.out.1, by rw [HV2.out]; exact HM2.out, HB2.out⟩
          case measure => simp [intOf]; omega
        · have HN := hid (numM_no hv)
          have HI := hid (numM_ins hv)
          have hV2 : varsF [] (t.take (k + 1)) = vs ++ [t[k]] := by rw [HV.out, if_pos ⟨by omega, hv⟩]
          have hnv : numV (vs ++ [t[k]]) t[k] = -(vs.length : Int) - 1 := by
            unfold numV; rw [if_pos (by omega), List.idxOf_append, if_neg hv]; simp
          have hnm : numM (vs ++ [t[k]]) t[k] = some (-(vs.length : Int) - 1) := by
            rw [numM_yes (by simp), List.idxOf_append, if_neg hv]; simp
          have HV2 := hid hV2
          have HNV := hid hnv
          have HNM := hid hnm
          have hlen := fun ty => hm.run_len Tryz.underlying125 ty
          clear hv hV2 hnv hnm hvs
          have HOWN := hid hown
          have HM := hid hm
          have HG := hid (outL_get t hlt)
          clear hown hc1 hf1
          go_wp2_with (first
            | (at_lookup; refine wpList_lookup_mapK rfl _ _ 125 true rfl (int_keyed Tryz.underlying3) eI_inj Tryz.underlying125 (zero_int _) rfl HM.out t[k] rfl HKEY.out (.tuple #[.int .i64 0, .bool false]) (by rw [HN.out]; rfl) ?_)
            | (at_mapUpdate; refine wpList_update_mapK rfl _ _ _ 125 rfl (int_keyed Tryz.underlying3) eI_inj Tryz.underlying125 rfl HM.out t[k] (-(vs.length : Int) - 1) rfl rfl HKEY.out ?_; intro w2 hm2' hg2
               have HM2 : Hid (NMap w2 w.heap.size (vs ++ [t[k]])) := hid (nmap_ins HN.out HI.out hm2')
               have hown2 := owns_grown HOWN.out hg2 (fun q hq => by cases hq; omega)
               have hb2 : Below w.heap.size w w2 := hb.grown hg2 hbs (fun q hq => by cases hq; exact Nat.le_refl _)
               have hc1 := hown2.cellAt k (by omega)
               rw [HG.out] at hc1
               have hf1 := hown2.frozenAt k
               have HST := hid (hown2.stored k (.int .i64 (-(vs.length : Int) - 1)))
               have HB3 : Hid (Below w.heap.size w (w2.setCell ⟨g, k, none⟩ (.int .i64 (-(vs.length : Int) - 1)))) := hid (hb2.setCell (p := ⟨g, k, none⟩) (by show w.heap.size ≤ g; omega) _)
               have HM3 : Hid (NMap (w2.setCell ⟨g, k, none⟩ (.int .i64 (-(vs.length : Int) - 1))) w.heap.size (vs ++ [t[k]])) := hid (HM2.out.setCell (a := ⟨g, k, none⟩) (by show w.heap.size ≠ g; omega) _)
               clear hm2' hown2 hb2)
            | (at_lookup; refine wpList_lookup_mapK rfl _ _ 125 false rfl (int_keyed Tryz.underlying3) eI_inj Tryz.underlying125 (zero_int _) rfl HM2.out t[k] rfl HKEY.out (.int .i64 (-(vs.length : Int) - 1)) (by rw [HNM.out]; rfl) ?_))
          go_roundw
          case rel => exact ⟨k + 1, by omega, by go_num, by rw [HO.out, HV2.out, HNV.out, ← HOM.out]; exact HST.out.1, by rw [HV2.out]; exact HM3.out, HB3.out⟩
          case measure => simp [intOf]; omega
    · have HE := hid (outL_all t (k := k) (by omega))
      have HL := canonL_len t
      rw [HE.out] at hown
      have HOW := hid hown
      clear hown
      go_wp2
      go_ret
      exact ⟨_, rfl, by rw [HL]; exact owns_base HOW.out (by omega), hb⟩
end Go.Proofs.YtmpjaakkjhmpmaaGreatDoor
namespace Go.Proofs.YtmpjaakkjhmpmaaGreatDoor
open Go Go.RowKit Go.Maps
set_option maxHeartbeats 2000000 in
set_option maxRecDepth 100000 in
theorem term_args (vs vt : Value) (s : Sg) (t : List Int) (zs : List (List Int)) (w : World) (hsg : signB s = true) (hl : t.length ≤ 60) (c : Int) (ht0 : t = c :: zs.flatten) (hz : arP s c = zs.length) (hzt : ∀ a ∈ zs, IsT s 12 a) (hs : SignAt w vs s) (ht : Ints w vt t) :
    Calls Tryz.prog 191 #[vs, vt] w fun e w' => ∃ (u : Value) (vvs : List Value), e = .returned u ∧ w'.ownsRow w.heap.size 34 1 u zs.length vvs ∧ (∀ (i : Nat) (v : Value) (z : List Int), vvs[i]? = some v → zs[i]? = some z → Ints w v z) ∧ Below w.heap.size w w' := by
  obtain ⟨ta, tcap, rfl, hcap, h2, -, TC⟩ := ht.open
  have hpos : 0 < t.length := by rw [ht0]; simp
  obtain ⟨b, o, rfl, hc0⟩ := TC 0 hpos
  simp only [Nat.add_zero] at hc0
  have hct : t[0] = c := by subst ht0; rfl
  rw [hct] at hc0
  have hz3 : zs.length ≤ 3 := by have := (arP_bounds hsg c).2; rw [hz] at this; omega
  have HZ := hid hz
  have HT := hid ht
  have HS := hid hs
  have HZT := hid hzt
  have HEND := hid (fun (i : Int) (X : World) (hX : Below w.heap.size w X) (h1 : -1 ≤ i) (h2 : i ≤ 100) => term_end s t vs _ i X hsg (by omega) (hs.below hX) (ht.below hX) h1 h2)
  have hdrop : ∀ k (hk : k < zs.length), t.drop (1 + (zs.take k).flatten.length) = zs[k] ++ (zs.drop (k + 1)).flatten := by
    intro k hk
    have e : zs.flatten = (zs.take k).flatten ++ (zs[k] ++ (zs.drop (k + 1)).flatten) := by
      conv => lhs; rw [← List.take_append_drop k zs, List.flatten_append, List.drop_eq_getElem_cons hk, List.flatten_cons]
    rw [ht0, ← List.drop_drop]
    show (zs.flatten).drop _ = _
    rw [e, List.drop_left]
  have HD := hid hdrop
  clear hz ht hs hzt hdrop ht0 hct TC
  go_enter Tryz.func191, Tryz.ntmps191
  go_wp2_with (go_at_call 190; refine (term_arity _ _ _ _ HS.out).mono ?_; rintro e w1 ⟨rfl, rfl⟩; rw [HZ.out])
  go_loopw [5, 6, 14] (fun u av kv wr => ∃ (k : Nat) (vvs : List Value), k ≤ zs.length ∧ kv = .int .i64 k ∧ av = .int .i64 ((1 + (zs.take k).flatten.length : Nat) : Int) ∧ wr.ownsRow w.heap.size 34 1 u k vvs ∧ (∀ (i : Nat) (v : Value) (z : List Int), vvs[i]? = some v → zs[i]? = some z → Ints w v z) ∧ Below w.heap.size w wr) (fun _ _ kv _ => zs.length - (intOf kv).toNat)
  case atStart => exact ⟨0, [], by omega, rfl, rfl, World.ownsRow_nil _ _ _ _, by simp, Below.refl _ _⟩
  case round =>
    obtain ⟨k, vvs, hk, rfl, rfl, hown, hvi, hb⟩ := hrel
    have HOWN := hid hown
    have HVI := hid hvi
    have HB := hid hb
    have hsz := hb.size
    clear hown hvi hb
    by_cases hlt : k < zs.length
    · have hd := HD.out k hlt
      have hzk := HZT.out _ (List.getElem_mem hlt)
      have hlen := congrArg List.length hd
      rw [List.length_drop, List.length_append] at hlen
      have hne := hzk.ne
      obtain ⟨a, ha⟩ : ∃ a, 1 + (zs.take k).flatten.length = a := ⟨_, rfl⟩
      have hnx := nx_part hzk a ((zs.drop (k + 1)).flatten) 101 (by rw [← ha]; exact hd) (by omega)
      have hsn := start_next zs hlt
      rw [ha] at hd hlen ⊢
      have hsub := HT.out.sub hd (cap' := zs[k].length) (Nat.le_refl _)
      have HSN : Hid (1 + (zs.take (k + 1)).flatten.length = a + zs[k].length) := hid (by rw [hsn]; omega)
      obtain ⟨z, hz⟩ : ∃ z, zs[k] = z := ⟨_, rfl⟩
      have hzz : zs[k]? = some z := by rw [List.getElem?_eq_getElem hlt, hz]
      rw [hz] at hlen hne hnx hsub HSN
      have HE := HEND.out (a : Int) wr HB.out (by omega) (by omega)
      rw [show (endR s t 101 (a : Int)).1 = ((a + z.length : Nat) : Int) from hnx] at HE
      obtain ⟨dd, hdd⟩ : ∃ dd, (endR s t 101 (a : Int)).2 = dd := ⟨_, rfl⟩
      rw [hdd] at HE
      have HEE := hid HE
      have HSUB := hid hsub
      have HZZ := hid hzz
      obtain ⟨n, hn⟩ : ∃ n, z.length = n := ⟨_, rfl⟩
      obtain ⟨e1, he1⟩ : ∃ e1, a + n = e1 := ⟨_, rfl⟩
      rw [hn, he1] at HEE
      rw [hn] at HSUB HSN hlen hne
      have y0 : (0 : Int) ≤ (a : Int) := by omega
      have y1 : (a : Int) ≤ (e1 : Int) := by omega
      have y2 : (e1 : Int) ≤ (tcap : Int) := by omega
      have y3 : a ≤ e1 := by omega
      have y4 : e1 - a = n := by omega
      have y5 : ¬ e1 = a := by omega
      clear hd hzk hnx hsn hsub hz hzz HE hdd
      go_wp2_with fail
      refine HEE.out.mono ?_
      rintro e w4 ⟨rfl, hb4⟩
      have HB4 := hid hb4
      have hs4 := hb4.size
      clear hb4
      have hbA : Below w4.heap.size w4 (w4.alloc (.cells #[.slice (some ⟨b, o + a, none⟩) n n] 34)) := (Below.refl _ _).alloc (Nat.le_refl _) _
      have HBA := hid (HB4.out.trans (hbA.mono hs4))
      have HRA := hid (owns_below HOWN.out HBA.out)
      have hszA := HBA.out.size
      clear hbA
      go_wp2_with (at_builtin; refine wpList_append_row rfl _ _ 24 rfl w.heap.size 34 el_term Tryz.underlying24 rfl (by decide) _ _ _ rfl HRA.out _ 1 [.slice (some ⟨b, o + a, none⟩) n n] rfl (row_one_new _ _ _) (oneCell_one rfl) (by omega) (by omega) (by omega) ?_; intro v' w7 hown7 hgrow7 _)
      have hb7 : Below w.heap.size w w7 := (HB.out.trans (HBA.out.mono hsz)).grown hgrow7 (by omega) (fun q hq => (HOWN.out.lt q hq).1)
      have HB7 := hid hb7
      have HO7 := hid hown7
      clear hb7 hown7 hgrow7
      go_roundw
      case rel =>
        refine ⟨k + 1, vvs ++ [.slice (some ⟨b, o + a, none⟩) n n], by omega, by go_num, by rw [HSN.out, he1], HO7.out, fun i v z' hv hz' => ?_, HB7.out⟩
        have hlv : vvs.length = k := by
          have := HOWN.out.1
          simpa using this
        by_cases hi : i < k
        · rw [List.getElem?_append_left (by omega)] at hv
          exact HVI.out i v z' hv hz'
        · have hik : i = k := by
            have := (List.getElem?_eq_some_iff.1 hv).1
            rw [List.length_append, List.length_singleton] at this
            omega
          subst hik
          rw [List.getElem?_append_right (by omega), hlv] at hv
          simp at hv
          rw [HZZ.out] at hz'
          cases hz'
          rw [← hv]
          exact HSUB.out
      case measure => simp [intOf]; omega
    · have hkz : k = zs.length := by omega
      subst hkz
      go_wp2
      go_ret
      exact ⟨_, vvs, rfl, HOWN.out, HVI.out, HB.out⟩
theorem owns_open {w : World} {b : Nat} {e : TypeId} {k : Nat} {v : Value} {n : Nat} {xs : List Value} (h : w.ownsRow b e k v n xs) : ∃ a c, v = .slice a n c ∧ (0 < n → ∃ g, a = some ⟨g, 0, none⟩ ∧ b ≤ g) := by
  obtain ⟨h1, h2⟩ := h
  rcases h2 with ⟨h2, rfl⟩ | ⟨g, cap, cur, rfl, hb, r3, r4⟩
  · exact ⟨none, 0, by simp_all, fun h0 => by simp_all⟩
  · exact ⟨_, _, rfl, fun _ => ⟨g, rfl, hb⟩⟩
/-- what depends on the blocks from b on alone. -/
def Lies (b : Nat) (Φ : World → Prop) (w : World) : Prop := ∀ W', (∀ q, b ≤ q → q < w.heap.size → W'.heap[q]? = w.heap[q]?) → Φ W'
theorem Lies.here {b : Nat} {Φ : World → Prop} {w : World} (h : Lies b Φ w) : Φ w := h w fun _ _ _ => rfl
theorem owns_same {w W' : World} {b b' : Nat} {e : TypeId} {k : Nat} {v : Value} {n : Nat} {xs : List Value} (h : w.ownsRow b e k v n xs) (hb : b' ≤ b) (hs : ∀ q, b' ≤ q → q < w.heap.size → W'.heap[q]? = w.heap[q]?) : W'.ownsRow b e k v n xs := by
  have hlt := fun q hq => h.lt q hq
  obtain ⟨h1, h2⟩ := h
  refine ⟨h1, ?_⟩
  rcases h2 with h2 | ⟨g, cap, cur, rfl, r2, r3, r4⟩
  · exact .inl h2
  · exact .inr ⟨g, cap, cur, rfl, r2, by rw [hs g (by omega) (hlt g rfl).2]; exact r3, r4⟩
theorem owns_setCell {w : World} {b : Nat} {e : TypeId} {k : Nat} {v : Value} {n : Nat} {xs : List Value} (h : w.ownsRow b e k v n xs) {a : Addr} (ha : a.block < b) (u : Value) : (w.setCell a u).ownsRow b e k v n xs := by
  obtain ⟨h1, h2⟩ := h
  refine ⟨h1, ?_⟩
  rcases h2 with h2 | ⟨g, cap, cur, r1, r2, r3, r4⟩
  · exact .inl h2
  · exact .inr ⟨g, cap, cur, r1, r2, by rw [Below.heap_setCell _ _ _ _ (by omega)]; exact r3, r4⟩
set_option maxHeartbeats 2000000 in
set_option maxRecDepth 100000 in
theorem term_Args (vs vt : Value) (s : Sg) (t : List Int) (zs : List (List Int)) (w : World) (hv : termB s t = true) (c : Int) (ht0 : t = c :: zs.flatten) (hz : arP s c = zs.length) (hzt : ∀ a ∈ zs, IsT s 12 a) (hs : SignAt w vs s) (ht : Ints w vt t) (hs1 : s.length ≤ 1000) :
    Calls Tryz.prog 155 #[vs, vt] w fun e w' => ∃ (u : Value) (vvs : List Value), e = .returned (.tuple #[u, .int .i64 0]) ∧ Lies w.heap.size (fun W => TermsV W u vvs zs) w' ∧ Below w.heap.size w w' := by
  obtain ⟨f1, f2, f3, f4⟩ := termB_facts hv
  have hz3 : zs.length ≤ 3 := by have := (arP_bounds f1 c).2; rw [hz] at this; omega
  have hzl : ∀ i (h : i < zs.length), zs[i].length ≤ 60 := by
    intro i h
    have h1 : zs[i].length ≤ zs.flatten.length := by
      have e : zs.flatten = (zs.take i).flatten ++ (zs[i] ++ (zs.drop (i + 1)).flatten) := by
        conv => lhs; rw [← List.take_append_drop i zs, List.flatten_append, List.drop_eq_getElem_cons h, List.flatten_cons]
      have h2 := congrArg List.length e
      rw [List.length_append, List.length_append] at h2
      omega
    have := congrArg List.length ht0
    simp only [List.length_cons] at this
    omega
  have HZL := hid hzl
  have HZN := hid (fun i (h : i < zs.length) => (hzt _ (List.getElem_mem h)).ne)
  have HVT := hid (term_Valid' vs vt s t w hs ht hs1)
  rw [hv] at HVT
  have HAR := hid (fun (X : World) (hX : Below w.heap.size w X) => term_args vs vt s t zs X f1 f4 c ht0 hz hzt (hs.below hX) (ht.below hX))
  clear hv ht0 hz hzt hs ht hzl
  go_enter Tryz.func155, Tryz.ntmps155
  go_wp2_with fail
  refine HVT.out.mono ?_
  rintro e w1 ⟨rfl, hb1⟩
  have HB1 := hid hb1
  clear hb1
  go_wp2_with fail
  refine (HAR.out _ HB1.out).mono ?_
  rintro e w2 ⟨u, vvs, rfl, hown, hvi, hb2⟩
  obtain ⟨au, cu, rfl, hau⟩ := owns_open hown
  have HAU := hid hau
  have HB2 := hid (HB1.out.trans (hb2.mono HB1.out.size))
  have HO2 := hid hown
  have HVI := hid hvi
  have hbw2 : Below w1.heap.size w1 w2 := hb2
  have HBW2 := hid hbw2
  have hs12 := hb2.size
  have hs1w := HB1.out.size
  clear hown hvi hb2 hbw2 hau HVT HAR
  go_wp2
  go_loopw [18] (fun kv wr => ∃ (k : Nat) (vvs : List Value), k ≤ zs.length ∧ kv = .int .i64 k ∧ wr.ownsRow w1.heap.size 34 1 (.slice au zs.length cu) zs.length vvs ∧
    (∀ (i : Nat) (v : Value) (z : List Int), vvs[i]? = some v → zs[i]? = some z → if i < k then wr.ownsRow w2.heap.size 3 1 v z.length (z.map (Value.int .i64)) else Ints w1 v z) ∧ Below w1.heap.size w1 wr ∧ w2.heap.size ≤ wr.heap.size) (fun kv _ => zs.length - (intOf kv).toNat)
  case atStart => exact ⟨0, vvs, by omega, rfl, HO2.out, fun i v z h h' => by rw [if_neg (by omega)]; exact HVI.out i v z h h', HBW2.out, Nat.le_refl _⟩
  case round =>
    obtain ⟨k, ws, hk, rfl, hown, hvi, hb, hsz⟩ := hrel
    have HOWN := hid hown
    have HV2 := hid hvi
    have HBk := hid hb
    have hwl : ws.length = zs.length := by have := hown.1; simpa using this
    by_cases hlt : k < zs.length
    · obtain ⟨g, rfl, hg⟩ := HAU.out (by omega)
      obtain ⟨z, hz⟩ : ∃ z, zs[k] = z := ⟨_, rfl⟩
      have hzz : zs[k]? = some z := by rw [List.getElem?_eq_getElem hlt, hz]
      obtain ⟨v, hvk⟩ : ∃ v, ws[k]? = some v := ⟨ws[k], List.getElem?_eq_getElem (by omega)⟩
      have hiv0 := hvi k v z hvk hzz
      rw [if_neg (by omega)] at hiv0
      have hiv := hiv0.below hb
      obtain ⟨a3, c3, rfl, -⟩ := hiv.open
      have hzl := HZL.out k hlt
      have hzn := HZN.out k hlt
      rw [hz] at hzl hzn
      have hcl := hown.cellAt k (by omega)
      rw [hvk] at hcl
      have hgl := (HO2.out.lt g rfl).2
      have HCL := hid (sl_CloneT _ z wr hiv hzn (by omega))
      have y0 : (0 : Int) ≤ (k : Int) := by omega
      have y1 : (k : Int) < (zs.length : Int) := by omega
      have HZZ := hid hzz
      have hsk := hb.size
      clear hown hvi hb hiv0 hiv hz hzz
      go_wp2_with fail
      refine HCL.out.mono ?_
      rintro e w4 ⟨u4, rfl, ho4, hb4⟩
      obtain ⟨a4, c4, rfl, -⟩ := (Ints.of_owns ho4 (by omega)).open
      have hown4 := owns_below HOWN.out hb4
      have hcl4 := (hb4.cell (World.block_lt_of_cell? _ _ hcl)).trans hcl
      have hfz4 := hown4.frozenAt k
      have HOW4 := hid hown4
      have HO4 := hid ho4
      have HB4 := hid hb4
      have hs4 := hb4.size
      clear hown4 ho4 hb4 hcl
      go_wp2
      go_roundw
      case rel =>
        refine ⟨k + 1, ws.set k (.slice a4 z.length c4), by omega, by go_num, (HOW4.out.stored k _).1, fun i v' z' h h' => ?_, (HBk.out.trans (HB4.out.mono hsk)).setCell hg _, by simp [World.setCell]; omega⟩
        by_cases hik : i = k
        · subst hik
          rw [List.getElem?_set_self (by omega)] at h
          rw [HZZ.out] at h'
          cases h
          cases h'
          rw [if_pos (by omega)]
          exact owns_setCell (owns_base HO4.out hsz) (a := ⟨g, i, none⟩) hgl _
        · rw [List.getElem?_set_ne (by omega)] at h
          have h9 := HV2.out i v' z' h h'
          by_cases hi : i < k
          · rw [if_pos hi] at h9
            rw [if_pos (by omega)]
            exact owns_setCell (owns_below h9 HB4.out) (a := ⟨g, k, none⟩) hgl _
          · rw [if_neg hi] at h9
            rw [if_neg (by omega)]
            exact h9
      case measure => simp [intOf]; omega
    · have hTT : Lies w.heap.size (fun W => TermsV W (.slice au zs.length cu) ws zs) wr := by
        intro W' hW'
        have h9 : W'.ownsRow w1.heap.size 34 1 (.slice au ws.length cu) ws.length ws := by rw [hwl]; exact owns_same HOWN.out hs1w hW'
        have h8 := RowK.of_owns h9 (by omega)
        have hVV : Vals W' (.slice au zs.length cu) ws := by rw [← hwl]; exact h8
        refine ⟨hVV, hwl, fun i v z h h' => ?_⟩
        have h9 := HV2.out i v z h h'
        have hi := (List.getElem?_eq_some_iff.1 h').1
        rw [if_pos (by omega)] at h9
        have h8 := HZL.out i hi
        rw [(List.getElem?_eq_some_iff.1 h').2] at h8
        exact Ints.of_owns (owns_same h9 (by omega) hW') (by omega)
      have HTT := hid hTT
      clear hTT hown hvi hb
      go_wp2
      go_ret2
      exact ⟨_, _, rfl, HTT.out, HB1.out.trans (HBk.out.mono hs1w)⟩
end Go.Proofs.YtmpjaakkjhmpmaaGreatDoor
namespace Go.Proofs.YtmpjaakkjhmpmaaGreatDoor
open Go Go.RowKit Go.Maps
def instB (s : Sg) (a b : List Int) : Bool := termB s a && termB s b && (matL s a b noM).isSome
def alikeB (s : Sg) (a b : List Int) : Bool := termB s a && termB s b && decide (canonL a = canonL b)
theorem termB_wf {s : Sg} {t : List Int} (h : termB s t = true) : ∀ x ∈ t, -1000000 ≤ x ∧ x ≤ 1000000 := by
  have h1 := termB_facts h
  have h2 := T_small (termB_T h) (by omega)
  intro x hx
  have := h2 x hx
  omega
theorem instB_iff {s : Sg} {a b : List Int} : instB s a b = true ↔ termB s a = true ∧ termB s b = true ∧ Inst s 12 a b := by
  unfold instB
  simp only [Bool.and_eq_true]
  constructor
  · rintro ⟨⟨h1, h2⟩, h3⟩
    exact ⟨h1, h2, (inst_iff (termB_T h1) (termB_T h2)).1 h3⟩
  · rintro ⟨h1, h2, h3⟩
    exact ⟨⟨h1, h2⟩, (inst_iff (termB_T h1) (termB_T h2)).2 h3⟩
theorem alikeB_iff {s : Sg} {a b : List Int} : alikeB s a b = true ↔ instB s a b = true ∧ instB s b a = true := by
  rw [instB_iff, instB_iff]
  unfold alikeB
  simp only [Bool.and_eq_true, decide_eq_true_eq]
  constructor
  · rintro ⟨⟨h1, h2⟩, h3⟩
    have := (alike_iff (termB_T h1) (termB_T h2)).1 h3
    exact ⟨⟨h1, h2, this.1⟩, h2, h1, this.2⟩
  · rintro ⟨⟨h1, h2, h3⟩, _, _, h4⟩
    exact ⟨⟨h1, h2⟩, (alike_iff (termB_T h1) (termB_T h2)).2 ⟨h3, h4⟩⟩
theorem instB_refl {s : Sg} {a : List Int} : instB s a a = termB s a := by
  cases h : termB s a
  · unfold instB; rw [h]; rfl
  · exact instB_iff.2 ⟨h, h, Inst.refl (termB_T h)⟩
theorem instB_trans {s : Sg} {a b c : List Int} (h1 : instB s a b = true) (h2 : instB s b c = true) : instB s a c = true := by
  obtain ⟨a1, a2, a3⟩ := instB_iff.1 h1
  obtain ⟨b1, b2, b3⟩ := instB_iff.1 h2
  exact instB_iff.2 ⟨a1, b2, a3.trans b3⟩
set_option maxRecDepth 100000 in
theorem unify_Instance (vs va vb : Value) (s : Sg) (a b : List Int) (w : World) (hs : SignAt w vs s) (ra : Ints w va a) (rb : Ints w vb b) (hs1 : s.length ≤ 1000) :
    Calls Tryz.prog 104 #[vs, va, vb] w fun e w' => e = .returned (.bool (instB s a b)) ∧ Below w.heap.size w w' := by
  cases h1 : termB s a
  · have HF : Hid (instB s a b = false) := hid (by unfold instB; rw [h1]; rfl)
    go_enter Tryz.func104, Tryz.ntmps104
    go_wp2_with (first | (go_at_call 119; refine (term_Valid' _ _ _ _ _ hs ra hs1).mono ?_; rintro e w1 ⟨rfl, hb1⟩))
    go_ret
    exact ⟨by rw [HF.out]; rfl, hb1⟩
  · cases h2 : termB s b
    · have HF : Hid (instB s a b = false) := hid (by unfold instB; rw [h1, h2]; rfl)
      go_enter Tryz.func104, Tryz.ntmps104
      go_wp2_with fail
      refine (term_Valid' _ _ _ _ _ hs ra hs1).mono ?_
      rintro e w1 ⟨rfl, hb1⟩
      go_wp2_with fail
      refine (term_Valid' _ _ _ _ _ (hs.below hb1) (rb.below hb1) hs1).mono ?_
      rintro e w2 ⟨rfl, hb2⟩
      go_wp2
      go_ret
      exact ⟨by rw [HF.out]; rfl, hb1.trans (hb2.mono hb1.size)⟩
    · obtain ⟨f1, f2, f3, f4⟩ := termB_facts h1
      obtain ⟨_, _, _, f5⟩ := termB_facts h2
      have hT := termB_T h1
      have hQ := termB_T h2
      have HF : Hid (instB s a b = (matL s a b noM).isSome) := hid (by unfold instB; rw [h1, h2]; rfl)
      go_enter Tryz.func104, Tryz.ntmps104
      go_wp2_with fail
      refine (term_Valid' _ _ _ _ _ hs ra hs1).mono ?_
      rintro e w1 ⟨rfl, hb1⟩
      go_wp2_with fail
      refine (term_Valid' _ _ _ _ _ (hs.below hb1) (rb.below hb1) hs1).mono ?_
      rintro e w2 ⟨rfl, hb2⟩
      have hb3 := hb1.trans (hb2.mono hb1.size)
      have HC := hid (unify_match vs va vb s a b w2 f2 f3 hT hQ (hs.below hb3) (ra.below hb3) (rb.below hb3) (by omega) (by omega))
      clear hT hQ
      go_wp2_with fail
      refine HC.out.mono ?_
      rintro e w3 ⟨hb4, ⟨hm, rfl⟩ | ⟨M, n, hm, rfl, -, -⟩⟩
      · have HM := hid hm
        clear hm
        go_wp2
        go_ret
        exact ⟨by rw [HF.out, HM.out]; rfl, hb3.trans (hb4.mono hb3.size)⟩
      · have HM := hid hm
        clear hm
        go_wp2
        go_ret
        exact ⟨by rw [HF.out, HM.out]; rfl, hb3.trans (hb4.mono hb3.size)⟩
set_option maxRecDepth 100000 in
theorem term_Alike (vs va vb : Value) (s : Sg) (a b : List Int) (w : World) (hs : SignAt w vs s) (ra : Ints w va a) (rb : Ints w vb b) (hs1 : s.length ≤ 1000) :
    Calls Tryz.prog 123 #[vs, va, vb] w fun e w' => e = .returned (.bool (alikeB s a b)) ∧ Below w.heap.size w w' := by
  cases h1 : termB s a
  · have HF : Hid (alikeB s a b = false) := hid (by unfold alikeB; rw [h1]; rfl)
    go_enter Tryz.func123, Tryz.ntmps123
    go_wp2_with (first | (go_at_call 119; refine (term_Valid' _ _ _ _ _ hs ra hs1).mono ?_; rintro e w1 ⟨rfl, hb1⟩))
    go_ret
    exact ⟨by rw [HF.out]; rfl, hb1⟩
  · cases h2 : termB s b
    · have HF : Hid (alikeB s a b = false) := hid (by unfold alikeB; rw [h1, h2]; rfl)
      go_enter Tryz.func123, Tryz.ntmps123
      go_wp2_with fail
      refine (term_Valid' _ _ _ _ _ hs ra hs1).mono ?_
      rintro e w1 ⟨rfl, hb1⟩
      go_wp2_with fail
      refine (term_Valid' _ _ _ _ _ (hs.below hb1) (rb.below hb1) hs1).mono ?_
      rintro e w2 ⟨rfl, hb2⟩
      go_wp2
      go_ret
      exact ⟨by rw [HF.out]; rfl, hb1.trans (hb2.mono hb1.size)⟩
    · obtain ⟨f1, f2, f3, f4⟩ := termB_facts h1
      obtain ⟨_, _, _, f5⟩ := termB_facts h2
      have HA := hid (termB_wf h1)
      have HB := hid (termB_wf h2)
      have ha0 := (termB_T h1).ne
      have hb0 := (termB_T h2).ne
      have hla := canonL_len a
      have hlb := canonL_len b
      have HF : Hid (alikeB s a b = decide (canonL a = canonL b)) := hid (by unfold alikeB; rw [h1, h2]; rfl)
      have HLA := hid hla
      have HLB := hid hlb
      clear hla hlb
      go_enter Tryz.func123, Tryz.ntmps123
      go_wp2_with fail
      refine (term_Valid' _ _ _ _ _ hs ra hs1).mono ?_
      rintro e w1 ⟨rfl, hb1⟩
      go_wp2_with fail
      refine (term_Valid' _ _ _ _ _ (hs.below hb1) (rb.below hb1) hs1).mono ?_
      rintro e w2 ⟨rfl, hb2⟩
      have hb3 := hb1.trans (hb2.mono hb1.size)
      go_wp2_with fail
      refine (term_canonical _ a _ (ra.below hb3) ha0 (by omega) HA.out).mono ?_
      rintro e w3 ⟨u3, rfl, o3, hb4⟩
      have hb5 := hb3.trans (hb4.mono hb3.size)
      have i3 : Ints w3 u3 (canonL a) := Ints.of_owns o3 (by rw [HLA.out]; omega)
      go_wp2_with fail
      refine (term_canonical _ b _ (rb.below hb5) hb0 (by omega) HB.out).mono ?_
      rintro e w4 ⟨u4, rfl, o4, hb6⟩
      have hb7 := hb5.trans (hb6.mono hb5.size)
      have i4 : Ints w4 u4 (canonL b) := Ints.of_owns o4 (by rw [HLB.out]; omega)
      go_wp2_with fail
      refine (sl_EqualT _ _ _ _ _ (i3.below hb6) i4).mono ?_
      rintro e w5 ⟨rfl, nq, rfl⟩
      go_wp2
      go_ret
      exact ⟨by rw [HF.out]; rfl, below_drewN hb7 nq⟩
set_option maxRecDepth 100000 in
theorem term_Canonical (vs va : Value) (s : Sg) (a : List Int) (w : World) (hs : SignAt w vs s) (ra : Ints w va a) (hs1 : s.length ≤ 1000) :
    Calls Tryz.prog 88 #[vs, va] w fun e w' => Below w.heap.size w w' ∧ ((termB s a = false ∧ e = .returned (.tuple #[.slice none 0 0, .int .i64 1])) ∨
      (termB s a = true ∧ ∃ u, e = .returned (.tuple #[u, .int .i64 0]) ∧ w'.ownsRow w.heap.size 3 1 u (canonL a).length ((canonL a).map (Value.int .i64)))) := by
  cases h1 : termB s a
  · go_enter Tryz.func88, Tryz.ntmps88
    go_wp2_with (first | (go_at_call 119; refine (term_Valid' _ _ _ _ _ hs ra hs1).mono ?_; rintro e w1 ⟨rfl, hb1⟩))
    go_ret2
    exact ⟨hb1, Or.inl (by simp)⟩
  · have f4 := (termB_facts h1).2.2.2
    have HA := hid (termB_wf h1)
    have ha0 := (termB_T h1).ne
    go_enter Tryz.func88, Tryz.ntmps88
    go_wp2_with fail
    refine (term_Valid' _ _ _ _ _ hs ra hs1).mono ?_
    rintro e w1 ⟨rfl, hb1⟩
    go_wp2_with fail
    refine (term_canonical _ a _ (ra.below hb1) ha0 (by omega) HA.out).mono ?_
    rintro e w3 ⟨u3, rfl, o3, hb4⟩
    have o3' := owns_base o3 hb1.size
    go_wp2
    go_ret2
    exact ⟨hb1.trans (hb4.mono hb1.size), Or.inr ⟨trivial, _, rfl, o3'⟩⟩
end Go.Proofs.YtmpjaakkjhmpmaaGreatDoor
namespace Go.Proofs.YtmpjaakkjhmpmaaGreatDoor
open Go Go.RowKit Go.Maps
/-- it holds however the blocks of M turn, and whatever is made. -/
def Safe (M : Nat → Prop) (Φ : World → Prop) (W : World) : Prop := ∀ W', Kb M W W' → Φ W'
theorem Safe.here {M : Nat → Prop} {Φ : World → Prop} {W : World} (h : Safe M Φ W) : Φ W := h W (Kb.refl _ _)
theorem Safe.imp {M : Nat → Prop} {Φ Ψ : World → Prop} {W : World} (h : Safe M Φ W) (hi : ∀ W, Φ W → Ψ W) : Safe M Ψ W := fun W' hk => hi W' (h W' hk)
theorem Safe.both {M : Nat → Prop} {Φ Ψ : World → Prop} {W : World} (h : Safe M Φ W) (k : Safe M Ψ W) : Safe M (fun W => Φ W ∧ Ψ W) W := fun W' hk => ⟨h W' hk, k W' hk⟩
theorem Safe.grow {M : Nat → Prop} {Φ : World → Prop} {W W1 : World} (h : Safe M Φ W) (hb : Below W.heap.size W W1) : Safe M Φ W1 := fun W' hk => h W' ((Kb.of_below (M := M) hb).trans hk (fun _ hq => Or.inl hq))
theorem Safe.turn {M M' : Nat → Prop} {Φ : World → Prop} {W W1 : World} (h : Safe M Φ W) (hk : Kb M W W1) (hM : ∀ k, M' k → M k ∨ W.heap.size ≤ k) : Safe M' Φ W1 := fun W' hk' => h W' (hk.trans hk' hM)
/-- what lies in new blocks. -/
theorem Safe.new {M : Nat → Prop} {Φ : World → Prop} {b : Nat} {W1 : World} (h : Lies b Φ W1) (hM : ∀ k, M k → k < b) : Safe M Φ W1 := fun W' hk => h W' fun q hq hlt => hk.same q hlt fun hm => by have := hM q hm; omega
/-- what lies in old blocks that the body leaves. -/
theorem Safe.old {M : Nat → Prop} {Φ : World → Prop} {wb W : World} (h : ∀ W', Below wb.heap.size wb W' → Φ W') (hb : Below wb.heap.size wb W) (hM : ∀ k, M k → wb.heap.size ≤ k) : Safe M Φ W := fun W' hk => h W' (hb.trans (hk.below hb.size hM))
/-- a cell of a block of the iterator's own. -/
theorem Safe.cell {M : Nat → Prop} {W : World} {a : Addr} {v : Value} (h : W.cell? a = some v) (hM : ¬ M a.block) : Safe M (fun W => W.cell? a = some v) W := fun W' hk => (World.cell?_of_block (hk.same _ (World.block_lt_of_cell? _ _ h) hM)).trans h
/-- a row of the iterator's own. -/
theorem Safe.ints {M : Nat → Prop} {W : World} {b : Nat} {e : TypeId} {v : Value} {xs : List Int} (h : W.ownsRow b e 1 v xs.length (xs.map (Value.int .i64))) (hl : xs.length ≤ 140737488355328) (hM : ∀ k, M k → k < b) : Safe M (fun W => Ints W v xs) W :=
  Safe.new (b := b) (fun W' hW' => Ints.of_owns (owns_same h (Nat.le_refl _) hW') hl) hM
end Go.Proofs.YtmpjaakkjhmpmaaGreatDoor
namespace Go.Proofs.YtmpjaakkjhmpmaaGreatDoor
open Go Go.RowKit Go.Maps
def varN (n : Int) : Int := -n - 1
theorem varN_mem (vs : List Int) (n : Int) : decide (varN n ∈ vs.map varN) = decide (n ∈ vs) := by
  congr 1
  simp only [List.mem_map, eq_iff_iff]
  constructor
  · rintro ⟨a, h1, h2⟩
    have : a = n := by unfold varN at h2; omega
    exact this ▸ h1
  · intro h; exact ⟨n, h, rfl⟩
set_option maxHeartbeats 1000000 in
set_option maxRecDepth 100000 in
theorem ref1_Variables (v : Value) (t : List Int) (w : World) (ht : Ints w v t) (hl : t.length ≤ 1000) (hr : ∀ x ∈ t, -1000000 ≤ x ∧ x ≤ 1000000) :
    Calls Tryz.prog 195 #[v] w fun e w' => ∃ u, e = .returned u ∧ w'.ownsRow w.heap.size 3 1 u (varsF [] t).length (((varsF [] t).map varN).map (Value.int .i64)) ∧ Below w.heap.size w w' := by
  obtain ⟨ta, tcap, rfl, ht1, ht2, -, TC⟩ := ht.open
  have TC' := hid TC
  have HR := hid hr
  clear TC ht hr
  go_enter Tryz.func195, Tryz.ntmps195
  go_wp2
  go_loopw [3, 4] (fun u kv wr => ∃ k : Nat, k ≤ t.length ∧ kv = .int .i64 k ∧ wr.ownsRow w.heap.size 3 1 u (varsF [] (t.take k)).length (((varsF [] (t.take k)).map varN).map (Value.int .i64)) ∧ Below w.heap.size w wr) (fun _ kv _ => t.length - (intOf kv).toNat)
  case atStart => exact ⟨0, by omega, rfl, World.ownsRow_nil _ _ _ _, Below.refl _ _⟩
  case round =>
    obtain ⟨k, hk, rfl, hown, hb⟩ := hrel
    have hbs := hb.size
    by_cases hlt : k < t.length
    · obtain ⟨tb, to, rfl, hc0⟩ := TC'.out k hlt
      have hcell := (hb.cell (World.block_lt_of_cell? _ _ hc0)).trans hc0
      have hrk := HR.out t[k] (List.getElem_mem hlt)
      have HV := hid (varsF_take t hlt)
      have hvl := varsF_take_len t k
      have hneg : -t[k] - 1 = varN t[k] := rfl
      obtain ⟨vs, hvs⟩ : ∃ vs, varsF [] (t.take k) = vs := ⟨_, rfl⟩
      rw [hvs] at hown hvl HV
      have hints : Ints wr u3 (vs.map varN) := Ints.of_owns (by simpa using hown) (by simp; omega)
      have HHas := hid (ref1_Has u3 (vs.map varN) (varN t[k]) wr hints)
      have HD := hid (varN_mem vs t[k])
      have HOWN := hid hown
      have HNEG := hid hneg
      clear hc0 hvs hints hown hneg
      by_cases hn : t[k] < 0
      · by_cases hv : t[k] ∈ vs
        · have HV2 : Hid (varsF [] (t.take (k + 1)) = vs) := hid (by rw [HV.out, if_neg (by simp [hv])])
          have HT : Hid (decide (t[k] ∈ vs) = true) := hid (by simp [hv])
          have hd : decide (t[k] < 0) = true := by simp [hn]
          clear hv
          go_wp2_with (go_at_call 217; rw [HNEG.out]; refine HHas.out.mono ?_; rintro e w1 ⟨rfl, rfl⟩; rw [HD.out, HT.out])
          go_roundw
          case rel => exact ⟨k + 1, by omega, by go_num, by rw [HV2.out]; exact HOWN.out, hb⟩
          case measure => simp [intOf]; omega
        · have HV2 : Hid (varsF [] (t.take (k + 1)) = vs ++ [t[k]]) := hid (by rw [HV.out, if_pos ⟨hn, hv⟩])
          have HT : Hid (decide (t[k] ∈ vs) = false) := hid (by simp [hv])
          have hd : decide (t[k] < 0) = true := by simp [hn]
          clear hv
          go_wp2_with (first
            | (go_at_call 217; rw [HNEG.out]; refine HHas.out.mono ?_; rintro e w1 ⟨rfl, rfl⟩; rw [HD.out, HT.out])
            | (at_builtin; refine wpList_append_row rfl _ _ 33 rfl w.heap.size 3 el_int Tryz.underlying33 rfl (by decide) _ _ _ rfl (HOWN.out.alloc _) _ 1 [.int .i64 (-t[k] - 1)] rfl (row_one_new _ _ _) (oneCell_one rfl) (by omega) (by omega) (by simp; omega) ?_; intro v' w4 hown4 hgrow4 _))
          have hb1 : Below w.heap.size w (wr.alloc (.cells #[.int .i64 (-t[k] - 1)] 3)) := hb.alloc hbs _
          go_roundw
          case rel =>
            refine ⟨k + 1, by omega, by go_num, ?_, hb1.grown hgrow4 (by simp; omega) (fun q hq => (HOWN.out.lt q hq).1)⟩
            rw [HV2.out, List.map_append, List.map_append, List.length_append]
            exact hown4
          case measure => simp [intOf]; omega
      · have HV2 : Hid (varsF [] (t.take (k + 1)) = vs) := hid (by rw [HV.out, if_neg (by simp [hn])])
        have hd : decide (t[k] < 0) = false := by simp [hn]
        go_wp2
        go_roundw
        case rel => exact ⟨k + 1, by omega, by go_num, by rw [HV2.out]; exact HOWN.out, hb⟩
        case measure => simp [intOf]; omega
    · have HE : Hid (t.take k = t) := hid (List.take_of_length_le (by omega))
      have HOWN := hid hown
      clear hown
      go_wp2
      go_ret
      refine ⟨_, rfl, ?_, hb⟩
      have := HOWN.out
      rw [HE.out] at this
      exact this
theorem Ints.at {w : World} {a : Option Addr} {cap : Nat} {t : List Int} (h : Ints w (.slice a t.length cap) t) {k : Nat} (hk : k < t.length) : ∃ b o, a = some ⟨b, o, none⟩ ∧ w.cell? ⟨b, o + k, none⟩ = some (.int .i64 t[k]) := by
  obtain ⟨a', cap', h1, _, _, _, h2⟩ := h.open
  simp only [Value.slice.injEq] at h1
  obtain ⟨rfl, _, rfl⟩ := h1
  exact h2 k hk
/-- a list whose first k numbers have their last names. -/
def renL (t : List Int) (k : Nat) : List Int := (t.take k).map (numV (varsF [] t)) ++ t.drop k
theorem renL_len (t : List Int) (k : Nat) : (renL t k).length = t.length := by
  unfold renL
  rw [List.length_append, List.length_map, ← List.length_append, List.take_append_drop]
theorem renL_zero (t : List Int) : renL t 0 = t := by simp [renL]
theorem renL_all (t : List Int) {k : Nat} (h : t.length ≤ k) : renL t k = canonL t := by
  unfold renL canonL
  rw [List.take_of_length_le h, List.drop_eq_nil_of_le h, List.append_nil]
/-- the number at index k while its name is looked for. -/
def seek (vs : List Int) (n : Int) (j : Nat) : Int := if n ∈ vs.take j then numV vs n else n
theorem seek_zero (vs : List Int) (n : Int) : seek vs n 0 = n := by simp [seek]
theorem renL_set (t : List Int) {k : Nat} (h : k < t.length) (x : Int) : (renL t k).set k x = (t.take k).map (numV (varsF [] t)) ++ x :: t.drop (k + 1) := by
  unfold renL
  rw [List.set_append_right _ _ (by simp; omega)]
  have e2 : k - ((t.take k).map (numV (varsF [] t))).length = 0 := by simp; omega
  rw [e2, List.drop_eq_getElem_cons h, List.set_cons_zero]
theorem renL_same (t : List Int) {k : Nat} (h : k < t.length) : (renL t k).set k t[k] = renL t k := by
  rw [renL_set t h]
  unfold renL
  rw [← List.drop_eq_getElem_cons h]
theorem renL_step (t : List Int) {k : Nat} (h : k < t.length) : (renL t k).set k (seek (varsF [] t) t[k] (varsF [] t).length) = renL t (k + 1) := by
  rw [renL_set t h]
  unfold renL
  rw [List.take_succ_eq_append_getElem h, List.map_append, List.append_assoc]
  congr 1
  have : seek (varsF [] t) t[k] (varsF [] t).length = numV (varsF [] t) t[k] := by
    unfold seek
    rw [List.take_of_length_le (Nat.le_refl _)]
    split
    · rfl
    · rename_i hn
      unfold numV
      split
      · rename_i h0
        exact absurd ((varsF_mem t [] _).2 (Or.inr ⟨List.getElem_mem h, h0⟩)) hn
      · rfl
  rw [this]; rfl
theorem seek_yes {vs : List Int} {n : Int} {j : Nat} (hd : vs.Nodup) (hv : ∀ x ∈ vs, x < 0) (h : j < vs.length) (e : n = vs[j]) : seek vs n (j + 1) = -(j : Int) - 1 := by
  unfold seek numV
  have hm : n ∈ vs.take (j + 1) := by rw [List.take_succ_eq_append_getElem h, e]; exact List.mem_append.2 (Or.inr (List.mem_singleton.2 rfl))
  have hi : vs.idxOf n = j := by rw [e]; exact List.Nodup.idxOf_getElem hd j h
  rw [if_pos hm, if_pos (by rw [e]; exact hv _ (List.getElem_mem h)), hi]
theorem seek_no {vs : List Int} {n : Int} {j : Nat} (h : j < vs.length) (e : n ≠ vs[j]) : seek vs n (j + 1) = seek vs n j := by
  unfold seek
  rw [List.take_succ_eq_append_getElem h]
  by_cases hm : n ∈ vs.take j
  · rw [if_pos (List.mem_append.2 (Or.inl hm)), if_pos hm]
  · rw [if_neg (fun h => by rcases List.mem_append.1 h with h | h; exact hm h; exact e (List.mem_singleton.1 h)), if_neg hm]
set_option maxHeartbeats 2000000 in
set_option maxRecDepth 100000 in
theorem ref1_Renamed (v : Value) (t : List Int) (w : World) (ht : Ints w v t) (h0 : 0 < t.length) (hl : t.length ≤ 1000) (hr : ∀ x ∈ t, -1000000 ≤ x ∧ x ≤ 1000000) :
    Calls Tryz.prog 161 #[v] w fun e w' => ∃ u, e = .returned u ∧ w'.ownsRow w.heap.size 3 1 u (canonL t).length ((canonL t).map (Value.int .i64)) ∧ Below w.heap.size w w' := by
  obtain ⟨ta, tcap, rfl, ht1, ht2, -, TC⟩ := ht.open
  have TC' := hid TC
  have HR := hid hr
  have HT := hid ht
  have hvl0 := varsF_take_len t t.length
  rw [List.take_of_length_le (Nat.le_refl _)] at hvl0
  have hnd := varsF_nodup t [] (by simp)
  have hvn : ∀ x ∈ varsF [] t, x < 0 := fun x hx => by
    rcases (varsF_mem t [] x).1 hx with h | h
    · simp at h
    · exact h.2
  have hvr : ∀ x ∈ varsF [] t, -1000000 ≤ x ∧ x ≤ 1000000 := fun x hx => by
    rcases (varsF_mem t [] x).1 hx with h | h
    · simp at h
    · exact hr x h.1
  obtain ⟨vs, hvs⟩ : ∃ vs, varsF [] t = vs := ⟨_, rfl⟩
  have hvar := ref1_Variables _ t w HT.out hl HR.out
  have hstep := fun (k : Nat) (h : k < t.length) => renL_step t h
  rw [hvs] at hvl0 hnd hvn hvr hvar
  simp only [hvs] at hstep
  have HVAR := hid hvar
  have HND := hid hnd
  have HVN := hid hvn
  have HVR := hid hvr
  have HSTEP := hid hstep
  clear TC ht hr hvs hvar hnd hvn hvr hstep
  go_enter Tryz.func161, Tryz.ntmps161
  go_wp2_with fail
  refine HVAR.out.mono ?_
  rintro e w1 ⟨uv, rfl, hov, hb1⟩
  have hiv : Ints w1 uv (vs.map varN) := Ints.of_owns (by simpa using hov) (by simp; omega)
  obtain ⟨va, vcap, hve, hv1, hv2, -, VC⟩ := hiv.open
  subst hve
  have HIV1 := hid hiv
  rw [List.length_map] at hv1 hv2
  have hb2 : Below w.heap.size w (w1.alloc (.cells #[] 3)) := hb1.alloc hb1.size _
  have HT2 := hid (HT.out.below hb2)
  have HOWN := hid (World.ownsRow_lit (base := w1.heap.size) (e := 3) (size := 1) w1 #[] 0 (Nat.le_refl _) (by simp [maxLen]) rfl)
  have hiv2 : Ints (w1.alloc (.cells #[] 3)) (.slice va (vs.map varN).length vcap) (vs.map varN) := hiv.below ((Below.refl _ _).alloc (Nat.le_refl _) _)
  have HIV := hid hiv2
  have HB2 := hid hb2
  have hsz1 := hb1.size
  clear hov hiv VC hiv2 hb2
  rw [List.length_map] at *
  go_wp2_with (at_builtin; refine wpList_append_row rfl _ _ 34 rfl w1.heap.size 3 el_int Tryz.underlying34 rfl (by decide) _ _ _ rfl HOWN.out _ t.length (t.map (Value.int .i64)) rfl HT2.out (ints_one t) (by omega) (by omega) (by simp) ?_; intro v' w4 hown4 hgrow4 _)
  have hb14 : Below w1.heap.size w1 w4 := ((Below.refl _ _).alloc (Nat.le_refl _) _).grown hgrow4 (by simp) (fun q hq => by cases hq; exact Nat.le_refl _)
  obtain ⟨g, cap, hve, hg, hgc⟩ := owns_some hown4 (by omega)
  rw [Nat.zero_add] at hve hown4 hgc
  subst hve
  have HOWN4 := hid hown4
  have HB14 := hid hb14
  have HB1 := hid hb1
  have HT1 := hid (HT.out.below hb1)
  clear hgrow4 HB2 HOWN HT2 hown4 hb14 hb1 HIV HT
  go_loopw [5, 6] (fun iv _ wr => ∃ k : Nat, k ≤ t.length ∧ iv = .int .i64 k ∧ wr.ownsRow w1.heap.size 3 1 (.slice (some ⟨g, 0, none⟩) t.length cap) t.length ((renL t k).map (Value.int .i64)) ∧ Below w1.heap.size w1 wr) (fun iv _ _ => t.length - (intOf iv).toNat)
  case atStart => exact ⟨0, by omega, rfl, by rw [renL_zero]; simpa using HOWN4.out, HB14.out⟩
  case round =>
    clear HOWN4 HB14
    obtain ⟨k, hk, rfl, hown, hb⟩ := hrel
    by_cases hlt : k < t.length
    · have HOWN := hid hown
      have HB := hid hb
      have HR0 := hid (renL_same t hlt)
      clear hown hb
      go_wp2
      go_loopw [6] (fun jv wq => ∃ j : Nat, j ≤ vs.length ∧ jv = .int .i64 j ∧ wq.ownsRow w1.heap.size 3 1 (.slice (some ⟨g, 0, none⟩) t.length cap) t.length (((renL t k).set k (seek vs t[k] j)).map (Value.int .i64)) ∧ Below w1.heap.size w1 wq) (fun jv _ => vs.length - (intOf jv).toNat)
      case atStart => exact ⟨0, by omega, rfl, by rw [seek_zero, HR0.out]; exact HOWN.out, HB.out⟩
      case round =>
        clear HOWN HB
        obtain ⟨j, hj, rfl, hown, hb⟩ := hrel
        by_cases hjl : j < vs.length
        · obtain ⟨tb, to, rfl, hct⟩ := (HT1.out.below hb).at hlt
          have hjm : j < (vs.map varN).length := by simpa using hjl
          have hiv' : Ints wr (.slice va (vs.map varN).length vcap) (vs.map varN) := by rw [List.length_map]; exact HIV1.out.below hb
          obtain ⟨vb, vo, rfl, hcv⟩ := hiv'.at hjm
          rw [List.getElem_map] at hcv
          have hvr := HVR.out vs[j] (List.getElem_mem hjl)
          have hvr2 : -1000001 ≤ varN vs[j] ∧ varN vs[j] ≤ 1000001 := by unfold varN; omega
          have hvv : -varN vs[j] - 1 = vs[j] := by unfold varN; omega
          clear hiv' hvr
          have hbs := hb.size
          by_cases he : t[k] = vs[j]
          · have heq : (t[k] == -varN vs[j] - 1) = true := by rw [hvv]; simpa using he
            have HSK := hid (seek_yes HND.out HVN.out hjl he)
            have hc1 := hown.cellAt k (by omega)
            have hgl : (((renL t k).set k (seek vs t[k] j)).map (Value.int .i64))[k]? = some (.int .i64 (seek vs t[k] j)) := by
              rw [List.getElem?_map, List.getElem?_set_self (by rw [renL_len]; exact hlt)]; rfl
            rw [hgl] at hc1
            have hf1 := hown.frozenAt k
            have hst := (hown.stored k (.int .i64 (-(j : Int) - 1))).1
            rw [← List.map_set, List.set_set] at hst
            have HST := hid hst
            have HB2 : Hid (Below w1.heap.size w1 (wr.setCell ⟨g, k, none⟩ (.int .i64 (-(j : Int) - 1)))) := hid (hb.setCell (p := ⟨g, k, none⟩) hg _)
            clear hst hown hvv hgl he
            go_wp2
            go_quiet (fail)
            go_wp2
            go_roundw
            case rel => exact ⟨j + 1, by omega, by go_num, by rw [HSK.out]; exact owns_below HST.out (below_self_drewN (wr.setCell ⟨g, k, none⟩ (.int .i64 (-(j : Int) - 1))) nq), below_drewN HB2.out nq⟩
            case measure => simp [intOf]; omega
          · have heq : (t[k] == -varN vs[j] - 1) = false := by rw [hvv]; simpa using he
            have HSK := hid (seek_no hjl he)
            have HOWN := hid hown
            clear hvv he hown
            go_wp2
            go_quiet (fail)
            go_wp2
            go_roundw
            case rel => exact ⟨j + 1, by omega, by go_num, by rw [HSK.out]; exact owns_below HOWN.out (below_self_drewN wr nq), below_drewN hb nq⟩
            case measure => simp [intOf]; omega
        · have hjv : j = vs.length := by omega
          subst hjv
          have HS := hid (HSTEP.out k hlt)
          have HOWN := hid hown
          clear hown
          go_wp2
          go_roundw
          case rel => exact ⟨k + 1, by omega, by go_num, by rw [← HS.out]; exact HOWN.out, hb⟩
          case measure => simp [intOf]; omega
    · have HE := hid (renL_all t (k := k) (by omega))
      have HL := canonL_len t
      rw [HE.out] at hown
      have HOWN := hid hown
      clear hown
      go_wp2
      go_ret
      exact ⟨_, rfl, by rw [HL]; exact owns_base HOWN.out hsz1, HB1.out.trans (hb.mono hsz1)⟩
end Go.Proofs.YtmpjaakkjhmpmaaGreatDoor
namespace Go.Proofs.YtmpjaakkjhmpmaaGreatDoor
open Go Go.RowKit Go.Maps
abbrev BL := List (Int × List Int)
/-- what binds make of the number of a variable in a term. -/
def ofN (l : BL) (n : Int) : List Int := match l.find? (fun b => -b.1 - 1 == n) with | some b => b.2 | none => [n]
def bndB (s : Sg) (l : BL) (i : Nat) : Bool :=
  match l[i]? with
  | some b => inB b.1 0 11 && !(decide (0 < i) && (match l[i - 1]? with | some c => decide (b.1 ≤ c.1) | none => false)) && termB s b.2 && !decide (b.2 = [-b.1 - 1])
  | none => true
def bndsB (s : Sg) (l : BL) : Bool := signB s && (List.range l.length).all (bndB s l)
/-- the binds that a map tells. -/
def bndL (m : MM) (k : Nat) : BL := (List.range k).filterMap fun (v : Nat) => match m (-(v : Int) - 1) with | some l => if l = [-(v : Int) - 1] then none else some ((v : Int), l) | none => none
/-- Compose. -/
def comM (l m : BL) : MM := fun n => some (subL (ofN m) (ofN l n))
def comLe (l m : BL) (v : Nat) : Bool := decide ((subL (ofN m) (ofN l (-(v : Int) - 1))).length ≤ 60)
def comR (s : Sg) (l m : BL) : BL × Int :=
  if bndsB s l && bndsB s m then (if (List.range 12).all (comLe l m) then (bndL (comM l m) 12, 0) else ([], 4)) else ([], 1)
end Go.Proofs.YtmpjaakkjhmpmaaGreatDoor
namespace Go.Proofs.YtmpjaakkjhmpmaaGreatDoor
open Go Go.RowKit Go.Maps
def dd : Option (List Int) → List (List Int) → List (List Int)
  | _, [] => []
  | p, x :: l => if p = some x then dd (some x) l else x :: dd (some x) l
/-- the elements of a slice of the call's own that lies in block g: terms, in other blocks. -/
def Elts (g : Nat) (vs : List Value) (gs : List (List Int)) (w : World) : Prop := vs.length = gs.length ∧ ∀ (i : Nat) (v : Value) (q : List Int), vs[i]? = some v → gs[i]? = some q → Safe (fun k => k = g) (fun W => Ints W v q) w
theorem Elts.turn {g : Nat} {vs : List Value} {gs : List (List Int)} {w w' : World} (h : Elts g vs gs w) (hk : Kb (fun k => k = g) w w') : Elts g vs gs w' := ⟨h.1, fun i v q h1 h2 => (h.2 i v q h1 h2).turn hk (fun _ h => Or.inl h)⟩
end Go.Proofs.YtmpjaakkjhmpmaaGreatDoor
