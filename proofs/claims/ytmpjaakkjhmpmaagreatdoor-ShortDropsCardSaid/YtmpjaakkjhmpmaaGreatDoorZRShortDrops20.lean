/-
  WHAT IT HOLDS: contracts of named and apart of package unify, and of full of its solver. Conditions: the arguments read as data; numbers are small.
-/
import Derived.Test.YtmpjaakkjhmpmaaGreatDoorZRShortDrops19
import Derived.Test.YtmpjaakkjhmpmaaGreatDoorZRShortDrops17
namespace Go.Proofs.YtmpjaakkjhmpmaaGreatDoor
open Go Go.RowKit Go.Maps
def namL (t : List Int) (k : Nat) : List Int := (t.take k).map (numV (varsF [] (t.take k)))
theorem namL_all (t : List Int) {k : Nat} (h : t.length ≤ k) : namL t k = canonL t := by
  unfold namL canonL
  rw [List.take_of_length_le h]
theorem namL_step (t : List Int) {k : Nat} (h : k < t.length) : namL t (k + 1) = namL t k ++ [numV (varsF [] (t.take (k + 1))) t[k]] := by
  have e1 : (t.take k).map (numV (varsF [] (t.take (k + 1)))) = (t.take k).map (numV (varsF [] (t.take k))) := by
    apply List.map_congr_left
    intro n hn
    rw [List.take_succ_eq_append_getElem h, varsF_append]
    exact numV_stable' _ _ fun hn0 => (varsF_mem _ _ _).2 (Or.inr ⟨hn, hn0⟩)
  unfold namL
  conv => lhs; rw [List.take_succ_eq_append_getElem h, List.map_append, ← List.take_succ_eq_append_getElem h]
  rw [e1]
  rfl
set_option maxHeartbeats 1000000 in
set_option maxRecDepth 100000 in
theorem unify_named (v : Value) (t : List Int) (w : World) (ht : Ints w v t) (hl : t.length ≤ 1000) (hr : ∀ x ∈ t, -1000000 ≤ x ∧ x ≤ 1000000) :
    Calls Tryz.prog 194 #[v] w fun e w' => ∃ u, e = .returned (.tuple #[u, .bool (decide ((varsF [] t).length ≤ 12))]) ∧ w'.ownsRow w.heap.size 3 1 u (canonL t).length ((canonL t).map (Value.int .i64)) ∧ Below w.heap.size w w' := by
  obtain ⟨ta, tcap, rfl, ht1, ht2, -, TC⟩ := ht.open
  have TC' := hid TC
  have HR := hid hr
  have hmm := @run_makeMap Tryz.prog
  clear TC ht hr
  go_enter Tryz.func194, Tryz.ntmps194
  go_wp2_with fail
  clear hmm
  have HB0 : Hid (Below w.heap.size w (w.alloc (.map #[] 0))) := hid ((Below.refl _ _).alloc (Nat.le_refl _) _)
  have HM0 : Hid (NMap (w.alloc (.map #[] 0)) w.heap.size []) := hid (by
    have := MapK.made Tryz.prog 3 eI eI w
    unfold NMap
    rw [numM_nil]
    exact this)
  go_loopw [5, 13] (fun ov kv wr => ∃ k : Nat, k ≤ t.length ∧ kv = .int .i64 k ∧ wr.ownsRow (w.heap.size + 1) 3 1 ov k ((namL t k).map (Value.int .i64)) ∧ NMap wr w.heap.size (varsF [] (t.take k)) ∧ Below w.heap.size w wr) (fun _ kv _ => t.length - (intOf kv).toNat)
  case atStart => exact ⟨0, by omega, rfl, World.ownsRow_nil _ _ _ _, by simpa [varsF] using HM0.out, HB0.out⟩
  case round =>
    clear HM0 HB0
    obtain ⟨k, hk, rfl, hown, hm, hb⟩ := hrel
    have hbs := hb.size
    have hmlt := hm.lt
    by_cases hlt : k < t.length
    · obtain ⟨tb, to, rfl, hc0⟩ := TC'.out k hlt
      have hcell := (hb.cell (World.block_lt_of_cell? _ _ hc0)).trans hc0
      have hrk := HR.out t[k] (List.getElem_mem hlt)
      have HV := hid (varsF_take t hlt)
      have HNS := hid (namL_step t hlt)
      obtain ⟨x, hx⟩ : ∃ x, t[k] = x := ⟨_, rfl⟩
      rw [hx] at hcell hrk HV HNS
      have HX := hid hx
      clear hc0 hx
      by_cases hn : 0 ≤ x
      · have hge : decide (x < 0) = false := by simp; omega
        have HNV : Hid (numV (varsF [] (t.take (k + 1))) x = x) := hid (by unfold numV; rw [if_neg (by omega)])
        have HOWN := hid hown
        have HM := hid hm
        clear hown hm
        go_wp2_with (at_builtin; refine wpList_append_row rfl _ _ 34 rfl (w.heap.size + 1) 3 el_int Tryz.underlying34 rfl (by decide) _ _ _ rfl (HOWN.out.alloc _) _ 1 [.int .i64 x] rfl (row_one_new _ _ _) (oneCell_one rfl) (by omega) (by omega) (by simp; omega) ?_; intro v' w4 hown4 hgrow4 _)
        have hob : ∀ q, u5.ownBlock = some q → w.heap.size + 1 ≤ q := fun q hq => (HOWN.out.lt q hq).1
        go_roundw
        case rel => exact ⟨k + 1, by omega, by go_num, by rw [HNS.out, HNV.out, List.map_append]; exact hown4, by rw [HV.out, if_neg (by omega)]; exact (HM.out.alloc _).kept hgrow4 (fun e => by have := hob _ e.symm; omega), (hb.alloc hbs _).grown hgrow4 (by simp; omega) (fun q hq => by have := hob q hq; omega)⟩
        case measure => simp [intOf]; omega
      · have hge : decide (x < 0) = true := by simp; omega
        have hkey := int_key x (wf_small hrk.1 hrk.2)
        have hvl := varsF_take_len t k
        obtain ⟨vs, hvs⟩ : ∃ vs, varsF [] (t.take k) = vs := ⟨_, rfl⟩
        rw [hvs] at hm hvl HV
        have HKEY := hid hkey
        have HOWN := hid hown
        clear hkey hown
        by_cases hv : x ∈ vs
        · have HY := hid (numM_yes hv)
          have hV2 : varsF [] (t.take (k + 1)) = vs := by rw [HV.out, if_neg (by simp [hv])]
          have HNV : Hid (numV (varsF [] (t.take (k + 1))) x = -(vs.idxOf x : Int) - 1) := hid (by rw [hV2]; unfold numV; rw [if_pos (by omega)])
          have HV2 := hid hV2
          have HM := hid hm
          clear hv hV2 hvs hm
          go_wp2_with (first
            | (at_lookup; refine wpList_lookup_mapK rfl _ _ 125 true rfl (int_keyed Tryz.underlying3) eI_inj Tryz.underlying125 (zero_int _) rfl HM.out x rfl HKEY.out (.tuple #[.int .i64 (-(vs.idxOf x : Int) - 1), .bool true]) (by rw [HY.out]; rfl) ?_)
            | (at_lookup; refine wpList_lookup_mapK rfl _ _ 125 false rfl (int_keyed Tryz.underlying3) eI_inj Tryz.underlying125 (zero_int _) rfl HM.out x rfl HKEY.out (.int .i64 (-(vs.idxOf x : Int) - 1)) (by rw [HY.out]; rfl) ?_)
            | (at_builtin; refine wpList_append_row rfl _ _ 34 rfl (w.heap.size + 1) 3 el_int Tryz.underlying34 rfl (by decide) _ _ _ rfl (HOWN.out.alloc _) _ 1 [.int .i64 (-(vs.idxOf x : Int) - 1)] rfl (row_one_new _ _ _) (oneCell_one rfl) (by omega) (by omega) (by simp; omega) ?_; intro v' w4 hown4 hgrow4 _))
          have hob : ∀ q, u5.ownBlock = some q → w.heap.size + 1 ≤ q := fun q hq => (HOWN.out.lt q hq).1
          go_roundw
          case rel => exact ⟨k + 1, by omega, by go_num, by rw [HNS.out, HNV.out, List.map_append]; exact hown4, by rw [HV2.out]; exact (HM.out.alloc _).kept hgrow4 (fun e => by have := hob _ e.symm; omega), (hb.alloc hbs _).grown hgrow4 (by simp; omega) (fun q hq => by have := hob q hq; omega)⟩
          case measure => simp [intOf]; omega
        · have HN := hid (numM_no hv)
          have HI := hid (numM_ins hv)
          have hV2 : varsF [] (t.take (k + 1)) = vs ++ [x] := by rw [HV.out, if_pos ⟨by omega, hv⟩]
          have HNV : Hid (numV (varsF [] (t.take (k + 1))) x = -(vs.length : Int) - 1) := hid (by
            rw [hV2]; unfold numV; rw [if_pos (by omega), List.idxOf_append, if_neg hv]; simp)
          have HNM : Hid (numM (vs ++ [x]) x = some (-(vs.length : Int) - 1)) := hid (by
            rw [numM_yes (by simp), List.idxOf_append, if_neg hv]; simp)
          have HV2 := hid hV2
          have hlen := fun ty => hm.run_len Tryz.underlying125 ty
          have HM := hid hm
          clear hv hV2 hvs hm
          go_wp2_with (first
            | (at_lookup; refine wpList_lookup_mapK rfl _ _ 125 true rfl (int_keyed Tryz.underlying3) eI_inj Tryz.underlying125 (zero_int _) rfl HM.out x rfl HKEY.out (.tuple #[.int .i64 0, .bool false]) (by rw [HN.out]; rfl) ?_)
            | (go_at_call 216; refine (unify_code _ _ (by omega) (by omega)).mono ?_; rintro e w' ⟨rfl, rfl⟩)
            | (at_mapUpdate; refine wpList_update_mapK rfl _ _ _ 125 rfl (int_keyed Tryz.underlying3) eI_inj Tryz.underlying125 rfl HM.out x (-(vs.length : Int) - 1) rfl rfl HKEY.out ?_; intro w2 hm2' hg2; have HM2 : Hid (NMap w2 w.heap.size (vs ++ [x])) := hid (nmap_ins HN.out HI.out hm2'); have HOWN2 := hid (owns_grown HOWN.out hg2 (fun q hq => by cases hq; omega)); have hb2 : Below w.heap.size w w2 := hb.grown hg2 hbs (fun q hq => by cases hq; exact Nat.le_refl _); have hbs2 := hg2.size; clear hm2')
            | (at_lookup; refine wpList_lookup_mapK rfl _ _ 125 false rfl (int_keyed Tryz.underlying3) eI_inj Tryz.underlying125 (zero_int _) rfl HM2.out x rfl HKEY.out (.int .i64 (-(vs.length : Int) - 1)) (by rw [HNM.out]; rfl) ?_)
            | (at_builtin; refine wpList_append_row rfl _ _ 34 rfl (w.heap.size + 1) 3 el_int Tryz.underlying34 rfl (by decide) _ _ _ rfl (HOWN2.out.alloc _) _ 1 [.int .i64 (-(vs.length : Int) - 1)] rfl (row_one_new _ _ _) (oneCell_one rfl) (by omega) (by omega) (by simp; omega) ?_; intro v' w4 hown4 hgrow4 _))
          have hob : ∀ q, u5.ownBlock = some q → w.heap.size + 1 ≤ q := fun q hq => (HOWN.out.lt q hq).1
          go_roundw
          case rel => exact ⟨k + 1, by omega, by go_num, by rw [HNS.out, HNV.out, List.map_append]; exact hown4, by rw [HV2.out]; exact (HM2.out.alloc _).kept hgrow4 (fun e => by have := hob _ e.symm; omega), (hb2.alloc hb2.size _).grown hgrow4 (by simp; omega) (fun q hq => by have := hob q hq; omega)⟩
          case measure => simp [intOf]; omega
    · have hkt : k = t.length := by omega
      have HE := hid (namL_all t (k := k) (by omega))
      have HL := canonL_len t
      rw [HE.out] at hown
      have HV : Hid (varsF [] (t.take k) = varsF [] t) := hid (by rw [List.take_of_length_le (by omega)])
      rw [HV.out] at hm
      have hlen := fun ty => hm.run_len Tryz.underlying125 ty
      have HOW := hid hown
      clear hown
      go_wp2
      go_ret2
      refine ⟨_, ?_, by rw [HL, ← hkt]; exact owns_base HOW.out (by omega), hb⟩
      show Ending.returned (.tuple #[u5, .bool (decide (((varsF [] t).length : Int) ≤ 12))]) = _
      rw [show decide (((varsF [] t).length : Int) ≤ 12) = decide ((varsF [] t).length ≤ 12) from decide_eq_decide.2 (by omega)]
end Go.Proofs.YtmpjaakkjhmpmaaGreatDoor
