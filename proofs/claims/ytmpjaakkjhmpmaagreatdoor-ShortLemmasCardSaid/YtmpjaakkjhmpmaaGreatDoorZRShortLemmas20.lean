/-
  WHAT IT HOLDS: contracts of full of package unify's solver: a term with all that is bound put in, or false if it is longer than 60. Conditions: the solver reads as data; what it binds leans on nothing of itself.
  WHAT IT HOLDS: contract of size of the reference's solver (layer 2). Conditions: the solver reads as data; the term is a term of at most 60 numbers; what is known is so.
-/
import Derived.OneCell
import Derived.Deep.RegionHeld3
import Derived.Test.YtmpjaakkjhmpmaaGreatDoorZRShortLemmas18
import Derived.Test.YtmpjaakkjhmpmaaGreatDoorZRShortLemmas19
namespace Go.Proofs.YtmpjaakkjhmpmaaGreatDoor
open Go Go.RowKit Go.Maps
theorem fw_one {s : Sg} {m : MM} (h : MOK s m) {n : Int} (hn : m n = none) : fw m [n] = [n] := by
  by_cases h0 : n < 0
  · exact sg_none h h0 hn
  · rw [fw_app _ (by omega)]; unfold fw; rw [full_nil]
theorem fw_take {m : MM} (t : List Int) {i : Nat} (h : i < t.length) : fw m (t.take (i + 1)) = fw m (t.take i) ++ fw m [t[i]] := by
  rw [List.take_succ_eq_append_getElem h, fw_append]
theorem fw_take_le (m : MM) (t : List Int) (i : Nat) : (fw m (t.take i)).length ≤ (fw m t).length := by
  conv => rhs; rw [← List.take_append_drop i t, fw_append, List.length_append]
  omega
def fnF (pxb pw po : Nat) : Value := .func (.func 215) #[] #[.pointer (some ⟨pxb, 0, none⟩), .pointer (some ⟨pw, 0, none⟩), .pointer (some ⟨po, 0, none⟩)]
structure FullW (w0 w : World) (B pxb pw po px : Nat) (vo : Value) (o : List Int) : Prop where
  b0 : Below w0.heap.size w0 w
  hB : B ≤ w.heap.size
  cx : w.cell? ⟨pxb, 0, none⟩ = some (.pointer (some ⟨px, 0, none⟩))
  cw : w.cell? ⟨pw, 0, none⟩ = some (fnF pxb pw po)
  bo : w.heap[po]? = some (.cells #[vo] 34 (0, 0))
  own : w.ownsRow B 3 1 vo o.length (o.map (Value.int .i64))
theorem FullW.slice {w0 w : World} {B pxb pw po px : Nat} {vo : Value} {o : List Int} (h : FullW w0 w B pxb pw po px vo o) : ∃ a c, vo = .slice a o.length c := by
  rcases h.own.2 with ⟨h1, h2⟩ | ⟨g, cap, _, h1, _⟩
  · rw [h2]; exact ⟨none, 0, h1⟩
  · exact ⟨_, _, h1⟩
theorem FullW.push {w0 w w4 : World} {B pxb pw po px : Nat} {vo v' : Value} {o : List Int} {x : Int} (h : FullW w0 w B pxb pw po px vo o) (ob : Obj) (hN : w0.heap.size ≤ po) (h1 : pxb < B) (h2 : pw < B) (h3 : po < B) (h4 : pxb ≠ po) (h5 : pw ≠ po) (hNB : w0.heap.size ≤ B)
    (hown : w4.ownsRow B 3 1 v' (o.length + 1) (o.map (Value.int .i64) ++ [.int .i64 x])) (hg : (w.alloc ob).grownBy w4 vo.ownBlock) : FullW w0 (w4.setCell ⟨po, 0, none⟩ v') B pxb pw po px v' (o ++ [x]) := by
  have hob : ∀ q, vo.ownBlock = some q → B ≤ q := fun q hq => (h.own.lt q hq).1
  have hb4 : Below B w w4 := ((Below.refl _ _).alloc h.hB _).grown hg (by simp; have := h.hB; omega) hob
  have hbo : w4.heap[po]? = some (.cells #[vo] 34 (0, 0)) := (hb4.block po h3).trans h.bo
  have hfr := Below.heap_setCell w4 ⟨po, 0, none⟩ v'
  refine ⟨(h.b0.trans (hb4.mono hNB)).setCell (by exact hN) _, ?_, ?_, ?_, one_setCell hbo, ?_⟩
  · have : (w4.setCell ⟨po, 0, none⟩ v').heap.size = w4.heap.size := by simp [World.setCell]
    rw [this]; have := hb4.size; have := h.hB; omega
  · rw [World.cell?_of_block (hfr pxb h4), hb4.cell (p := ⟨pxb, 0, none⟩) h1]; exact h.cx
  · rw [World.cell?_of_block (hfr pw h5), hb4.cell (p := ⟨pw, 0, none⟩) h2]; exact h.cw
  · have := ownsRow_setCell_below hown (a := ⟨po, 0, none⟩) h3 v'
    simpa using this
set_option maxHeartbeats 1000000 in
set_option maxRecDepth 100000 in
theorem unify_full1 (px bm B pxb pw po : Nat) (vs : Value) (s : Sg) (M : Int → Option VT) (w0 : World) (hm : MOK s (mOf M)) (hS : SolvW w0 px bm vs s M) (r : Int → Nat) (hr : Rk (mOf M) r) (hN : w0.heap.size ≤ po) (hNB : w0.heap.size ≤ B) (h1 : pxb < B) (h2 : pw < B) (h3 : po < B) (h4 : pxb ≠ po) (h5 : pw ≠ po) (hsl : s.length ≤ 1000) :
    ∀ (k : Nat) (t o : List Int) (vt vo : Value) (w : World), (∀ x ∈ t, x < 0 → r x + 1 < k) → 0 < k → IsT s 24 t → t.length ≤ 60 → Ints w0 vt t → FullW w0 w B pxb pw po px vo o → o.length ≤ 60 →
    Calls Tryz.prog 215 #[vt, .pointer (some ⟨pxb, 0, none⟩), .pointer (some ⟨pw, 0, none⟩), .pointer (some ⟨po, 0, none⟩)] w
      fun e w' => (∃ vo' o', FullW w0 w' B pxb pw po px vo' o' ∧ ((e = .returned (.bool true) ∧ o' = o ++ fw (mOf M) t ∧ o'.length ≤ 60) ∨ (e = .returned (.bool false) ∧ 60 < (o ++ fw (mOf M) t).length))) := by
  intro k
  induction k with
  | zero => intro t o vt vo w hk hk0; omega
  | succ k ih =>
    intro t o vt vo w hk hk0 hT hl ra hF ho
    obtain ⟨ta, tc, rfl, ht1, ht2, -, TC⟩ := ra.open
    have HT := hid hT
    have HTC := hid TC
    have HMV := hid hm.val
    have HM := hid hm
    have HS := hid hS
    have HK := hid hk
    have HR := hid hr
    have IH := hid ih
    have HF := hid hF
    clear hT TC ra hm hS hF hk hr ih
    go_enter Tryz.func215, Tryz.ntmps215
    go_wp2
    go_loopw [12] (fun iv wr => ∃ (i : Nat) (vo' : Value), i ≤ t.length ∧ iv = .int .i64 i ∧ FullW w0 wr B pxb pw po px vo' (o ++ fw (mOf M) (t.take i)) ∧ (o ++ fw (mOf M) (t.take i)).length ≤ 60) (fun iv _ => t.length - (intOf iv).toNat)
    case atStart => exact ⟨0, vo, by omega, rfl, by simpa [fw, full_nil] using HF.out, by simpa [fw, full_nil] using ho⟩
    case round =>
      clear HF
      obtain ⟨i, vo', hi, rfl, hF, ho'⟩ := hrel
      by_cases hlt : i < t.length
      · obtain ⟨tb, to, rfl, cy0⟩ := HTC.out i hlt
        have cy := (hF.b0.cell (World.block_lt_of_cell? _ _ cy0)).trans cy0
        have HFT := hid (fw_take (m := mOf M) t hlt)
        have HLE := hid (fw_take_le (mOf M) t (i + 1))
        have hmem := List.getElem_mem hlt
        obtain ⟨y, hy⟩ : ∃ y, t[i] = y := ⟨_, rfl⟩
        rw [hy] at cy hmem HFT
        have hrng := HT.out.range y hmem
        have HMEM := hid hmem
        obtain ⟨o2, ho2⟩ : ∃ o2, o ++ fw (mOf M) (t.take i) = o2 := ⟨_, rfl⟩
        rw [ho2] at hF ho'
        obtain ⟨oa, oc, hoe⟩ := hF.slice
        subst hoe
        have HO2 := hid ho2
        have hSr := HS.out.below hF.b0
        have c1 := hSr.c1
        obtain ⟨nM, hM⟩ := hSr.map
        have cx := hF.cx
        have cw : wr.cell? ⟨pw, 0, none⟩ = some (.func (.func 215) #[] #[.pointer (some ⟨pxb, 0, none⟩), .pointer (some ⟨pw, 0, none⟩), .pointer (some ⟨po, 0, none⟩)]) := hF.cw
        have co := cell_of_one hF.bo
        have fo := free_of_one hF.bo
        have HKEY := hid (int_key y (wf_small (by omega) (by omega)))
        have HF := hid hF
        have hown := hF.own
        have HOWN := hid hown
        have hBs := hF.hB
        clear cy0 hy hmem ho2 hSr hF hown
        cases hMy : M y with
        | none =>
          have hmy : mOf M y = none := by simp [mOf, hMy]
          have HFW := hid (fw_one HM.out hmy)
          have HMy := hid hMy
          clear hmy hMy
          have HNEXT : Hid (o ++ fw (mOf M) (t.take (i + 1)) = o2 ++ [y]) := hid (by rw [HFT.out, HFW.out, ← List.append_assoc, HO2.out])
          have hdec : decide (y < 0) = true ∨ decide (y < 0) = false := by cases decide (y < 0) <;> simp
          by_cases h61 : o2.length + 1 ≤ 60
          · rcases hdec with hd | hd
            all_goals
              go_wp2_with (first
                | (at_lookup; refine wpList_lookup_mapK rfl _ _ 153 true rfl (int_keyed Tryz.underlying3) eI_inj Tryz.underlying153 (zero_term _) rfl hM y rfl HKEY.out (.tuple #[.slice none 0 0, .bool false]) (by rw [HMy.out]; rfl) ?_)
                | (at_builtin; refine wpList_append_row rfl _ _ 34 rfl B 3 el_int Tryz.underlying34 rfl (by decide) _ _ _ rfl (HOWN.out.alloc _) _ 1 [.int .i64 y] rfl (row_one_new _ _ _) (oneCell_one rfl) (by omega) (by omega) (by simp; omega) ?_; intro v' w4 hown4 hgrow4 _; obtain ⟨g4, cap4, hv4, -, -⟩ := owns_some hown4 (by omega); subst hv4; have HP := hid (HF.out.push _ hN h1 h2 h3 h4 h5 hNB hown4 hgrow4); have hb4 : Below B wr w4 := ((Below.refl _ _).alloc hBs _).grown hgrow4 (by simp; omega) (fun q hq => (HOWN.out.lt q hq).1); have co4 := (hb4.cell (p := ⟨po, 0, none⟩) h3).trans co; have fo4 := (hb4.frozen (p := ⟨po, 0, none⟩) h3).trans fo))
              go_roundw
              case rel => exact ⟨i + 1, _, by omega, by go_num, by rw [HNEXT.out]; exact HP.out, by rw [HNEXT.out]; simp; omega⟩
              case measure => simp [intOf]; omega
          · have HBIG : Hid (60 < (o ++ fw (mOf M) t).length) := hid (by
              have e := congrArg List.length HNEXT.out
              have e2 := HLE.out
              rw [List.length_append] at e ⊢
              simp only [List.length_append, List.length_cons, List.length_nil] at e
              omega)
            rcases hdec with hd | hd
            all_goals
              go_wp2_with (first
                | (at_lookup; refine wpList_lookup_mapK rfl _ _ 153 true rfl (int_keyed Tryz.underlying3) eI_inj Tryz.underlying153 (zero_term _) rfl hM y rfl HKEY.out (.tuple #[.slice none 0 0, .bool false]) (by rw [HMy.out]; rfl) ?_)
                | (at_builtin; refine wpList_append_row rfl _ _ 34 rfl B 3 el_int Tryz.underlying34 rfl (by decide) _ _ _ rfl (HOWN.out.alloc _) _ 1 [.int .i64 y] rfl (row_one_new _ _ _) (oneCell_one rfl) (by omega) (by omega) (by simp; omega) ?_; intro v' w4 hown4 hgrow4 _; obtain ⟨g4, cap4, hv4, -, -⟩ := owns_some hown4 (by omega); subst hv4; have HP := hid (HF.out.push _ hN h1 h2 h3 h4 h5 hNB hown4 hgrow4); have hb4 : Below B wr w4 := ((Below.refl _ _).alloc hBs _).grown hgrow4 (by simp; omega) (fun q hq => (HOWN.out.lt q hq).1); have co4 := (hb4.cell (p := ⟨po, 0, none⟩) h3).trans co; have fo4 := (hb4.frozen (p := ⟨po, 0, none⟩) h3).trans fo))
              go_ret
              exact ⟨_, _, HP.out, Or.inr ⟨rfl, HBIG.out⟩⟩
        | some u =>
          obtain ⟨v1, t1⟩ := u
          have hmy : mOf M y = some t1 := by simp [mOf, hMy]
          have hv := HMV.out y t1 hmy
          have hy0 := hv.2.1
          have hd : decide (y < 0) = true := by simpa using hy0
          have hi1 := HS.out.its y v1 t1 hMy
          have HFW : Hid (fw (mOf M) [y] = fw (mOf M) t1) := hid (sg_some HM.out hmy)
          have HNEXT : Hid (o ++ fw (mOf M) (t.take (i + 1)) = o2 ++ fw (mOf M) t1) := hid (by rw [HFT.out, HFW.out, ← List.append_assoc, HO2.out])
          have HCALL := hid (IH.out t1 o2 v1 _ wr (fun x hx hx0 => by have := HR.out y t1 hmy x hx hx0; have := HK.out y HMEM.out hy0; omega) (by have := HK.out y HMEM.out hy0; omega) hv.2.2.1 hv.2.2.2 hi1 HF.out ho')
          have HMy := hid hMy
          clear hmy hMy hv hi1
          go_wp2_with (first
            | (at_lookup; refine wpList_lookup_mapK rfl _ _ 153 true rfl (int_keyed Tryz.underlying3) eI_inj Tryz.underlying153 (zero_term _) rfl hM y rfl HKEY.out (.tuple #[v1, .bool true]) (by rw [HMy.out]; rfl) ?_)
            | fail)
          refine HCALL.out.mono ?_
          rintro e w3 ⟨vo3, o3, hF3, ⟨rfl, ho3, hl3⟩ | ⟨rfl, hbig⟩⟩
          · have HO3 := hid ho3
            have HF3 := hid hF3
            clear ho3 hF3
            go_wp2
            go_roundw
            case rel => exact ⟨i + 1, vo3, by omega, by go_num, by rw [HNEXT.out, ← HO3.out]; exact HF3.out, by rw [HNEXT.out, ← HO3.out]; exact hl3⟩
            case measure => simp [intOf]; omega
          · have HBIG : Hid (60 < (o ++ fw (mOf M) t).length) := hid (by
              have e := congrArg List.length HNEXT.out
              have e2 := HLE.out
              rw [List.length_append] at e hbig ⊢
              rw [List.length_append] at e
              omega)
            have HF3 := hid hF3
            clear hF3 hbig
            go_wp2
            go_ret
            exact ⟨_, _, HF3.out, Or.inr ⟨rfl, HBIG.out⟩⟩
      · have hit : t.take i = t := List.take_of_length_le (by omega)
        rw [hit] at hF ho'
        have HF := hid hF
        clear hF hit
        go_wp2
        go_ret
        exact ⟨_, _, HF.out, Or.inl ⟨rfl, rfl, ho'⟩⟩
set_option maxHeartbeats 1000000 in
set_option maxRecDepth 100000 in
theorem unify_full (px bm : Nat) (vs vt : Value) (s : Sg) (M : Int → Option VT) (t : List Int) (w : World) (hm : MOK s (mOf M)) (hS : SolvW w px bm vs s M) (hT : IsT s 24 t) (hl : t.length ≤ 60) (ra : Ints w vt t) (hsl : s.length ≤ 1000) :
    Calls Tryz.prog 193 #[.pointer (some ⟨px, 0, none⟩), vt] w fun e w' => ∃ u, Below w.heap.size w w' ∧
      ((e = .returned (.tuple #[u, .bool true]) ∧ (fw (mOf M) t).length ≤ 60 ∧ w'.ownsRow w.heap.size 3 1 u (fw (mOf M) t).length ((fw (mOf M) t).map (Value.int .i64))) ∨ (e = .returned (.tuple #[u, .bool false]) ∧ 60 < (fw (mOf M) t).length)) := by
  obtain ⟨r, hr, hr24⟩ := hm.rank
  have HC := hid (fun W (hF : FullW w W (w.heap.size + 1 + 1 + 1) w.heap.size (w.heap.size + 1 + 1) (w.heap.size + 1) px (.slice none 0 0) []) =>
    unify_full1 px bm (w.heap.size + 1 + 1 + 1) w.heap.size (w.heap.size + 1 + 1) (w.heap.size + 1) vs s M w hm hS r hr (by omega) (by omega) (by omega) (by omega) (by omega) (by omega) (by omega) hsl 26 t [] vt (.slice none 0 0) W (fun x _ _ => by have := hr24 x; omega) (by omega) hT hl ra hF (by simp))
  obtain ⟨ta, tc, hte, -⟩ := ra.open
  subst hte
  clear hm hT hS ra hr hr24
  go_enter Tryz.func193, Tryz.ntmps193
  go_wp2_with fail
  have k1 := cell_new1 w (.pointer (some ⟨px, 0, none⟩)) 173
  have k2 := (MapKept.heap_alloc (w.alloc (.cells #[.pointer (some ⟨px, 0, none⟩)] 173)) (.cells #[.slice none 0 0] 34)).1
  have k3 := cell_new1 ((w.alloc (.cells #[.pointer (some ⟨px, 0, none⟩)] 173)).alloc (.cells #[.slice none 0 0] 34)) (fnF w.heap.size (w.heap.size + 1 + 1) (w.heap.size + 1)) 160
  simp only [World.size_alloc] at k2 k3
  have hB : ∀ o1 o2 o3, Below w.heap.size w (((w.alloc o1).alloc o2).alloc o3) := fun o1 o2 o3 => (((Below.refl _ _).alloc (Nat.le_refl _) _).alloc (by simp) _).alloc (by simp; omega) _
  have hc := HC.out _ ⟨hB (.cells #[.pointer (some ⟨px, 0, none⟩)] 173) (.cells #[.slice none 0 0] 34) (.cells #[fnF w.heap.size (w.heap.size + 1 + 1) (w.heap.size + 1)] 160), by simp, cell_alloc_keep _ (cell_alloc_keep _ k1), k3, (Below.heap_alloc _ _ _ (by simp)).trans k2, World.ownsRow_nil _ _ _ _⟩
  refine Calls.mono hc ?_
  clear k1 k2 k3 hB hc
  rintro e w1 ⟨vo', o', hF, hor⟩
  obtain ⟨oa, oc, hoe⟩ := hF.slice
  subst hoe
  have co := cell_of_one hF.bo
  have HF := hid hF
  rcases hor with ⟨rfl, ho', hl'⟩ | ⟨rfl, hbig⟩
  · have HO := hid ho'
    clear hF ho'
    go_wp2
    go_ret2
    simp only [List.nil_append] at HO
    refine ⟨_, HF.out.b0, Or.inl ⟨rfl, by rw [← HO.out]; exact hl', by rw [← HO.out]; exact owns_base HF.out.own (by omega)⟩⟩
  · have HBIG := hid hbig
    clear hF hbig
    go_wp2
    go_ret2
    exact ⟨_, HF.out.b0, Or.inr ⟨rfl, by simpa using HBIG.out⟩⟩
def aparL (t : List Int) : List Int := t.map fun n => if n < 0 then n - 12 else n
def aparK (t : List Int) (k : Nat) : List Int := aparL (t.take k) ++ t.drop k
theorem aparK_len (t : List Int) (k : Nat) : (aparK t k).length = t.length := by
  unfold aparK aparL
  rw [List.length_append, List.length_map, ← List.length_append, List.take_append_drop]
theorem aparK_all (t : List Int) {k : Nat} (h : t.length ≤ k) : aparK t k = aparL t := by
  unfold aparK
  rw [List.take_of_length_le h, List.drop_eq_nil_of_le h, List.append_nil]
theorem aparK_get (t : List Int) {k : Nat} (h : k < t.length) : ((aparK t k).map (Value.int .i64))[k]? = some (.int .i64 t[k]) := by
  have : (aparK t k)[k]? = some t[k] := by
    unfold aparK aparL
    rw [List.getElem?_append_right (by simp; omega)]
    simp
    have : k - min k t.length = 0 := by omega
    rw [this]; simp [h]
  rw [List.getElem?_map, this]; rfl
theorem aparK_step (t : List Int) {k : Nat} (h : k < t.length) : aparK t (k + 1) = (aparK t k).set k (if t[k] < 0 then t[k] - 12 else t[k]) := by
  unfold aparK aparL
  rw [List.take_succ_eq_append_getElem h, List.map_append, List.set_append_right _ _ (by simp; omega)]
  have e2 : k - ((t.take k).map fun n => if n < 0 then n - 12 else n).length = 0 := by simp; omega
  rw [e2, List.drop_eq_getElem_cons h, List.set_cons_zero, List.append_assoc]
  rfl
theorem aparK_same (t : List Int) {k : Nat} (h : k < t.length) (h0 : ¬ t[k] < 0) : aparK t (k + 1) = aparK t k := by
  rw [aparK_step t h, if_neg h0]
  have h1 : k < (aparK t k).length := by rw [aparK_len]; exact h
  have : (aparK t k)[k] = t[k] := by
    have := aparK_get t h
    simpa [h1] using this
  rw [← this, List.set_getElem_self]
set_option maxHeartbeats 1000000 in
set_option maxRecDepth 100000 in
theorem unify_apart (v : Value) (t : List Int) (w : World) (ht : Ints w v t) (h0 : 0 < t.length) (hl : t.length ≤ 1000) (hr : ∀ x ∈ t, -1000000 ≤ x ∧ x ≤ 1000000) :
    Calls Tryz.prog 157 #[v] w fun e w' => ∃ u, e = .returned u ∧ w'.ownsRow w.heap.size 3 1 u (aparL t).length ((aparL t).map (Value.int .i64)) ∧ Below w.heap.size w w' := by
  obtain ⟨ta, tcap, rfl, ht1, ht2, -, TC⟩ := ht.open
  have TC' := hid TC
  have HR := hid hr
  have HT := hid ht
  clear TC ht hr
  go_enter Tryz.func157, Tryz.ntmps157
  go_wp2_with fail
  refine (sl_CloneT _ t _ HT.out h0 hl).mono ?_
  rintro e w1 ⟨u, rfl, hown, hb1⟩
  obtain ⟨g, cap, rfl, hg, hgc⟩ := owns_some hown h0
  have HOWN := hid hown
  have HB1 := hid hb1
  clear hown hb1
  go_wp2
  go_loopw [10] (fun kv wr => ∃ k : Nat, k ≤ t.length ∧ kv = .int .i64 k ∧ wr.ownsRow w.heap.size 3 1 (.slice (some ⟨g, 0, none⟩) t.length cap) t.length ((aparK t k).map (Value.int .i64)) ∧ Below w.heap.size w wr) (fun kv _ => t.length - (intOf kv).toNat)
  case atStart => exact ⟨0, by omega, rfl, by simpa [aparK, aparL] using HOWN.out, HB1.out⟩
  case round =>
    clear HOWN HB1
    obtain ⟨k, hk, rfl, hown, hb⟩ := hrel
    by_cases hlt : k < t.length
    · obtain ⟨tb, to, rfl, hc0⟩ := TC'.out k hlt
      have hcell := (hb.cell (World.block_lt_of_cell? _ _ hc0)).trans hc0
      have hrk := HR.out t[k] (List.getElem_mem hlt)
      by_cases hn : t[k] < 0
      · have hge : decide (t[k] < 0) = true := by simp; omega
        have hst := aparK_step t hlt
        rw [if_pos hn] at hst
        have hc1 := hown.cellAt k (by omega)
        rw [aparK_get t hlt] at hc1
        have hf1 := hown.frozenAt k
        have HST := hid (hown.stored k (.int .i64 (t[k] - 12)))
        have HB2 : Hid (Below w.heap.size w (wr.setCell ⟨g, k, none⟩ (.int .i64 (t[k] - 12)))) := hid (hb.setCell (p := ⟨g, k, none⟩) (by show w.heap.size ≤ g; omega) _)
        have HS := hid hst
        clear hst hown hc0
        go_wp2
        go_roundw
        case rel => exact ⟨k + 1, by omega, by go_num, by rw [HS.out, List.map_set]; exact HST.out.1, HB2.out⟩
        case measure => simp [intOf]; omega
      · have hge : decide (t[k] < 0) = false := by simp; omega
        have HS := hid (aparK_same t hlt hn)
        clear hc0
        go_wp2
        go_roundw
        case rel => exact ⟨k + 1, by omega, by go_num, by rw [HS.out]; exact hown, hb⟩
        case measure => simp [intOf]; omega
    · have HE := hid (aparK_all t (k := k) (by omega))
      rw [HE.out] at hown
      have HL : Hid ((aparL t).length = t.length) := hid (by simp [aparL])
      have HOW := hid hown
      clear hown
      go_wp2
      go_ret
      exact ⟨_, rfl, by rw [HL.out]; exact HOW.out, hb⟩
end Go.Proofs.YtmpjaakkjhmpmaaGreatDoor
namespace Go.Proofs.YtmpjaakkjhmpmaaGreatDoor
open Go Go.RowKit Go.Maps
def szT (m : MM) (t : List Int) : Nat := min (fw m t).length 61
def Kno (m : MM) (cs : Array Value) : Prop := cs.size = 24 ∧ ∀ v : Nat, v < 24 → ∃ x : Nat, cs[v]? = some (.int .i64 x) ∧ (x = 0 ∨ ∃ p, m (-(v : Int) - 1) = some p ∧ x = szT m p)
theorem Kno.set {m : MM} {cs : Array Value} (h : Kno m cs) (v : Nat) {p : List Int} (hp : m (-(v : Int) - 1) = some p) : Kno m (cs.setIfInBounds v (.int .i64 (szT m p))) := by
  refine ⟨by simpa using h.1, fun x hx => ?_⟩
  rw [Array.getElem?_setIfInBounds]
  by_cases e : v = x
  · subst e
    exact ⟨szT m p, by simp [h.1, hx], Or.inr ⟨p, hp, rfl⟩⟩
  · rw [if_neg e]
    exact h.2 x hx
theorem Kno.at {m : MM} {cs : Array Value} (h : Kno m cs) {v : Nat} (hv : v < 24) {w : World} {pd : Nat} (ha : ArrV w pd cs) : ∃ x3 : Nat, Kno m cs ∧ ArrV w pd cs ∧ w.cell? ⟨pd, v, none⟩ = some (.int .i64 x3) := by
  obtain ⟨x, h1, -⟩ := h.2 v hv
  exact ⟨x, h, ha, by rw [ha.cell]; exact h1⟩
def SzI (m : MM) (t : List Int) (i n : Nat) : Prop := n ≤ 121 ∧ (n ≤ 60 → n = (fw m (t.take i)).length) ∧ (60 < n → 60 < (fw m (t.take i)).length)
theorem SzI.zero (m : MM) (t : List Int) : SzI m t 0 0 := ⟨by omega, fun _ => by simp [fw, full_nil], fun h => by omega⟩
theorem SzI.next {m : MM} {t : List Int} {i n : Nat} (h : SzI m t i n) (hn : n ≤ 60) (hi : i < t.length) {X : Nat} (hX : min (fw m [t[i]]).length 61 = X) : SzI m t (i + 1) (n + X) := by
  have h1 := h.2.1 hn
  unfold SzI
  rw [fw_take t hi, List.length_append]
  refine ⟨by omega, fun _ => by omega, fun _ => by omega⟩
theorem SzI.fin {m : MM} {t : List Int} {i n : Nat} (h : SzI m t i n) (hi : t.length ≤ i) (hn : n ≤ 60) : n = szT m t := by
  have h1 := h.2.1 hn
  rw [List.take_of_length_le hi] at h1
  unfold szT
  omega
theorem SzI.big {m : MM} {t : List Int} {i n : Nat} (h : SzI m t i n) (hn : 60 < n) : 61 = szT m t := by
  have h1 := h.2.2 hn
  have h2 := fw_take_le m t i
  unfold szT
  omega
theorem below_self_drewN' {w0 w : World} (h : Below w0.heap.size w0 w) (n : Nat) : Below w0.heap.size w (w.drewN n) := (below_self_drewN w n).mono h.size
set_option maxHeartbeats 2000000 in
set_option maxRecDepth 100000 in
theorem ref2_size (px pd : Nat) (vs : Value) (s : Sg) (T : TT) (w0 : World) (hS : RSol w0 px vs s T) (hm : MOK s (mR T)) (r : Int → Nat) (hr : Rk (mR T) r) (hpd : w0.heap.size ≤ pd) : ∀ (k : Nat) (t : List Int) (vt : Value) (cs : Array Value) (w : World),
    (∀ x ∈ t, x < 0 → r x + 1 < k) → 0 < k → IsT s 24 t → t.length ≤ 60 → Ints w0 vt t → Below w0.heap.size w0 w → ArrV w pd cs → Kno (mR T) cs →
    Calls Tryz.prog 227 #[.pointer (some ⟨px, 0, none⟩), vt, .pointer (some ⟨pd, 0, none⟩)] w
      fun e w' => e = .returned (.int .i64 (szT (mR T) t)) ∧ Below w0.heap.size w0 w' ∧ ∃ cs', ArrV w' pd cs' ∧ Kno (mR T) cs' := by
  intro k
  induction k with
  | zero => intro t vt cs w hk hk0; omega
  | succ k ih =>
    intro t vt cs w hk hk0 hT hl ra hB hA hD
    obtain ⟨ta, tc, rfl, ht1, ht2, -, TC⟩ := ra.open
    have HT := hid hT
    have HTC := hid TC
    have HM := hid hm
    have HS := hid hS
    have HA0 := hid hA
    have HD0 := hid hD
    have HB0 := hid hB
    have IH := hid ih
    have HK := hid hk
    have HR := hid hr
    have hq := fun (w : World) (a : Option Addr) (n c n' c' : Nat) => Lib.run_eql_slice_nil (P := Tryz.prog) w _ _ a n c n' c' Tryz.underlying34
    have HQ := hid hq
    clear hT TC ra hm hS hA hD hB ih hq hk hr
    go_enter Tryz.func227, Tryz.ntmps227
    go_wp2
    go_loopw [7, 8] (fun nv iv wr => ∃ (i n : Nat) (cs' : Array Value), i ≤ t.length ∧ iv = .int .i64 i ∧ nv = .int .i64 n ∧ SzI (mR T) t i n ∧ ArrV wr pd cs' ∧ Kno (mR T) cs' ∧ Below w0.heap.size w0 wr) (fun _ iv _ => t.length - (intOf iv).toNat)
    case atStart => exact ⟨0, 0, cs, by omega, rfl, rfl, .zero _ _, HA0.out, HD0.out, HB0.out⟩
    case round =>
      clear HA0 HD0 HB0
      obtain ⟨i, n, cs', hi, rfl, rfl, hF, hA, hD, hB⟩ := hrel
      have hn121 := hF.1
      have HF := hid hF
      have HD := hid hD
      have HAV := hid hA
      clear hF hD hA
      by_cases hn : n ≤ 60
      · have dn : decide ((n : Int) ≤ 60) = true := by simp; omega
        have dn2 : decide ((n : Int) > 60) = false := by simp; omega
        by_cases hlt : i < t.length
        · obtain ⟨tb, to, rfl, cy0⟩ := HTC.out i hlt
          have cy := (hB.cell (World.block_lt_of_cell? _ _ cy0)).trans cy0
          have hmem := List.getElem_mem hlt
          have HNX := hid (fun X (h : min (fw (mR T) [t[i]]).length 61 = X) => HF.out.next hn hlt h)
          obtain ⟨y, hy⟩ : ∃ y, t[i] = y := ⟨_, rfl⟩
          rw [hy] at cy hmem HNX
          have hrng := HT.out.range y hmem
          have HMEM := hid hmem
          clear cy0 hy hmem
          by_cases e2 : 0 ≤ y
          · have b2 : decide (y ≥ 0) = true := by simpa using e2
            have HONE : Hid (SzI (mR T) t (i + 1) (n + 1)) := hid (HNX.out 1 (by rw [fw_app _ e2]; simp [fw, full_nil]))
            go_wp2_with fail
            go_quiet (fail)
            go_wp2
            go_roundw
            case rel => exact ⟨i + 1, n + 1, cs', by omega, by go_num, by go_num, HONE.out, HAV.out.drewN _, HD.out, hB.trans (below_self_drewN' hB _)⟩
            case measure => simp [intOf]; omega
          · have b2 : decide (y ≥ 0) = false := by simpa using e2
            have hy0 : y < 0 := by omega
            obtain ⟨u, hu⟩ := Int.eq_ofNat_of_zero_le (show 0 ≤ -y - 1 by omega)
            have hu24 : u < 24 := by omega
            have hub1 : (0 : Int) ≤ (u : Int) := by omega
            have hub2 : (u : Int) < 24 := by omega
            have hSw := HS.out.below hB
            have hcl := hSw.arr.cell hu24
            obtain ⟨x, hdl0, hx⟩ := HD.out.2 u hu24
            have hdl := HAV.out.cell u
            rw [hdl0] at hdl
            have hdf := HAV.out.frozen u
            have hMT := MT_at T hy0 hu
            have hw1 : IntKind.i64.wrap (-y) = -y := IntWalk.i64_in _ ⟨by omega, by omega⟩
            have hw2 : IntKind.i64.wrap (-y - 1) = u := by rw [hu]; exact IntWalk.i64_in _ ⟨by omega, by omega⟩
            have hyu : -(u : Int) - 1 = y := by omega
            rw [hyu] at hx
            clear hrng hdl0
            cases hTu : T u with
            | none =>
              rw [hTu] at hcl hMT
              have hs0 : sV none = .slice none 0 0 := rfl
              rw [hs0] at hcl
              have hmy : mR T y = none := by rw [← mOf_MT]; simp [mOf, hMT]
              have HONE : Hid (SzI (mR T) t (i + 1) (n + 1)) := hid (HNX.out 1 (by rw [fw_one HM.out hmy]; simp))
              have hq := HQ.out
              clear hu hMT hTu hSw hmy hx hyu
              go_wp2_with fail
              go_quiet (fail)
              clear hw1 hw2
              go_wp2
              go_roundw
              case rel => exact ⟨i + 1, n + 1, cs', by omega, by go_num, by go_num, HONE.out, HAV.out.drewN _, HD.out, hB.trans (below_self_drewN' hB _)⟩
              case measure => simp [intOf]; omega
            | some ul =>
              obtain ⟨v1, t1⟩ := ul
              obtain ⟨⟨x0, n0, c0, rfl⟩, -⟩ := hSw.arr.ints hu24 hTu
              have hi1 := (HS.out.arr.ints hu24 hTu).2
              rw [hTu] at hcl hMT
              have hs0 : sV (some (.slice (some x0) n0 c0, t1)) = .slice (some x0) n0 c0 := rfl
              rw [hs0] at hcl
              have hmy : mR T y = some t1 := by rw [← mOf_MT]; simp [mOf, hMT]
              have hv1 := HM.out.val y t1 hmy
              obtain ⟨X, hX⟩ : ∃ X, szT (mR T) t1 = X := ⟨_, rfl⟩
              have hX61 : X ≤ 61 := by rw [← hX]; unfold szT; omega
              have HONE : Hid (SzI (mR T) t (i + 1) (n + X)) := hid (HNX.out X (by rw [← hX]; unfold szT; rw [show fw (mR T) [y] = fw (mR T) t1 from sg_some HM.out hmy]))
              have HC1 : Hid (∀ W, Below w0.heap.size w0 W → W.cell? ⟨px, 1 + u, none⟩ = some (.slice (some x0) n0 c0)) := hid (fun W hW => by have h := (HS.out.below hW).arr.cell hu24; rw [hTu, hs0] at h; exact h)
              by_cases hx0 : x = 0
              · subst hx0
                have HSET : Hid (∀ cs3, Kno (mR T) cs3 → Kno (mR T) (cs3.setIfInBounds u (.int .i64 X))) := hid (fun cs3 h => by have := h.set u (p := t1) (by rw [hyu]; exact hmy); rwa [hX] at this)
                have HCALL := hid (show ∀ (W : World), Below wr.heap.size wr W → Calls Tryz.prog 227 #[.pointer (some ⟨px, 0, none⟩), .slice (some x0) n0 c0, .pointer (some ⟨pd, 0, none⟩)] W fun e w' => e = .returned (.int .i64 X) ∧ Below w0.heap.size w0 w' ∧ ∃ (cs' : Array Value) (x3 : Nat), Kno (mR T) cs' ∧ ArrV w' pd cs' ∧ w'.cell? ⟨pd, u, none⟩ = some (.int .i64 x3) from fun (W : World) (hW : Below wr.heap.size wr W) => Calls.mono (IH.out t1 (.slice (some x0) n0 c0) cs' W (fun z hz hz0 => by have := HR.out y t1 hmy z hz hz0; have := HK.out y HMEM.out hy0; omega) (by have := HK.out y HMEM.out hy0; omega) hv1.2.2.1 hv1.2.2.2 hi1 (hB.trans (hW.mono hB.size)) (HAV.out.below hW) HD.out) (fun e w' ⟨h1, h2, cs', h3, h4⟩ => ⟨by rw [h1, hX], h2, cs', h4.at hu24 h3⟩))
                have hq := HQ.out
                clear hu hMT hTu hSw hmy hv1 hi1 hx hyu hX
                go_wp2_with fail
                go_quiet (fail)
                go_wp2_with fail
                go_region_held3 (fun w' => w'.cell? ⟨px, 1 + u, none⟩ = some (.slice (some x0) n0 c0)) (first | assumption | go_keep)
                  (first | (go_at_call 227; with_reducible refine (HCALL.out _ (below_self_drewN _ _)).mono ?_; rintro e w3 ⟨rfl, hB3, cs3, x3, hD3, hA3, d2⟩; have d1 := HC1.out _ hB3; have d5 := HC1.out _ (hB3.setCell (p := ⟨pd, u, none⟩) hpd (.int .i64 X)); have d3 := hA3.frozen u))
                have hA4 := hA3.set u (.int .i64 X)
                have d4 := hA4.cell u
                rw [show (cs3.setIfInBounds u (Value.int .i64 X))[u]? = some (Value.int .i64 X) from by rw [Array.getElem?_setIfInBounds]; simp [hD3.1, hu24]] at d4
                have HA4 := hid hA4
                have HD4 := hid (HSET.out cs3 hD3)
                have HB4 : Hid (Below w0.heap.size w0 (w3.setCell ⟨pd, u, none⟩ (.int .i64 X))) := hid (hB3.setCell (p := ⟨pd, u, none⟩) hpd _)
                clear d1 d2 d3 d5 hA3 hD3 hB3 hA4
                go_wp2
                go_roundw
                case rel => exact ⟨i + 1, n + X, _, by omega, by go_num, by go_num, HONE.out, HA4.out, HD4.out, HB4.out⟩
                case measure => simp [intOf]; omega
              · have hxX : x = X := by
                  rcases hx with h | ⟨p, hp, h⟩
                  · exact (hx0 h).elim
                  · rw [hmy] at hp; cases hp; rw [h, hX]
                subst hxX
                have hb0 : ((x : Int) == 0) = false := by simp; omega
                have hq := HQ.out
                clear hu hMT hTu hSw hmy hv1 hi1 hx hyu hX
                go_wp2_with fail
                go_quiet (fail)
                go_wp2
                go_roundw
                case rel => exact ⟨i + 1, n + x, cs', by omega, by go_num, by go_num, HONE.out, HAV.out.drewN _, HD.out, hB.trans (below_self_drewN' hB _)⟩
                case measure => simp [intOf]; omega
        · have HEND : Hid (n = szT (mR T) t) := hid (HF.out.fin (by omega) hn)
          go_wp2
          go_ret
          exact ⟨by rw [← HEND.out]; rfl, hB, _, HAV.out, HD.out⟩
      · have dn : decide ((n : Int) ≤ 60) = false := by simp; omega
        have dn2 : decide ((n : Int) > 60) = true := by simp; omega
        have HEND : Hid (61 = szT (mR T) t) := hid (HF.out.big (by omega))
        go_wp2
        all_goals
          go_ret
          exact ⟨by rw [← HEND.out]; rfl, hB, _, HAV.out, HD.out⟩
set_option maxHeartbeats 4000000 in
set_option maxRecDepth 100000 in
theorem ref2_whole (px : Nat) (vs : Value) (s : Sg) (T : TT) (hm : MOK s (mR T)) (r : Int → Nat) (hr : Rk (mR T) r) : ∀ (k : Nat) (t : List Int) (vt : Value) (w : World),
    (∀ x ∈ t, x < 0 → r x + 1 < k) → 0 < k → IsT s 24 t → t.length ≤ 60 → (fw (mR T) t).length ≤ 60 → RSol w px vs s T → Ints w vt t →
    Calls Tryz.prog 228 #[.pointer (some ⟨px, 0, none⟩), vt] w
      fun e w' => ∃ u, e = .returned u ∧ w'.ownsRow w.heap.size 3 1 u (fw (mR T) t).length ((fw (mR T) t).map (Value.int .i64)) ∧ Below w.heap.size w w' := by
  intro k
  induction k with
  | zero => intro t vt w hk hk0; omega
  | succ k ih =>
    intro t vt w hk hk0 hT hl hF60 hS ra
    obtain ⟨ta, tc, rfl, ht1, ht2, -, TC⟩ := ra.open
    have HT := hid hT
    have HTC := hid TC
    have HM := hid hm
    have HS := hid hS
    have IH := hid ih
    have HK := hid hk
    have HR := hid hr
    have hq := fun (w : World) (a : Option Addr) (n c n' c' : Nat) => run_neq_slice_nil_any (P := Tryz.prog) w _ _ a n c n' c' Tryz.underlying34
    have HQ := hid hq
    clear hT TC ra hm hS ih hq hk hr
    go_enter Tryz.func228, Tryz.ntmps228
    go_wp2
    go_loopw [5, 6] (fun ov iv wr => ∃ (i : Nat), i ≤ t.length ∧ iv = .int .i64 i ∧ wr.ownsRow w.heap.size 3 1 ov (fw (mR T) (t.take i)).length ((fw (mR T) (t.take i)).map (Value.int .i64)) ∧ Below w.heap.size w wr) (fun _ iv _ => t.length - (intOf iv).toNat)
    case atStart => exact ⟨0, by omega, rfl, by simpa [fw, full_nil] using World.ownsRow_nil _ _ _ _, Below.refl _ _⟩
    case round =>
      obtain ⟨i, hi, rfl, hown, hB⟩ := hrel
      have HOWN := hid hown
      by_cases hlt : i < t.length
      · obtain ⟨tb, to, rfl, cy0⟩ := HTC.out i hlt
        have cy := (hB.cell (World.block_lt_of_cell? _ _ cy0)).trans cy0
        have hmem := List.getElem_mem hlt
        have hft := fw_take (m := mR T) t hlt
        have hle := fw_take_le (mR T) t (i + 1)
        obtain ⟨F, hFe⟩ : ∃ F, fw (mR T) (t.take i) = F := ⟨_, rfl⟩
        rw [hFe] at hown hft HOWN
        obtain ⟨y, hy⟩ : ∃ y, t[i] = y := ⟨_, rfl⟩
        rw [hy] at cy hmem hft
        have hrng := HT.out.range y hmem
        have HMEM := hid hmem
        have HFT := hid hft
        have hlen := congrArg List.length hft
        rw [List.length_append] at hlen
        have hszw := hB.size
        clear cy0 hy hmem hft hFe hown
        by_cases e2 : 0 ≤ y
        · have b2 : decide (y < 0) = false := by simpa using e2
          have hfy : fw (mR T) [y] = [y] := by rw [fw_app _ e2]; simp [fw, full_nil]
          rw [hfy] at HFT hlen
          simp only [List.length_cons, List.length_nil] at hlen
          clear hfy hrng
          go_wp2_with fail
          go_quiet (fail)
          go_wp2_with (at_builtin; refine wpList_append_row rfl _ _ 34 rfl w.heap.size 3 el_int Tryz.underlying34 rfl (by decide) _ _ _ rfl ((owns_below HOWN.out (below_self_drewN _ _)).alloc _) _ 1 [.int .i64 y] rfl (row_one_new _ _ _) (oneCell_one rfl) (by omega) (by omega) (by simp; omega) ?_; intro v' w4 hown4 hgrow4 _)
          have HB4 := hid (((below_drewN hB _).alloc (by simpa using hszw) _).grown hgrow4 (by simp; omega) (fun q hq => (HOWN.out.lt q hq).1))
          have HO4 := hid hown4
          clear hown4 hgrow4
          go_roundw
          case rel => exact ⟨i + 1, by omega, by go_num, by rw [HFT.out, List.length_append, List.map_append]; exact HO4.out, HB4.out⟩
          case measure => simp [intOf]; omega
        · have b2 : decide (y < 0) = true := by simpa using e2
          have hy0 : y < 0 := by omega
          obtain ⟨u, hu⟩ := Int.eq_ofNat_of_zero_le (show 0 ≤ -y - 1 by omega)
          have hu24 : u < 24 := by omega
          have hub1 : (0 : Int) ≤ (u : Int) := by omega
          have hub2 : (u : Int) < 24 := by omega
          have hSw := HS.out.below hB
          have hcl := hSw.arr.cell hu24
          have hMT := MT_at T hy0 hu
          have hw1 : IntKind.i64.wrap (-y) = -y := IntWalk.i64_in _ ⟨by omega, by omega⟩
          have hw2 : IntKind.i64.wrap (-y - 1) = u := by rw [hu]; exact IntWalk.i64_in _ ⟨by omega, by omega⟩
          clear hrng
          cases hTu : T u with
          | none =>
            rw [hTu] at hcl hMT
            have hs0 : sV none = .slice none 0 0 := rfl
            rw [hs0] at hcl
            have hmy : mR T y = none := by rw [← mOf_MT]; simp [mOf, hMT]
            have hfy := fw_one HM.out hmy
            rw [hfy] at HFT hlen
            simp only [List.length_cons, List.length_nil] at hlen
            have hq := HQ.out
            clear hu hMT hTu hSw hmy hfy
            go_wp2_with fail
            go_quiet (fail)
            clear hw1 hw2
            go_wp2_with (at_builtin; refine wpList_append_row rfl _ _ 34 rfl w.heap.size 3 el_int Tryz.underlying34 rfl (by decide) _ _ _ rfl ((owns_below HOWN.out (below_self_drewN _ _)).alloc _) _ 1 [.int .i64 y] rfl (row_one_new _ _ _) (oneCell_one rfl) (by omega) (by omega) (by simp; omega) ?_; intro v' w4 hown4 hgrow4 _)
            have HB4 := hid (((below_drewN hB _).alloc (by simpa using hszw) _).grown hgrow4 (by simp; omega) (fun q hq => (HOWN.out.lt q hq).1))
            have HO4 := hid hown4
            clear hown4 hgrow4
            go_roundw
            case rel => exact ⟨i + 1, by omega, by go_num, by rw [HFT.out, List.length_append, List.map_append]; exact HO4.out, HB4.out⟩
            case measure => simp [intOf]; omega
          | some ul =>
            obtain ⟨v1, t1⟩ := ul
            obtain ⟨⟨x0, n0, c0, rfl⟩, hi1⟩ := hSw.arr.ints hu24 hTu
            rw [hTu] at hcl hMT
            have hs0 : sV (some (.slice (some x0) n0 c0, t1)) = .slice (some x0) n0 c0 := rfl
            rw [hs0] at hcl
            have hmy : mR T y = some t1 := by rw [← mOf_MT]; simp [mOf, hMT]
            have hv1 := HM.out.val y t1 hmy
            have hfy : fw (mR T) [y] = fw (mR T) t1 := sg_some HM.out hmy
            rw [hfy] at HFT hlen
            have HCALL := hid (fun (W : World) (hW : Below wr.heap.size wr W) => IH.out t1 (.slice (some x0) n0 c0) W (fun z hz hz0 => by have := HR.out y t1 hmy z hz hz0; have := HK.out y HMEM.out hy0; omega) (by have := HK.out y HMEM.out hy0; omega) hv1.2.2.1 hv1.2.2.2 (by omega) (hSw.below hW) (hi1.below hW))
            have hq := HQ.out
            have hf60 : (fw (mR T) t1).length ≤ 60 := by omega
            have hF1 : F.length ≤ 60 := by omega
            clear hu hMT hTu hSw hmy hv1 hi1 hfy
            go_wp2_with fail
            go_quiet (fail)
            go_wp2_with fail
            go_region_law (first | (refine step_append_row rfl (.tmp 32) (.tmp 45) 34 rfl w.heap.size 3 el_int Tryz.underlying34 rfl (by decide) _ _ _ rfl hown5 _ _ _ rfl (RowK.of_owns hown4 (by omega)) (ints_one _) (by omega) (by omega) (by omega) ?_; intro v6 w6 hown6 hg6) | (go_simp; go_at_call 228; refine (HCALL.out _ (below_self_drewN _ _)).mono ?_; rintro e w5 ⟨u5, rfl, hown4, hb4⟩; have hb5 := hB.trans (((below_self_drewN' hB _).trans (hb4.mono hszw))); have hown5 := owns_below HOWN.out ((below_self_drewN wr _).trans (hb4.mono (by simp))); have hsz5 := hb5.size))
            have HB6 := hid (hb5.grown hg6 hsz5 (fun q hq => (HOWN.out.lt q hq).1))
            have HO6 := hid hown6
            clear hown6 hg6 hb5 hb4 hown4 hown5 hsz5
            go_wp2
            go_roundw
            case rel => exact ⟨i + 1, by omega, by go_num, by rw [HFT.out, List.length_append, List.map_append]; exact HO6.out, HB6.out⟩
            case measure => simp [intOf]; omega
      · have hit : t.take i = t := List.take_of_length_le (by omega)
        rw [hit] at HOWN
        clear hown
        go_wp2
        go_ret
        exact ⟨_, rfl, HOWN.out, hB⟩
end Go.Proofs.YtmpjaakkjhmpmaaGreatDoor
