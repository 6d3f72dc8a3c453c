/-
  WHAT IT HOLDS: contracts of full of package unify's solver: a term with all that is bound put in, or false if it is longer than 60. Conditions: the solver reads as data; what it binds leans on nothing of itself.
  WHAT IT HOLDS: contracts of solved, Meets, Meet, Unifiable, Unified, Detached of package unify and of made of its solver: what they answer, by most general binds. Conditions: the arguments read as data; small signs.
  WHAT IT HOLDS: plain laws of meets and joins: a common instance is one of the meet; what has both as instances has the join; meets and joins are valid. No program in sight.
  WHAT IT HOLDS: the plain law of meets: the meet does not depend on the order, is an instance of both, and is alike the second exactly if that is an instance of the first. No program.
  WHAT IT HOLDS: contracts of Meets, Join of package unify, and of the helper awake of the laws of layer 2. Conditions: the arguments read as data; small signs.
-/
import Derived.OneCell
import Derived.Test.YtmpjaakkjhmpmaaGreatDoorZRShortCites18
import Derived.Test.YtmpjaakkjhmpmaaGreatDoorZRShortCites16
import Derived.Test.YtmpjaakkjhmpmaaGreatDoorZRShortCites7
import Derived.Test.YtmpjaakkjhmpmaaGreatDoorZRShortCites9
namespace Go.Proofs.YtmpjaakkjhmpmaaGreatDoor
open Go Go.RowKit Go.Maps
theorem fw_one {s : Sg} {m : MM} (h : MOK s m) {n : Int} (hn : m n = none) : fw m [n] = [n] := by
  by_cases h0 : n < 0
  · exact sg_none h h0 hn
  · rw [fw_app _ (by omega)]; unfold fw; rw [full_nil]
theorem fw_take {m : MM} (t : List Int) {i : Nat} (h : i < t.length) : fw m (t.take (i + 1)) = fw m (t.take i) ++ fw m [t[i]] := by
  rw [List.take_succ_eq_append_getElem h, fw_append]
theorem fw_take_le (m : MM) (t : List Int) (i : Nat) : (fw m (t.take i)).length ≤ (fw m t).length := by
  conv => rhs; rw [← List.take_append_drop i t, fw_append, List.length_append]
  omega
def fnF (pxb pw po : Nat) : Value := .func (.func 215) #[] #[.pointer (some ⟨pxb, 0, none⟩), .pointer (some ⟨pw, 0, none⟩), .pointer (some ⟨po, 0, none⟩)]
structure FullW (w0 w : World) (B pxb pw po px : Nat) (vo : Value) (o : List Int) : Prop where
  b0 : Below w0.heap.size w0 w
  hB : B ≤ w.heap.size
  cx : w.cell? ⟨pxb, 0, none⟩ = some (.pointer (some ⟨px, 0, none⟩))
  cw : w.cell? ⟨pw, 0, none⟩ = some (fnF pxb pw po)
  bo : w.heap[po]? = some (.cells #[vo] 34 (0, 0))
  own : w.ownsRow B 3 1 vo o.length (o.map (Value.int .i64))
theorem FullW.slice {w0 w : World} {B pxb pw po px : Nat} {vo : Value} {o : List Int} (h : FullW w0 w B pxb pw po px vo o) : ∃ a c, vo = .slice a o.length c := by
  rcases h.own.2 with ⟨h1, h2⟩ | ⟨g, cap, _, h1, _⟩
  · rw [h2]; exact ⟨none, 0, h1⟩
  · exact ⟨_, _, h1⟩
theorem FullW.push {w0 w w4 : World} {B pxb pw po px : Nat} {vo v' : Value} {o : List Int} {x : Int} (h : FullW w0 w B pxb pw po px vo o) (ob : Obj) (hN : w0.heap.size ≤ po) (h1 : pxb < B) (h2 : pw < B) (h3 : po < B) (h4 : pxb ≠ po) (h5 : pw ≠ po) (hNB : w0.heap.size ≤ B)
    (hown : w4.ownsRow B 3 1 v' (o.length + 1) (o.map (Value.int .i64) ++ [.int .i64 x])) (hg : (w.alloc ob).grownBy w4 vo.ownBlock) : FullW w0 (w4.setCell ⟨po, 0, none⟩ v') B pxb pw po px v' (o ++ [x]) := by
  have hob : ∀ q, vo.ownBlock = some q → B ≤ q := fun q hq => (h.own.lt q hq).1
  have hb4 : Below B w w4 := ((Below.refl _ _).alloc h.hB _).grown hg (by simp; have := h.hB; omega) hob
  have hbo : w4.heap[po]? = some (.cells #[vo] 34 (0, 0)) := (hb4.block po h3).trans h.bo
  have hfr := Below.heap_setCell w4 ⟨po, 0, none⟩ v'
  refine ⟨(h.b0.trans (hb4.mono hNB)).setCell (by exact hN) _, ?_, ?_, ?_, one_setCell hbo, ?_⟩
  · have : (w4.setCell ⟨po, 0, none⟩ v').heap.size = w4.heap.size := by simp [World.setCell]
    rw [this]; have := hb4.size; have := h.hB; omega
  · rw [World.cell?_of_block (hfr pxb h4), hb4.cell (p := ⟨pxb, 0, none⟩) h1]; exact h.cx
  · rw [World.cell?_of_block (hfr pw h5), hb4.cell (p := ⟨pw, 0, none⟩) h2]; exact h.cw
  · have := ownsRow_setCell_below hown (a := ⟨po, 0, none⟩) h3 v'
    simpa using this
set_option maxHeartbeats 1000000 in
set_option maxRecDepth 100000 in
theorem unify_full1 (px bm B pxb pw po : Nat) (vs : Value) (s : Sg) (M : Int → Option VT) (w0 : World) (hm : MOK s (mOf M)) (hS : SolvW w0 px bm vs s M) (r : Int → Nat) (hr : Rk (mOf M) r) (hN : w0.heap.size ≤ po) (hNB : w0.heap.size ≤ B) (h1 : pxb < B) (h2 : pw < B) (h3 : po < B) (h4 : pxb ≠ po) (h5 : pw ≠ po) (hsl : s.length ≤ 1000) :
    ∀ (k : Nat) (t o : List Int) (vt vo : Value) (w : World), (∀ x ∈ t, x < 0 → r x + 1 < k) → 0 < k → IsT s 24 t → t.length ≤ 60 → Ints w0 vt t → FullW w0 w B pxb pw po px vo o → o.length ≤ 60 →
    Calls Tryz.prog 215 #[vt, .pointer (some ⟨pxb, 0, none⟩), .pointer (some ⟨pw, 0, none⟩), .pointer (some ⟨po, 0, none⟩)] w
      fun e w' => (∃ vo' o', FullW w0 w' B pxb pw po px vo' o' ∧ ((e = .returned (.bool true) ∧ o' = o ++ fw (mOf M) t ∧ o'.length ≤ 60) ∨ (e = .returned (.bool false) ∧ 60 < (o ++ fw (mOf M) t).length))) := by
  intro k
  induction k with
  | zero => intro t o vt vo w hk hk0; omega
  | succ k ih =>
    intro t o vt vo w hk hk0 hT hl ra hF ho
    obtain ⟨ta, tc, rfl, ht1, ht2, -, TC⟩ := ra.open
    have HT := hid hT
    have HTC := hid TC
    have HMV := hid hm.val
    have HM := hid hm
    have HS := hid hS
    have HK := hid hk
    have HR := hid hr
    have IH := hid ih
    have HF := hid hF
    clear hT TC ra hm hS hF hk hr ih
    go_enter Tryz.func215, Tryz.ntmps215
    go_wp2
    go_loopw [12] (fun iv wr => ∃ (i : Nat) (vo' : Value), i ≤ t.length ∧ iv = .int .i64 i ∧ FullW w0 wr B pxb pw po px vo' (o ++ fw (mOf M) (t.take i)) ∧ (o ++ fw (mOf M) (t.take i)).length ≤ 60) (fun iv _ => t.length - (intOf iv).toNat)
    case atStart => exact ⟨0, vo, by omega, rfl, by simpa [fw, full_nil] using HF.out, by simpa [fw, full_nil] using ho⟩
    case round =>
      clear HF
      obtain ⟨i, vo', hi, rfl, hF, ho'⟩ := hrel
      by_cases hlt : i < t.length
      · obtain ⟨tb, to, rfl, cy0⟩ := HTC.out i hlt
        have cy := (hF.b0.cell (World.block_lt_of_cell? _ _ cy0)).trans cy0
        have HFT := hid (fw_take (m := mOf M) t hlt)
        have HLE := hid (fw_take_le (mOf M) t (i + 1))
        have hmem := List.getElem_mem hlt
        obtain ⟨y, hy⟩ : ∃ y, t[i] = y := ⟨_, rfl⟩
        rw [hy] at cy hmem HFT
        have hrng := HT.out.range y hmem
        have HMEM := hid hmem
        obtain ⟨o2, ho2⟩ : ∃ o2, o ++ fw (mOf M) (t.take i) = o2 := ⟨_, rfl⟩
        rw [ho2] at hF ho'
        obtain ⟨oa, oc, hoe⟩ := hF.slice
        subst hoe
        have HO2 := hid ho2
        have hSr := HS.out.below hF.b0
        have c1 := hSr.c1
        obtain ⟨nM, hM⟩ := hSr.map
        have cx := hF.cx
        have cw : wr.cell? ⟨pw, 0, none⟩ = some (.func (.func 215) #[] #[.pointer (some ⟨pxb, 0, none⟩), .pointer (some ⟨pw, 0, none⟩), .pointer (some ⟨po, 0, none⟩)]) := hF.cw
        have co := cell_of_one hF.bo
        have fo := free_of_one hF.bo
        have HKEY := hid (int_key y (wf_small (by omega) (by omega)))
        have HF := hid hF
        have hown := hF.own
        have HOWN := hid hown
        have hBs := hF.hB
        clear cy0 hy hmem ho2 hSr hF hown
        cases hMy : M y with
        | none =>
          have hmy : mOf M y = none := by simp [mOf, hMy]
          have HFW := hid (fw_one HM.out hmy)
          have HMy := hid hMy
          clear hmy hMy
          have HNEXT : Hid (o ++ fw (mOf M) (t.take (i + 1)) = o2 ++ [y]) := hid (by rw [HFT.out, HFW.out, ← List.append_assoc, HO2.out])
          have hdec : decide (y < 0) = true ∨ decide (y < 0) = false := by cases decide (y < 0) <;> simp
          by_cases h61 : o2.length + 1 ≤ 60
          · rcases hdec with hd | hd
            all_goals
              go_wp2_with (first
                | (at_lookup; refine wpList_lookup_mapK rfl _ _ 153 true rfl (int_keyed Tryz.underlying3) eI_inj Tryz.underlying153 (zero_term _) rfl hM y rfl HKEY.out (.tuple #[.slice none 0 0, .bool false]) (by rw [HMy.out]; rfl) ?_)
                | (at_builtin; refine wpList_append_row rfl _ _ 34 rfl B 3 el_int Tryz.underlying34 rfl (by decide) _ _ _ rfl (HOWN.out.alloc _) _ 1 [.int .i64 y] rfl (row_one_new _ _ _) (oneCell_one rfl) (by omega) (by omega) (by simp; omega) ?_; intro v' w4 hown4 hgrow4 _; obtain ⟨g4, cap4, hv4, -, -⟩ := owns_some hown4 (by omega); subst hv4; have HP := hid (HF.out.push _ hN h1 h2 h3 h4 h5 hNB hown4 hgrow4); have hb4 : Below B wr w4 := ((Below.refl _ _).alloc hBs _).grown hgrow4 (by simp; omega) (fun q hq => (HOWN.out.lt q hq).1); have co4 := (hb4.cell (p := ⟨po, 0, none⟩) h3).trans co; have fo4 := (hb4.frozen (p := ⟨po, 0, none⟩) h3).trans fo))
              go_roundw
              case rel => exact ⟨i + 1, _, by omega, by go_num, by rw [HNEXT.out]; exact HP.out, by rw [HNEXT.out]; simp; omega⟩
              case measure => simp [intOf]; omega
          · have HBIG : Hid (60 < (o ++ fw (mOf M) t).length) := hid (by
              have e := congrArg List.length HNEXT.out
              have e2 := HLE.out
              rw [List.length_append] at e ⊢
              simp only [List.length_append, List.length_cons, List.length_nil] at e
              omega)
            rcases hdec with hd | hd
            all_goals
              go_wp2_with (first
                | (at_lookup; refine wpList_lookup_mapK rfl _ _ 153 true rfl (int_keyed Tryz.underlying3) eI_inj Tryz.underlying153 (zero_term _) rfl hM y rfl HKEY.out (.tuple #[.slice none 0 0, .bool false]) (by rw [HMy.out]; rfl) ?_)
                | (at_builtin; refine wpList_append_row rfl _ _ 34 rfl B 3 el_int Tryz.underlying34 rfl (by decide) _ _ _ rfl (HOWN.out.alloc _) _ 1 [.int .i64 y] rfl (row_one_new _ _ _) (oneCell_one rfl) (by omega) (by omega) (by simp; omega) ?_; intro v' w4 hown4 hgrow4 _; obtain ⟨g4, cap4, hv4, -, -⟩ := owns_some hown4 (by omega); subst hv4; have HP := hid (HF.out.push _ hN h1 h2 h3 h4 h5 hNB hown4 hgrow4); have hb4 : Below B wr w4 := ((Below.refl _ _).alloc hBs _).grown hgrow4 (by simp; omega) (fun q hq => (HOWN.out.lt q hq).1); have co4 := (hb4.cell (p := ⟨po, 0, none⟩) h3).trans co; have fo4 := (hb4.frozen (p := ⟨po, 0, none⟩) h3).trans fo))
              go_ret
              exact ⟨_, _, HP.out, Or.inr ⟨rfl, HBIG.out⟩⟩
        | some u =>
          obtain ⟨v1, t1⟩ := u
          have hmy : mOf M y = some t1 := by simp [mOf, hMy]
          have hv := HMV.out y t1 hmy
          have hy0 := hv.2.1
          have hd : decide (y < 0) = true := by simpa using hy0
          have hi1 := HS.out.its y v1 t1 hMy
          have HFW : Hid (fw (mOf M) [y] = fw (mOf M) t1) := hid (sg_some HM.out hmy)
          have HNEXT : Hid (o ++ fw (mOf M) (t.take (i + 1)) = o2 ++ fw (mOf M) t1) := hid (by rw [HFT.out, HFW.out, ← List.append_assoc, HO2.out])
          have HCALL := hid (IH.out t1 o2 v1 _ wr (fun x hx hx0 => by have := HR.out y t1 hmy x hx hx0; have := HK.out y HMEM.out hy0; omega) (by have := HK.out y HMEM.out hy0; omega) hv.2.2.1 hv.2.2.2 hi1 HF.out ho')
          have HMy := hid hMy
          clear hmy hMy hv hi1
          go_wp2_with (first
            | (at_lookup; refine wpList_lookup_mapK rfl _ _ 153 true rfl (int_keyed Tryz.underlying3) eI_inj Tryz.underlying153 (zero_term _) rfl hM y rfl HKEY.out (.tuple #[v1, .bool true]) (by rw [HMy.out]; rfl) ?_)
            | fail)
          refine HCALL.out.mono ?_
          rintro e w3 ⟨vo3, o3, hF3, ⟨rfl, ho3, hl3⟩ | ⟨rfl, hbig⟩⟩
          · have HO3 := hid ho3
            have HF3 := hid hF3
            clear ho3 hF3
            go_wp2
            go_roundw
            case rel => exact ⟨i + 1, vo3, by omega, by go_num, by rw [HNEXT.out, ← HO3.out]; exact HF3.out, by rw [HNEXT.out, ← HO3.out]; exact hl3⟩
            case measure => simp [intOf]; omega
          · have HBIG : Hid (60 < (o ++ fw (mOf M) t).length) := hid (by
              have e := congrArg List.length HNEXT.out
              have e2 := HLE.out
              rw [List.length_append] at e hbig ⊢
              rw [List.length_append] at e
              omega)
            have HF3 := hid hF3
            clear hF3 hbig
            go_wp2
            go_ret
            exact ⟨_, _, HF3.out, Or.inr ⟨rfl, HBIG.out⟩⟩
      · have hit : t.take i = t := List.take_of_length_le (by omega)
        rw [hit] at hF ho'
        have HF := hid hF
        clear hF hit
        go_wp2
        go_ret
        exact ⟨_, _, HF.out, Or.inl ⟨rfl, rfl, ho'⟩⟩
set_option maxHeartbeats 1000000 in
set_option maxRecDepth 100000 in
theorem unify_full (px bm : Nat) (vs vt : Value) (s : Sg) (M : Int → Option VT) (t : List Int) (w : World) (hm : MOK s (mOf M)) (hS : SolvW w px bm vs s M) (hT : IsT s 24 t) (hl : t.length ≤ 60) (ra : Ints w vt t) (hsl : s.length ≤ 1000) :
    Calls Tryz.prog 193 #[.pointer (some ⟨px, 0, none⟩), vt] w fun e w' => ∃ u, Below w.heap.size w w' ∧
      ((e = .returned (.tuple #[u, .bool true]) ∧ (fw (mOf M) t).length ≤ 60 ∧ w'.ownsRow w.heap.size 3 1 u (fw (mOf M) t).length ((fw (mOf M) t).map (Value.int .i64))) ∨ (e = .returned (.tuple #[u, .bool false]) ∧ 60 < (fw (mOf M) t).length)) := by
  obtain ⟨r, hr, hr24⟩ := hm.rank
  have HC := hid (fun W (hF : FullW w W (w.heap.size + 1 + 1 + 1) w.heap.size (w.heap.size + 1 + 1) (w.heap.size + 1) px (.slice none 0 0) []) =>
    unify_full1 px bm (w.heap.size + 1 + 1 + 1) w.heap.size (w.heap.size + 1 + 1) (w.heap.size + 1) vs s M w hm hS r hr (by omega) (by omega) (by omega) (by omega) (by omega) (by omega) (by omega) hsl 26 t [] vt (.slice none 0 0) W (fun x _ _ => by have := hr24 x; omega) (by omega) hT hl ra hF (by simp))
  obtain ⟨ta, tc, hte, -⟩ := ra.open
  subst hte
  clear hm hT hS ra hr hr24
  go_enter Tryz.func193, Tryz.ntmps193
  go_wp2_with fail
  have k1 := cell_new1 w (.pointer (some ⟨px, 0, none⟩)) 173
  have k2 := (MapKept.heap_alloc (w.alloc (.cells #[.pointer (some ⟨px, 0, none⟩)] 173)) (.cells #[.slice none 0 0] 34)).1
  have k3 := cell_new1 ((w.alloc (.cells #[.pointer (some ⟨px, 0, none⟩)] 173)).alloc (.cells #[.slice none 0 0] 34)) (fnF w.heap.size (w.heap.size + 1 + 1) (w.heap.size + 1)) 160
  simp only [World.size_alloc] at k2 k3
  have hB : ∀ o1 o2 o3, Below w.heap.size w (((w.alloc o1).alloc o2).alloc o3) := fun o1 o2 o3 => (((Below.refl _ _).alloc (Nat.le_refl _) _).alloc (by simp) _).alloc (by simp; omega) _
  have hc := HC.out _ ⟨hB (.cells #[.pointer (some ⟨px, 0, none⟩)] 173) (.cells #[.slice none 0 0] 34) (.cells #[fnF w.heap.size (w.heap.size + 1 + 1) (w.heap.size + 1)] 160), by simp, cell_alloc_keep _ (cell_alloc_keep _ k1), k3, (Below.heap_alloc _ _ _ (by simp)).trans k2, World.ownsRow_nil _ _ _ _⟩
  refine Calls.mono hc ?_
  clear k1 k2 k3 hB hc
  rintro e w1 ⟨vo', o', hF, hor⟩
  obtain ⟨oa, oc, hoe⟩ := hF.slice
  subst hoe
  have co := cell_of_one hF.bo
  have HF := hid hF
  rcases hor with ⟨rfl, ho', hl'⟩ | ⟨rfl, hbig⟩
  · have HO := hid ho'
    clear hF ho'
    go_wp2
    go_ret2
    simp only [List.nil_append] at HO
    refine ⟨_, HF.out.b0, Or.inl ⟨rfl, by rw [← HO.out]; exact hl', by rw [← HO.out]; exact owns_base HF.out.own (by omega)⟩⟩
  · have HBIG := hid hbig
    clear hF hbig
    go_wp2
    go_ret2
    exact ⟨_, HF.out.b0, Or.inr ⟨rfl, by simpa using HBIG.out⟩⟩
def aparL (t : List Int) : List Int := t.map fun n => if n < 0 then n - 12 else n
def aparK (t : List Int) (k : Nat) : List Int := aparL (t.take k) ++ t.drop k
theorem aparK_len (t : List Int) (k : Nat) : (aparK t k).length = t.length := by
  unfold aparK aparL
  rw [List.length_append, List.length_map, ← List.length_append, List.take_append_drop]
theorem aparK_all (t : List Int) {k : Nat} (h : t.length ≤ k) : aparK t k = aparL t := by
  unfold aparK
  rw [List.take_of_length_le h, List.drop_eq_nil_of_le h, List.append_nil]
theorem aparK_get (t : List Int) {k : Nat} (h : k < t.length) : ((aparK t k).map (Value.int .i64))[k]? = some (.int .i64 t[k]) := by
  have : (aparK t k)[k]? = some t[k] := by
    unfold aparK aparL
    rw [List.getElem?_append_right (by simp; omega)]
    simp
    have : k - min k t.length = 0 := by omega
    rw [this]; simp [h]
  rw [List.getElem?_map, this]; rfl
theorem aparK_step (t : List Int) {k : Nat} (h : k < t.length) : aparK t (k + 1) = (aparK t k).set k (if t[k] < 0 then t[k] - 12 else t[k]) := by
  unfold aparK aparL
  rw [List.take_succ_eq_append_getElem h, List.map_append, List.set_append_right _ _ (by simp; omega)]
  have e2 : k - ((t.take k).map fun n => if n < 0 then n - 12 else n).length = 0 := by simp; omega
  rw [e2, List.drop_eq_getElem_cons h, List.set_cons_zero, List.append_assoc]
  rfl
theorem aparK_same (t : List Int) {k : Nat} (h : k < t.length) (h0 : ¬ t[k] < 0) : aparK t (k + 1) = aparK t k := by
  rw [aparK_step t h, if_neg h0]
  have h1 : k < (aparK t k).length := by rw [aparK_len]; exact h
  have : (aparK t k)[k] = t[k] := by
    have := aparK_get t h
    simpa [h1] using this
  rw [← this, List.set_getElem_self]
set_option maxHeartbeats 1000000 in
set_option maxRecDepth 100000 in
theorem unify_apart (v : Value) (t : List Int) (w : World) (ht : Ints w v t) (h0 : 0 < t.length) (hl : t.length ≤ 1000) (hr : ∀ x ∈ t, -1000000 ≤ x ∧ x ≤ 1000000) :
    Calls Tryz.prog 157 #[v] w fun e w' => ∃ u, e = .returned u ∧ w'.ownsRow w.heap.size 3 1 u (aparL t).length ((aparL t).map (Value.int .i64)) ∧ Below w.heap.size w w' := by
  obtain ⟨ta, tcap, rfl, ht1, ht2, -, TC⟩ := ht.open
  have TC' := hid TC
  have HR := hid hr
  have HT := hid ht
  clear TC ht hr
  go_enter Tryz.func157, Tryz.ntmps157
  go_wp2_with fail
  refine (sl_CloneT _ t _ HT.out h0 hl).mono ?_
  rintro e w1 ⟨u, rfl, hown, hb1⟩
  obtain ⟨g, cap, rfl, hg, hgc⟩ := owns_some hown h0
  have HOWN := hid hown
  have HB1 := hid hb1
  clear hown hb1
  go_wp2
  go_loopw [10] (fun kv wr => ∃ k : Nat, k ≤ t.length ∧ kv = .int .i64 k ∧ wr.ownsRow w.heap.size 3 1 (.slice (some ⟨g, 0, none⟩) t.length cap) t.length ((aparK t k).map (Value.int .i64)) ∧ Below w.heap.size w wr) (fun kv _ => t.length - (intOf kv).toNat)
  case atStart => exact ⟨0, by omega, rfl, by simpa [aparK, aparL] using HOWN.out, HB1.out⟩
  case round =>
    clear HOWN HB1
    obtain ⟨k, hk, rfl, hown, hb⟩ := hrel
    by_cases hlt : k < t.length
    · obtain ⟨tb, to, rfl, hc0⟩ := TC'.out k hlt
      have hcell := (hb.cell (World.block_lt_of_cell? _ _ hc0)).trans hc0
      have hrk := HR.out t[k] (List.getElem_mem hlt)
      by_cases hn : t[k] < 0
      · have hge : decide (t[k] < 0) = true := by simp; omega
        have hst := aparK_step t hlt
        rw [if_pos hn] at hst
        have hc1 := hown.cellAt k (by omega)
        rw [aparK_get t hlt] at hc1
        have hf1 := hown.frozenAt k
        have HST := hid (hown.stored k (.int .i64 (t[k] - 12)))
        have HB2 : Hid (Below w.heap.size w (wr.setCell ⟨g, k, none⟩ (.int .i64 (t[k] - 12)))) := hid (hb.setCell (p := ⟨g, k, none⟩) (by show w.heap.size ≤ g; omega) _)
        have HS := hid hst
        clear hst hown hc0
        go_wp2
        go_roundw
        case rel => exact ⟨k + 1, by omega, by go_num, by rw [HS.out, List.map_set]; exact HST.out.1, HB2.out⟩
        case measure => simp [intOf]; omega
      · have hge : decide (t[k] < 0) = false := by simp; omega
        have HS := hid (aparK_same t hlt hn)
        clear hc0
        go_wp2
        go_roundw
        case rel => exact ⟨k + 1, by omega, by go_num, by rw [HS.out]; exact hown, hb⟩
        case measure => simp [intOf]; omega
    · have HE := hid (aparK_all t (k := k) (by omega))
      rw [HE.out] at hown
      have HL : Hid ((aparL t).length = t.length) := hid (by simp [aparL])
      have HOW := hid hown
      clear hown
      go_wp2
      go_ret
      exact ⟨_, rfl, by rw [HL.out]; exact HOW.out, hb⟩
end Go.Proofs.YtmpjaakkjhmpmaaGreatDoor
namespace Go.Proofs.YtmpjaakkjhmpmaaGreatDoor
open Go Go.RowKit Go.Maps
def madeB (F : List Int) : Bool := decide (F.length ≤ 60) && decide ((varsF [] F).length ≤ 12)
/-- what is made of t where a and b are unified. -/
def UR (s : Sg) (a b t : List Int) (x : List Int × Int) : Prop :=
  (NoU s a b ∧ x = ([], 8)) ∨ ∃ m, Mgu s a b m ∧ ((madeB (fw m t) = true ∧ x = (canonL (fw m t), 0)) ∨ (madeB (fw m t) = false ∧ x = ([], 4)))
theorem varsF_canon_len (t : List Int) : (varsF [] (canonL t)).length = (varsF [] t).length := by
  have h := varsF_map (ρ := numV (varsF [] t)) t [] (fun n _ h => numV_neg.2 h) (fun n _ h => by unfold numV; rw [if_neg (by omega)]) (fun n hn m _ h1 h2 e => numV_inj h1 h2 ((varsF_mem t [] n).2 (Or.inr ⟨by simpa using hn, h1⟩)) e) (by simp)
  rw [List.map_nil] at h
  unfold canonL
  rw [h, List.length_map]
theorem madeB_canon {F G : List Int} (h : canonL F = canonL G) : madeB F = madeB G := by
  have h1 : F.length = G.length := by have := congrArg List.length h; simpa [canonL_len] using this
  have h2 : (varsF [] F).length = (varsF [] G).length := by rw [← varsF_canon_len F, ← varsF_canon_len G, h]
  unfold madeB
  rw [h1, h2]
theorem UR.unique {s : Sg} {a b t : List Int} (ht : IsT s 24 t) {x y : List Int × Int} (h : UR s a b t x) (k : UR s a b t y) : x = y := by
  rcases h with ⟨h1, rfl⟩ | ⟨m, hm, h⟩
  · rcases k with ⟨_, rfl⟩ | ⟨m', hm', _⟩
    · rfl
    · exact (hm'.not_no h1).elim
  · rcases k with ⟨k1, _⟩ | ⟨m', hm', k⟩
    · exact (hm.not_no k1).elim
    · have hc := hm.canon hm' ht
      have hb := madeB_canon hc
      rcases h with ⟨h1, rfl⟩ | ⟨h1, rfl⟩ <;> rcases k with ⟨k1, rfl⟩ | ⟨k1, rfl⟩
      · rw [hc]
      · rw [hb, k1] at h1; cases h1
      · rw [hb, k1] at h1; cases h1
      · rfl
theorem aparL_sub (t : List Int) : aparL t = subL (fun n => [n - 12]) t := by
  induction t with
  | nil => rfl
  | cons n t ih =>
    by_cases h : n < 0
    · rw [subL_cons_var _ h, ← ih]; simp [aparL, h]
    · rw [subL_cons_app _ (by omega), ← ih]; simp [aparL, h]
theorem aparL_T {s : Sg} {t : List Int} (h : IsT s 12 t) : IsT s 24 (aparL t) := by
  rw [aparL_sub]
  exact h.sub fun n hn hn0 => .var _ (by have := h.vars n hn hn0; omega) (by omega)
theorem aparL_len (t : List Int) : (aparL t).length = t.length := by simp [aparL]
def MeetR (s : Sg) (a b : List Int) (x : List Int × Int) : Prop := if termB s a && termB s b then UR s a (aparL b) a x else x = ([], 1)
theorem T_small12 {s : Sg} {t : List Int} (h : IsT s 12 t) (hs : s.length ≤ 12) : ∀ x ∈ t, -1000000 ≤ x ∧ x ≤ 1000000 := by
  intro x hx
  rcases h.range x hx with h | h <;> omega
/-- whether two terms meet. -/
def MeetsQ (s : Sg) (a b : List Int) : Prop := termB s a = true ∧ termB s b = true ∧ ¬ NoU s a (aparL b)
def MeetsA (s : Sg) (a b : List Int) (z : Bool) : Prop := z = true ↔ MeetsQ s a b
set_option maxHeartbeats 1000000 in
set_option maxRecDepth 100000 in
theorem unify_solved (vs va vb : Value) (s : Sg) (a b : List Int) (w : World) (hsg : signB s = true) (hT : IsT s 24 a) (hU : IsT s 24 b) (hla : a.length ≤ 60) (hlb : b.length ≤ 60) (hs : SignAt w vs s) (ra : Ints w va a) (rb : Ints w vb b) :
    Calls Tryz.prog 156 #[vs, va, vb] w fun e w' => Below w.heap.size w w' ∧ ∃ px, ((e = .returned (.tuple #[.pointer (some ⟨px, 0, none⟩), .bool false]) ∧ NoU s a b) ∨
      (e = .returned (.tuple #[.pointer (some ⟨px, 0, none⟩), .bool true]) ∧ ∃ bm M, SolvW w' px bm vs s M ∧ Mgu s a b (mOf M))) := by
  obtain ⟨sa, sc, hse, -⟩ := hs.open
  subst hse
  obtain ⟨aa, ac, hae, -⟩ := ra.open
  subst hae
  obtain ⟨ba, bc, hbe, -⟩ := rb.open
  subst hbe
  have hmm := @run_makeMap Tryz.prog
  have HS := hid hs
  have HA := hid ra
  have HB := hid rb
  clear hs ra rb
  go_enter Tryz.func156, Tryz.ntmps156
  go_wp2_with fail
  clear hmm
  have hb1 : Below w.heap.size w ((w.alloc (.map #[] 0)).alloc (.cells #[.slice sa s.length sc, .map (some w.heap.size)] 207)) := ((Below.refl _ _).alloc (Nat.le_refl _) _).alloc (by simp) _
  have c0 : ((w.alloc (.map #[] 0)).alloc (.cells #[.slice sa s.length sc, .map (some w.heap.size)] 207)).cell? ⟨w.heap.size + 1, 0, none⟩ = some (.slice sa s.length sc) := by
    have := World.cell?_alloc_new (w := w.alloc (.map #[] 0)) #[.slice sa s.length sc, .map (some w.heap.size)] 207 0
    rw [World.size_alloc] at this
    rw [this]; rfl
  have c1 : ((w.alloc (.map #[] 0)).alloc (.cells #[.slice sa s.length sc, .map (some w.heap.size)] 207)).cell? ⟨w.heap.size + 1, 1, none⟩ = some (.map (some w.heap.size)) := by
    have := World.cell?_alloc_new (w := w.alloc (.map #[] 0)) #[.slice sa s.length sc, .map (some w.heap.size)] 207 1
    rw [World.size_alloc] at this
    rw [this]; rfl
  have km := (MapK.made Tryz.prog 3 eI eV w).alloc (.cells #[.slice sa s.length sc, .map (some w.heap.size)] 207)
  have hS0 : SolvW ((w.alloc (.map #[] 0)).alloc (.cells #[.slice sa s.length sc, .map (some w.heap.size)] 207)) (w.heap.size + 1) w.heap.size (.slice sa s.length sc) s (fun _ => none) := ⟨c0, c1, HS.out.below hb1, ⟨0, km⟩, fun _ _ _ h => by cases h⟩
  refine Calls.mono (unify_solve (w.heap.size + 1) w.heap.size _ _ _ s _ a b _ hsg hT hU hla hlb (HA.out.below hb1) (HB.out.below hb1) hS0 rfl) ?_
  rintro e w2 ⟨hg, ⟨rfl, hn⟩ | ⟨rfl, M, n, hM, hmgu, hi⟩⟩
  · have HB2 := hid (hb1.grown hg hb1.size (fun q hq => by cases hq; exact Nat.le_refl _))
    have HN := hid hn
    clear hg hn hS0 km c0 c1 hb1
    go_wp2
    go_ret2
    exact ⟨HB2.out, _, Or.inl ⟨rfl, HN.out⟩⟩
  · have HB2 := hid (hb1.grown hg hb1.size (fun q hq => by cases hq; exact Nat.le_refl _))
    have HMG := hid hmgu
    have HS2 : Hid (SolvW w2 (w.heap.size + 1) w.heap.size (.slice sa s.length sc) s M) := hid ⟨km.cell rfl hg c0, km.cell rfl hg c1, km.signAt rfl hg hS0.sgn, ⟨n, hM⟩, fun x v l h => km.ints rfl hg (hi x v l h)⟩
    clear hg hmgu hM hi hS0 km c0 c1 hb1
    go_wp2
    go_ret2
    exact ⟨HB2.out, _, Or.inr ⟨rfl, _, M, HS2.out, HMG.out⟩⟩
theorem fw_small {s : Sg} {m : MM} (hm : MOK s m) {t : List Int} (hT : IsT s 24 t) (hs : s.length ≤ 1000) : ∀ x ∈ fw m t, -1000000 ≤ x ∧ x ≤ 1000000 := by
  intro x hx
  rcases (fw_T hm hT).range x hx with h | h <;> omega
set_option maxHeartbeats 1000000 in
theorem unify_made (px bm : Nat) (vs vt : Value) (s : Sg) (M : Int → Option VT) (t : List Int) (w : World) (hm : MOK s (mOf M)) (hS : SolvW w px bm vs s M) (hT : IsT s 24 t) (hl : t.length ≤ 60) (ra : Ints w vt t) (hsl : s.length ≤ 1000) :
    Calls Tryz.prog 158 #[.pointer (some ⟨px, 0, none⟩), vt] w fun e w' => Below w.heap.size w w' ∧
      ((madeB (fw (mOf M) t) = true ∧ ∃ u, e = .returned (.tuple #[u, .int .i64 0]) ∧ w'.ownsRow w.heap.size 3 1 u (canonL (fw (mOf M) t)).length ((canonL (fw (mOf M) t)).map (Value.int .i64))) ∨
       (madeB (fw (mOf M) t) = false ∧ e = .returned (.tuple #[.slice none 0 0, .int .i64 4]))) := by
  have HF := hid (unify_full px bm vs vt s M t w hm hS hT hl ra hsl)
  have HSM := hid (fw_small hm hT hsl)
  obtain ⟨ta, tc, hte, -⟩ := ra.open
  subst hte
  obtain ⟨F, hFe⟩ : ∃ F, fw (mOf M) t = F := ⟨_, rfl⟩
  rw [hFe] at HF HSM ⊢
  clear hm hS hT ra hFe
  go_enter Tryz.func158, Tryz.ntmps158
  go_wp2_with fail
  refine HF.out.mono ?_
  rintro e w1 ⟨u, hb1, ⟨rfl, hl1, hown⟩ | ⟨rfl, hbig⟩⟩
  · have hI := Ints.of_owns hown (by omega)
    have HN := hid (unify_named u F w1 hI (by omega) HSM.out)
    obtain ⟨ua, uc, hue, -⟩ := hI.open
    subst hue
    have HB1 := hid hb1
    have hsz := hb1.size
    clear hI hown hb1
    cases hv : decide ((varsF [] F).length ≤ 12)
    · have HMB : Hid (madeB F = false) := hid (by unfold madeB; rw [hv]; simp)
      rw [hv] at HN
      clear hv
      go_wp2_with fail
      refine HN.out.mono ?_
      rintro e w2 ⟨u2, rfl, hown2, hb2⟩
      have HB2 := hid (HB1.out.trans (hb2.mono hsz))
      clear hown2 hb2
      go_wp2
      go_ret2
      exact ⟨HB2.out, Or.inr ⟨HMB.out, rfl⟩⟩
    · have HMB : Hid (madeB F = true) := hid (by unfold madeB; rw [hv]; simpa using hl1)
      rw [hv] at HN
      clear hv
      go_wp2_with fail
      refine HN.out.mono ?_
      rintro e w2 ⟨u2, rfl, hown2, hb2⟩
      have HB2 := hid (HB1.out.trans (hb2.mono hsz))
      have HOW := hid (owns_base hown2 hsz)
      clear hown2 hb2
      go_wp2
      go_ret2
      exact ⟨HB2.out, Or.inl ⟨HMB.out, _, rfl, HOW.out⟩⟩
  · have HMB : Hid (madeB F = false) := hid (by unfold madeB; rw [decide_eq_false (by omega)]; rfl)
    have HB1 := hid hb1
    clear hb1
    go_wp2
    go_ret2
    exact ⟨HB1.out, Or.inr ⟨HMB.out, rfl⟩⟩
end Go.Proofs.YtmpjaakkjhmpmaaGreatDoor
namespace Go.Proofs.YtmpjaakkjhmpmaaGreatDoor
theorem madeB_iff {F : List Int} : madeB F = true ↔ F.length ≤ 60 ∧ (varsF [] F).length ≤ 12 := by simp [madeB]
theorem made_term {s : Sg} {q : Int} {F : List Int} (hs : signB s = true) (hT : IsT s q F) (h : madeB F = true) : termB s (canonL F) = true := by
  obtain ⟨h1, h2⟩ := madeB_iff.1 h
  exact T_termB hs (canonL_T hT h2) (by rw [canonL_len]; exact h1)
end Go.Proofs.YtmpjaakkjhmpmaaGreatDoor
namespace Go.Proofs.YtmpjaakkjhmpmaaGreatDoor
open Go Go.RowKit Go.Maps
/-- the variables of the two sides change places. -/
def swN (n : Int) : Int := if -12 ≤ n then n - 12 else n + 12
theorem sw_sub {s : Sg} {a b : List Int} (ha : IsT s 12 a) (hb : IsT s 12 b) {σ : Int → List Int} (h : TS s σ) (e : subL σ a = subL σ (aparL b)) :
    TS s (fun n => σ (swN n)) ∧ subL (fun n => σ (swN n)) b = subL σ a ∧ subL (fun n => σ (swN n)) (aparL a) = subL σ a := by
  obtain ⟨q, hq⟩ := h
  refine ⟨⟨q, fun v h1 h2 => ?_⟩, ?_, ?_⟩
  · unfold swN
    (try simp only)
    split <;> exact hq _ (by omega) (by omega)
  · rw [e, aparL_sub, subL_comp]
    refine subL_congr fun n hn hn0 => ?_
    have := hb.vars n hn hn0
    (try simp only)
    rw [subL_one, if_pos (by omega), swN, if_pos (by omega)]
  · rw [aparL_sub, subL_comp]
    refine subL_congr fun n hn hn0 => ?_
    have := ha.vars n hn hn0
    (try simp only)
    rw [subL_one, if_pos (by omega), swN, if_neg (by omega), show n - 12 + 12 = n by omega]
theorem nou_swap {s : Sg} {a b : List Int} (ha : IsT s 12 a) (hb : IsT s 12 b) (h : NoU s b (aparL a)) : NoU s a (aparL b) := fun σ hσ e => by
  obtain ⟨h1, h2, h3⟩ := sw_sub ha hb hσ e
  exact h _ h1 (h2.trans h3.symm)
theorem mgu_swap1 {s : Sg} {a b : List Int} {m m' : MM} (ha : IsT s 12 a) (hb : IsT s 12 b) (h : Mgu s a (aparL b) m) (h' : Mgu s b (aparL a) m') : Inst s 24 (fw m' b) (fw m a) := by
  obtain ⟨h1, h2, h3⟩ := sw_sub ha hb (sg_TS h.1) h.sol
  have hg := h'.gen h1 (h2.trans h3.symm) b
  refine ⟨fun n => sg m (swN n), fun n hn hn0 => ?_, ?_⟩
  · have hv := (fw_T h'.1 (hb.mono (m' := 24) (by omega))).vars n hn hn0
    (try simp only)
    refine sg_T h.1 ?_ ?_ <;> (unfold swN; split <;> omega)
  · rw [hg, h2, fw_sub h.1]
theorem mgu_swap {s : Sg} {a b : List Int} {m m' : MM} (ha : IsT s 12 a) (hb : IsT s 12 b) (h : Mgu s a (aparL b) m) (h' : Mgu s b (aparL a) m') : canonL (fw m a) = canonL (fw m' b) :=
  (alike_iff (fw_T h.1 (ha.mono (by omega))) (fw_T h'.1 (hb.mono (by omega)))).2 ⟨mgu_swap1 hb ha h' h, mgu_swap1 ha hb h h'⟩
theorem MeetR.unique {s : Sg} {a b : List Int} {x y : List Int × Int} (h : MeetR s a b x) (k : MeetR s a b y) : x = y := by
  unfold MeetR at h k
  split at h
  · rename_i hv
    rw [if_pos hv] at k
    simp only [Bool.and_eq_true] at hv
    exact UR.unique ((termB_T hv.1).mono (by omega)) h k
  · rename_i hv
    rw [if_neg hv] at k
    rw [h, k]
theorem MeetR.swap {s : Sg} {a b : List Int} {x y : List Int × Int} (h : MeetR s a b x) (k : MeetR s b a y) : x = y := by
  unfold MeetR at h k
  rw [Bool.and_comm] at k
  split at h
  · rename_i hv
    rw [if_pos hv] at k
    simp only [Bool.and_eq_true] at hv
    have ha := termB_T hv.1
    have hb := termB_T hv.2
    rcases h with ⟨h1, rfl⟩ | ⟨m, hm, h⟩
    · rcases k with ⟨_, rfl⟩ | ⟨m', hm', _⟩
      · rfl
      · exact (hm'.not_no (nou_swap hb ha h1)).elim
    · rcases k with ⟨k1, _⟩ | ⟨m', hm', k⟩
      · exact (hm.not_no (nou_swap ha hb k1)).elim
      · have hc := mgu_swap ha hb hm hm'
        have hb := madeB_canon hc
        rcases h with ⟨h1, rfl⟩ | ⟨h1, rfl⟩ <;> rcases k with ⟨k1, rfl⟩ | ⟨k1, rfl⟩
        · rw [hc]
        · rw [hb, k1] at h1; cases h1
        · rw [hb, k1] at h1; cases h1
        · rfl
  · rename_i hv
    rw [if_neg hv] at k
    rw [h, k]
theorem nodup_bound_m : ∀ (n : Nat) (l : List Int), l.Nodup → (∀ x ∈ l, -(n : Int) ≤ x ∧ x < 0) → l.length ≤ n := by
  intro n
  induction n with
  | zero => intro l _ h; cases l with
    | nil => simp
    | cons a l => have := h a (by simp); omega
  | succ n ih =>
    intro l hd h
    have h1 := ih (l.erase (-((n + 1 : Nat) : Int))) (hd.erase _) fun x hx => by
      have h2 := (List.Nodup.mem_erase_iff hd).1 hx
      have := h x h2.2
      have := h2.1
      omega
    have h3 := List.length_erase (a := (-((n + 1 : Nat) : Int))) (l := l)
    split at h3 <;> omega
theorem vars_le_m {s : Sg} {t : List Int} (h : IsT s 12 t) : (varsF [] t).length ≤ 12 :=
  nodup_bound_m 12 _ (varsF_nodup t [] (by simp)) fun x hx => by
    rcases (varsF_mem t [] x).1 hx with h1 | h1
    · simp at h1
    · have := h.vars x h1.1 h1.2
      omega
theorem MeetsA.unique {s : Sg} {a b : List Int} {z z' : Bool} (h : MeetsA s a b z) (k : MeetsA s a b z') : z = z' := Bool.eq_iff_iff.2 (h.trans k.symm)
end Go.Proofs.YtmpjaakkjhmpmaaGreatDoor
namespace Go.Proofs.YtmpjaakkjhmpmaaGreatDoor
open Go Go.RowKit Go.Maps
end Go.Proofs.YtmpjaakkjhmpmaaGreatDoor
