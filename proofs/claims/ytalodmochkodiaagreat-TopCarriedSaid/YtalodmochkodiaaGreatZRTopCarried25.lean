/-
  WHAT IT HOLDS: contracts of within, ascending, order, Valid, single, OneToOne of package tongue (dictionaries), and of slices.Sort at []int. Conditions: the arguments read as data; small signs and lists.
  WHAT IT HOLDS: contracts of Valid, single, OneToOne of package tongue. Conditions: the arguments read as data; small signs.
  WHAT IT HOLDS: contracts of single, OneToOne of package tongue. Conditions: the arguments read as data; small signs.
-/
import Derived.Deep.RegionHeld3
import Derived.Test.YtalodmochkodiaaGreatZRTopCarried14
import Derived.Test.YtalodmochkodiaaGreatZRTopCarried4
import Derived.Test.YtalodmochkodiaaGreatZRTopCarried2
import Derived.Test.YtalodmochkodiaaGreatZRTopCarried21
import Derived.Test.YtalodmochkodiaaGreatZRTopCarried23
import Derived.Test.YtalodmochkodiaaGreatZRTopCarried24
namespace Go.Proofs.YtalodmochkodiaaGreat
open Go Go.RowKit Go.Maps Go.Shelf
theorem kb_sortW {α : Type} [Inhabited α] (enc : α → Value) (w : World) (g m : Nat) (d : Array α) (os : Array Obj) : Kb (fun k => k = g) w (Go.Sort.grow (Go.Sort.putRow enc (Go.Sort.ahead w m) g 0 d) os) := by
  have hsz : (Go.Sort.putRow enc (Go.Sort.ahead w m) g 0 d).heap.size = w.heap.size := by rw [Go.Sort.size_putRow]; rfl
  refine ⟨rfl, rfl, rfl, ?_, fun k hk hne => ?_⟩
  · unfold Go.Sort.grow
    simp only [Array.size_append, hsz]
    omega
  · unfold Go.Sort.grow
    simp only
    rw [Array.getElem?_append_left (by rw [hsz]; exact hk)]
    unfold Go.Sort.putRow Go.Sort.mapBlock
    simp only [Array.getElem?_modify]
    rw [if_neg (fun e => hne e.symm)]
    rfl
theorem own_sortW {α : Type} [Inhabited α] (enc : α → Value) {w : World} {base g n c : Nat} {E : TypeId} {xs : List Value} (h : w.ownsRow base E 1 (.slice (some ⟨g, 0, none⟩) n c) n xs) (m : Nat) (d : Array α) (hd : d.size = n) (os : Array Obj) :
    (Go.Sort.grow (Go.Sort.putRow enc (Go.Sort.ahead w m) g 0 d) os).ownsRow base E 1 (.slice (some ⟨g, 0, none⟩) n c) n (d.toList.map enc) := by
  obtain ⟨h1, h2⟩ := h
  refine ⟨by simp [hd], ?_⟩
  rcases h2 with ⟨h2, -⟩ | ⟨g', cap, cur, r1, r2, r3, r4, r5, r6, r7⟩
  · cases h2
  · cases r1
    refine .inr ⟨g, c, Go.Sort.putCells enc 0 d cur, rfl, r2, ?_, r4, r5, ?_, ?_⟩
    · unfold Go.Sort.grow
      simp only
      have hlt := (Array.getElem?_eq_some_iff.1 r3).1
      rw [Array.getElem?_append_left (by rw [Go.Sort.size_putRow]; exact hlt)]
      unfold Go.Sort.putRow Go.Sort.mapBlock
      simp only [Array.getElem?_modify]
      rw [if_pos trivial]
      show Option.map _ (w.heap[g]?) = _
      rw [r3]
      rfl
    · unfold Go.Sort.putCells; simpa using r6
    · apply List.ext_getElem?
      intro i
      rw [List.getElem?_take, List.getElem?_map]
      by_cases hi : i < n
      · rw [if_pos (by omega)]
        unfold Go.Sort.putCells
        rw [Array.getElem?_toList, Array.getElem?_mapIdx, Array.getElem?_eq_getElem (show i < cur.size by omega), Array.getElem?_toList, Array.getElem?_eq_getElem (show i < d.size by omega)]
        simp only [Option.map_some]
        rw [if_pos ⟨Nat.zero_le _, by omega⟩, getElem!_pos d (i - 0) (by omega)]
        rfl
      · rw [if_neg (by omega), Array.getElem?_toList, Array.getElem?_eq_none (by omega)]
        rfl
/-- the numbers in order. -/
def srtI (l : List Int) : List Int := l.mergeSort fun x y => decide (x ≤ y)
theorem srtI_len (l : List Int) : (srtI l).length = l.length := (List.mergeSort_perm l _).length_eq
theorem sl_SortI (base : Nat) (v : Value) (l : List Int) (w : World) (hown : w.ownsRow base 3 1 v l.length (l.map (Value.int .i64))) (hl : l.length ≤ 100000) :
    Calls Tryz.prog 342 #[v] w fun e w' => e = .returned (.tuple #[]) ∧ w'.ownsRow base 3 1 v l.length ((srtI l).map (Value.int .i64)) ∧ Kb (fun k => v.ownBlock = some k) w w' := by
  by_cases h0 : l.length = 0
  · obtain rfl : l = [] := List.length_eq_zero_iff.1 h0
    obtain ⟨a, c, rfl⟩ := ownsRow_slice2 hown
    have hcon := AnyM.slices_Sort_int_none Tryz.sorto342 a c w
    change Calls Tryz.prog 342 _ _ _ at hcon
    refine hcon.mono ?_
    rintro e w' ⟨rfl, rfl⟩
    exact ⟨rfl, by simpa [srtI] using hown, Kb.refl _ _⟩
  · obtain ⟨g, c, rfl, -, -⟩ := owns_some hown (by omega)
    have hH : Go.Sort.Holds (Value.int .i64) w g 0 l.toArray := fun j hj => by
      have hj : j < l.length := by simpa using hj
      have hc := hown.cellAt j (by omega)
      rw [List.getElem?_map, List.getElem?_eq_getElem hj] at hc
      refine ⟨?_, by rw [Nat.zero_add]; exact hown.frozenAt j⟩
      rw [Nat.zero_add, getElem!_pos _ j (by simpa using hj)]
      simpa using hc
    have hcon := AnyM.slices_Sort_int Tryz.sorto342 g 0 c l w hH (hown.lt g rfl).2 (by omega)
    change Calls Tryz.prog 342 _ _ _ at hcon
    refine hcon.mono ?_
    rintro e w' ⟨rfl, m, os, rfl⟩
    refine ⟨rfl, ?_, ?_⟩
    · have := own_sortW (Value.int .i64) hown m (srtI l).toArray (by simp [srtI_len]) os
      exact this
    · exact (kb_sortW (Value.int .i64) w g m _ os).mono fun k _ h => by rw [h]; rfl
theorem srt_eq {l : List Int} : srtI l = ascL l.length ↔ ordB l = true := by
  rw [ordB_iff]
  constructor
  · intro h
    have := List.mergeSort_perm l fun x y => decide (x ≤ y)
    unfold srtI at h
    rw [h] at this
    exact this.symm
  · intro h
    have h1 : (srtI l).Perm (ascL l.length) := (List.mergeSort_perm l _).trans h
    refine h1.eq_of_pairwise (le := fun a b => a ≤ b) (fun a b _ _ h1 h2 => Int.le_antisymm h1 h2) ?_ ?_
    · have := List.pairwise_mergeSort (le := fun x y : Int => decide (x ≤ y)) (by intro a b c h1 h2; simp at *; omega) (by intro a b; simp; omega) l
      unfold srtI
      refine this.imp ?_
      intro a b h
      simpa using h
    · unfold ascL
      rw [List.pairwise_map]
      refine List.Pairwise.imp ?_ List.pairwise_lt_range
      intro a b h; omega
theorem ascL_succ (n : Nat) : ascL (n + 1) = ascL n ++ [(n : Int)] := by simp [ascL, List.range_succ]
set_option maxHeartbeats 1000000 in
theorem tongue_ascending (n : Nat) (w : World) (hn : n ≤ 1000) :
    Calls Tryz.prog 343 #[.int .i64 n] w fun e w' => ∃ u, e = .returned u ∧ w'.ownsRow w.heap.size 3 1 u (ascL n).length ((ascL n).map (Value.int .i64)) ∧ Below w.heap.size w w' := by
  go_enter Tryz.func343, Tryz.ntmps343
  go_wp2
  go_loopw [3, 6] (fun u i wr => ∃ k : Nat, k ≤ n ∧ i = .int .i64 k ∧ wr.ownsRow w.heap.size 3 1 u (ascL k).length ((ascL k).map (Value.int .i64)) ∧ Below w.heap.size w wr) (fun _ i _ => n - (intOf i).toNat)
  case atStart => exact ⟨0, by omega, rfl, World.ownsRow_nil _ _ _ _, Below.refl _ _⟩
  case round =>
    obtain ⟨k, hk, rfl, hown, hb⟩ := hrel
    have hsz := hb.size
    by_cases hlt : k < n
    · have hb1 : Below wr.heap.size wr (wr.alloc (.cells #[.int .i64 k] 3)) := (Below.refl _ _).alloc (Nat.le_refl _) _
      have HOWN := hid (owns_below hown hb1)
      have HB := hid (hb.trans (hb1.mono hsz))
      have hob := hid (fun q hq => (hown.lt q hq).1)
      have HSRC := hid (row_one_new wr (.int .i64 k) 3)
      have hka := ascL_len k
      have HAS := hid (ascL_succ k)
      have HLEN := hid hka
      clear hown hb hb1 hka
      go_wp2_with (at_builtin; refine wpList_append_row rfl _ _ 36 rfl w.heap.size 3 el_int Tryz.underlying36 rfl (by decide) _ _ _ rfl HOWN.out _ 1 [.int .i64 k] rfl HSRC.out (by simp [Value.oneCell']) (by rw [HLEN.out]; omega) (by rw [HLEN.out]; omega) (by simp; omega) ?_; intro v' w4 hown4 hgrow4 _)
      go_roundw
      case rel =>
        refine ⟨k + 1, by omega, by go_num, ?_, HB.out.grown hgrow4 (by have := HB.out.size; omega) hob.out⟩
        rw [HAS.out]
        simpa using hown4
      case measure => simp [intOf]; omega
    · have hkn : k = n := by omega
      subst hkn
      go_wp2
      go_ret
      exact ⟨_, rfl, hown, hb⟩
theorem tongue_order (v : Value) (l : List Int) (w : World) (hv : Ints w v l) (hl : l.length ≤ 100) :
    Calls Tryz.prog 294 #[v] w fun e w' => e = .returned (.bool (ordB l)) ∧ Below w.heap.size w w' := by
  obtain ⟨a, cap, rfl, -⟩ := hv.open
  have HC := hid (sl_CloneI _ l w hv (by omega))
  have HORD : Hid (decide (srtI l = ascL l.length) = ordB l) := hid (by rw [Bool.eq_iff_iff, decide_eq_true_eq]; exact srt_eq)
  clear hv
  go_enter Tryz.func294, Tryz.ntmps294
  go_wp2_with fail
  refine HC.out.mono ?_
  rintro e w1 ⟨u, rfl, hown, hb1⟩
  have HS := hid (sl_SortI _ u l w1 hown (by omega))
  clear hown
  go_wp2_with fail
  refine HS.out.mono ?_
  rintro e w2 ⟨rfl, hown2, hk2⟩
  have hb2 : Below w.heap.size w w2 := hb1.trans (hk2.below hb1.size fun k hk => (hown2.lt k hk).1)
  have HB2 := hid hb2
  have HO2 := hid hown2
  clear hb2 hb1 hk2 hown2 HC HS
  go_wp2_with fail
  refine (tongue_ascending l.length w2 (by omega)).mono ?_
  rintro e w3 ⟨u3, rfl, hown3, hb3⟩
  have I2 := hid (Ints.of_owns (xs := srtI l) (by rw [srtI_len]; exact owns_below HO2.out hb3) (by rw [srtI_len]; omega))
  have I3 := hid (Ints.of_owns hown3 (by rw [ascL_len]; omega))
  have HB3 := hid (HB2.out.trans (hb3.mono HB2.out.size))
  clear hown3 hb3
  go_wp2_with fail
  refine (sl_EqualI _ _ _ _ _ I2.out I3.out).mono ?_
  rintro e w4 ⟨rfl, nq, rfl⟩
  go_wp2
  go_ret
  exact ⟨ret_bool HORD.out, below_drewN HB3.out nq⟩
theorem tongue_within (n lo hi : Int) (w : World) :
    Calls Tryz.prog 293 #[.int .i64 n, .int .i64 lo, .int .i64 hi] w fun e w' => e = .returned (.bool (inB n lo hi)) ∧ w = w' := by
  unfold inB
  by_cases h1 : lo ≤ n
  · by_cases h2 : n ≤ hi
    · go_enter Tryz.func293, Tryz.ntmps293
      go_wp2
      go_ret
      exact ⟨by simp [h1, h2], rfl⟩
    · go_enter Tryz.func293, Tryz.ntmps293
      go_wp2
      go_ret
      exact ⟨by simp [h1, h2], rfl⟩
  · go_enter Tryz.func293, Tryz.ntmps293
    go_wp2
    go_ret
    exact ⟨ret_bool (by simp; omega), rfl⟩
end Go.Proofs.YtalodmochkodiaaGreat
namespace Go.Proofs.YtalodmochkodiaaGreat
open Go Go.RowKit Go.Maps Go.Shelf
theorem sign_ar {s : Sg} (h : signB s = true) {i : Nat} (hi : i < s.length) : 0 ≤ s[i].2 ∧ s[i].2 ≤ 3 := by
  unfold signB at h
  simp only [Bool.and_eq_true, List.all_eq_true, List.mem_range] at h
  have := h.2 i hi
  unfold symB at this
  rw [List.getElem?_eq_getElem hi] at this
  simp only [Bool.and_eq_true] at this
  exact inB_true.1 this.1.2
theorem sign_len {s : Sg} (h : signB s = true) : 1 ≤ s.length ∧ s.length ≤ 12 := by
  unfold signB at h
  simp only [Bool.and_eq_true] at h
  have := inB_true.1 h.1.1
  omega
theorem arOf_get {s : Sg} {i : Nat} (hi : i < s.length) : arOf s (i : Int) = s[i].2 := by
  unfold arOf
  rw [if_neg (by omega)]
  simp [hi]
theorem ints_lit2 (w : World) (x y : Int) (T : TypeId) : Ints (w.alloc (.cells #[.int .i64 x, .int .i64 y] T)) (.slice (some ⟨w.heap.size, 0, none⟩) 2 2) [x, y] := by
  refine ⟨rfl, _, _, rfl, Nat.le_refl _, by simp, (fun h => by cases h), fun j u hj => ⟨_, _, rfl, ?_⟩⟩
  rw [World.cell?_alloc_new]
  match j, hj with
  | 0, hj => simpa using hj
  | 1, hj => simpa using hj
  | _ + 2, hj => simp at hj
theorem dic_head {a b : Sg} {d : Dic} (h1 : signB a = true) (h2 : signB b = true) (h3 : d.length = a.length) (h0 : 0 < d.length) (h4 : d[0].1 = 0) (h5 : d[0].2 = [0, 1]) : dicB a b d = (List.range d.length).all (wayB a b d) := by
  unfold dicB
  rw [h1, h2, List.getElem?_eq_getElem h0]
  simp [h3, h4, h5]
theorem dic_no {a b : Sg} {d : Dic} (h0 : 0 < d.length) (h : signB a = false ∨ signB b = false ∨ d.length ≠ a.length ∨ d[0].1 ≠ 0 ∨ d[0].2 ≠ [0, 1]) : dicB a b d = false := by
  unfold dicB
  rw [List.getElem?_eq_getElem h0]
  rcases h with h | h | h | h | h <;> simp [h]
theorem dic_no0 {a b : Sg} {d : Dic} (h : signB a = false ∨ signB b = false ∨ d.length ≠ a.length) : dicB a b d = false := by
  unfold dicB
  rcases h with h | h | h <;> simp [h]
theorem way_all {a b : Sg} {d : Dic} (h : ∀ j, j < d.length → wayB a b d j = true) : (List.range d.length).all (wayB a b d) = true := by
  rw [List.all_eq_true]
  intro j hj
  exact h j (by simpa using hj)
theorem way_one {a b : Sg} {d : Dic} {k : Nat} (hk : k < d.length) (h : wayB a b d k = false) : (List.range d.length).all (wayB a b d) = false := by
  rw [List.all_eq_false]
  exact ⟨k, by simpa using hk, by simp [h]⟩
theorem way_at {a b : Sg} {d : Dic} {k : Nat} (hk : k < d.length) {x : Int} {p : List Int} (h1 : d[k].1 = x) (h2 : d[k].2 = p) : wayB a b d k = (inB x 0 (b.length - 1) && decide (arOf b x = arOf a k) && decide ((p.length : Int) = arOf a k) && ordB p) := by
  unfold wayB
  rw [List.getElem?_eq_getElem hk]
  subst h1; subst h2
  rfl
set_option maxHeartbeats 8000000 in
set_option maxRecDepth 100000 in
theorem tongue_Valid (va vb vd : Value) (a b : Sg) (d : Dic) (w : World) (ha : SignAt w va a) (hb : SignAt w vb b) (hd : BindsAt w vd d) (ha1 : a.length ≤ 1000) (hb1 : b.length ≤ 1000) :
    Calls Tryz.prog 232 #[va, vb, vd] w fun e w' => e = .returned (.bool (dicB a b d)) ∧ Below w.heap.size w w' := by
  have HVA := hid (fun (X : World) (hX : Below w.heap.size w X) => term_ValidSign va a X (ha.below hX) ha1)
  have HVB := hid (fun (X : World) (hX : Below w.heap.size w X) => term_ValidSign vb b X (hb.below hX) hb1)
  obtain ⟨aa, ac, rfl, -, -, -, AC⟩ := ha.open
  obtain ⟨ba, bc, rfl, -, -, -, BC⟩ := hb.open
  obtain ⟨da, dc, rfl, -, hdl, -, DC⟩ := hd.open
  have AC := hid AC
  have BC := hid BC
  have DC := hid DC
  clear ha hb hd
  cases h1 : signB a
  · rw [h1] at HVA
    have HF := hid (dic_no0 (b := b) (d := d) (Or.inl h1))
    clear h1
    go_enter Tryz.func232, Tryz.ntmps232
    go_wp2_with fail
    refine (HVA.out _ (Below.refl _ _)).mono ?_
    rintro e w1 ⟨rfl, hb1⟩
    go_wp2
    go_ret
    exact ⟨ret_bool HF.out.symm, hb1⟩
  · rw [h1] at HVA
    cases h2 : signB b
    · rw [h2] at HVB
      have HF := hid (dic_no0 (a := a) (d := d) (Or.inr (Or.inl h2)))
      clear h1 h2
      go_enter Tryz.func232, Tryz.ntmps232
      go_wp2_with fail
      refine (HVA.out _ (Below.refl _ _)).mono ?_
      rintro e w1 ⟨rfl, hb1⟩
      go_wp2_with fail
      refine (HVB.out _ hb1).mono ?_
      rintro e w2 ⟨rfl, hb2⟩
      go_wp2
      go_ret
      exact ⟨ret_bool HF.out.symm, hb1.trans (hb2.mono hb1.size)⟩
    · rw [h2] at HVB
      obtain ⟨la1, la2⟩ := sign_len h1
      obtain ⟨lb1, lb2⟩ := sign_len h2
      by_cases h3 : d.length = a.length
      · have hn3 : ((d.length : Int) != (a.length : Int)) = false := by simp [h3]
        have h0 : 0 < d.length := by omega
        obtain ⟨db, dof, u, rfl, c10, c20, i0⟩ := DC.out 0 h0
        simp only [Nat.zero_mul, Nat.add_zero] at c10 c20
        obtain ⟨x, hx⟩ : ∃ x, d[0].1 = x := ⟨_, rfl⟩
        obtain ⟨p, hp⟩ : ∃ p, d[0].2 = p := ⟨_, rfl⟩
        obtain ⟨ua, uc, rfl, -⟩ := i0.open
        rw [hx] at c10
        rw [hp] at c20 i0
        by_cases h4 : x = 0
        · subst h4
          have HEQ := hid (fun (X : World) (hX : Below w.heap.size w X) => sl_EqualI _ _ p [0, 1] (X.alloc (.cells #[.int .i64 0, .int .i64 1] 3)) (i0.below (hX.alloc hX.size _)) (ints_lit2 X 0 1 3))
          by_cases h5 : p = [0, 1]
          · have hD : Hid (dicB a b d = (List.range d.length).all (wayB a b d)) := hid (dic_head h1 h2 h3 h0 hx (by rw [hp]; exact h5))
            have hdq : decide (p = [0, 1]) = true := by simpa using h5
            rw [hdq] at HEQ
            have H1 := hid h1
            have H2 := hid h2
            have H3 := hid h3
            have I0 := hid i0
            clear h1 h2 h3 h5 hp hx hdq i0
            go_enter Tryz.func232, Tryz.ntmps232
            go_wp2_with fail
            refine (HVA.out _ (Below.refl _ _)).mono ?_
            rintro e w1 ⟨rfl, hb1⟩
            go_wp2_with fail
            refine (HVB.out _ hb1).mono ?_
            rintro e w2 ⟨rfl, hb2⟩
            have hbx := hb1.trans (hb2.mono hb1.size)
            have d1 := (hbx.cell (World.block_lt_of_cell? _ _ c10)).trans c10
            have d2 := (hbx.cell (World.block_lt_of_cell? _ _ c20)).trans c20
            have HBX := hid hbx
            clear hb1 hb2 hbx HVA HVB
            go_wp2_with fail
            refine (HEQ.out _ HBX.out).mono ?_
            rintro e w3 ⟨rfl, nq, rfl⟩
            clear d1 d2 c10 c20 HEQ
            have HB3 := hid (below_drewN (HBX.out.alloc HBX.out.size (.cells #[.int .i64 0, .int .i64 1] 3)) nq)
            clear HBX
            generalize (w2.alloc (.cells #[.int .i64 0, .int .i64 1] 3)).drewN nq = W3 at *
            go_wp2
            go_loopw [42] (fun kv wr => ∃ k : Nat, k ≤ d.length ∧ kv = .int .i64 k ∧ Below w.heap.size w wr ∧ ∀ j, j < k → wayB a b d j = true) (fun kv _ => d.length - (intOf kv).toNat)
            case atStart => exact ⟨0, by omega, rfl, HB3.out, by simp⟩
            case round =>
              clear HB3
              obtain ⟨k, hk, rfl, hb, hrel⟩ := hrel
              have HR := hid hrel
              have hsz := hb.size
              clear hrel
              by_cases hlt : k < d.length
              · obtain ⟨cb, co, u, he, c10, c20, i0⟩ := DC.out k hlt
                cases he
                have hka : k < a.length := by have := H3.out; omega
                obtain ⟨ab, ao, rfl, -, ca0, -⟩ := AC.out k hka
                have hAR := sign_ar H1.out hka
                have hWA : ∀ x p, d[k].1 = x → d[k].2 = p → wayB a b d k = (inB x 0 (b.length - 1) && decide (arOf b x = a[k].2) && decide ((p.length : Int) = a[k].2) && ordB p) := fun x p h1 h2 => by rw [way_at hlt h1 h2, arOf_get hka]
                obtain ⟨x, hx⟩ : ∃ x, d[k].1 = x := ⟨_, rfl⟩
                obtain ⟨p, hp⟩ : ∃ p, d[k].2 = p := ⟨_, rfl⟩
                obtain ⟨y, hy⟩ : ∃ y, a[k].2 = y := ⟨_, rfl⟩
                have HW := hid (hWA x p hx hp)
                have HNO := hid (fun h => way_one (a := a) (b := b) hlt h)
                rw [hx] at c10
                rw [hp] at i0
                rw [hy] at ca0 HW hAR
                have c1' := (hb.cell (World.block_lt_of_cell? _ _ c10)).trans c10
                have c2' := (hb.cell (World.block_lt_of_cell? _ _ c20)).trans c20
                have HI0 := hid (i0.below hb)
                obtain ⟨ua, uc, rfl, -⟩ := i0.open
                clear c10 c20 i0 hx hp hWA hy
                have hw1 : IntKind.i64.wrap ((b.length : Int) - 1) = (b.length : Int) - 1 := by rw [IntWalk.i64_in _ (by omega)]
                have hbA : Below wr.heap.size wr (wr.alloc (.cells #[.int .i64 x, .slice ua p.length uc] 151)) := (Below.refl _ _).alloc (Nat.le_refl _) _
                have c0 : (wr.alloc (.cells #[.int .i64 x, .slice ua p.length uc] 151)).cell? ⟨wr.heap.size, 0, none⟩ = some (.int .i64 x) := by rw [World.cell?_alloc_new]; rfl
                have c1 : (wr.alloc (.cells #[.int .i64 x, .slice ua p.length uc] 151)).cell? ⟨wr.heap.size, 1, none⟩ = some (.slice ua p.length uc) := by rw [World.cell?_alloc_new]; rfl
                have caW := (hbA.cell (World.block_lt_of_cell? _ _ ((hb.cell (World.block_lt_of_cell? _ _ ca0)).trans ca0))).trans ((hb.cell (World.block_lt_of_cell? _ _ ca0)).trans ca0)
                have HBW := hid (hb.trans (hbA.mono hsz))
                have HIW := hid (HI0.out.below hbA)
                have HHIN := hid (fun X => tongue_within x 0 ((b.length : Int) - 1) X)
                have CBC : Hid (∀ (to : Nat) (hto : to < b.length), ∃ bb bo, ba = some ⟨bb, bo, none⟩ ∧ (wr.alloc (.cells #[.int .i64 x, .slice ua p.length uc] 151)).cell? ⟨bb, bo + to * 2 + 1, none⟩ = some (.int .i64 b[to].2)) := hid (fun to hto => by
                  obtain ⟨bb, bo, h1, -, h2, -⟩ := BC.out to hto
                  exact ⟨bb, bo, h1, (HBW.out.cell (World.block_lt_of_cell? _ _ h2)).trans h2⟩)
                clear hbA ca0 HI0
                go_wp2_with fail
                clear c1' c2'
                obtain ⟨bx, hbx⟩ : ∃ bx, wr.heap.size = bx := ⟨_, rfl⟩
                rw [hbx] at c0 c1
                try rw [hbx]
                clear hbx
                generalize wr.alloc (.cells #[.int .i64 x, .slice ua p.length uc] 151) = W1 at *
                cases hin : inB x 0 ((b.length : Int) - 1)
                · rw [hin] at HHIN
                  have HF := hid (HNO.out (by rw [HW.out, hin]; rfl))
                  clear hin
                  go_quiet ((go_at_call 293; exact Calls.quiet_of_same ((HHIN.out _).mono fun _ _ h => ⟨h.1, h.2.symm⟩)))
                  go_wp2
                  go_ret
                  exact ⟨ret_bool (by rw [hD.out]; exact HF.out.symm), below_drewN HBW.out _⟩
                · rw [hin] at HHIN
                  obtain ⟨to, rfl⟩ : ∃ to : Nat, x = to := ⟨x.toNat, by have := inB_true.1 hin; omega⟩
                  have hto : to < b.length := by have := inB_true.1 hin; omega
                  obtain ⟨bb, bo, rfl, cb0⟩ := CBC.out to hto
                  have hBR := sign_ar H2.out hto
                  have HW2 := hid (show wayB a b d k = (decide (b[to].2 = y) && decide ((p.length : Int) = y) && ordB p) by rw [HW.out, hin, arOf_get hto, Bool.true_and])
                  obtain ⟨z, hz⟩ : ∃ z, b[to].2 = z := ⟨_, rfl⟩
                  rw [hz] at cb0 HW2 hBR
                  clear hin hz HW
                  by_cases hzy : z = y
                  · subst hzy
                    have hnz : (z != z) = false := by simp
                    by_cases hpl : (p.length : Int) = z
                    · have hnp : ((p.length : Int) != z) = false := by simpa using hpl
                      have HPL := hid hpl
                      have HORD := hid (fun (X : World) (hX : Below W1.heap.size W1 X) => chainW hX (tongue_order _ p X (HIW.out.below hX) (by omega)))
                      have hp100 : p.length ≤ 100 := by omega
                      clear hpl
                      cases ho : ordB p
                      · rw [ho] at HORD
                        have HF := hid (HNO.out (by rw [HW2.out, ho]; simp))
                        clear ho
                        go_region_held3 (fun w' => w'.cell? ⟨bx, 0, none⟩ = some (.int .i64 to) ∧ w'.cell? ⟨bx, 1, none⟩ = some (.slice ua p.length uc) ∧ w'.cell? ⟨bb, bo + to * 2 + 1, none⟩ = some (.int .i64 z) ∧ w'.cell? ⟨ab, ao + k * 2 + 1, none⟩ = some (.int .i64 z))
                          (first | exact ⟨by assumption, by assumption, by assumption, by assumption⟩ | go_keep)
                          (first
                          | (go_at_call 293; refine (HHIN.out _).mono ?_; rintro e w1 ⟨rfl, rfl⟩)
                          | (go_at_call 294; refine (HORD.out _ (below_self_drewN W1 1)).mono ?_; rintro e w1 ⟨rfl, hb1⟩
                             have c0 := (hb1.cell (World.block_lt_of_cell? _ _ c0)).trans c0
                             have c1 := (hb1.cell (World.block_lt_of_cell? _ _ c1)).trans c1
                             have cb0 := (hb1.cell (World.block_lt_of_cell? _ _ cb0)).trans cb0
                             have caW := (hb1.cell (World.block_lt_of_cell? _ _ caW)).trans caW))
                        go_wp2
                        go_ret
                        exact ⟨ret_bool (by rw [hD.out]; exact HF.out.symm), HBW.out.trans (hb1.mono HBW.out.size)⟩
                      · rw [ho] at HORD
                        have HY := hid (show wayB a b d k = true by rw [HW2.out, ho]; simpa using HPL.out)
                        clear ho
                        have hwk := IntWalk.i64_in ((k : Int) + 1) (by omega)
                        go_region_held3 (fun w' => w'.cell? ⟨bx, 0, none⟩ = some (.int .i64 to) ∧ w'.cell? ⟨bx, 1, none⟩ = some (.slice ua p.length uc) ∧ w'.cell? ⟨bb, bo + to * 2 + 1, none⟩ = some (.int .i64 z) ∧ w'.cell? ⟨ab, ao + k * 2 + 1, none⟩ = some (.int .i64 z))
                          (first | exact ⟨by assumption, by assumption, by assumption, by assumption⟩ | go_keep)
                          (first
                          | (go_at_call 293; refine (HHIN.out _).mono ?_; rintro e w1 ⟨rfl, rfl⟩)
                          | (go_at_call 294; refine (HORD.out _ (below_self_drewN W1 1)).mono ?_; rintro e w1 ⟨rfl, hb1⟩
                             have c0 := (hb1.cell (World.block_lt_of_cell? _ _ c0)).trans c0
                             have c1 := (hb1.cell (World.block_lt_of_cell? _ _ c1)).trans c1
                             have cb0 := (hb1.cell (World.block_lt_of_cell? _ _ cb0)).trans cb0
                             have caW := (hb1.cell (World.block_lt_of_cell? _ _ caW)).trans caW))
                        go_wp2
                        go_roundw
                        case rel =>
                          refine ⟨k + 1, by omega, by go_num, HBW.out.trans (hb1.mono HBW.out.size), fun q hq => ?_⟩
                          by_cases hqk : q = k
                          · subst hqk; exact HY.out
                          · exact HR.out q (by omega)
                        case measure => simp [intOf]; omega
                    · have hnp : ((p.length : Int) != z) = true := by simpa using hpl
                      have HF := hid (HNO.out (by rw [HW2.out, decide_eq_false hpl]; simp))
                      clear hpl
                      go_quiet ((go_at_call 293; exact Calls.quiet_of_same ((HHIN.out _).mono fun _ _ h => ⟨h.1, h.2.symm⟩)))
                      go_wp2
                      go_ret
                      exact ⟨ret_bool (by rw [hD.out]; exact HF.out.symm), below_drewN HBW.out _⟩
                  · have hnz : (z != y) = true := by simpa using hzy
                    have HF := hid (HNO.out (by rw [HW2.out, decide_eq_false hzy]; simp))
                    clear hzy
                    go_quiet ((go_at_call 293; exact Calls.quiet_of_same ((HHIN.out _).mono fun _ _ h => ⟨h.1, h.2.symm⟩)))
                    go_wp2
                    go_ret
                    exact ⟨ret_bool (by rw [hD.out]; exact HF.out.symm), below_drewN HBW.out _⟩
              · have hkl : k = d.length := by omega
                have HT := hid (way_all (a := a) (b := b) (d := d) fun j hj => HR.out j (by omega))
                go_wp2
                go_ret
                exact ⟨ret_bool (by rw [hD.out]; exact HT.out.symm), hb⟩
          · have HF := hid (dic_no (a := a) (b := b) h0 (Or.inr (Or.inr (Or.inr (Or.inr (by rw [hp]; exact h5))))))
            have hdq : decide (p = [0, 1]) = false := by simpa using h5
            rw [hdq] at HEQ
            clear h1 h2 h3 h5 hp hx hdq i0
            go_enter Tryz.func232, Tryz.ntmps232
            go_wp2_with fail
            refine (HVA.out _ (Below.refl _ _)).mono ?_
            rintro e w1 ⟨rfl, hb1⟩
            go_wp2_with fail
            refine (HVB.out _ hb1).mono ?_
            rintro e w2 ⟨rfl, hb2⟩
            have hbx := hb1.trans (hb2.mono hb1.size)
            have d1 := (hbx.cell (World.block_lt_of_cell? _ _ c10)).trans c10
            have d2 := (hbx.cell (World.block_lt_of_cell? _ _ c20)).trans c20
            have HBX := hid hbx
            clear hb1 hb2 hbx HVA HVB
            go_wp2_with fail
            refine (HEQ.out _ HBX.out).mono ?_
            rintro e w3 ⟨rfl, nq, rfl⟩
            have HB3 := hid (below_drewN (HBX.out.alloc HBX.out.size (.cells #[.int .i64 0, .int .i64 1] 3)) nq)
            go_wp2
            go_ret
            exact ⟨ret_bool HF.out.symm, HB3.out⟩
        · have hnx : (x != 0) = true := by simpa using h4
          have HF := hid (dic_no (a := a) (b := b) h0 (Or.inr (Or.inr (Or.inr (Or.inl (by rw [hx]; exact h4))))))
          clear h1 h2 h3 h4 hp hx i0
          go_enter Tryz.func232, Tryz.ntmps232
          go_wp2_with fail
          refine (HVA.out _ (Below.refl _ _)).mono ?_
          rintro e w1 ⟨rfl, hb1⟩
          go_wp2_with fail
          refine (HVB.out _ hb1).mono ?_
          rintro e w2 ⟨rfl, hb2⟩
          have hbx := hb1.trans (hb2.mono hb1.size)
          have d1 := (hbx.cell (World.block_lt_of_cell? _ _ c10)).trans c10
          have HBX := hid hbx
          clear hb1 hb2 hbx HVA HVB
          go_wp2
          go_ret
          exact ⟨ret_bool HF.out.symm, HBX.out⟩
      · have hn3 : ((d.length : Int) != (a.length : Int)) = true := by simp; omega
        have HF := hid (dic_no0 (b := b) (Or.inr (Or.inr h3)))
        clear h1 h2 h3
        go_enter Tryz.func232, Tryz.ntmps232
        go_wp2_with fail
        refine (HVA.out _ (Below.refl _ _)).mono ?_
        rintro e w1 ⟨rfl, hb1⟩
        go_wp2_with fail
        refine (HVB.out _ hb1).mono ?_
        rintro e w2 ⟨rfl, hb2⟩
        go_wp2
        go_ret
        exact ⟨ret_bool HF.out.symm, hb1.trans (hb2.mono hb1.size)⟩
end Go.Proofs.YtalodmochkodiaaGreat
namespace Go.Proofs.YtalodmochkodiaaGreat
open Go Go.RowKit Go.Maps Go.Shelf
end Go.Proofs.YtalodmochkodiaaGreat
