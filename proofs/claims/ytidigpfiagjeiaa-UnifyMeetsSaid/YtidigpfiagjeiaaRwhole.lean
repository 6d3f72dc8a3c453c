/-
  WHAT IT HOLDS: contract of whole of the reference's solver (layer 2). Conditions: the solver reads as data; the term is a term of at most 60 numbers, and what stands for it too.
-/
import Derived.Test.YtidigpfiagjeiaaRsize
namespace Go.Proofs.Ytidigpfiagjeiaa
open Go Go.RowKit Go.Maps
set_option maxHeartbeats 4000000 in
set_option maxRecDepth 100000 in
theorem ref2_whole (px : Nat) (vs : Value) (s : Sg) (T : TT) (hm : MOK s (mR T)) (r : Int → Nat) (hr : Rk (mR T) r) : ∀ (k : Nat) (t : List Int) (vt : Value) (w : World),
    (∀ x ∈ t, x < 0 → r x + 1 < k) → 0 < k → IsT s 24 t → t.length ≤ 60 → (fw (mR T) t).length ≤ 60 → RSol w px vs s T → Ints w vt t →
    Calls Try.prog 119 #[.pointer (some ⟨px, 0, none⟩), vt] w
      fun e w' => ∃ u, e = .returned u ∧ w'.ownsRow w.heap.size 3 1 u (fw (mR T) t).length ((fw (mR T) t).map (Value.int .i64)) ∧ Below w.heap.size w w' := by
  intro k
  induction k with
  | zero => intro t vt w hk hk0; omega
  | succ k ih =>
    intro t vt w hk hk0 hT hl hF60 hS ra
    obtain ⟨ta, tc, rfl, ht1, ht2, -, TC⟩ := ra.open
    have HT := hid hT
    have HTC := hid TC
    have HM := hid hm
    have HS := hid hS
    have IH := hid ih
    have HK := hid hk
    have HR := hid hr
    have hq := fun (w : World) (a : Option Addr) (n c n' c' : Nat) => run_neq_slice_nil_any (P := Try.prog) w _ _ a n c n' c' Try.underlying25
    have HQ := hid hq
    clear hT TC ra hm hS ih hq hk hr
    go_enter Try.func119, Try.ntmps119
    go_wp2
    go_loopw [5, 6] (fun ov iv wr => ∃ (i : Nat), i ≤ t.length ∧ iv = .int .i64 i ∧ wr.ownsRow w.heap.size 3 1 ov (fw (mR T) (t.take i)).length ((fw (mR T) (t.take i)).map (Value.int .i64)) ∧ Below w.heap.size w wr) (fun _ iv _ => t.length - (intOf iv).toNat)
    case atStart => exact ⟨0, by omega, rfl, by simpa [fw, full_nil] using World.ownsRow_nil _ _ _ _, Below.refl _ _⟩
    case round =>
      obtain ⟨i, hi, rfl, hown, hB⟩ := hrel
      have HOWN := hid hown
      by_cases hlt : i < t.length
      · obtain ⟨tb, to, rfl, cy0⟩ := HTC.out i hlt
        have cy := (hB.cell (World.block_lt_of_cell? _ _ cy0)).trans cy0
        have hmem := List.getElem_mem hlt
        have hft := fw_take (m := mR T) t hlt
        have hle := fw_take_le (mR T) t (i + 1)
        obtain ⟨F, hFe⟩ : ∃ F, fw (mR T) (t.take i) = F := ⟨_, rfl⟩
        rw [hFe] at hown hft HOWN
        obtain ⟨y, hy⟩ : ∃ y, t[i] = y := ⟨_, rfl⟩
        rw [hy] at cy hmem hft
        have hrng := HT.out.range y hmem
        have HMEM := hid hmem
        have HFT := hid hft
        have hlen := congrArg List.length hft
        rw [List.length_append] at hlen
        have hszw := hB.size
        clear cy0 hy hmem hft hFe hown
        by_cases e2 : 0 ≤ y
        · have b2 : decide (y < 0) = false := by simpa using e2
          have hfy : fw (mR T) [y] = [y] := by rw [fw_app _ e2]; simp [fw, full_nil]
          rw [hfy] at HFT hlen
          simp only [List.length_cons, List.length_nil] at hlen
          clear hfy hrng
          go_wp2_with fail
          go_quiet (fail)
          go_wp2_with (at_builtin; refine wpList_append_row rfl _ _ 25 rfl w.heap.size 3 el_int Try.underlying25 rfl (by decide) _ _ _ rfl ((owns_below HOWN.out (below_self_drewN _ _)).alloc _) _ 1 [.int .i64 y] rfl (row_one_new _ _ _) (oneCell_one rfl) (by omega) (by omega) (by simp; omega) ?_; intro v' w4 hown4 hgrow4 _)
          have HB4 := hid (((below_drewN hB _).alloc (by simpa using hszw) _).grown hgrow4 (by simp; omega) (fun q hq => (HOWN.out.lt q hq).1))
          have HO4 := hid hown4
          clear hown4 hgrow4
          go_roundw
          case rel => exact ⟨i + 1, by omega, by go_num, by rw [HFT.out, List.length_append, List.map_append]; exact HO4.out, HB4.out⟩
          case measure => simp [intOf]; omega
        · have b2 : decide (y < 0) = true := by simpa using e2
          have hy0 : y < 0 := by omega
          obtain ⟨u, hu⟩ := Int.eq_ofNat_of_zero_le (show 0 ≤ -y - 1 by omega)
          have hu24 : u < 24 := by omega
          have hub1 : (0 : Int) ≤ (u : Int) := by omega
          have hub2 : (u : Int) < 24 := by omega
          have hSw := HS.out.below hB
          have hcl := hSw.arr.cell hu24
          have hMT := MT_at T hy0 hu
          have hw1 : IntKind.i64.wrap (-y) = -y := IntWalk.i64_in _ ⟨by omega, by omega⟩
          have hw2 : IntKind.i64.wrap (-y - 1) = u := by rw [hu]; exact IntWalk.i64_in _ ⟨by omega, by omega⟩
          clear hrng
          cases hTu : T u with
          | none =>
            rw [hTu] at hcl hMT
            have hs0 : sV none = .slice none 0 0 := rfl
            rw [hs0] at hcl
            have hmy : mR T y = none := by rw [← mOf_MT]; simp [mOf, hMT]
            have hfy := fw_one HM.out hmy
            rw [hfy] at HFT hlen
            simp only [List.length_cons, List.length_nil] at hlen
            have hq := HQ.out
            clear hu hMT hTu hSw hmy hfy
            go_wp2_with fail
            go_quiet (fail)
            clear hw1 hw2
            go_wp2_with (at_builtin; refine wpList_append_row rfl _ _ 25 rfl w.heap.size 3 el_int Try.underlying25 rfl (by decide) _ _ _ rfl ((owns_below HOWN.out (below_self_drewN _ _)).alloc _) _ 1 [.int .i64 y] rfl (row_one_new _ _ _) (oneCell_one rfl) (by omega) (by omega) (by simp; omega) ?_; intro v' w4 hown4 hgrow4 _)
            have HB4 := hid (((below_drewN hB _).alloc (by simpa using hszw) _).grown hgrow4 (by simp; omega) (fun q hq => (HOWN.out.lt q hq).1))
            have HO4 := hid hown4
            clear hown4 hgrow4
            go_roundw
            case rel => exact ⟨i + 1, by omega, by go_num, by rw [HFT.out, List.length_append, List.map_append]; exact HO4.out, HB4.out⟩
            case measure => simp [intOf]; omega
          | some ul =>
            obtain ⟨v1, t1⟩ := ul
            obtain ⟨⟨x0, n0, c0, rfl⟩, hi1⟩ := hSw.arr.ints hu24 hTu
            rw [hTu] at hcl hMT
            have hs0 : sV (some (.slice (some x0) n0 c0, t1)) = .slice (some x0) n0 c0 := rfl
            rw [hs0] at hcl
            have hmy : mR T y = some t1 := by rw [← mOf_MT]; simp [mOf, hMT]
            have hv1 := HM.out.val y t1 hmy
            have hfy : fw (mR T) [y] = fw (mR T) t1 := sg_some HM.out hmy
            rw [hfy] at HFT hlen
            have HCALL := hid (fun (W : World) (hW : Below wr.heap.size wr W) => IH.out t1 (.slice (some x0) n0 c0) W (fun z hz hz0 => by have := HR.out y t1 hmy z hz hz0; have := HK.out y HMEM.out hy0; omega) (by have := HK.out y HMEM.out hy0; omega) hv1.2.2.1 hv1.2.2.2 (by omega) (hSw.below hW) (hi1.below hW))
            have hq := HQ.out
            have hf60 : (fw (mR T) t1).length ≤ 60 := by omega
            have hF1 : F.length ≤ 60 := by omega
            clear hu hMT hTu hSw hmy hv1 hi1 hfy
            go_wp2_with fail
            go_quiet (fail)
            go_wp2_with fail
            go_region_law (first | (refine step_append_row rfl (.tmp 32) (.tmp 45) 25 rfl w.heap.size 3 el_int Try.underlying25 rfl (by decide) _ _ _ rfl hown5 _ _ _ rfl (RowK.of_owns hown4 (by omega)) (ints_one _) (by omega) (by omega) (by omega) ?_; intro v6 w6 hown6 hg6) | (go_simp; go_at_call 119; refine (HCALL.out _ (below_self_drewN _ _)).mono ?_; rintro e w5 ⟨u5, rfl, hown4, hb4⟩; have hb5 := hB.trans (((below_self_drewN' hB _).trans (hb4.mono hszw))); have hown5 := owns_below HOWN.out ((below_self_drewN wr _).trans (hb4.mono (by simp))); have hsz5 := hb5.size))
            have HB6 := hid (hb5.grown hg6 hsz5 (fun q hq => (HOWN.out.lt q hq).1))
            have HO6 := hid hown6
            clear hown6 hg6 hb5 hb4 hown4 hown5 hsz5
            go_wp2
            go_roundw
            case rel => exact ⟨i + 1, by omega, by go_num, by rw [HFT.out, List.length_append, List.map_append]; exact HO6.out, HB6.out⟩
            case measure => simp [intOf]; omega
      · have hit : t.take i = t := List.take_of_length_le (by omega)
        rw [hit] at HOWN
        clear hown
        go_wp2
        go_ret
        exact ⟨_, rfl, HOWN.out, hB⟩
end Go.Proofs.Ytidigpfiagjeiaa
