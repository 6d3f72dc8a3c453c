/-
  WHAT IT HOLDS: contract of size of the reference's solver (layer 2). Conditions: the solver reads as data; the term is a term of at most 60 numbers; what is known is so.
  WHAT IT HOLDS: contracts of Apart and Whole and Few of the reference (layer 2). Conditions: the arguments read as data.
-/
import Derived.Deep.RegionHeld3
import Derived.Test.YtmpjaakkjhmpmaaGreatDoorZRShortCites27
import Derived.Test.YtmpjaakkjhmpmaaGreatDoorZRShortCites19
import Derived.Test.YtmpjaakkjhmpmaaGreatDoorZRShortCites16
namespace Go.Proofs.YtmpjaakkjhmpmaaGreatDoor
open Go Go.RowKit Go.Maps
def szT (m : MM) (t : List Int) : Nat := min (fw m t).length 61
def Kno (m : MM) (cs : Array Value) : Prop := cs.size = 24 ∧ ∀ v : Nat, v < 24 → ∃ x : Nat, cs[v]? = some (.int .i64 x) ∧ (x = 0 ∨ ∃ p, m (-(v : Int) - 1) = some p ∧ x = szT m p)
theorem Kno.set {m : MM} {cs : Array Value} (h : Kno m cs) (v : Nat) {p : List Int} (hp : m (-(v : Int) - 1) = some p) : Kno m (cs.setIfInBounds v (.int .i64 (szT m p))) := by
  refine ⟨by simpa using h.1, fun x hx => ?_⟩
  rw [Array.getElem?_setIfInBounds]
  by_cases e : v = x
  · subst e
    exact ⟨szT m p, by simp [h.1, hx], Or.inr ⟨p, hp, rfl⟩⟩
  · rw [if_neg e]
    exact h.2 x hx
theorem Kno.at {m : MM} {cs : Array Value} (h : Kno m cs) {v : Nat} (hv : v < 24) {w : World} {pd : Nat} (ha : ArrV w pd cs) : ∃ x3 : Nat, Kno m cs ∧ ArrV w pd cs ∧ w.cell? ⟨pd, v, none⟩ = some (.int .i64 x3) := by
  obtain ⟨x, h1, -⟩ := h.2 v hv
  exact ⟨x, h, ha, by rw [ha.cell]; exact h1⟩
def SzI (m : MM) (t : List Int) (i n : Nat) : Prop := n ≤ 121 ∧ (n ≤ 60 → n = (fw m (t.take i)).length) ∧ (60 < n → 60 < (fw m (t.take i)).length)
theorem SzI.zero (m : MM) (t : List Int) : SzI m t 0 0 := ⟨by omega, fun _ => by simp [fw, full_nil], fun h => by omega⟩
theorem SzI.next {m : MM} {t : List Int} {i n : Nat} (h : SzI m t i n) (hn : n ≤ 60) (hi : i < t.length) {X : Nat} (hX : min (fw m [t[i]]).length 61 = X) : SzI m t (i + 1) (n + X) := by
  have h1 := h.2.1 hn
  unfold SzI
  rw [fw_take t hi, List.length_append]
  refine ⟨by omega, fun _ => by omega, fun _ => by omega⟩
theorem SzI.fin {m : MM} {t : List Int} {i n : Nat} (h : SzI m t i n) (hi : t.length ≤ i) (hn : n ≤ 60) : n = szT m t := by
  have h1 := h.2.1 hn
  rw [List.take_of_length_le hi] at h1
  unfold szT
  omega
theorem SzI.big {m : MM} {t : List Int} {i n : Nat} (h : SzI m t i n) (hn : 60 < n) : 61 = szT m t := by
  have h1 := h.2.2 hn
  have h2 := fw_take_le m t i
  unfold szT
  omega
theorem below_self_drewN' {w0 w : World} (h : Below w0.heap.size w0 w) (n : Nat) : Below w0.heap.size w (w.drewN n) := (below_self_drewN w n).mono h.size
set_option maxHeartbeats 2000000 in
set_option maxRecDepth 100000 in
theorem ref2_size (px pd : Nat) (vs : Value) (s : Sg) (T : TT) (w0 : World) (hS : RSol w0 px vs s T) (hm : MOK s (mR T)) (r : Int → Nat) (hr : Rk (mR T) r) (hpd : w0.heap.size ≤ pd) : ∀ (k : Nat) (t : List Int) (vt : Value) (cs : Array Value) (w : World),
    (∀ x ∈ t, x < 0 → r x + 1 < k) → 0 < k → IsT s 24 t → t.length ≤ 60 → Ints w0 vt t → Below w0.heap.size w0 w → ArrV w pd cs → Kno (mR T) cs →
    Calls Tryz.prog 227 #[.pointer (some ⟨px, 0, none⟩), vt, .pointer (some ⟨pd, 0, none⟩)] w
      fun e w' => e = .returned (.int .i64 (szT (mR T) t)) ∧ Below w0.heap.size w0 w' ∧ ∃ cs', ArrV w' pd cs' ∧ Kno (mR T) cs' := by
  intro k
  induction k with
  | zero => intro t vt cs w hk hk0; omega
  | succ k ih =>
    intro t vt cs w hk hk0 hT hl ra hB hA hD
    obtain ⟨ta, tc, rfl, ht1, ht2, -, TC⟩ := ra.open
    have HT := hid hT
    have HTC := hid TC
    have HM := hid hm
    have HS := hid hS
    have HA0 := hid hA
    have HD0 := hid hD
    have HB0 := hid hB
    have IH := hid ih
    have HK := hid hk
    have HR := hid hr
    have hq := fun (w : World) (a : Option Addr) (n c n' c' : Nat) => Lib.run_eql_slice_nil (P := Tryz.prog) w _ _ a n c n' c' Tryz.underlying34
    have HQ := hid hq
    clear hT TC ra hm hS hA hD hB ih hq hk hr
    go_enter Tryz.func227, Tryz.ntmps227
    go_wp2
    go_loopw [7, 8] (fun nv iv wr => ∃ (i n : Nat) (cs' : Array Value), i ≤ t.length ∧ iv = .int .i64 i ∧ nv = .int .i64 n ∧ SzI (mR T) t i n ∧ ArrV wr pd cs' ∧ Kno (mR T) cs' ∧ Below w0.heap.size w0 wr) (fun _ iv _ => t.length - (intOf iv).toNat)
    case atStart => exact ⟨0, 0, cs, by omega, rfl, rfl, .zero _ _, HA0.out, HD0.out, HB0.out⟩
    case round =>
      clear HA0 HD0 HB0
      obtain ⟨i, n, cs', hi, rfl, rfl, hF, hA, hD, hB⟩ := hrel
      have hn121 := hF.1
      have HF := hid hF
      have HD := hid hD
      have HAV := hid hA
      clear hF hD hA
      by_cases hn : n ≤ 60
      · have dn : decide ((n : Int) ≤ 60) = true := by simp; omega
        have dn2 : decide ((n : Int) > 60) = false := by simp; omega
        by_cases hlt : i < t.length
        · obtain ⟨tb, to, rfl, cy0⟩ := HTC.out i hlt
          have cy := (hB.cell (World.block_lt_of_cell? _ _ cy0)).trans cy0
          have hmem := List.getElem_mem hlt
          have HNX := hid (fun X (h : min (fw (mR T) [t[i]]).length 61 = X) => HF.out.next hn hlt h)
          obtain ⟨y, hy⟩ : ∃ y, t[i] = y := ⟨_, rfl⟩
          rw [hy] at cy hmem HNX
          have hrng := HT.out.range y hmem
          have HMEM := hid hmem
          clear cy0 hy hmem
          by_cases e2 : 0 ≤ y
          · have b2 : decide (y ≥ 0) = true := by simpa using e2
            have HONE : Hid (SzI (mR T) t (i + 1) (n + 1)) := hid (HNX.out 1 (by rw [fw_app _ e2]; simp [fw, full_nil]))
            go_wp2_with fail
            go_quiet (fail)
            go_wp2
            go_roundw
            case rel => exact ⟨i + 1, n + 1, cs', by omega, by go_num, by go_num, HONE.out, HAV.out.drewN _, HD.out, hB.trans (below_self_drewN' hB _)⟩
            case measure => simp [intOf]; omega
          · have b2 : decide (y ≥ 0) = false := by simpa using e2
            have hy0 : y < 0 := by omega
            obtain ⟨u, hu⟩ := Int.eq_ofNat_of_zero_le (show 0 ≤ -y - 1 by omega)
            have hu24 : u < 24 := by omega
            have hub1 : (0 : Int) ≤ (u : Int) := by omega
            have hub2 : (u : Int) < 24 := by omega
            have hSw := HS.out.below hB
            have hcl := hSw.arr.cell hu24
            obtain ⟨x, hdl0, hx⟩ := HD.out.2 u hu24
            have hdl := HAV.out.cell u
            rw [hdl0] at hdl
            have hdf := HAV.out.frozen u
            have hMT := MT_at T hy0 hu
            have hw1 : IntKind.i64.wrap (-y) = -y := IntWalk.i64_in _ ⟨by omega, by omega⟩
            have hw2 : IntKind.i64.wrap (-y - 1) = u := by rw [hu]; exact IntWalk.i64_in _ ⟨by omega, by omega⟩
            have hyu : -(u : Int) - 1 = y := by omega
            rw [hyu] at hx
            clear hrng hdl0
            cases hTu : T u with
            | none =>
              rw [hTu] at hcl hMT
              have hs0 : sV none = .slice none 0 0 := rfl
              rw [hs0] at hcl
              have hmy : mR T y = none := by rw [← mOf_MT]; simp [mOf, hMT]
              have HONE : Hid (SzI (mR T) t (i + 1) (n + 1)) := hid (HNX.out 1 (by rw [fw_one HM.out hmy]; simp))
              have hq := HQ.out
              clear hu hMT hTu hSw hmy hx hyu
              go_wp2_with fail
              go_quiet (fail)
              clear hw1 hw2
              go_wp2
              go_roundw
              case rel => exact ⟨i + 1, n + 1, cs', by omega, by go_num, by go_num, HONE.out, HAV.out.drewN _, HD.out, hB.trans (below_self_drewN' hB _)⟩
              case measure => simp [intOf]; omega
            | some ul =>
              obtain ⟨v1, t1⟩ := ul
              obtain ⟨⟨x0, n0, c0, rfl⟩, -⟩ := hSw.arr.ints hu24 hTu
              have hi1 := (HS.out.arr.ints hu24 hTu).2
              rw [hTu] at hcl hMT
              have hs0 : sV (some (.slice (some x0) n0 c0, t1)) = .slice (some x0) n0 c0 := rfl
              rw [hs0] at hcl
              have hmy : mR T y = some t1 := by rw [← mOf_MT]; simp [mOf, hMT]
              have hv1 := HM.out.val y t1 hmy
              obtain ⟨X, hX⟩ : ∃ X, szT (mR T) t1 = X := ⟨_, rfl⟩
              have hX61 : X ≤ 61 := by rw [← hX]; unfold szT; omega
              have HONE : Hid (SzI (mR T) t (i + 1) (n + X)) := hid (HNX.out X (by rw [← hX]; unfold szT; rw [show fw (mR T) [y] = fw (mR T) t1 from sg_some HM.out hmy]))
              have HC1 : Hid (∀ W, Below w0.heap.size w0 W → W.cell? ⟨px, 1 + u, none⟩ = some (.slice (some x0) n0 c0)) := hid (fun W hW => by have h := (HS.out.below hW).arr.cell hu24; rw [hTu, hs0] at h; exact h)
              by_cases hx0 : x = 0
              · subst hx0
                have HSET : Hid (∀ cs3, Kno (mR T) cs3 → Kno (mR T) (cs3.setIfInBounds u (.int .i64 X))) := hid (fun cs3 h => by have := h.set u (p := t1) (by rw [hyu]; exact hmy); rwa [hX] at this)
                have HCALL := hid (show ∀ (W : World), Below wr.heap.size wr W → Calls Tryz.prog 227 #[.pointer (some ⟨px, 0, none⟩), .slice (some x0) n0 c0, .pointer (some ⟨pd, 0, none⟩)] W fun e w' => e = .returned (.int .i64 X) ∧ Below w0.heap.size w0 w' ∧ ∃ (cs' : Array Value) (x3 : Nat), Kno (mR T) cs' ∧ ArrV w' pd cs' ∧ w'.cell? ⟨pd, u, none⟩ = some (.int .i64 x3) from fun (W : World) (hW : Below wr.heap.size wr W) => Calls.mono (IH.out t1 (.slice (some x0) n0 c0) cs' W (fun z hz hz0 => by have := HR.out y t1 hmy z hz hz0; have := HK.out y HMEM.out hy0; omega) (by have := HK.out y HMEM.out hy0; omega) hv1.2.2.1 hv1.2.2.2 hi1 (hB.trans (hW.mono hB.size)) (HAV.out.below hW) HD.out) (fun e w' ⟨h1, h2, cs', h3, h4⟩ => ⟨by rw [h1, hX], h2, cs', h4.at hu24 h3⟩))
                have hq := HQ.out
                clear hu hMT hTu hSw hmy hv1 hi1 hx hyu hX
                go_wp2_with fail
                go_quiet (fail)
                go_wp2_with fail
                go_region_held3 (fun w' => w'.cell? ⟨px, 1 + u, none⟩ = some (.slice (some x0) n0 c0)) (first | assumption | go_keep)
                  (first | (go_at_call 227; with_reducible refine (HCALL.out _ (below_self_drewN _ _)).mono ?_; rintro e w3 ⟨rfl, hB3, cs3, x3, hD3, hA3, d2⟩; have d1 := HC1.out _ hB3; have d5 := HC1.out _ (hB3.setCell (p := ⟨pd, u, none⟩) hpd (.int .i64 X)); have d3 := hA3.frozen u))
                have hA4 := hA3.set u (.int .i64 X)
                have d4 := hA4.cell u
                rw [show (cs3.setIfInBounds u (Value.int .i64 X))[u]? = some (Value.int .i64 X) from by rw [Array.getElem?_setIfInBounds]; simp [hD3.1, hu24]] at d4
                have HA4 := hid hA4
                have HD4 := hid (HSET.out cs3 hD3)
                have HB4 : Hid (Below w0.heap.size w0 (w3.setCell ⟨pd, u, none⟩ (.int .i64 X))) := hid (hB3.setCell (p := ⟨pd, u, none⟩) hpd _)
                clear d1 d2 d3 d5 hA3 hD3 hB3 hA4
                go_wp2
                go_roundw
                case rel => exact ⟨i + 1, n + X, _, by omega, by go_num, by go_num, HONE.out, HA4.out, HD4.out, HB4.out⟩
                case measure => simp [intOf]; omega
              · have hxX : x = X := by
                  rcases hx with h | ⟨p, hp, h⟩
                  · exact (hx0 h).elim
                  · rw [hmy] at hp; cases hp; rw [h, hX]
                subst hxX
                have hb0 : ((x : Int) == 0) = false := by simp; omega
                have hq := HQ.out
                clear hu hMT hTu hSw hmy hv1 hi1 hx hyu hX
                go_wp2_with fail
                go_quiet (fail)
                go_wp2
                go_roundw
                case rel => exact ⟨i + 1, n + x, cs', by omega, by go_num, by go_num, HONE.out, HAV.out.drewN _, HD.out, hB.trans (below_self_drewN' hB _)⟩
                case measure => simp [intOf]; omega
        · have HEND : Hid (n = szT (mR T) t) := hid (HF.out.fin (by omega) hn)
          go_wp2
          go_ret
          exact ⟨by rw [← HEND.out]; rfl, hB, _, HAV.out, HD.out⟩
      · have dn : decide ((n : Int) ≤ 60) = false := by simp; omega
        have dn2 : decide ((n : Int) > 60) = true := by simp; omega
        have HEND : Hid (61 = szT (mR T) t) := hid (HF.out.big (by omega))
        go_wp2
        all_goals
          go_ret
          exact ⟨by rw [← HEND.out]; rfl, hB, _, HAV.out, HD.out⟩
set_option maxHeartbeats 4000000 in
set_option maxRecDepth 100000 in
theorem ref2_whole (px : Nat) (vs : Value) (s : Sg) (T : TT) (hm : MOK s (mR T)) (r : Int → Nat) (hr : Rk (mR T) r) : ∀ (k : Nat) (t : List Int) (vt : Value) (w : World),
    (∀ x ∈ t, x < 0 → r x + 1 < k) → 0 < k → IsT s 24 t → t.length ≤ 60 → (fw (mR T) t).length ≤ 60 → RSol w px vs s T → Ints w vt t →
    Calls Tryz.prog 228 #[.pointer (some ⟨px, 0, none⟩), vt] w
      fun e w' => ∃ u, e = .returned u ∧ w'.ownsRow w.heap.size 3 1 u (fw (mR T) t).length ((fw (mR T) t).map (Value.int .i64)) ∧ Below w.heap.size w w' := by
  intro k
  induction k with
  | zero => intro t vt w hk hk0; omega
  | succ k ih =>
    intro t vt w hk hk0 hT hl hF60 hS ra
    obtain ⟨ta, tc, rfl, ht1, ht2, -, TC⟩ := ra.open
    have HT := hid hT
    have HTC := hid TC
    have HM := hid hm
    have HS := hid hS
    have IH := hid ih
    have HK := hid hk
    have HR := hid hr
    have hq := fun (w : World) (a : Option Addr) (n c n' c' : Nat) => run_neq_slice_nil_any (P := Tryz.prog) w _ _ a n c n' c' Tryz.underlying34
    have HQ := hid hq
    clear hT TC ra hm hS ih hq hk hr
    go_enter Tryz.func228, Tryz.ntmps228
    go_wp2
    go_loopw [5, 6] (fun ov iv wr => ∃ (i : Nat), i ≤ t.length ∧ iv = .int .i64 i ∧ wr.ownsRow w.heap.size 3 1 ov (fw (mR T) (t.take i)).length ((fw (mR T) (t.take i)).map (Value.int .i64)) ∧ Below w.heap.size w wr) (fun _ iv _ => t.length - (intOf iv).toNat)
    case atStart => exact ⟨0, by omega, rfl, by simpa [fw, full_nil] using World.ownsRow_nil _ _ _ _, Below.refl _ _⟩
    case round =>
      obtain ⟨i, hi, rfl, hown, hB⟩ := hrel
      have HOWN := hid hown
      by_cases hlt : i < t.length
      · obtain ⟨tb, to, rfl, cy0⟩ := HTC.out i hlt
        have cy := (hB.cell (World.block_lt_of_cell? _ _ cy0)).trans cy0
        have hmem := List.getElem_mem hlt
        have hft := fw_take (m := mR T) t hlt
        have hle := fw_take_le (mR T) t (i + 1)
        obtain ⟨F, hFe⟩ : ∃ F, fw (mR T) (t.take i) = F := ⟨_, rfl⟩
        rw [hFe] at hown hft HOWN
        obtain ⟨y, hy⟩ : ∃ y, t[i] = y := ⟨_, rfl⟩
        rw [hy] at cy hmem hft
        have hrng := HT.out.range y hmem
        have HMEM := hid hmem
        have HFT := hid hft
        have hlen := congrArg List.length hft
        rw [List.length_append] at hlen
        have hszw := hB.size
        clear cy0 hy hmem hft hFe hown
        by_cases e2 : 0 ≤ y
        · have b2 : decide (y < 0) = false := by simpa using e2
          have hfy : fw (mR T) [y] = [y] := by rw [fw_app _ e2]; simp [fw, full_nil]
          rw [hfy] at HFT hlen
          simp only [List.length_cons, List.length_nil] at hlen
          clear hfy hrng
          go_wp2_with fail
          go_quiet (fail)
          go_wp2_with (at_builtin; refine wpList_append_row rfl _ _ 34 rfl w.heap.size 3 el_int Tryz.underlying34 rfl (by decide) _ _ _ rfl ((owns_below HOWN.out (below_self_drewN _ _)).alloc _) _ 1 [.int .i64 y] rfl (row_one_new _ _ _) (oneCell_one rfl) (by omega) (by omega) (by simp; omega) ?_; intro v' w4 hown4 hgrow4 _)
          have HB4 := hid (((below_drewN hB _).alloc (by simpa using hszw) _).grown hgrow4 (by simp; omega) (fun q hq => (HOWN.out.lt q hq).1))
          have HO4 := hid hown4
          clear hown4 hgrow4
          go_roundw
          case rel => exact ⟨i + 1, by omega, by go_num, by rw [HFT.out, List.length_append, List.map_append]; exact HO4.out, HB4.out⟩
          case measure => simp [intOf]; omega
        · have b2 : decide (y < 0) = true := by simpa using e2
          have hy0 : y < 0 := by omega
          obtain ⟨u, hu⟩ := Int.eq_ofNat_of_zero_le (show 0 ≤ -y - 1 by omega)
          have hu24 : u < 24 := by omega
          have hub1 : (0 : Int) ≤ (u : Int) := by omega
          have hub2 : (u : Int) < 24 := by omega
          have hSw := HS.out.below hB
          have hcl := hSw.arr.cell hu24
          have hMT := MT_at T hy0 hu
          have hw1 : IntKind.i64.wrap (-y) = -y := IntWalk.i64_in _ ⟨by omega, by omega⟩
          have hw2 : IntKind.i64.wrap (-y - 1) = u := by rw [hu]; exact IntWalk.i64_in _ ⟨by omega, by omega⟩
          clear hrng
          cases hTu : T u with
          | none =>
            rw [hTu] at hcl hMT
            have hs0 : sV none = .slice none 0 0 := rfl
            rw [hs0] at hcl
            have hmy : mR T y = none := by rw [← mOf_MT]; simp [mOf, hMT]
            have hfy := fw_one HM.out hmy
            rw [hfy] at HFT hlen
            simp only [List.length_cons, List.length_nil] at hlen
            have hq := HQ.out
            clear hu hMT hTu hSw hmy hfy
            go_wp2_with fail
            go_quiet (fail)
            clear hw1 hw2
            go_wp2_with (at_builtin; refine wpList_append_row rfl _ _ 34 rfl w.heap.size 3 el_int Tryz.underlying34 rfl (by decide) _ _ _ rfl ((owns_below HOWN.out (below_self_drewN _ _)).alloc _) _ 1 [.int .i64 y] rfl (row_one_new _ _ _) (oneCell_one rfl) (by omega) (by omega) (by simp; omega) ?_; intro v' w4 hown4 hgrow4 _)
            have HB4 := hid (((below_drewN hB _).alloc (by simpa using hszw) _).grown hgrow4 (by simp; omega) (fun q hq => (HOWN.out.lt q hq).1))
            have HO4 := hid hown4
            clear hown4 hgrow4
            go_roundw
            case rel => exact ⟨i + 1, by omega, by go_num, by rw [HFT.out, List.length_append, List.map_append]; exact HO4.out, HB4.out⟩
            case measure => simp [intOf]; omega
          | some ul =>
            obtain ⟨v1, t1⟩ := ul
            obtain ⟨⟨x0, n0, c0, rfl⟩, hi1⟩ := hSw.arr.ints hu24 hTu
            rw [hTu] at hcl hMT
            have hs0 : sV (some (.slice (some x0) n0 c0, t1)) = .slice (some x0) n0 c0 := rfl
            rw [hs0] at hcl
            have hmy : mR T y = some t1 := by rw [← mOf_MT]; simp [mOf, hMT]
            have hv1 := HM.out.val y t1 hmy
            have hfy : fw (mR T) [y] = fw (mR T) t1 := sg_some HM.out hmy
            rw [hfy] at HFT hlen
            have HCALL := hid (fun (W : World) (hW : Below wr.heap.size wr W) => IH.out t1 (.slice (some x0) n0 c0) W (fun z hz hz0 => by have := HR.out y t1 hmy z hz hz0; have := HK.out y HMEM.out hy0; omega) (by have := HK.out y HMEM.out hy0; omega) hv1.2.2.1 hv1.2.2.2 (by omega) (hSw.below hW) (hi1.below hW))
            have hq := HQ.out
            have hf60 : (fw (mR T) t1).length ≤ 60 := by omega
            have hF1 : F.length ≤ 60 := by omega
            clear hu hMT hTu hSw hmy hv1 hi1 hfy
            go_wp2_with fail
            go_quiet (fail)
            go_wp2_with fail
            go_region_law (first | (refine step_append_row rfl (.tmp 32) (.tmp 45) 34 rfl w.heap.size 3 el_int Tryz.underlying34 rfl (by decide) _ _ _ rfl hown5 _ _ _ rfl (RowK.of_owns hown4 (by omega)) (ints_one _) (by omega) (by omega) (by omega) ?_; intro v6 w6 hown6 hg6) | (go_simp; go_at_call 228; refine (HCALL.out _ (below_self_drewN _ _)).mono ?_; rintro e w5 ⟨u5, rfl, hown4, hb4⟩; have hb5 := hB.trans (((below_self_drewN' hB _).trans (hb4.mono hszw))); have hown5 := owns_below HOWN.out ((below_self_drewN wr _).trans (hb4.mono (by simp))); have hsz5 := hb5.size))
            have HB6 := hid (hb5.grown hg6 hsz5 (fun q hq => (HOWN.out.lt q hq).1))
            have HO6 := hid hown6
            clear hown6 hg6 hb5 hb4 hown4 hown5 hsz5
            go_wp2
            go_roundw
            case rel => exact ⟨i + 1, by omega, by go_num, by rw [HFT.out, List.length_append, List.map_append]; exact HO6.out, HB6.out⟩
            case measure => simp [intOf]; omega
      · have hit : t.take i = t := List.take_of_length_le (by omega)
        rw [hit] at HOWN
        clear hown
        go_wp2
        go_ret
        exact ⟨_, rfl, HOWN.out, hB⟩
end Go.Proofs.YtmpjaakkjhmpmaaGreatDoor
namespace Go.Proofs.YtmpjaakkjhmpmaaGreatDoor
open Go Go.RowKit Go.Maps
set_option maxHeartbeats 1000000 in
theorem ref2_Apart (v : Value) (t : List Int) (w : World) (ht : Ints w v t) (h0 : 0 < t.length) (hl : t.length ≤ 1000) (hr : ∀ x ∈ t, -1000000 ≤ x ∧ x ≤ 1000000) :
    Calls Tryz.prog 197 #[v] w fun e w' => ∃ u, e = .returned u ∧ w'.ownsRow w.heap.size 3 1 u (aparL t).length ((aparL t).map (Value.int .i64)) ∧ Below w.heap.size w w' := by
  obtain ⟨ta, tcap, rfl, ht1, ht2, -, TC⟩ := ht.open
  obtain ⟨tb, to, rfl, -⟩ := TC 0 h0
  have TC2 : ∀ j (h : j < t.length), ∃ o, to = o ∧ w.cell? ⟨tb, o + j, none⟩ = some (.int .i64 t[j]) := fun j h => by
    obtain ⟨b, o, h1, h2⟩ := TC j h
    simp only [Option.some.injEq, Addr.mk.injEq] at h1
    obtain ⟨rfl, rfl, -⟩ := h1
    exact ⟨_, rfl, h2⟩
  have TC' := hid TC2
  clear TC2
  have HR := hid hr
  have hb0 : Below w.heap.size w (w.alloc (.cells #[] 3)) := (Below.refl _ _).alloc (Nat.le_refl _) _
  have HT := hid (ht.below hb0)
  have HOWN := hid (World.ownsRow_lit (base := w.heap.size) (e := 3) (size := 1) w #[] 0 (Nat.le_refl _) (by simp [maxLen]) rfl)
  have HB0 := hid hb0
  clear TC ht hb0 hr
  go_enter Tryz.func197, Tryz.ntmps197
  go_wp2_with (at_builtin; refine wpList_append_row rfl _ _ 34 rfl w.heap.size 3 el_int Tryz.underlying34 rfl (by decide) _ _ _ rfl HOWN.out _ t.length (t.map (Value.int .i64)) rfl HT.out (ints_one t) (by omega) (by omega) (by simp) ?_; intro v' w4 hown4 hgrow4 _)
  have hown : w4.ownsRow w.heap.size 3 1 v' t.length (t.map (Value.int .i64)) := by simpa using hown4
  obtain ⟨g, cap, rfl, hg, hgc⟩ := owns_some hown h0
  have HB1 : Hid (Below w.heap.size w w4) := hid (HB0.out.grown hgrow4 (by simp) (fun q hq => by cases hq; exact Nat.le_refl _))
  clear HOWN
  have HOWN := hid hown
  clear hown hown4 hgrow4
  go_wp2
  go_loopw [4] (fun kv wr => ∃ k : Nat, k ≤ t.length ∧ kv = .int .i64 k ∧ wr.ownsRow w.heap.size 3 1 (.slice (some ⟨g, 0, none⟩) t.length cap) t.length ((aparK t k).map (Value.int .i64)) ∧ Below w.heap.size w wr) (fun kv _ => t.length - (intOf kv).toNat)
  case atStart => exact ⟨0, by omega, rfl, by simpa [aparK, aparL] using HOWN.out, HB1.out⟩
  case round =>
    clear HOWN HB1
    obtain ⟨k, hk, rfl, hown, hb⟩ := hrel
    by_cases hlt : k < t.length
    · obtain ⟨_, rfl, hc0⟩ := TC'.out k hlt
      have hcell := (hb.cell (World.block_lt_of_cell? _ _ hc0)).trans hc0
      have hrk := HR.out t[k] (List.getElem_mem hlt)
      have hc1 := hown.cellAt k (by omega)
      rw [aparK_get t hlt] at hc1
      by_cases hn : t[k] < 0
      · have hge : decide (t[k] < 0) = true := by simp; omega
        have hst := aparK_step t hlt
        rw [if_pos hn] at hst
        have hf1 := hown.frozenAt k
        have HST := hid (hown.stored k (.int .i64 (t[k] - 12)))
        have HB2 : Hid (Below w.heap.size w (wr.setCell ⟨g, k, none⟩ (.int .i64 (t[k] - 12)))) := hid (hb.setCell (p := ⟨g, k, none⟩) (by show w.heap.size ≤ g; omega) _)
        have HS := hid hst
        clear hst hown hc0
        go_wp2
        go_roundw
        case rel => exact ⟨k + 1, by omega, by go_num, by rw [HS.out, List.map_set]; exact HST.out.1, HB2.out⟩
        case measure => simp [intOf]; omega
      · have hge : decide (t[k] < 0) = false := by simp; omega
        have HS := hid (aparK_same t hlt hn)
        clear hc0
        go_wp2
        go_roundw
        case rel => exact ⟨k + 1, by omega, by go_num, by rw [HS.out]; exact hown, hb⟩
        case measure => simp [intOf]; omega
    · have HE := hid (aparK_all t (k := k) (by omega))
      rw [HE.out] at hown
      have HL : Hid ((aparL t).length = t.length) := hid (by simp [aparL])
      have HOW := hid hown
      clear hown
      go_wp2
      go_ret
      exact ⟨_, rfl, by rw [HL.out]; exact HOW.out, hb⟩
theorem kno_zero (m : MM) : Kno m #[.int .i64 0, .int .i64 0, .int .i64 0, .int .i64 0, .int .i64 0, .int .i64 0, .int .i64 0, .int .i64 0, .int .i64 0, .int .i64 0, .int .i64 0, .int .i64 0, .int .i64 0, .int .i64 0, .int .i64 0, .int .i64 0, .int .i64 0, .int .i64 0, .int .i64 0, .int .i64 0, .int .i64 0, .int .i64 0, .int .i64 0, .int .i64 0] := by
  refine ⟨rfl, fun v hv => ⟨0, ?_, Or.inl rfl⟩⟩
  show ((List.replicate 24 (Value.int .i64 0)).toArray)[v]? = _
  rw [List.getElem?_toArray, List.getElem?_replicate, if_pos hv]; rfl
set_option maxHeartbeats 1000000 in
set_option maxRecDepth 100000 in
theorem ref2_Whole (px : Nat) (vs vt : Value) (s : Sg) (T : TT) (t : List Int) (w : World) (hm : MOK s (mR T)) (hS : RSol w px vs s T) (hT : IsT s 24 t) (hl : t.length ≤ 60) (ra : Ints w vt t) :
    Calls Tryz.prog 220 #[.pointer (some ⟨px, 0, none⟩), vt] w fun e w' => ∃ u, Below w.heap.size w w' ∧
      ((e = .returned (.tuple #[u, .bool true]) ∧ (fw (mR T) t).length ≤ 60 ∧ w'.ownsRow w.heap.size 3 1 u (fw (mR T) t).length ((fw (mR T) t).map (Value.int .i64))) ∨ (e = .returned (.tuple #[u, .bool false]) ∧ 60 < (fw (mR T) t).length)) := by
  obtain ⟨r, hr, hr24⟩ := hm.rank
  have HB : Hid (∀ ob, Below w.heap.size w (w.alloc ob)) := hid (fun ob => (Below.refl _ _).alloc (Nat.le_refl _) _)
  have HC := hid (fun (cs : Array Value) (ty : TypeId) (hk : Kno (mR T) cs) => ref2_size px w.heap.size vs s T w hS hm r hr (Nat.le_refl _) 26 t vt cs (w.alloc (.cells cs ty)) (fun x _ _ => by have := hr24 x; omega) (by omega) hT hl ra (HB.out _) ⟨ty, (MapKept.heap_alloc w (.cells cs ty)).1⟩ hk)
  have HKZ := hid (kno_zero (mR T))
  go_enter Tryz.func220, Tryz.ntmps220
  go_wp2_with fail
  refine (HC.out _ _ HKZ.out).mono ?_
  rintro e w1 ⟨rfl, hB1, -⟩
  by_cases h60 : (fw (mR T) t).length ≤ 60
  · have dd : decide (((szT (mR T) t : Nat) : Int) > 60) = false := by unfold szT; simp; omega
    have HW := hid (ref2_whole px vs s T hm r hr 26 t vt w1 (fun x _ _ => by have := hr24 x; omega) (by omega) hT hl h60 (hS.below hB1) (ra.below hB1))
    have hsz := hB1.size
    have HB1 := hid hB1
    clear hB1 HC HB HKZ hS hm hT ra hr hr24
    go_wp2_with fail
    refine HW.out.mono ?_
    rintro e w2 ⟨u, rfl, hown, hB2⟩
    have HO := hid (owns_base hown hsz)
    have HB2 := hid (HB1.out.trans (hB2.mono hsz))
    clear hown hB2
    go_wp2
    go_ret2
    exact ⟨u, HB2.out, Or.inl ⟨rfl, h60, HO.out⟩⟩
  · have dd : decide (((szT (mR T) t : Nat) : Int) > 60) = true := by unfold szT; simp; omega
    have HB1 := hid hB1
    clear hB1 HC HB HKZ hS hm hT ra hr hr24
    go_wp2
    go_ret2
    exact ⟨_, HB1.out, Or.inr ⟨rfl, by omega⟩⟩
set_option maxHeartbeats 1000000 in
set_option maxRecDepth 100000 in
theorem ref2_Few (px : Nat) (vs vt : Value) (s : Sg) (T : TT) (t : List Int) (w : World) (hm : MOK s (mR T)) (hS : RSol w px vs s T) (hT : IsT s 24 t) (hl : t.length ≤ 60) (ra : Ints w vt t) (hsl : s.length ≤ 1000) :
    Calls Tryz.prog 198 #[.pointer (some ⟨px, 0, none⟩), vt] w fun e w' => ∃ u, Below w.heap.size w w' ∧
      ((madeB (fw (mR T) t) = true ∧ e = .returned (.tuple #[u, .int .i64 0]) ∧ w'.ownsRow w.heap.size 3 1 u (canonL (fw (mR T) t)).length ((canonL (fw (mR T) t)).map (Value.int .i64))) ∨ (madeB (fw (mR T) t) = false ∧ e = .returned (.tuple #[.slice none 0 0, .int .i64 4]))) := by
  have HC := hid (ref2_Whole px vs vt s T t w hm hS hT hl ra)
  have hF := fw_T hm hT
  obtain ⟨F, hFe⟩ : ∃ F, fw (mR T) t = F := ⟨_, rfl⟩
  rw [hFe] at HC hF ⊢
  have hF0 := hF.ne
  have HR : Hid (∀ x ∈ F, -1000000 ≤ x ∧ x ≤ 1000000) := hid (fun x hx => by rcases hF.range x hx with h | h <;> omega)
  clear hm hS hT ra hFe hF
  go_enter Tryz.func198, Tryz.ntmps198
  go_wp2_with fail
  refine HC.out.mono ?_
  rintro e w1 ⟨u, hB1, ⟨rfl, h60, hown⟩ | ⟨rfl, h60⟩⟩
  · have ri := Ints.of_owns hown (by omega)
    have hsz := hB1.size
    have HV := hid (ref1_Variables u F w1 ri (by omega) HR.out)
    have HRI := hid ri
    have HB1 := hid hB1
    clear ri hown hB1 HC
    go_wp2_with fail
    refine HV.out.mono ?_
    rintro e w2 ⟨u2, rfl, hown2, hB2⟩
    obtain ⟨oa, oc, rfl⟩ : ∃ a c, u2 = .slice a (varsF [] F).length c := by
      rcases hown2.2 with ⟨h1, h2⟩ | ⟨g, cap, _, h1, _⟩
      · rw [h2]; exact ⟨none, 0, h1⟩
      · exact ⟨_, _, h1⟩
    have ri2 := HRI.out.below hB2
    have hsz2 := hB2.size
    have HB2 := hid (HB1.out.trans (hB2.mono hsz))
    clear hown2 hB2
    by_cases h12 : (varsF [] F).length ≤ 12
    · have dd : decide (((varsF [] F).length : Int) > 12) = false := by simp; omega
      have HMD : Hid (madeB F = true) := hid (by simp [madeB]; omega)
      have HRN := hid (ref1_Renamed u F w2 ri2 hF0 (by omega) HR.out)
      clear ri2
      go_wp2_with fail
      refine HRN.out.mono ?_
      rintro e w3 ⟨u3, rfl, hown3, hB3⟩
      have HO := hid (owns_base hown3 HB2.out.size)
      have HB3 := hid (HB2.out.trans (hB3.mono HB2.out.size))
      clear hown3 hB3
      go_wp2
      go_ret2
      exact ⟨u3, HB3.out, Or.inl ⟨HMD.out, rfl, HO.out⟩⟩
    · have dd : decide (((varsF [] F).length : Int) > 12) = true := by simp; omega
      have HMD : Hid (madeB F = false) := hid (by simp [madeB]; omega)
      clear ri2
      go_wp2
      go_ret2
      exact ⟨.slice none 0 0, HB2.out, Or.inr ⟨HMD.out, rfl⟩⟩
  · have HMD : Hid (madeB F = false) := hid (by simp [madeB]; omega)
    have HB1 := hid hB1
    clear hB1 HC
    go_wp2
    go_ret2
    exact ⟨.slice none 0 0, HB1.out, Or.inr ⟨HMD.out, rfl⟩⟩
end Go.Proofs.YtmpjaakkjhmpmaaGreatDoor
