/-
  WHAT IT HOLDS: contract of size of the reference's solver (layer 2). Conditions: the solver reads as data; the term is a term of at most 60 numbers; what is known is so.
-/
import Derived.Test.YtidigpfiagjeiaaRsol
import Derived.Test.YtidigpfiagjeiaaFull
import Derived.Deep.RegionHeld3
namespace Go.Proofs.Ytidigpfiagjeiaa
open Go Go.RowKit Go.Maps
def szT (m : MM) (t : List Int) : Nat := min (fw m t).length 61
def Kno (m : MM) (cs : Array Value) : Prop := cs.size = 24 ∧ ∀ v : Nat, v < 24 → ∃ x : Nat, cs[v]? = some (.int .i64 x) ∧ (x = 0 ∨ ∃ p, m (-(v : Int) - 1) = some p ∧ x = szT m p)
theorem Kno.set {m : MM} {cs : Array Value} (h : Kno m cs) (v : Nat) {p : List Int} (hp : m (-(v : Int) - 1) = some p) : Kno m (cs.setIfInBounds v (.int .i64 (szT m p))) := by
  refine ⟨by simpa using h.1, fun x hx => ?_⟩
  rw [Array.getElem?_setIfInBounds]
  by_cases e : v = x
  · subst e
    exact ⟨szT m p, by simp [h.1, hx], Or.inr ⟨p, hp, rfl⟩⟩
  · rw [if_neg e]
    exact h.2 x hx
theorem Kno.at {m : MM} {cs : Array Value} (h : Kno m cs) {v : Nat} (hv : v < 24) {w : World} {pd : Nat} (ha : ArrV w pd cs) : ∃ x3 : Nat, Kno m cs ∧ ArrV w pd cs ∧ w.cell? ⟨pd, v, none⟩ = some (.int .i64 x3) := by
  obtain ⟨x, h1, -⟩ := h.2 v hv
  exact ⟨x, h, ha, by rw [ha.cell]; exact h1⟩
def SzI (m : MM) (t : List Int) (i n : Nat) : Prop := n ≤ 121 ∧ (n ≤ 60 → n = (fw m (t.take i)).length) ∧ (60 < n → 60 < (fw m (t.take i)).length)
theorem SzI.zero (m : MM) (t : List Int) : SzI m t 0 0 := ⟨by omega, fun _ => by simp [fw, full_nil], fun h => by omega⟩
theorem SzI.next {m : MM} {t : List Int} {i n : Nat} (h : SzI m t i n) (hn : n ≤ 60) (hi : i < t.length) {X : Nat} (hX : min (fw m [t[i]]).length 61 = X) : SzI m t (i + 1) (n + X) := by
  have h1 := h.2.1 hn
  unfold SzI
  rw [fw_take t hi, List.length_append]
  refine ⟨by omega, fun _ => by omega, fun _ => by omega⟩
theorem SzI.fin {m : MM} {t : List Int} {i n : Nat} (h : SzI m t i n) (hi : t.length ≤ i) (hn : n ≤ 60) : n = szT m t := by
  have h1 := h.2.1 hn
  rw [List.take_of_length_le hi] at h1
  unfold szT
  omega
theorem SzI.big {m : MM} {t : List Int} {i n : Nat} (h : SzI m t i n) (hn : 60 < n) : 61 = szT m t := by
  have h1 := h.2.2 hn
  have h2 := fw_take_le m t i
  unfold szT
  omega
theorem below_self_drewN' {w0 w : World} (h : Below w0.heap.size w0 w) (n : Nat) : Below w0.heap.size w (w.drewN n) := (below_self_drewN w n).mono h.size
set_option maxHeartbeats 2000000 in
set_option maxRecDepth 100000 in
theorem ref2_size (px pd : Nat) (vs : Value) (s : Sg) (T : TT) (w0 : World) (hS : RSol w0 px vs s T) (hm : MOK s (mR T)) (r : Int → Nat) (hr : Rk (mR T) r) (hpd : w0.heap.size ≤ pd) : ∀ (k : Nat) (t : List Int) (vt : Value) (cs : Array Value) (w : World),
    (∀ x ∈ t, x < 0 → r x + 1 < k) → 0 < k → IsT s 24 t → t.length ≤ 60 → Ints w0 vt t → Below w0.heap.size w0 w → ArrV w pd cs → Kno (mR T) cs →
    Calls Try.prog 118 #[.pointer (some ⟨px, 0, none⟩), vt, .pointer (some ⟨pd, 0, none⟩)] w
      fun e w' => e = .returned (.int .i64 (szT (mR T) t)) ∧ Below w0.heap.size w0 w' ∧ ∃ cs', ArrV w' pd cs' ∧ Kno (mR T) cs' := by
  intro k
  induction k with
  | zero => intro t vt cs w hk hk0; omega
  | succ k ih =>
    intro t vt cs w hk hk0 hT hl ra hB hA hD
    obtain ⟨ta, tc, rfl, ht1, ht2, -, TC⟩ := ra.open
    have HT := hid hT
    have HTC := hid TC
    have HM := hid hm
    have HS := hid hS
    have HA0 := hid hA
    have HD0 := hid hD
    have HB0 := hid hB
    have IH := hid ih
    have HK := hid hk
    have HR := hid hr
    have hq := fun (w : World) (a : Option Addr) (n c n' c' : Nat) => Lib.run_eql_slice_nil (P := Try.prog) w _ _ a n c n' c' Try.underlying25
    have HQ := hid hq
    clear hT TC ra hm hS hA hD hB ih hq hk hr
    go_enter Try.func118, Try.ntmps118
    go_wp2
    go_loopw [7, 8] (fun nv iv wr => ∃ (i n : Nat) (cs' : Array Value), i ≤ t.length ∧ iv = .int .i64 i ∧ nv = .int .i64 n ∧ SzI (mR T) t i n ∧ ArrV wr pd cs' ∧ Kno (mR T) cs' ∧ Below w0.heap.size w0 wr) (fun _ iv _ => t.length - (intOf iv).toNat)
    case atStart => exact ⟨0, 0, cs, by omega, rfl, rfl, .zero _ _, HA0.out, HD0.out, HB0.out⟩
    case round =>
      clear HA0 HD0 HB0
      obtain ⟨i, n, cs', hi, rfl, rfl, hF, hA, hD, hB⟩ := hrel
      have hn121 := hF.1
      have HF := hid hF
      have HD := hid hD
      have HAV := hid hA
      clear hF hD hA
      by_cases hn : n ≤ 60
      · have dn : decide ((n : Int) ≤ 60) = true := by simp; omega
        have dn2 : decide ((n : Int) > 60) = false := by simp; omega
        by_cases hlt : i < t.length
        · obtain ⟨tb, to, rfl, cy0⟩ := HTC.out i hlt
          have cy := (hB.cell (World.block_lt_of_cell? _ _ cy0)).trans cy0
          have hmem := List.getElem_mem hlt
          have HNX := hid (fun X (h : min (fw (mR T) [t[i]]).length 61 = X) => HF.out.next hn hlt h)
          obtain ⟨y, hy⟩ : ∃ y, t[i] = y := ⟨_, rfl⟩
          rw [hy] at cy hmem HNX
          have hrng := HT.out.range y hmem
          have HMEM := hid hmem
          clear cy0 hy hmem
          by_cases e2 : 0 ≤ y
          · have b2 : decide (y ≥ 0) = true := by simpa using e2
            have HONE : Hid (SzI (mR T) t (i + 1) (n + 1)) := hid (HNX.out 1 (by rw [fw_app _ e2]; simp [fw, full_nil]))
            go_wp2_with fail
            go_quiet (fail)
            go_wp2
            go_roundw
            case rel => exact ⟨i + 1, n + 1, cs', by omega, by go_num, by go_num, HONE.out, HAV.out.drewN _, HD.out, hB.trans (below_self_drewN' hB _)⟩
            case measure => simp [intOf]; omega
          · have b2 : decide (y ≥ 0) = false := by simpa using e2
            have hy0 : y < 0 := by omega
            obtain ⟨u, hu⟩ := Int.eq_ofNat_of_zero_le (show 0 ≤ -y - 1 by omega)
            have hu24 : u < 24 := by omega
            have hub1 : (0 : Int) ≤ (u : Int) := by omega
            have hub2 : (u : Int) < 24 := by omega
            have hSw := HS.out.below hB
            have hcl := hSw.arr.cell hu24
            obtain ⟨x, hdl0, hx⟩ := HD.out.2 u hu24
            have hdl := HAV.out.cell u
            rw [hdl0] at hdl
            have hdf := HAV.out.frozen u
            have hMT := MT_at T hy0 hu
            have hw1 : IntKind.i64.wrap (-y) = -y := IntWalk.i64_in _ ⟨by omega, by omega⟩
            have hw2 : IntKind.i64.wrap (-y - 1) = u := by rw [hu]; exact IntWalk.i64_in _ ⟨by omega, by omega⟩
            have hyu : -(u : Int) - 1 = y := by omega
            rw [hyu] at hx
            clear hrng hdl0
            cases hTu : T u with
            | none =>
              rw [hTu] at hcl hMT
              have hs0 : sV none = .slice none 0 0 := rfl
              rw [hs0] at hcl
              have hmy : mR T y = none := by rw [← mOf_MT]; simp [mOf, hMT]
              have HONE : Hid (SzI (mR T) t (i + 1) (n + 1)) := hid (HNX.out 1 (by rw [fw_one HM.out hmy]; simp))
              have hq := HQ.out
              clear hu hMT hTu hSw hmy hx hyu
              go_wp2_with fail
              go_quiet (fail)
              clear hw1 hw2
              go_wp2
              go_roundw
              case rel => exact ⟨i + 1, n + 1, cs', by omega, by go_num, by go_num, HONE.out, HAV.out.drewN _, HD.out, hB.trans (below_self_drewN' hB _)⟩
              case measure => simp [intOf]; omega
            | some ul =>
              obtain ⟨v1, t1⟩ := ul
              obtain ⟨⟨x0, n0, c0, rfl⟩, -⟩ := hSw.arr.ints hu24 hTu
              have hi1 := (HS.out.arr.ints hu24 hTu).2
              rw [hTu] at hcl hMT
              have hs0 : sV (some (.slice (some x0) n0 c0, t1)) = .slice (some x0) n0 c0 := rfl
              rw [hs0] at hcl
              have hmy : mR T y = some t1 := by rw [← mOf_MT]; simp [mOf, hMT]
              have hv1 := HM.out.val y t1 hmy
              obtain ⟨X, hX⟩ : ∃ X, szT (mR T) t1 = X := ⟨_, rfl⟩
              have hX61 : X ≤ 61 := by rw [← hX]; unfold szT; omega
              have HONE : Hid (SzI (mR T) t (i + 1) (n + X)) := hid (HNX.out X (by rw [← hX]; unfold szT; rw [show fw (mR T) [y] = fw (mR T) t1 from sg_some HM.out hmy]))
              have HC1 : Hid (∀ W, Below w0.heap.size w0 W → W.cell? ⟨px, 1 + u, none⟩ = some (.slice (some x0) n0 c0)) := hid (fun W hW => by have h := (HS.out.below hW).arr.cell hu24; rw [hTu, hs0] at h; exact h)
              by_cases hx0 : x = 0
              · subst hx0
                have HSET : Hid (∀ cs3, Kno (mR T) cs3 → Kno (mR T) (cs3.setIfInBounds u (.int .i64 X))) := hid (fun cs3 h => by have := h.set u (p := t1) (by rw [hyu]; exact hmy); rwa [hX] at this)
                have HCALL := hid (show ∀ (W : World), Below wr.heap.size wr W → Calls Try.prog 118 #[.pointer (some ⟨px, 0, none⟩), .slice (some x0) n0 c0, .pointer (some ⟨pd, 0, none⟩)] W fun e w' => e = .returned (.int .i64 X) ∧ Below w0.heap.size w0 w' ∧ ∃ (cs' : Array Value) (x3 : Nat), Kno (mR T) cs' ∧ ArrV w' pd cs' ∧ w'.cell? ⟨pd, u, none⟩ = some (.int .i64 x3) from fun (W : World) (hW : Below wr.heap.size wr W) => Calls.mono (IH.out t1 (.slice (some x0) n0 c0) cs' W (fun z hz hz0 => by have := HR.out y t1 hmy z hz hz0; have := HK.out y HMEM.out hy0; omega) (by have := HK.out y HMEM.out hy0; omega) hv1.2.2.1 hv1.2.2.2 hi1 (hB.trans (hW.mono hB.size)) (HAV.out.below hW) HD.out) (fun e w' ⟨h1, h2, cs', h3, h4⟩ => ⟨by rw [h1, hX], h2, cs', h4.at hu24 h3⟩))
                have hq := HQ.out
                clear hu hMT hTu hSw hmy hv1 hi1 hx hyu hX
                go_wp2_with fail
                go_quiet (fail)
                go_wp2_with fail
                go_region_held3 (fun w' => w'.cell? ⟨px, 1 + u, none⟩ = some (.slice (some x0) n0 c0)) (first | assumption | go_keep)
                  (first | (go_at_call 118; with_reducible refine (HCALL.out _ (below_self_drewN _ _)).mono ?_; rintro e w3 ⟨rfl, hB3, cs3, x3, hD3, hA3, d2⟩; have d1 := HC1.out _ hB3; have d5 := HC1.out _ (hB3.setCell (p := ⟨pd, u, none⟩) hpd (.int .i64 X)); have d3 := hA3.frozen u))
                have hA4 := hA3.set u (.int .i64 X)
                have d4 := hA4.cell u
                rw [show (cs3.setIfInBounds u (Value.int .i64 X))[u]? = some (Value.int .i64 X) from by rw [Array.getElem?_setIfInBounds]; simp [hD3.1, hu24]] at d4
                have HA4 := hid hA4
                have HD4 := hid (HSET.out cs3 hD3)
                have HB4 : Hid (Below w0.heap.size w0 (w3.setCell ⟨pd, u, none⟩ (.int .i64 X))) := hid (hB3.setCell (p := ⟨pd, u, none⟩) hpd _)
                clear d1 d2 d3 d5 hA3 hD3 hB3 hA4
                go_wp2
                go_roundw
                case rel => exact ⟨i + 1, n + X, _, by omega, by go_num, by go_num, HONE.out, HA4.out, HD4.out, HB4.out⟩
                case measure => simp [intOf]; omega
              · have hxX : x = X := by
                  rcases hx with h | ⟨p, hp, h⟩
                  · exact (hx0 h).elim
                  · rw [hmy] at hp; cases hp; rw [h, hX]
                subst hxX
                have hb0 : ((x : Int) == 0) = false := by simp; omega
                have hq := HQ.out
                clear hu hMT hTu hSw hmy hv1 hi1 hx hyu hX
                go_wp2_with fail
                go_quiet (fail)
                go_wp2
                go_roundw
                case rel => exact ⟨i + 1, n + x, cs', by omega, by go_num, by go_num, HONE.out, HAV.out.drewN _, HD.out, hB.trans (below_self_drewN' hB _)⟩
                case measure => simp [intOf]; omega
        · have HEND : Hid (n = szT (mR T) t) := hid (HF.out.fin (by omega) hn)
          go_wp2
          go_ret
          exact ⟨by rw [← HEND.out]; rfl, hB, _, HAV.out, HD.out⟩
      · have dn : decide ((n : Int) ≤ 60) = false := by simp; omega
        have dn2 : decide ((n : Int) > 60) = true := by simp; omega
        have HEND : Hid (61 = szT (mR T) t) := hid (HF.out.big (by omega))
        go_wp2
        all_goals
          go_ret
          exact ⟨by rw [← HEND.out]; rfl, hB, _, HAV.out, HD.out⟩
end Go.Proofs.Ytidigpfiagjeiaa
