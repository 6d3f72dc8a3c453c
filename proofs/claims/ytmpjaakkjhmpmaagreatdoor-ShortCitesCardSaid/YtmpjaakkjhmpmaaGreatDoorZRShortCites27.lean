/-
  WHAT IT HOLDS: contracts of look and occurs of the reference's solver (layer 2). Conditions: the solver reads as data (RSol); the parts are terms.
  WHAT IT HOLDS: contract of Solve of the reference's solver (layer 2). Conditions: the solver reads as data; both are terms of at most 60 numbers; a valid sign.
-/
import Derived.WalkSpells
import Derived.Deep.RegionHeld3
import Derived.Test.YtmpjaakkjhmpmaaGreatDoorZRShortCites17
import Derived.Test.YtmpjaakkjhmpmaaGreatDoorZRShortCites9
import Derived.Test.YtmpjaakkjhmpmaaGreatDoorZRShortCites6
import Derived.Test.YtmpjaakkjhmpmaaGreatDoorZRShortCites7
namespace Go.Proofs.YtmpjaakkjhmpmaaGreatDoor
open Go Go.RowKit Go.Maps
/-- the reference's solver in memory: its sign in cell 0, then what 24 variables become. -/
structure RSol (w : World) (px : Nat) (vs : Value) (s : Sg) (T : TT) : Prop where
  c0 : w.cell? ⟨px, 0, none⟩ = some vs
  arr : ArrT w px 1 24 T
  sgn : SignAt w vs s
  out : ∀ v, 24 ≤ v → T v = none
theorem RSol.below {w w' : World} {px : Nat} {vs : Value} {s : Sg} {T : TT} (h : RSol w px vs s T) (hb : Below w.heap.size w w') : RSol w' px vs s T :=
  ⟨(hb.cell (World.block_lt_of_cell? _ _ h.c0)).trans h.c0, h.arr.below hb, h.sgn.below hb, h.out⟩
def MT (T : TT) : Int → Option VT := fun n => if n < 0 then T (-n - 1).toNat else none
theorem MT_at (T : TT) {n : Int} (hn : n < 0) {v : Nat} (hv : -n - 1 = v) : MT T n = T v := by
  unfold MT
  rw [if_pos hn, hv, Int.toNat_natCast]
theorem mOf_MT (T : TT) : mOf (MT T) = mR T := by
  funext n
  unfold mOf MT mR
  by_cases h : n < 0
  · simp [h]
  · simp [h]
theorem RSol.its {w : World} {px : Nat} {vs : Value} {s : Sg} {T : TT} (h : RSol w px vs s T) : ∀ x v l, MT T x = some (v, l) → Ints w v l := by
  intro x v l hx
  unfold MT at hx
  split at hx
  · by_cases h24 : (-x - 1).toNat < 24
    · exact (h.arr.ints h24 hx).2
    · rw [h.out _ (by omega)] at hx; cases hx
  · cases hx
set_option maxHeartbeats 400000 in
set_option maxRecDepth 100000 in
theorem ref2_look (px : Nat) (vs vt : Value) (s : Sg) (T : TT) (t : List Int) (w : World) (hS : RSol w px vs s T) (hm : MOK s (mR T)) (ht : Ints w vt t) (hT : IsT s 24 t) :
    Calls Tryz.prog 218 #[.pointer (some ⟨px, 0, none⟩), vt] w fun e w' => e = .returned (lookT (MT T) 25 (vt, t)).1 ∧ ∃ n, w' = w.drewN n := by
  obtain ⟨r, hr, hr24⟩ := hm.rank
  have HMV := hid hm.val
  have HR := hid hr
  have HR24 := hid hr24
  have HTT := hid hT
  have HI := hid hS.its
  have HA := hid hS.arr
  have hq := fun (w : World) (a : Option Addr) (n c n' c' : Nat) => run_neq_slice_nil_any (P := Tryz.prog) w _ _ a n c n' c' Tryz.underlying34
  have HQ := hid hq
  clear hm hr hr24 hT hS hq
  go_enter Tryz.func218, Tryz.ntmps218
  go_wp2
  go_loopg [1] 25 (fun k tv wr => ∃ (q : Nat) (v' : Value) (t' : List Int), tv = v' ∧ wr = w.drewN q ∧ Ints w v' t' ∧ IsT s 24 t' ∧ (lookT (MT T) k (v', t')).1 = (lookT (MT T) 25 (vt, t)).1 ∧ ∀ x ∈ t', x < 0 → r x < k)
  case atStart => exact ⟨0, vt, t, rfl, rfl, ht, HTT.out, rfl, fun x _ _ => by have := HR24.out x; omega⟩
  case round =>
    obtain ⟨q, v', t', rfl, rfl, hi, hT, he, hk⟩ := hrel
    have HIT := hid hi
    obtain ⟨ta, tc, rfl, ht1, ht2, -, TC⟩ := hi.open
    cases t' with
    | nil => exact absurd rfl hT.nonempty
    | cons y rr =>
      obtain ⟨tb, to, rfl, cy⟩ := TC 0 (by simp)
      simp only [Nat.add_zero, List.getElem_cons_zero] at cy
      have HE := hid he
      have HT := hid hT
      have HK := hid hk
      clear TC he hT hk hi
      by_cases hy : y < 0
      · obtain ⟨hr0, h24⟩ := HT.out.head_var hy
        subst hr0
        have hk1 := HK.out y (by simp) hy
        obtain ⟨k', rfl⟩ : ∃ k', gk = k' + 1 := ⟨gk - 1, by omega⟩
        obtain ⟨v, hv⟩ := Int.eq_ofNat_of_zero_le (show 0 ≤ -y - 1 by omega)
        have hv24 : v < 24 := by omega
        have hb1 : (0 : Int) ≤ (v : Int) := by omega
        have hb2 : (v : Int) < 24 := by omega
        have hcl := HA.out.cell hv24
        have hMT := MT_at T hy hv
        have hd : decide (y < 0) = true := by simpa using hy
        cases hTv : T v with
        | none =>
          rw [hTv] at hcl hMT
          have hs0 : sV none = .slice none 0 0 := rfl
          rw [hs0] at hcl
          have HEND : Hid ((lookT (MT T) 25 (vt, t)).1 = .slice (some ⟨tb, to, none⟩) 1 tc) := hid (by rw [← HE.out, lookT_none _ hMT]; rfl)
          have hw1 : IntKind.i64.wrap (-y) = -y := IntWalk.i64_in _ ⟨by omega, by omega⟩
          have hw2 : IntKind.i64.wrap (-y - 1) = v := by rw [hv]; exact IntWalk.i64_in _ ⟨by omega, by omega⟩
          have hq := HQ.out
          clear hMT hTv hv
          go_wp2
          go_quiet (fail)
          go_wp2
          go_ret
          exact ⟨congrArg Ending.returned HEND.out.symm, _, (by first | rfl | exact World.drewN_drewN _ _ _)⟩
        | some u =>
          obtain ⟨v1, t1⟩ := u
          obtain ⟨⟨x0, n0, c0, rfl⟩, hi0⟩ := HA.out.ints hv24 hTv
          rw [hTv] at hcl hMT
          have hs0 : sV (some (.slice (some x0) n0 c0, t1)) = .slice (some x0) n0 c0 := rfl
          rw [hs0] at hcl
          have hmy : mR T y = some t1 := by rw [← mOf_MT]; simp [mOf, hMT]
          have HV := hid (HMV.out y t1 hmy)
          have HE2 : Hid ((lookT (MT T) k' (.slice (some x0) n0 c0, t1)).1 = (lookT (MT T) 25 (vt, t)).1) := hid (by rw [← HE.out, lookT_some _ hy hMT])
          have HK2 : Hid (∀ x ∈ t1, x < 0 → r x < k') := hid (fun x hx hx0 => by have := HR.out y t1 hmy x hx hx0; omega)
          have HI1 := hid hi0
          have hw1 : IntKind.i64.wrap (-y) = -y := IntWalk.i64_in _ ⟨by omega, by omega⟩
          have hw2 : IntKind.i64.wrap (-y - 1) = v := by rw [hv]; exact IntWalk.i64_in _ ⟨by omega, by omega⟩
          have hq := HQ.out
          clear hMT hTv hmy hv hi0
          go_wp2
          go_quiet (fail)
          go_wp2
          go_quiet (fail)
          go_wp2
          clear hw1 hw2
          go_roundg k'
          case measure => omega
          case rel => exact ⟨_, _, t1, rfl, by rw [World.drewN_drewN, World.drewN_drewN], HI1.out, HV.out.2.2.1, HE2.out, HK2.out⟩
      · have HEND : Hid ((lookT (MT T) 25 (vt, t)).1 = .slice (some ⟨tb, to, none⟩) (rr.length + 1) tc) := hid (by rw [← HE.out, lookT_sym _ (by omega)]; rfl)
        have hd : decide (y < 0) = false := by simpa using hy
        go_wp2
        go_quiet (fail)
        go_wp2
        go_ret
        exact ⟨congrArg Ending.returned HEND.out.symm, _, (by first | rfl | exact World.drewN_drewN _ _ _)⟩
/-- a block of n cells that the call owns whole. -/
def ArrV (w : World) (pd : Nat) (cs : Array Value) : Prop := ∃ ty, w.heap[pd]? = some (.cells cs ty (0, 0))
theorem ArrV.cell {w : World} {pd : Nat} {cs : Array Value} (h : ArrV w pd cs) (i : Nat) : w.cell? ⟨pd, i, none⟩ = cs[i]? := by
  obtain ⟨ty, h⟩ := h
  exact cell_of_row w pd i cs ty (0, 0) h
theorem ArrV.frozen {w : World} {pd : Nat} {cs : Array Value} (h : ArrV w pd cs) (i : Nat) : w.frozen? ⟨pd, i, none⟩ = false := by
  obtain ⟨ty, h⟩ := h
  exact frozen_of_row w pd i cs ty h
theorem ArrV.set {w : World} {pd : Nat} {cs : Array Value} (h : ArrV w pd cs) (i : Nat) (u : Value) : ArrV (w.setCell ⟨pd, i, none⟩ u) pd (cs.setIfInBounds i u) := by
  obtain ⟨ty, h⟩ := h
  exact ⟨ty, heap_setCell_same w pd i cs ty u h⟩
theorem ArrV.drewN {w : World} {pd : Nat} {cs : Array Value} (h : ArrV w pd cs) (n : Nat) : ArrV (w.drewN n) pd cs := h
theorem ArrV.below {w w' : World} {pd : Nat} {cs : Array Value} (h : ArrV w pd cs) (hb : Below w.heap.size w w') : ArrV w' pd cs := by
  obtain ⟨ty, h⟩ := h
  exact ⟨ty, by rw [hb.block pd (Array.getElem?_eq_some_iff.1 h).1]; exact h⟩
/-- which variables were looked into. -/
def Boo (cs : Array Value) (D : Nat → Bool) : Prop := cs.size = 24 ∧ ∀ v, v < 24 → cs[v]? = some (.bool (D v))
theorem Boo.set {cs : Array Value} {D : Nat → Bool} (h : Boo cs D) (v : Nat) : Boo (cs.setIfInBounds v (.bool true)) (fun x => if x = v then true else D x) := by
  refine ⟨by simpa using h.1, fun x hx => ?_⟩
  rw [Array.getElem?_setIfInBounds]
  by_cases e : v = x
  · subst e; simp [h.1, hx]
  · rw [if_neg e, h.2 x hx]
    show some (Value.bool (D x)) = some (Value.bool (if x = v then true else D x))
    rw [if_neg (Ne.symm e)]
def cntD (D : Nat → Bool) : Nat := ((List.range 24).filter fun i => !D i).length
theorem cntD_set {D : Nat → Bool} {v : Nat} (h1 : v < 24) (h2 : D v = false) : cntD (fun x => if x = v then true else D x) < cntD D := by
  refine filter_lt _ _ _ (fun i _ hi => ?_) ⟨v, List.mem_range.2 h1, ?_, ?_⟩
  · by_cases e : i = v <;> simp [e] at hi ⊢; exact hi
  · simp
  · simp [h2]
theorem cntD_le {D D' : Nat → Bool} (h : ∀ v, D v = true → D' v = true) : cntD D' ≤ cntD D :=
  filter_le _ _ _ fun i _ hi => by
    cases hd : D i
    · rfl
    · rw [h i hd] at hi; simp at hi
def inD (D : Nat → Bool) (x : Int) : Prop := D (-x - 1).toNat = true
def DfsD (m : MM) (v : Int) (D : Nat → Bool) (t : List Int) (D' : Nat → Bool) : Prop := (∀ x, D x = true → D' x = true) ∧ v ∉ t ∧ (∀ x ∈ t, x < 0 → (m x).isSome = true → inD D' x) ∧ ∀ n : Int, n < 0 → inD D' n → ¬ inD D n → ∀ p, m n = some p → v ∉ p ∧ ∀ x ∈ p, x < 0 → (m x).isSome = true → inD D' x
theorem DfsD.nil (m : MM) (v : Int) (D : Nat → Bool) : DfsD m v D [] D := ⟨fun _ h => h, by simp, by simp, fun n _ h h' => absurd h h'⟩
theorem DfsD.skip {m : MM} {v : Int} {D D' : Nat → Bool} {t : List Int} {n : Int} (h : DfsD m v D t D') (h1 : n ≠ v) (h2 : n < 0 → (m n).isSome = true → inD D' n) : DfsD m v D (t ++ [n]) D' := by
  refine ⟨h.1, ?_, fun x hx hx0 hs => ?_, h.2.2.2⟩
  · simp only [List.mem_append, List.mem_singleton, not_or]; exact ⟨h.2.1, fun e => h1 e.symm⟩
  · rcases List.mem_append.1 hx with hx | hx
    · exact h.2.2.1 x hx hx0 hs
    · simp at hx; subst hx; exact h2 hx0 hs
theorem DfsD.into {m : MM} {v : Int} {D D' D2 : Nat → Bool} {t p : List Int} {n : Int} {a : Nat} (hn : n < 0) (ha : -n - 1 = a) (h : DfsD m v D t D') (h1 : n ≠ v) (h2 : m n = some p) (k : DfsD m v (fun x => if x = a then true else D' x) p D2) : DfsD m v D (t ++ [n]) D2 := by
  have hD : ∀ x, D' x = true → D2 x = true := fun x hx => k.1 x (by simp only; split <;> simp [hx])
  have hn2 : inD D2 n := by unfold inD; rw [ha, Int.toNat_natCast]; exact k.1 a (by simp)
  refine ⟨fun x hx => hD x (h.1 x hx), ?_, fun x hx hx0 hs => ?_, fun x hx0 hx hxS q hq => ?_⟩
  · simp only [List.mem_append, List.mem_singleton, not_or]; exact ⟨h.2.1, fun e => h1 e.symm⟩
  · rcases List.mem_append.1 hx with hx | hx
    · exact hD _ (h.2.2.1 x hx hx0 hs)
    · simp at hx; subst hx; exact hn2
  · by_cases e : x = n
    · subst e
      rw [h2] at hq
      cases hq
      exact ⟨k.2.1, k.2.2.1⟩
    · by_cases hx' : inD D' x
      · have := h.2.2.2 x hx0 hx' hxS q hq
        exact ⟨this.1, fun y hy hy0 hs => hD _ (this.2 y hy hy0 hs)⟩
      · refine k.2.2.2 x hx0 hx ?_ q hq
        unfold inD at hx' ⊢
        simp only [show ¬ (-x - 1).toNat = a by omega, if_false]; exact hx'
theorem DfsD.no {m : MM} {v : Int} {t : List Int} {D' : Nat → Bool} (h : DfsD m v (fun _ => false) t D') : ¬ Reach m t v := by
  intro H
  obtain ⟨_, h2, h3, h4⟩ := h
  induction H with
  | here t v g1 g2 => exact h2 g1
  | step t v n p g1 g2 g3 g4 ih =>
    have := h4 n g2 (h3 n g1 g2 (by rw [g3]; rfl)) (by unfold inD; simp) p g3
    exact ih this.1 this.2 h4
set_option maxHeartbeats 1000000 in
set_option maxRecDepth 100000 in
theorem ref2_occurs (px pd : Nat) (vs : Value) (s : Sg) (T : TT) (v : Int) (a0 : Nat) (hv : v < 0) (hva : -v - 1 = a0) (ha0 : a0 ≤ 1000) (w0 : World) (hS : RSol w0 px vs s T) (hm : MOK s (mR T)) (hpd : w0.heap.size ≤ pd) : ∀ (k : Nat) (D : Nat → Bool) (t : List Int) (vt : Value) (cs : Array Value) (w : World),
    cntD D < k → IsT s 24 t → t.length ≤ 60 → Ints w0 vt t → Below w0.heap.size w0 w → ArrV w pd cs → Boo cs D →
    Calls Tryz.prog 219 #[.pointer (some ⟨px, 0, none⟩), .int .i64 a0, vt, .pointer (some ⟨pd, 0, none⟩)] w
      fun e w' => Below w0.heap.size w0 w' ∧ ((e = .returned (.bool true) ∧ Reach (mR T) t v) ∨ (e = .returned (.bool false) ∧ ∃ D' cs', ArrV w' pd cs' ∧ Boo cs' D' ∧ DfsD (mR T) v D t D')) := by
  intro k
  induction k with
  | zero => intro D t vt cs w hc; omega
  | succ k ih =>
    intro D t vt cs w hc hT hl ra hB hA hD
    obtain ⟨ta, tc, rfl, ht1, ht2, -, TC⟩ := ra.open
    have HT := hid hT
    have HTC := hid TC
    have HMV := hid hm.val
    have HS := hid hS
    have HA0 := hid hA
    have HD0 := hid hD
    have HB0 := hid hB
    have IH := hid ih
    have hq := fun (w : World) (a : Option Addr) (n c n' c' : Nat) => run_neq_slice_nil_any (P := Tryz.prog) w _ _ a n c n' c' Tryz.underlying34
    have HQ := hid hq
    clear hT TC ra hm hS hA hD hB ih hq
    go_enter Tryz.func219, Tryz.ntmps219
    go_wp2
    go_loopw [9] (fun iv wr => ∃ (i : Nat) (D' : Nat → Bool) (cs' : Array Value), i ≤ t.length ∧ iv = .int .i64 i ∧ ArrV wr pd cs' ∧ Boo cs' D' ∧ DfsD (mR T) v D (t.take i) D' ∧ cntD D' < k + 1 ∧ Below w0.heap.size w0 wr) (fun iv _ => t.length - (intOf iv).toNat)
    case atStart => exact ⟨0, D, cs, by omega, rfl, HA0.out, HD0.out, .nil _ _ _, hc, HB0.out⟩
    case round =>
      clear HA0 HD0 HB0
      obtain ⟨i, D', cs', hi, rfl, hA, hD, hF, hc', hB⟩ := hrel
      have HF := hid hF
      have HD := hid hD
      have HAV := hid hA
      clear hF hD hA
      by_cases hlt : i < t.length
      · obtain ⟨tb, to, rfl, cy0⟩ := HTC.out i hlt
        have cy := (hB.cell (World.block_lt_of_cell? _ _ cy0)).trans cy0
        have HTK := hid (List.take_succ_eq_append_getElem hlt)
        have hmem := List.getElem_mem hlt
        obtain ⟨y, hy⟩ : ∃ y, t[i] = y := ⟨_, rfl⟩
        rw [hy] at cy hmem
        have hrng := HT.out.range y hmem
        have HMEM := hid hmem
        have HY := hid hy
        clear cy0 hy hmem
        by_cases e2 : 0 ≤ y
        · have b2 : decide (y ≥ 0) = true := by simpa using e2
          go_wp2
          go_roundw
          case rel => exact ⟨i + 1, D', cs', by omega, by go_num, HAV.out, HD.out, by rw [HTK.out, HY.out]; exact HF.out.skip (by omega) (fun h => by omega), hc', hB⟩
          case measure => simp [intOf]; omega
        · have b2 : decide (y ≥ 0) = false := by simpa using e2
          have hy0 : y < 0 := by omega
          obtain ⟨u, hu⟩ := Int.eq_ofNat_of_zero_le (show 0 ≤ -y - 1 by omega)
          have hu24 : u < 24 := by omega
          have hub1 : (0 : Int) ≤ (u : Int) := by omega
          have hub2 : (u : Int) < 24 := by omega
          have hSw := HS.out.below hB
          have hcl := hSw.arr.cell hu24
          have hdl := HAV.out.cell u
          rw [HD.out.2 u hu24] at hdl
          have hdf := HAV.out.frozen u
          have hMT := MT_at T hy0 hu
          clear hrng
          by_cases e1 : u = a0
          · have hyv : y = v := by omega
            have b1 : ((u : Int) == (a0 : Int)) = true := by simp [e1]
            have HR : Hid (Reach (mR T) t v) := hid (.here _ _ (hyv ▸ HMEM.out) hv)
            have hw1 : IntKind.i64.wrap (-y) = -y := IntWalk.i64_in _ ⟨by omega, by omega⟩
            have hw2 : IntKind.i64.wrap (-y - 1) = u := by rw [hu]; exact IntWalk.i64_in _ ⟨by omega, by omega⟩
            clear hyv e1 hu hMT
            go_wp2
            go_ret
            exact ⟨hB, Or.inl ⟨rfl, HR.out⟩⟩
          · have b1 : ((u : Int) == (a0 : Int)) = false := by simp; omega
            have HNE : Hid (y ≠ v) := hid (by omega)
            have HU := hid hu
            cases hTu : T u with
            | none =>
              rw [hTu] at hcl hMT
              have hs0 : sV none = .slice none 0 0 := rfl
              rw [hs0] at hcl
              have HMY : Hid (mR T y = none) := hid (by rw [← mOf_MT]; simp [mOf, hMT])
              have hw1 : IntKind.i64.wrap (-y) = -y := IntWalk.i64_in _ ⟨by omega, by omega⟩
              have hw2 : IntKind.i64.wrap (-y - 1) = u := by rw [hu]; exact IntWalk.i64_in _ ⟨by omega, by omega⟩
              have hq := HQ.out
              clear e1 hu hMT hTu hSw
              go_wp2
              clear hw1 hw2
              go_roundw
              case rel => exact ⟨i + 1, D', cs', by omega, by go_num, HAV.out, HD.out, by rw [HTK.out, HY.out]; exact HF.out.skip HNE.out (fun _ h => by rw [HMY.out] at h; cases h), hc', hB⟩
              case measure => simp [intOf]; omega
            | some ul =>
              obtain ⟨v1, t1⟩ := ul
              obtain ⟨⟨x0, n0, c0, rfl⟩, -⟩ := hSw.arr.ints hu24 hTu
              have hi1 := (HS.out.arr.ints hu24 hTu).2
              rw [hTu] at hcl hMT
              have hs0 : sV (some (.slice (some x0) n0 c0, t1)) = .slice (some x0) n0 c0 := rfl
              rw [hs0] at hcl
              have hmy : mR T y = some t1 := by rw [← mOf_MT]; simp [mOf, hMT]
              have HMY := hid hmy
              have hv1 := HMV.out y t1 hmy
              cases hDu : D' u with
              | true =>
                rw [hDu] at hdl
                have HIN : Hid (inD D' y) := hid (by unfold inD; rw [hu, Int.toNat_natCast]; exact hDu)
                have hw1 : IntKind.i64.wrap (-y) = -y := IntWalk.i64_in _ ⟨by omega, by omega⟩
                have hw2 : IntKind.i64.wrap (-y - 1) = u := by rw [hu]; exact IntWalk.i64_in _ ⟨by omega, by omega⟩
                have hq := HQ.out
                clear e1 hu hMT hTu hSw hmy hv1 hDu
                go_wp2
                clear hw1 hw2
                go_roundw
                case rel => exact ⟨i + 1, D', cs', by omega, by go_num, HAV.out, HD.out, by rw [HTK.out, HY.out]; exact HF.out.skip HNE.out (fun _ _ => HIN.out), hc', hB⟩
                case measure => simp [intOf]; omega
              | false =>
                rw [hDu] at hdl
                have hcd := cntD_set hu24 hDu
                have hB2 : Below w0.heap.size w0 (wr.setCell ⟨pd, u, none⟩ (.bool true)) := hB.setCell (p := ⟨pd, u, none⟩) hpd _
                have hcl2 := (HS.out.below hB2).arr.cell hu24
                rw [hTu, hs0] at hcl2
                have HCALL := hid (IH.out (fun x => if x = u then true else D' x) t1 (.slice (some x0) n0 c0) _ (wr.setCell ⟨pd, u, none⟩ (.bool true)) (by omega) hv1.2.2.1 hv1.2.2.2 hi1 hB2 (HAV.out.set u (.bool true)) (HD.out.set u))
                have hw1 : IntKind.i64.wrap (-y) = -y := IntWalk.i64_in _ ⟨by omega, by omega⟩
                have hw2 : IntKind.i64.wrap (-y - 1) = u := by rw [hu]; exact IntWalk.i64_in _ ⟨by omega, by omega⟩
                have hq := HQ.out
                clear e1 hu hMT hTu hSw hmy hv1 hDu hi1 hB2
                go_wp2_with fail
                refine HCALL.out.mono ?_
                rintro e w3 ⟨hB3, ⟨rfl, hr3⟩ | ⟨rfl, D3, cs3, hA3, hD3, hF3⟩⟩
                · have HR : Hid (Reach (mR T) t v) := hid (.step _ _ y t1 HMEM.out hy0 HMY.out hr3)
                  clear hr3 hw1 hw2
                  go_wp2
                  go_ret
                  exact ⟨hB3, Or.inl ⟨rfl, HR.out⟩⟩
                · have HA3 := hid hA3
                  have HD3 := hid hD3
                  have HF3 := hid hF3
                  have hle := cntD_le hF3.1
                  clear hA3 hD3 hF3 hw1 hw2
                  go_wp2
                  go_roundw
                  case rel => exact ⟨i + 1, D3, cs3, by omega, by go_num, HA3.out, HD3.out, by rw [HTK.out, HY.out]; exact HF.out.into hy0 HU.out HNE.out HMY.out HF3.out, by omega, hB3⟩
                  case measure => simp [intOf]; omega
      · have HE : Hid (DfsD (mR T) v D t D') := hid (by
          have := HF.out
          rwa [List.take_of_length_le (by omega)] at this)
        go_wp2
        go_ret
        exact ⟨hB, Or.inr ⟨rfl, D', cs', HAV.out, HD.out, HE.out⟩⟩
def SolOK (s : Sg) (m : MM) (a b : List Int) (m' : MM) : Prop := MOK s m' ∧ (∀ σ, TS s σ → (Sol m' σ ↔ Sol m σ ∧ subL σ a = subL σ b)) ∧ (m' = m ∨ ub m' < ub m)
def SolNo (s : Sg) (m : MM) (a b : List Int) : Prop := ∀ σ, TS s σ → Sol m σ → subL σ a ≠ subL σ b
theorem SolOK.swap {s : Sg} {m m' : MM} {a b : List Int} (h : SolOK s m a b m') : SolOK s m b a m' :=
  ⟨h.1, fun σ hσ => (h.2.1 σ hσ).trans ⟨fun ⟨x, y⟩ => ⟨x, y.symm⟩, fun ⟨x, y⟩ => ⟨x, y.symm⟩⟩, h.2.2⟩
theorem SolNo.swap {s : Sg} {m : MM} {a b : List Int} (h : SolNo s m a b) : SolNo s m b a := fun σ h1 h2 e => h σ h1 h2 e.symm
theorem SolOK.looked {s : Sg} {m m' : MM} {a b p q : List Int} (hp : Lk s m a p) (hq : Lk s m b q) (h : SolOK s m p q m') : SolOK s m a b m' :=
  ⟨h.1, fun σ hσ => (h.2.1 σ hσ).trans ⟨fun ⟨x, y⟩ => ⟨x, by rw [hp.sub σ x, hq.sub σ x] at y; exact y⟩, fun ⟨x, y⟩ => ⟨x, by rw [hp.sub σ x, hq.sub σ x]; exact y⟩⟩, h.2.2⟩
theorem SolNo.looked {s : Sg} {m : MM} {a b p q : List Int} (hp : Lk s m a p) (hq : Lk s m b q) (h : SolNo s m p q) : SolNo s m a b := fun σ h1 h2 e => h σ h1 h2 (by rw [hp.sub σ h2, hq.sub σ h2]; exact e)
theorem SolOK.same {s : Sg} {m : MM} (h : MOK s m) (p : List Int) : SolOK s m p p m := ⟨h, fun σ _ => by simp, Or.inl rfl⟩
theorem SolOK.bind {s : Sg} {m : MM} (h : MOK s m) {v : Int} {q : List Int} (h1 : -24 ≤ v) (h2 : v < 0) (hm : m v = none) (hq : IsT s 24 q) (hl : q.length ≤ 60) (H : ¬ Reach m q v) : SolOK s m [v] q (updM m v q) :=
  ⟨h.bind h1 h2 hq hl H, fun σ _ => by rw [sol_upd hm, subL_one, if_pos h2], Or.inr (ub_upd hm h1 h2)⟩
theorem SolNo.occurs {s : Sg} {m : MM} (h : MOK s m) {v : Int} {q : List Int} (h2 : v < 0) (hm : m v = none) (hq : IsT s 24 q) (hqv : ∀ w, w < 0 → q.head? = some w → w ≠ v ∧ m w = none) (H : Reach m q v) : SolNo s m [v] q := by
  intro σ hσ hs e
  rw [subL_one, if_pos h2] at e
  cases q with
  | nil => exact absurd rfl hq.nonempty
  | cons c q =>
    by_cases hc : c < 0
    · obtain ⟨g1, g2⟩ := hqv c hc rfl
      obtain ⟨hr, _⟩ := hq.head_var hc
      subst hr
      cases H with
      | here _ _ k1 k2 => simp at k1; exact g1 k1.symm
      | step _ _ n p k1 k2 k3 k4 => simp at k1; subst k1; rw [g2] at k3; cases k3
    · exact occurs_no h hm (by omega) hq H hσ hs e
theorem SolNo.clash {s : Sg} {m : MM} {c c' : Int} {p q : List Int} (h1 : 0 ≤ c) (h2 : 0 ≤ c') (h : c ≠ c') : SolNo s m (c :: p) (c' :: q) := by
  intro σ _ _ e
  rw [subL_cons_app _ h1, subL_cons_app _ h2] at e
  exact h (List.cons.inj e).1
/-- after so many arguments. -/
def SolArgs (s : Sg) (m : MM) (xs ys : List (List Int)) (k : Nat) (m' : MM) : Prop := MOK s m' ∧ (∀ σ, TS s σ → (Sol m' σ ↔ Sol m σ ∧ ∀ r ∈ (xs.zip ys).take k, subL σ r.1 = subL σ r.2)) ∧ (m' = m ∨ ub m' < ub m)
theorem SolArgs.zero {s : Sg} {m : MM} (h : MOK s m) (xs ys : List (List Int)) : SolArgs s m xs ys 0 m := ⟨h, fun σ _ => by simp, Or.inl rfl⟩
theorem SolArgs.next {s : Sg} {m m1 m2 : MM} {xs ys : List (List Int)} {k : Nat} (h : SolArgs s m xs ys k m1) (hx : k < xs.length) (hy : k < ys.length) (g : SolOK s m1 xs[k] ys[k] m2) : SolArgs s m xs ys (k + 1) m2 := by
  have hk : k < (xs.zip ys).length := by simp; omega
  refine ⟨g.1, fun σ hσ => ?_, ?_⟩
  · rw [g.2.1 σ hσ, h.2.1 σ hσ, List.take_succ_eq_append_getElem hk]
    constructor
    · rintro ⟨⟨a, b⟩, c⟩
      refine ⟨a, fun r hr => ?_⟩
      rcases List.mem_append.1 hr with hr | hr
      · exact b r hr
      · simp at hr; subst hr; exact c
    · rintro ⟨a, b⟩
      exact ⟨⟨a, fun r hr => b r (by simp [hr])⟩, by simpa using b _ (List.mem_append.2 (Or.inr (List.mem_singleton.2 rfl)))⟩
  · rcases g.2.2 with rfl | h2
    · exact h.2.2
    · rcases h.2.2 with rfl | h3
      · exact Or.inr h2
      · exact Or.inr (by omega)
theorem SolArgs.no {s : Sg} {m m1 : MM} {c : Nat} {xs ys : List (List Int)} {k : Nat} (h : SolArgs s m xs ys k m1) (hl : xs.length = ys.length) (hx : ∀ a ∈ xs, IsT s 24 a) (hy : ∀ a ∈ ys, IsT s 24 a) (hkx : k < xs.length) (hky : k < ys.length) (g : SolNo s m1 xs[k] ys[k]) : SolNo s m ((c : Int) :: xs.flatten) ((c : Int) :: ys.flatten) := by
  intro σ hσ hs e
  obtain ⟨w, hw⟩ := id hσ
  rw [subL_node, subL_node] at e
  have e2 := app_unique (s := s) (m := w) (fun z hz => by obtain ⟨u, hu, rfl⟩ := List.mem_map.1 hz; exact subL_T hw (hx u hu)) (fun z hz => by obtain ⟨u, hu, rfl⟩ := List.mem_map.1 hz; exact subL_T hw (hy u hu)) (by simpa using hl) e
  have hall := (map_zip_eq (subL σ) (subL σ) xs ys hl).2 e2
  have hk : k < (xs.zip ys).length := by simp; omega
  refine g σ hσ ((h.2.1 σ hσ).2 ⟨hs, fun r hr => hall r (List.mem_of_mem_take hr)⟩) ?_
  have := hall _ (List.getElem_mem hk)
  simpa using this
theorem SolArgs.done {s : Sg} {m m1 : MM} {c : Nat} {xs ys : List (List Int)} (h : SolArgs s m xs ys xs.length m1) (hl : xs.length = ys.length) (hx : ∀ a ∈ xs, IsT s 24 a) (hy : ∀ a ∈ ys, IsT s 24 a) : SolOK s m ((c : Int) :: xs.flatten) ((c : Int) :: ys.flatten) m1 := by
  refine ⟨h.1, fun σ hσ => ?_, h.2.2⟩
  rw [h.2.1 σ hσ, subL_node, subL_node]
  obtain ⟨w, hw⟩ := hσ
  rw [List.take_of_length_le (by simp; omega), map_zip_eq (subL σ) (subL σ) xs ys hl]
  constructor
  · rintro ⟨a, b⟩; exact ⟨a, by rw [b]⟩
  · rintro ⟨a, b⟩
    exact ⟨a, app_unique (s := s) (m := w) (fun z hz => by obtain ⟨u, hu, rfl⟩ := List.mem_map.1 hz; exact subL_T hw (hx u hu)) (fun z hz => by obtain ⟨u, hu, rfl⟩ := List.mem_map.1 hz; exact subL_T hw (hy u hu)) (by simpa using hl) b⟩
theorem SolOK.mgu {s : Sg} {a b : List Int} {m : MM} (h : SolOK s noM a b m) : Mgu s a b m :=
  ⟨h.1, fun σ hσ => by rw [h.2.1 σ hσ]; simp [Sol, noM]⟩
theorem SolNo.nou {s : Sg} {a b : List Int} (h : SolNo s noM a b) : NoU s a b := fun σ hσ => h σ hσ (fun _ _ h => by cases h)
theorem fw_arg {m : MM} {c : Nat} {xs : List (List Int)} {k : Nat} (hk : k < xs.length) : (fw m xs[k]).length < (fw m ((c : Int) :: xs.flatten)).length := by
  rw [fw_app _ (by omega), List.length_cons]
  have : xs.flatten = (xs.take k).flatten ++ (xs[k] ++ (xs.drop (k + 1)).flatten) := by
    conv => lhs; rw [← List.take_append_drop k xs, List.flatten_append, List.drop_eq_getElem_cons hk, List.flatten_cons]
  rw [this, fw_append, fw_append, List.length_append, List.length_append]
  omega
def meas1 (m : MM) (a : List Int) : Nat := ub m * BIG + (fw m a).length
theorem meas1_arg {s : Sg} {m m1 : MM} {a : List Int} {c : Nat} {xs ys : List (List Int)} {k : Nat} (hp : Lk s m a ((c : Int) :: xs.flatten)) (h : SolArgs s m xs ys k m1) (hk : k < xs.length) (hl : xs[k].length ≤ 60) : meas1 m1 xs[k] < meas1 m a := by
  unfold meas1
  rcases h.2.2 with rfl | h2
  · rw [← hp.fwe]
    have := fw_arg (m := m1) (c := c) hk
    omega
  · have h3 := fw_len h.1 hl
    have h4 : (60 : Nat) ^ 26 < BIG := by decide
    have h5 : (ub m1 + 1) * BIG ≤ ub m * BIG := Nat.mul_le_mul_right _ h2
    rw [Nat.add_mul, Nat.one_mul] at h5
    omega
end Go.Proofs.YtmpjaakkjhmpmaaGreatDoor
namespace Go.Proofs.YtmpjaakkjhmpmaaGreatDoor
open Go Go.RowKit Go.Maps
theorem boo_zero : Boo #[.bool false, .bool false, .bool false, .bool false, .bool false, .bool false, .bool false, .bool false, .bool false, .bool false, .bool false, .bool false, .bool false, .bool false, .bool false, .bool false, .bool false, .bool false, .bool false, .bool false, .bool false, .bool false, .bool false, .bool false] (fun _ => false) := by
  refine ⟨rfl, fun v hv => ?_⟩
  show ((List.replicate 24 (Value.bool false)).toArray)[v]? = _
  rw [List.getElem?_toArray, List.getElem?_replicate, if_pos hv]
theorem RSol.keepI {w w' : World} {px : Nat} {vs : Value} {s : Sg} {T : TT} (h : RSol w px vs s T) (hg : w.grownBy w' (some px)) {v : Value} {l : List Int} (hx : Ints w v l) : Ints w' v l := h.arr.keepInts rfl hg hx
theorem RSol.set {w : World} {px : Nat} {vs : Value} {s : Sg} {T : TT} (h : RSol w px vs s T) {v : Nat} (hv : v < 24) {x : Addr} {n c : Nat} {l : List Int} (hu : Ints w (.slice (some x) n c) l) :
    RSol (w.setCell ⟨px, 1 + v, none⟩ (.slice (some x) n c)) px vs s (fun y => if y = v then some (.slice (some x) n c, l) else T y) ∧ w.grownBy (w.setCell ⟨px, 1 + v, none⟩ (.slice (some x) n c)) (some px) := by
  have hset := h.arr.set hv hu
  refine ⟨⟨?_, hset.1, h.arr.keepSign rfl hset.2 h.sgn, fun y hy => ?_⟩, hset.2⟩
  · rw [World.cell?_setCell_other]
    · exact h.c0
    · intro e; simp at e
  · rw [if_neg (by omega)]; exact h.out y hy
theorem T_lt24r {s : Sg} {t : List Int} (h : IsT s 24 t) : ∀ z ∈ t, z < s.length := by
  intro z hz
  rcases h.range z hz with h | h <;> omega
def SolvePost (s : Sg) (px : Nat) (vs : Value) (T : TT) (a b : List Int) (w : World) (e : Ending) (w' : World) : Prop :=
  ∃ T', RSol w' px vs s T' ∧ w.grownBy w' (some px) ∧ ((e = .returned (.bool true) ∧ SolOK s (mR T) a b (mR T')) ∨ (e = .returned (.bool false) ∧ SolNo s (mR T) a b))
theorem SolvePost.bool {s : Sg} {px : Nat} {vs : Value} {T : TT} {a b : List Int} {w : World} {e : Ending} {w' : World} (h : SolvePost s px vs T a b w e w') : ∃ (z : Bool) (T' : TT), e = .returned (.bool z) ∧ RSol w' px vs s T' ∧ w.grownBy w' (some px) ∧ (z = true → SolOK s (mR T) a b (mR T')) ∧ (z = false → SolNo s (mR T) a b) := by
  obtain ⟨T', h1, h2, ⟨rfl, h4⟩ | ⟨rfl, h4⟩⟩ := h
  · exact ⟨true, T', rfl, h1, h2, fun _ => h4, fun h => by cases h⟩
  · exact ⟨false, T', rfl, h1, h2, fun h => (by cases h), fun _ => h4⟩
set_option maxHeartbeats 4000000 in
set_option maxRecDepth 100000 in
/-- the first is a variable that is not bound. -/
theorem ref2_SolveV (px : Nat) (vs va vb : Value) (s : Sg) (T : TT) (a b : List Int) (w : World) (hS : RSol w px vs s T) (hm : MOK s (mR T)) (hT : IsT s 24 a) (hU : IsT s 24 b) (hla : a.length ≤ 60) (hlb : b.length ≤ 60) (ra : Ints w va a) (rb : Ints w vb b)
    (hhd : ∀ y, (lookT (MT T) 25 (va, a)).2.head? = some y → y < 0) :
    Calls Tryz.prog 196 #[.pointer (some ⟨px, 0, none⟩), va, vb] w (SolvePost s px vs T a b w) := by
  have HLX := hid (ref2_look px vs va s T a w hS hm ra hT)
  have HLY := hid (fun n => ref2_look px vs vb s T b (w.drewN n) (hS.below (below_self_drewN w n)) hm (rb.drewN n) hU)
  obtain ⟨r, hr, hr24⟩ := hm.rank
  rw [← mOf_MT] at hr
  have hm' : MOK s (mOf (MT T)) := by rw [mOf_MT]; exact hm
  obtain ⟨x1, x2, x3⟩ := lookT_ok hS.its hm' hr 25 va a ra hT hla (fun z _ _ => by have := hr24 z; omega)
  obtain ⟨y1, y2, y3⟩ := lookT_ok hS.its hm' hr 25 vb b rb hU hlb (fun z _ _ => by have := hr24 z; omega)
  obtain ⟨⟨vp, tp⟩, hP⟩ : ∃ z, lookT (MT T) 25 (va, a) = z := ⟨_, rfl⟩
  obtain ⟨⟨vq, tq⟩, hQ⟩ : ∃ z, lookT (MT T) 25 (vb, b) = z := ⟨_, rfl⟩
  rw [hP] at x1 x2 x3 HLX hhd
  rw [hQ] at y1 y2 y3 HLY
  rw [mOf_MT] at x2 x3 y2 y3
  simp only at x1 x2 x3 y1 y2 y3 hhd
  obtain ⟨cp, rp, rfl⟩ : ∃ c r, tp = c :: r := by
    cases tp with
    | nil => exact absurd rfl x2.T.nonempty
    | cons c r => exact ⟨c, r, rfl⟩
  obtain ⟨cq, rq, rfl⟩ : ∃ c r, tq = c :: r := by
    cases tq with
    | nil => exact absurd rfl y2.T.nonempty
    | cons c r => exact ⟨c, r, rfl⟩
  have hp0 : cp < 0 := hhd cp rfl
  obtain ⟨hrp0, hv24⟩ := x2.T.head_var hp0
  subst hrp0
  obtain ⟨pa, pc, hpe, p1, p2, -, PC⟩ := x1.open
  obtain ⟨qa, qc, hqe, q1, q2, -, QC⟩ := y1.open
  subst hpe hqe
  obtain ⟨pb, po, rfl, hcp⟩ := PC 0 (by simp)
  obtain ⟨qb, qo, rfl, hcq⟩ := QC 0 (by simp)
  simp only [Nat.add_zero, List.getElem_cons_zero] at hcp hcq
  obtain ⟨v, hv⟩ := Int.eq_ofNat_of_zero_le (show 0 ≤ -cp - 1 by omega)
  have hv24' : v < 24 := by omega
  have hvb1 : (0 : Int) ≤ (v : Int) := by omega
  have hvb2 : (v : Int) < 24 := by omega
  have hmv := x3 cp rfl hp0
  have hql : (cq :: rq).length ≤ 60 := y2.len
  have HX1 := hid x1
  have HX2 := hid x2
  have HY1 := hid y1
  have HY2 := hid y2
  have HY3 := hid (y3 cq rfl)
  have HS := hid hS
  have HM := hid hm
  have dp : decide (cp < 0) = true := by simpa using hp0
  have HMV := hid hmv
  have HV := hid hv
  clear hP hQ PC QC hr hr24 x1 x2 x3 y1 y2 y3 hS hm hm' hhd ra rb hT hU hmv
  by_cases hpq : cp = cq
  · subst hpq
    obtain ⟨hrq0, -⟩ := HY2.out.T.head_var hp0
    subst hrq0
    have dpq : (cp == cp) = true := by simp
    have HEND : Hid (SolOK s (mR T) a b (mR T)) := hid ((SolOK.same HM.out [cp]).looked HX2.out HY2.out)
    go_enter Tryz.func196, Tryz.ntmps196
    go_wp2_with fail
    refine HLX.out.mono ?_
    rintro e w1 ⟨rfl, n1, rfl⟩
    go_wp2_with fail
    refine (HLY.out _).mono ?_
    rintro e w2 ⟨rfl, n2, rfl⟩
    go_wp2_with fail
    go_quiet (fail)
    go_wp2_with fail
    go_ret
    exact ⟨T, HS.out.below (below_drewN (below_self_drewN w _) _), grown_of_below (below_drewN (below_self_drewN w _) _), Or.inl ⟨rfl, HEND.out⟩⟩
  · have dpq : (cq == cp) = false := by simp; omega
    have HOC := hid (fun (hr : Reach (mR T) (cq :: rq) cp) => ((SolNo.occurs HM.out hp0 HMV.out HY2.out.T (fun z hz hh => by simp at hh; subst hh; exact ⟨fun e => hpq e.symm, HY3.out hz⟩) hr).looked HX2.out HY2.out : SolNo s (mR T) a b))
    have HBI := hid (fun (hr : ¬ Reach (mR T) (cq :: rq) cp) => ((SolOK.bind HM.out hv24 hp0 HMV.out HY2.out.T HY2.out.len hr).looked HX2.out HY2.out : SolOK s (mR T) a b _))
    have hwr1 : IntKind.i64.wrap (-cp) = -cp := IntWalk.i64_in _ ⟨by omega, by omega⟩
    have hwr2 : IntKind.i64.wrap (-cp - 1) = v := by rw [hv]; exact IntWalk.i64_in _ ⟨by omega, by omega⟩
    have HW1 := hid hwr1
    have HW2 := hid hwr2
    clear hpq hwr1 hwr2 hv
    go_enter Tryz.func196, Tryz.ntmps196
    go_wp2_with fail
    refine HLX.out.mono ?_
    rintro e w1 ⟨rfl, n1, rfl⟩
    go_wp2_with fail
    refine (HLY.out _).mono ?_
    rintro e w2 ⟨rfl, n2, rfl⟩
    go_wp2_with fail
    go_quiet (fail)
    have hwr1 := HW1.out
    have hwr2 := HW2.out
    have hcpA : ∀ n o, ((w.drewN n).alloc o).cell? ⟨pb, po, none⟩ = some (.int .i64 cp) := fun n o => cell_alloc_keep o hcp
    go_wp2_with fail
    clear hwr1 hwr2
    have hbA : ∀ n o, Below w.heap.size w ((w.drewN n).alloc o) := fun n o => (below_self_drewN w n).alloc (by simp) o
    have hAV : ∀ n, ArrV ((w.drewN n).alloc (.cells #[.bool false, .bool false, .bool false, .bool false, .bool false, .bool false, .bool false, .bool false, .bool false, .bool false, .bool false, .bool false, .bool false, .bool false, .bool false, .bool false, .bool false, .bool false, .bool false, .bool false, .bool false, .bool false, .bool false, .bool false] 230)) w.heap.size #[.bool false, .bool false, .bool false, .bool false, .bool false, .bool false, .bool false, .bool false, .bool false, .bool false, .bool false, .bool false, .bool false, .bool false, .bool false, .bool false, .bool false, .bool false, .bool false, .bool false, .bool false, .bool false, .bool false, .bool false] := fun n => ⟨_, (MapKept.heap_alloc (w.drewN n) _).1⟩
    refine Calls.mono (ref2_occurs px w.heap.size vs s T cp v hp0 HV.out (by omega) w HS.out HM.out (Nat.le_refl _) (cntD (fun _ => false) + 1) (fun _ => false) (cq :: rq) _ _ _ (by omega) HY2.out.T HY2.out.len HY1.out (hbA _ _) (hAV _) boo_zero) ?_
    clear hcpA hbA hAV
    rintro e w3 ⟨hB3, ⟨rfl, hr⟩ | ⟨rfl, D', cs', -, -, hF⟩⟩
    · have HEND := hid (HOC.out hr)
      have HB3 := hid hB3
      clear hr hB3
      go_wp2
      go_ret
      exact ⟨T, HS.out.below HB3.out, grown_of_below HB3.out, Or.inr ⟨rfl, HEND.out⟩⟩
    · have HEND := hid (HBI.out hF.no)
      have hS3 := (HS.out.below hB3).below (below_self_drewN w3 1)
      have hc3 := (hB3.cell (World.block_lt_of_cell? _ _ hcp)).trans hcp
      have hcl := hS3.arr.cell hv24'
      have hfr := hS3.arr.frozen (1 + v)
      have hset := hS3.set hv24' ((HY1.out.below hB3).below (below_self_drewN w3 1))
      have hc5 : ((w3.drewN 1).setCell ⟨px, 1 + v, none⟩ (.slice (some ⟨qb, qo, none⟩) (cq :: rq).length qc)).cell? ⟨pb, po, none⟩ = some (.int .i64 cp) := hS3.arr.keep rfl hset.2 hc3 (fun x n c h => by cases h)
      have hc5' : (w3.drew.setCell ⟨px, 1 + v, none⟩ (.slice (some ⟨qb, qo, none⟩) (rq.length + 1) qc)).cell? ⟨pb, po, none⟩ = some (.int .i64 cp) := hc5
      have hcl' : w3.drew.cell? ⟨px, 1 + v, none⟩ = some (sV (T v)) := hcl
      have hfr' : w3.drew.frozen? ⟨px, 1 + v, none⟩ = false := hfr
      have hclw : w3.cell? ⟨px, 1 + v, none⟩ = some (sV (T v)) := hcl
      have hfrw : w3.frozen? ⟨px, 1 + v, none⟩ = false := hfr
      have HSET := hid hset
      have HMR := hid (mR_set T hp0 HV.out (.slice (some ⟨qb, qo, none⟩) (cq :: rq).length qc) (cq :: rq))
      have HG3 := hid ((grown_of_below (hB3.trans ((below_self_drewN w3 1).mono hB3.size)) : w.grownBy (w3.drewN 1) (some px)))
      have hwr1 := HW1.out
      have hwr2 := HW2.out
      clear hF hB3 hS3 hcl hfr hset hc5
      go_wp2_with fail
      go_region_held3 (fun w' => w'.cell? ⟨pb, po, none⟩ = some (.int .i64 cp)) (first | assumption | go_keep) (fail)
      clear hwr1 hwr2
      go_wp2
      go_ret
      exact ⟨_, HSET.out.1, grown_trans HG3.out HSET.out.2, Or.inl ⟨rfl, by rw [HMR.out]; exact HEND.out⟩⟩
set_option maxHeartbeats 8000000 in
set_option maxRecDepth 100000 in
theorem ref2_Solve (px : Nat) (vs : Value) (s : Sg) (hsg : signB s = true) : ∀ (N : Nat) (a b : List Int) (va vb : Value) (T : TT) (w : World), meas1 (mR T) a < N → RSol w px vs s T → MOK s (mR T) → IsT s 24 a → IsT s 24 b → a.length ≤ 60 → b.length ≤ 60 → Ints w va a → Ints w vb b →
    Calls Tryz.prog 196 #[.pointer (some ⟨px, 0, none⟩), va, vb] w (SolvePost s px vs T a b w) := by
  intro N
  induction N with
  | zero => intro a b va vb T w h; omega
  | succ N ih =>
    intro a b va vb T w hN hS hm hT hU hla hlb ra rb
    by_cases hvar : ∀ y, (lookT (MT T) 25 (va, a)).2.head? = some y → y < 0
    · exact ref2_SolveV px vs va vb s T a b w hS hm hT hU hla hlb ra rb hvar
    have HLX := hid (ref2_look px vs va s T a w hS hm ra hT)
    have HLY := hid (fun n => ref2_look px vs vb s T b (w.drewN n) (hS.below (below_self_drewN w n)) hm (rb.drewN n) hU)
    obtain ⟨r, hr, hr24⟩ := hm.rank
    rw [← mOf_MT] at hr
    have hm' : MOK s (mOf (MT T)) := by rw [mOf_MT]; exact hm
    obtain ⟨x1, x2, x3⟩ := lookT_ok hS.its hm' hr 25 va a ra hT hla (fun z _ _ => by have := hr24 z; omega)
    obtain ⟨y1, y2, y3⟩ := lookT_ok hS.its hm' hr 25 vb b rb hU hlb (fun z _ _ => by have := hr24 z; omega)
    obtain ⟨⟨vp, tp⟩, hP⟩ : ∃ z, lookT (MT T) 25 (va, a) = z := ⟨_, rfl⟩
    obtain ⟨⟨vq, tq⟩, hQ⟩ : ∃ z, lookT (MT T) 25 (vb, b) = z := ⟨_, rfl⟩
    rw [hP] at x1 x2 x3 HLX
    rw [hQ] at y1 y2 y3 HLY
    rw [mOf_MT] at x2 x3 y2 y3
    simp only at x1 x2 x3 y1 y2 y3
    obtain ⟨cp, rp, rfl⟩ : ∃ c r, tp = c :: r := by
      cases tp with
      | nil => exact absurd rfl x2.T.nonempty
      | cons c r => exact ⟨c, r, rfl⟩
    obtain ⟨cq, rq, rfl⟩ : ∃ c r, tq = c :: r := by
      cases tq with
      | nil => exact absurd rfl y2.T.nonempty
      | cons c r => exact ⟨c, r, rfl⟩
    rw [hP] at hvar
    have hp0 : ¬ cp < 0 := fun h => hvar (fun y hy => by simp at hy; omega)
    have hp0' : 0 ≤ cp := by omega
    obtain ⟨pa, pc, hpe, p1, p2, -, PC⟩ := x1.open
    obtain ⟨qa, qc, hqe, q1, q2, -, QC⟩ := y1.open
    subst hpe hqe
    obtain ⟨pb, po, rfl, hcp⟩ := PC 0 (by simp)
    obtain ⟨qb, qo, rfl, hcq⟩ := QC 0 (by simp)
    simp only [Nat.add_zero, List.getElem_cons_zero] at hcp hcq
    have hpl : (cp :: rp).length ≤ 60 := x2.len
    have hql : (cq :: rq).length ≤ 60 := y2.len
    have hsl := signB_len hsg
    have hpr := x2.T.range cp (by simp)
    have HX1 := hid x1
    have HX2 := hid x2
    have HY1 := hid y1
    have HY2 := hid y2
    have HY3 := hid (y3 cq rfl)
    have HS := hid hS
    have HM := hid hm
    have dp : decide (cp < 0) = false := by simpa using hp0'
    have IH := hid ih
    have HN := hid hN
    have HSG := hid hsg
    clear hP hQ PC QC hr hr24 x1 x2 x3 y1 y2 y3 hS hm hm' hvar ra rb hT hU ih hN
    by_cases hq0 : cq < 0
    · have dq : decide (cq < 0) = true := by simpa using hq0
      obtain ⟨hrq0, hq24⟩ := HY2.out.T.head_var hq0
      subst hrq0
      have hMTq : MT T cq = none := by
        have h := HY3.out hq0
        rw [← mOf_MT] at h
        simpa [mOf] using h
      have HV := hid (fun n => ref2_SolveV px vs _ _ s T [cq] (cp :: rp) (w.drewN n) (HS.out.below (below_self_drewN w n)) HM.out HY2.out.T HX2.out.T HY2.out.len HX2.out.len (HY1.out.drewN n) (HX1.out.drewN n) (fun y hy => by rw [lookT_none _ hMTq] at hy; simp at hy; omega))
      have HFIN := hid (fun (n : Nat) (e : Ending) (w' : World) (h : SolvePost s px vs T [cq] (cp :: rp) (w.drewN n) e w') => (show SolvePost s px vs T a b w e w' from by
        obtain ⟨T', h1, h2, h3⟩ := h
        refine ⟨T', h1, grown_trans (grown_of_below (below_self_drewN w n)) h2, ?_⟩
        rcases h3 with ⟨h3, h4⟩ | ⟨h3, h4⟩
        · exact Or.inl ⟨h3, h4.swap.looked HX2.out HY2.out⟩
        · exact Or.inr ⟨h3, h4.swap.looked HX2.out HY2.out⟩))
      clear hMTq
      go_enter Tryz.func196, Tryz.ntmps196
      go_wp2_with fail
      refine HLX.out.mono ?_
      rintro e w1 ⟨rfl, n1, rfl⟩
      go_wp2_with fail
      refine (HLY.out _).mono ?_
      rintro e w2 ⟨rfl, n2, rfl⟩
      go_wp2_with fail
      go_quiet (fail)
      go_wp2_with fail
      refine (HV.out _).mono ?_
      intro e w3 hpost
      have hpost2 := HFIN.out _ _ _ hpost
      obtain ⟨T', h1, h2, ⟨rfl, h4⟩ | ⟨rfl, h4⟩⟩ := hpost2
      · have H1 := hid h1
        have H2 := hid h2
        have H4 := hid h4
        clear hpost h1 h2 h4
        go_wp2
        go_ret
        exact ⟨T', H1.out, H2.out, Or.inl ⟨rfl, H4.out⟩⟩
      · have H1 := hid h1
        have H2 := hid h2
        have H4 := hid h4
        clear hpost h1 h2 h4
        go_wp2
        go_ret
        exact ⟨T', H1.out, H2.out, Or.inr ⟨rfl, H4.out⟩⟩
    · have hq0' : 0 ≤ cq := by omega
      have dq : decide (cq < 0) = false := by simpa using hq0'
      by_cases hpq : cp = cq
      · subst hpq
        have b4 : (cp != cp) = false := by simp
        obtain ⟨c, xs, hc1, hrp, hcs, hxl, hxT⟩ := HX2.out.T.head_app hp0'
        obtain ⟨c', ys, hc2, hrq, _, hyl, hyT⟩ := HY2.out.T.head_app hp0'
        have hcc : c' = c := by omega
        subst hcc
        subst hc1
        have hlxy : xs.length = ys.length := by omega
        have har := signB_ar' HSG.out c'
        have hxl3 : xs.length ≤ 3 := by omega
        have hdx : (((c' : Int) :: rp).drop 0) = (c' : Int) :: xs.flatten ++ [] := by simp [hrp]
        have hdy : (((c' : Int) :: rq).drop 0) = (c' : Int) :: ys.flatten ++ [] := by simp [hrq]
        obtain ⟨sa, sc, hse, -⟩ := HS.out.sgn.open
        have hargx : ∀ (X : World), Below w.heap.size w X → Calls Tryz.prog 165 #[vs, .slice (some ⟨pb, po, none⟩) (rp.length + 1) pc, .int .i64 0] X fun e w' => ∃ u, e = .returned u ∧ w'.ownsRow X.heap.size 3 1 u (startL 0 xs xs.length).length ((startL 0 xs xs.length).map (Value.int .i64)) ∧ Below w.heap.size w w' :=
          fun X hX => Calls.mono (ref1_Arguments vs _ s 24 _ [] c' xs 0 X (HS.out.sgn.below hX) (HX1.out.below hX) hcs hxl hxT hdx (T_lt24r HX2.out.T) (by omega)) (fun e w' ⟨u, h1, h2, h3⟩ => ⟨u, h1, h2, hX.trans (h3.mono hX.size)⟩)
        have hargy : ∀ (X : World), Below w.heap.size w X → Calls Tryz.prog 165 #[vs, .slice (some ⟨qb, qo, none⟩) (rq.length + 1) qc, .int .i64 0] X fun e w' => ∃ u, e = .returned u ∧ w'.ownsRow X.heap.size 3 1 u (startL 0 ys ys.length).length ((startL 0 ys ys.length).map (Value.int .i64)) ∧ Below X.heap.size X w' :=
          fun X hX => ref1_Arguments vs _ s 24 _ [] c' ys 0 X (HS.out.sgn.below hX) (HY1.out.below hX) hcs hyl hyT hdy (T_lt24r HY2.out.T) (by omega)
        have hpx := fun k (hk : k < xs.length) => drop_part hdx hk
        have hpy := fun k (hk : k < ys.length) => drop_part hdy hk
        have HARGX := hid hargx
        have HARGY := hid hargy
        have HPX := hid hpx
        have HPY := hid hpy
        have HXT := hid hxT
        have HYT := hid hyT
        have HLXY := hid hlxy
        have HRP := hid hrp
        have HRQ := hid hrq
        have hc0 := HS.out.c0
        have hi0 : (0 : Int) ≤ (c' : Int) := by omega
        subst hse
        clear hxl hyl hxT hyT hlxy hdx hdy hargx hargy hpx hpy hrp hrq har hc2 dp dq hq0 hq0' hp0 hp0'
        have dp : decide ((c' : Int) < 0) = false := by simp
        go_enter Tryz.func196, Tryz.ntmps196
        go_wp2_with fail
        refine HLX.out.mono ?_
        rintro e w1 ⟨rfl, n1, rfl⟩
        go_wp2_with fail
        refine (HLY.out _).mono ?_
        rintro e w2 ⟨rfl, n2, rfl⟩
        go_wp2_with fail
        go_quiet (fail)
        go_wp2_with fail
        go_quiet (fail)
        go_wp2_with fail
        have hBd : ∀ n, Below w.heap.size w (w.drewN n) := fun n => below_self_drewN w n
        go_region_held3 (fun w' => w'.cell? ⟨px, 0, none⟩ = some (.slice sa s.length sc)) (first | assumption | go_keep)
          (first
            | (go_at_call 165; with_reducible refine (HARGX.out _ (hBd _)).mono ?_; rintro e w3 ⟨ux, rfl, ox, hb3⟩; have d3 := (hb3.cell (World.block_lt_of_cell? _ _ hc0)).trans hc0)
            | (go_at_call 165; with_reducible refine (HARGY.out _ hb3).mono ?_; rintro e w4 ⟨uy, rfl, oy, hb4'⟩; have hb4 := hb3.trans (hb4'.mono hb3.size); have d4 := (hb4.cell (World.block_lt_of_cell? _ _ hc0)).trans hc0))
        have hla := startL_len 0 xs xs.length
        have hlb := startL_len 0 ys ys.length
        have iux : Ints w4 ux (startL 0 xs xs.length) := (Ints.of_owns ox (by omega)).below hb4'
        have iuy : Ints w4 uy (startL 0 ys ys.length) := Ints.of_owns oy (by rw [hlb]; have := HLXY.out; omega)
        obtain ⟨xa, xcap, hxe, -⟩ := iux.open
        subst hxe
        obtain ⟨ya, ycap, hye, -⟩ := iuy.open
        subst hye
        rw [hla] at iux
        rw [hlb] at iuy
        have HIX := hid iux
        have HIY := hid iuy
        have HB4 := hid hb4
        have HS4 := hid (HS.out.below hb4)
        rw [hla, hlb]
        clear iux iuy ox oy hb4' hb3 hb4 d3 d4 hla hlb HARGX HARGY hcp hcq
        go_wp2_with fail
        go_loopg [10] xs.length (fun k2 kv wr => ∃ (k : Nat) (T' : TT), k ≤ xs.length ∧ k2 = xs.length - k ∧ kv = .int .i64 k ∧ RSol wr px (.slice sa s.length sc) s T' ∧ SolArgs s (mR T) xs ys k (mR T') ∧ w4.grownBy wr (some px))
        case atStart => exact ⟨0, T, by omega, by omega, rfl, HS4.out, SolArgs.zero HM.out xs ys, World.grownBy.refl _ _⟩
        case round =>
          obtain ⟨k, T', hk, rfl, rfl, hSr, hA, hg⟩ := hrel
          have hgw : w.grownBy wr (some px) := grown_trans (grown_of_below HB4.out) hg
          by_cases hlt : k < xs.length
          · have hlty : k < ys.length := by have := HLXY.out; omega
            obtain ⟨_, _, hxe2, -, -, -, IXC⟩ := (HS4.out.keepI hg HIX.out).open
            obtain ⟨_, _, hye2, -, -, -, IYC⟩ := (HS4.out.keepI hg HIY.out).open
            have hkx : k < (startL 0 xs xs.length).length := by rw [startL_len]; exact hlt
            have hky : k < (startL 0 ys ys.length).length := by rw [startL_len]; exact hlty
            obtain ⟨xb, xo, hxa, hcx⟩ := IXC k hkx
            obtain ⟨yb, yo, hya, hcy⟩ := IYC k hky
            simp only [Value.slice.injEq] at hxe2 hye2
            rw [← hxe2.1] at hxa
            rw [← hye2.1] at hya
            subst hxa hya
            rw [startL_get 0 xs hlt hkx] at hcx
            rw [startL_get 0 ys hlty hky] at hcy
            have hdx := HPX.out k hlt
            have hdy := HPY.out k hlty
            obtain ⟨I, hI⟩ : ∃ x, 0 + 1 + (xs.take k).flatten.length = x := ⟨_, rfl⟩
            obtain ⟨J, hJ⟩ : ∃ x, 0 + 1 + (ys.take k).flatten.length = x := ⟨_, rfl⟩
            rw [hI] at hcx hdx
            rw [hJ] at hcy hdy
            have hzk := HXT.out xs[k] (List.getElem_mem hlt)
            have huk := HYT.out ys[k] (List.getElem_mem hlty)
            have hzl := congrArg List.length hdx
            have hul := congrArg List.length hdy
            rw [List.length_drop, List.length_append] at hzl hul
            have hz0 := hzk.ne
            have hu0 := huk.ne
            have hc0r := hSr.c0
            have HPAX := hid (show ∀ (X : World), Below wr.heap.size wr X → Calls Tryz.prog 164 #[.slice sa s.length sc, .slice (some ⟨pb, po, none⟩) (rp.length + 1) pc, .int .i64 I] X fun e w' => ∃ u, e = .returned u ∧ w'.ownsRow X.heap.size 3 1 u xs[k].length (xs[k].map (Value.int .i64)) ∧ Below X.heap.size X w' from fun X hX => ref1_Part _ _ s 24 ((c' : Int) :: rp) xs[k] _ I X (hSr.sgn.below hX) ((HS.out.keepI hgw HX1.out).below hX) hzk hdx (T_lt24r HX2.out.T) (by omega) (by omega))
            have HPAY := hid (show ∀ (X : World), Below wr.heap.size wr X → Calls Tryz.prog 164 #[.slice sa s.length sc, .slice (some ⟨qb, qo, none⟩) (rq.length + 1) qc, .int .i64 J] X fun e w' => ∃ u, e = .returned u ∧ w'.ownsRow X.heap.size 3 1 u ys[k].length (ys[k].map (Value.int .i64)) ∧ Below X.heap.size X w' from fun X hX => ref1_Part _ _ s 24 ((c' : Int) :: rq) ys[k] _ J X (hSr.sgn.below hX) ((HS.out.keepI hgw HY1.out).below hX) huk hdy (T_lt24r HY2.out.T) (by omega) (by omega))
            have hmeas : meas1 (mR T') xs[k] < N := by
              have h1 := meas1_arg (by rw [← HRP.out]; exact HX2.out) hA hlt (by omega)
              have h2 := HN.out
              omega
            have HIH := hid (fun (X : World) (u1 u2 : Value) (hX : RSol X px (.slice sa s.length sc) s T') (r1 : Ints X u1 xs[k]) (r2 : Ints X u2 ys[k]) => IH.out xs[k] ys[k] u1 u2 T' X hmeas hX hA.1 hzk huk (by omega) (by omega) r1 r2)
            have HNEXT := hid (fun m2 (h : SolOK s (mR T') xs[k] ys[k] m2) => hA.next hlt hlty h)
            have HNO := hid (fun (h : SolNo s (mR T') xs[k] ys[k]) => ((by rw [HRP.out, HRQ.out] ; exact SolArgs.no hA HLXY.out HXT.out HYT.out hlt hlty h : SolNo s (mR T) ((c' : Int) :: rp) ((c' : Int) :: rq)).looked HX2.out HY2.out))
            have hzl60 : xs[k].length ≤ 60 := by omega
            have hul60 : ys[k].length ≤ 60 := by omega
            have HSR := hid hSr
            have hkb1 : (0 : Int) ≤ (k : Int) := by omega
            have hkb2 : (k : Int) < (xs.length : Int) := by omega
            have hkb3 : (k : Int) < (ys.length : Int) := by omega
            clear hzk huk hdx hdy hzl hul hA hSr IXC IYC hkx hky hxe2 hye2 hmeas hI hJ
            go_wp2_with fail
            go_region_held3 (fun w' => w'.cell? ⟨px, 0, none⟩ = some (.slice sa s.length sc) ∧ w'.cell? ⟨xb, xo + k, none⟩ = some (.int .i64 I) ∧ w'.cell? ⟨yb, yo + k, none⟩ = some (.int .i64 J)) (first | exact ⟨by assumption, by assumption, by assumption⟩ | go_keep)
              (first
                | (go_at_call 164; with_reducible refine (HPAX.out _ (by first | exact (Below.refl _ _).drew)).mono ?_; rintro e w5 ⟨ux, rfl, ox, hb5'⟩; have hb5 : Below wr.heap.size wr w5 := (Below.refl wr.heap.size wr).drew.trans (hb5'.mono (by simp)); have d1 := (hb5.cell (World.block_lt_of_cell? _ _ hc0r)).trans hc0r; have d2 := (hb5.cell (World.block_lt_of_cell? _ _ hcx)).trans hcx; have d3 := (hb5.cell (World.block_lt_of_cell? _ _ hcy)).trans hcy)
                | (go_at_call 164; with_reducible refine (HPAY.out _ (by first | exact hb5)).mono ?_; rintro e w6 ⟨uy, rfl, oy, hb6'⟩; have hb6 := hb5.trans (hb6'.mono hb5.size); have d1 := (hb6.cell (World.block_lt_of_cell? _ _ hc0r)).trans hc0r; have d2 := (hb6.cell (World.block_lt_of_cell? _ _ hcx)).trans hcx; have d3 := (hb6.cell (World.block_lt_of_cell? _ _ hcy)).trans hcy)
                | (go_at_call 196; refine (HIH.out _ _ _ (HSR.out.below hb6) ((Ints.of_owns ox (by omega)).below hb6') (Ints.of_owns oy (by omega))).mono ?_; intro e w7 hpost; obtain ⟨z, T7, hz7, hS7, hg7, hok, hno⟩ := hpost.bool; subst hz7; have e1 := hS7.c0; have e2 := (HSR.out.below hb6).arr.keep rfl hg7 d2 (fun x n c h => by cases h); have e3 := (HSR.out.below hb6).arr.keep rfl hg7 d3 (fun x n c h => by cases h)))
            have HG7 := hid (grown_trans hg (grown_trans (grown_of_below hb6) hg7))
            have HS7 := hid hS7
            have HOK := hid hok
            have HNO2 := hid hno
            clear hpost hg7 hS7 hok hno d1 d2 d3 e1 e2 e3 hb5 hb6 hb5' hb6' ox oy
            cases z with
            | true =>
              have HA2 := hid (HNEXT.out _ (HOK.out rfl))
              go_wp2
              go_roundg (xs.length - (k + 1))
              case measure => omega
              case rel => exact ⟨k + 1, T7, by omega, rfl, by go_num, HS7.out, HA2.out, HG7.out⟩
            | false =>
              have HEND := hid (HNO.out (HNO2.out rfl))
              go_wp2
              go_ret
              exact ⟨T7, HS7.out, grown_trans (grown_of_below HB4.out) HG7.out, Or.inr ⟨rfl, HEND.out⟩⟩
          · have hkx : k = xs.length := by omega
            have HEND : Hid (SolOK s (mR T) a b (mR T')) := hid (by
              rw [hkx] at hA
              have := hA.done (c := c') HLXY.out HXT.out HYT.out
              rw [← HRP.out, ← HRQ.out] at this
              exact this.looked HX2.out HY2.out)
            have HSR := hid hSr
            clear hA hkx hSr
            go_wp2
            go_ret
            exact ⟨T', HSR.out, hgw, Or.inl ⟨rfl, HEND.out⟩⟩
      · have b4 : (cp != cq) = true := by simpa using hpq
        have HEND : Hid (SolNo s (mR T) a b) := hid ((SolNo.clash hp0' hq0' hpq).looked HX2.out HY2.out)
        go_enter Tryz.func196, Tryz.ntmps196
        go_wp2_with fail
        refine HLX.out.mono ?_
        rintro e w1 ⟨rfl, n1, rfl⟩
        go_wp2_with fail
        refine (HLY.out _).mono ?_
        rintro e w2 ⟨rfl, n2, rfl⟩
        go_wp2_with fail
        go_quiet (fail)
        go_wp2_with fail
        go_quiet (fail)
        go_wp2_with fail
        go_ret
        exact ⟨T, HS.out.below (below_drewN (below_self_drewN w _) _), grown_of_below (below_drewN (below_self_drewN w _) _), Or.inr ⟨rfl, HEND.out⟩⟩
end Go.Proofs.YtmpjaakkjhmpmaaGreatDoor
