/-
  WHAT IT HOLDS: contracts of look and occurs of the reference's solver (layer 2). Conditions: the solver reads as data (RSol); the parts are terms.
-/
import Derived.WalkSpells
import Derived.Test.YtmpjaakkjhmpmaaGreatDoorZRShortLemmas17
import Derived.Test.YtmpjaakkjhmpmaaGreatDoorZRShortLemmas12
import Derived.Test.YtmpjaakkjhmpmaaGreatDoorZRShortLemmas9
import Derived.Test.YtmpjaakkjhmpmaaGreatDoorZRShortLemmas10
namespace Go.Proofs.YtmpjaakkjhmpmaaGreatDoor
open Go Go.RowKit Go.Maps
/-- the reference's solver in memory: its sign in cell 0, then what 24 variables become. -/
structure RSol (w : World) (px : Nat) (vs : Value) (s : Sg) (T : TT) : Prop where
  c0 : w.cell? ⟨px, 0, none⟩ = some vs
  arr : ArrT w px 1 24 T
  sgn : SignAt w vs s
  out : ∀ v, 24 ≤ v → T v = none
theorem RSol.below {w w' : World} {px : Nat} {vs : Value} {s : Sg} {T : TT} (h : RSol w px vs s T) (hb : Below w.heap.size w w') : RSol w' px vs s T :=
  ⟨(hb.cell (World.block_lt_of_cell? _ _ h.c0)).trans h.c0, h.arr.below hb, h.sgn.below hb, h.out⟩
def MT (T : TT) : Int → Option VT := fun n => if n < 0 then T (-n - 1).toNat else none
theorem MT_at (T : TT) {n : Int} (hn : n < 0) {v : Nat} (hv : -n - 1 = v) : MT T n = T v := by
  unfold MT
  rw [if_pos hn, hv, Int.toNat_natCast]
theorem mOf_MT (T : TT) : mOf (MT T) = mR T := by
  funext n
  unfold mOf MT mR
  by_cases h : n < 0
  · simp [h]
  · simp [h]
theorem RSol.its {w : World} {px : Nat} {vs : Value} {s : Sg} {T : TT} (h : RSol w px vs s T) : ∀ x v l, MT T x = some (v, l) → Ints w v l := by
  intro x v l hx
  unfold MT at hx
  split at hx
  · by_cases h24 : (-x - 1).toNat < 24
    · exact (h.arr.ints h24 hx).2
    · rw [h.out _ (by omega)] at hx; cases hx
  · cases hx
set_option maxHeartbeats 400000 in
set_option maxRecDepth 100000 in
theorem ref2_look (px : Nat) (vs vt : Value) (s : Sg) (T : TT) (t : List Int) (w : World) (hS : RSol w px vs s T) (hm : MOK s (mR T)) (ht : Ints w vt t) (hT : IsT s 24 t) :
    Calls Tryz.prog 218 #[.pointer (some ⟨px, 0, none⟩), vt] w fun e w' => e = .returned (lookT (MT T) 25 (vt, t)).1 ∧ ∃ n, w' = w.drewN n := by
  obtain ⟨r, hr, hr24⟩ := hm.rank
  have HMV := hid hm.val
  have HR := hid hr
  have HR24 := hid hr24
  have HTT := hid hT
  have HI := hid hS.its
  have HA := hid hS.arr
  have hq := fun (w : World) (a : Option Addr) (n c n' c' : Nat) => run_neq_slice_nil_any (P := Tryz.prog) w _ _ a n c n' c' Tryz.underlying34
  have HQ := hid hq
  clear hm hr hr24 hT hS hq
  go_enter Tryz.func218, Tryz.ntmps218
  go_wp2
  go_loopg [1] 25 (fun k tv wr => ∃ (q : Nat) (v' : Value) (t' : List Int), tv = v' ∧ wr = w.drewN q ∧ Ints w v' t' ∧ IsT s 24 t' ∧ (lookT (MT T) k (v', t')).1 = (lookT (MT T) 25 (vt, t)).1 ∧ ∀ x ∈ t', x < 0 → r x < k)
  case atStart => exact ⟨0, vt, t, rfl, rfl, ht, HTT.out, rfl, fun x _ _ => by have := HR24.out x; omega⟩
  case round =>
    obtain ⟨q, v', t', rfl, rfl, hi, hT, he, hk⟩ := hrel
    have HIT := hid hi
    obtain ⟨ta, tc, rfl, ht1, ht2, -, TC⟩ := hi.open
    cases t' with
    | nil => exact absurd rfl hT.nonempty
    | cons y rr =>
      obtain ⟨tb, to, rfl, cy⟩ := TC 0 (by simp)
      simp only [Nat.add_zero, List.getElem_cons_zero] at cy
      have HE := hid he
      have HT := hid hT
      have HK := hid hk
      clear TC he hT hk hi
      by_cases hy : y < 0
      · obtain ⟨hr0, h24⟩ := HT.out.head_var hy
        subst hr0
        have hk1 := HK.out y (by simp) hy
        obtain ⟨k', rfl⟩ : ∃ k', gk = k' + 1 := ⟨gk - 1, by omega⟩
        obtain ⟨v, hv⟩ := Int.eq_ofNat_of_zero_le (show 0 ≤ -y - 1 by omega)
        have hv24 : v < 24 := by omega
        have hb1 : (0 : Int) ≤ (v : Int) := by omega
        have hb2 : (v : Int) < 24 := by omega
        have hcl := HA.out.cell hv24
        have hMT := MT_at T hy hv
        have hd : decide (y < 0) = true := by simpa using hy
        cases hTv : T v with
        | none =>
          rw [hTv] at hcl hMT
          have hs0 : sV none = .slice none 0 0 := rfl
          rw [hs0] at hcl
          have HEND : Hid ((lookT (MT T) 25 (vt, t)).1 = .slice (some ⟨tb, to, none⟩) 1 tc) := hid (by rw [← HE.out, lookT_none _ hMT]; rfl)
          have hw1 : IntKind.i64.wrap (-y) = -y := IntWalk.i64_in _ ⟨by omega, by omega⟩
          have hw2 : IntKind.i64.wrap (-y - 1) = v := by rw [hv]; exact IntWalk.i64_in _ ⟨by omega, by omega⟩
          have hq := HQ.out
          clear hMT hTv hv
          go_wp2
          go_quiet (fail)
          go_wp2
          go_ret
          exact ⟨congrArg Ending.returned HEND.out.symm, _, (by first | rfl | exact World.drewN_drewN _ _ _)⟩
        | some u =>
          obtain ⟨v1, t1⟩ := u
          obtain ⟨⟨x0, n0, c0, rfl⟩, hi0⟩ := HA.out.ints hv24 hTv
          rw [hTv] at hcl hMT
          have hs0 : sV (some (.slice (some x0) n0 c0, t1)) = .slice (some x0) n0 c0 := rfl
          rw [hs0] at hcl
          have hmy : mR T y = some t1 := by rw [← mOf_MT]; simp [mOf, hMT]
          have HV := hid (HMV.out y t1 hmy)
          have HE2 : Hid ((lookT (MT T) k' (.slice (some x0) n0 c0, t1)).1 = (lookT (MT T) 25 (vt, t)).1) := hid (by rw [← HE.out, lookT_some _ hy hMT])
          have HK2 : Hid (∀ x ∈ t1, x < 0 → r x < k') := hid (fun x hx hx0 => by have := HR.out y t1 hmy x hx hx0; omega)
          have HI1 := hid hi0
          have hw1 : IntKind.i64.wrap (-y) = -y := IntWalk.i64_in _ ⟨by omega, by omega⟩
          have hw2 : IntKind.i64.wrap (-y - 1) = v := by rw [hv]; exact IntWalk.i64_in _ ⟨by omega, by omega⟩
          have hq := HQ.out
          clear hMT hTv hmy hv hi0
          go_wp2
          go_quiet (fail)
          go_wp2
          go_quiet (fail)
          go_wp2
          clear hw1 hw2
          go_roundg k'
          case measure => omega
          case rel => exact ⟨_, _, t1, rfl, by rw [World.drewN_drewN, World.drewN_drewN], HI1.out, HV.out.2.2.1, HE2.out, HK2.out⟩
      · have HEND : Hid ((lookT (MT T) 25 (vt, t)).1 = .slice (some ⟨tb, to, none⟩) (rr.length + 1) tc) := hid (by rw [← HE.out, lookT_sym _ (by omega)]; rfl)
        have hd : decide (y < 0) = false := by simpa using hy
        go_wp2
        go_quiet (fail)
        go_wp2
        go_ret
        exact ⟨congrArg Ending.returned HEND.out.symm, _, (by first | rfl | exact World.drewN_drewN _ _ _)⟩
/-- a block of n cells that the call owns whole. -/
def ArrV (w : World) (pd : Nat) (cs : Array Value) : Prop := ∃ ty, w.heap[pd]? = some (.cells cs ty (0, 0))
theorem ArrV.cell {w : World} {pd : Nat} {cs : Array Value} (h : ArrV w pd cs) (i : Nat) : w.cell? ⟨pd, i, none⟩ = cs[i]? := by
  obtain ⟨ty, h⟩ := h
  exact cell_of_row w pd i cs ty (0, 0) h
theorem ArrV.frozen {w : World} {pd : Nat} {cs : Array Value} (h : ArrV w pd cs) (i : Nat) : w.frozen? ⟨pd, i, none⟩ = false := by
  obtain ⟨ty, h⟩ := h
  exact frozen_of_row w pd i cs ty h
theorem ArrV.set {w : World} {pd : Nat} {cs : Array Value} (h : ArrV w pd cs) (i : Nat) (u : Value) : ArrV (w.setCell ⟨pd, i, none⟩ u) pd (cs.setIfInBounds i u) := by
  obtain ⟨ty, h⟩ := h
  exact ⟨ty, heap_setCell_same w pd i cs ty u h⟩
theorem ArrV.drewN {w : World} {pd : Nat} {cs : Array Value} (h : ArrV w pd cs) (n : Nat) : ArrV (w.drewN n) pd cs := h
theorem ArrV.below {w w' : World} {pd : Nat} {cs : Array Value} (h : ArrV w pd cs) (hb : Below w.heap.size w w') : ArrV w' pd cs := by
  obtain ⟨ty, h⟩ := h
  exact ⟨ty, by rw [hb.block pd (Array.getElem?_eq_some_iff.1 h).1]; exact h⟩
/-- which variables were looked into. -/
def Boo (cs : Array Value) (D : Nat → Bool) : Prop := cs.size = 24 ∧ ∀ v, v < 24 → cs[v]? = some (.bool (D v))
theorem Boo.set {cs : Array Value} {D : Nat → Bool} (h : Boo cs D) (v : Nat) : Boo (cs.setIfInBounds v (.bool true)) (fun x => if x = v then true else D x) := by
  refine ⟨by simpa using h.1, fun x hx => ?_⟩
  rw [Array.getElem?_setIfInBounds]
  by_cases e : v = x
  · subst e; simp [h.1, hx]
  · rw [if_neg e, h.2 x hx]
    show some (Value.bool (D x)) = some (Value.bool (if x = v then true else D x))
    rw [if_neg (Ne.symm e)]
def cntD (D : Nat → Bool) : Nat := ((List.range 24).filter fun i => !D i).length
theorem cntD_set {D : Nat → Bool} {v : Nat} (h1 : v < 24) (h2 : D v = false) : cntD (fun x => if x = v then true else D x) < cntD D := by
  refine filter_lt _ _ _ (fun i _ hi => ?_) ⟨v, List.mem_range.2 h1, ?_, ?_⟩
  · by_cases e : i = v <;> simp [e] at hi ⊢; exact hi
  · simp
  · simp [h2]
theorem cntD_le {D D' : Nat → Bool} (h : ∀ v, D v = true → D' v = true) : cntD D' ≤ cntD D :=
  filter_le _ _ _ fun i _ hi => by
    cases hd : D i
    · rfl
    · rw [h i hd] at hi; simp at hi
def inD (D : Nat → Bool) (x : Int) : Prop := D (-x - 1).toNat = true
def DfsD (m : MM) (v : Int) (D : Nat → Bool) (t : List Int) (D' : Nat → Bool) : Prop := (∀ x, D x = true → D' x = true) ∧ v ∉ t ∧ (∀ x ∈ t, x < 0 → (m x).isSome = true → inD D' x) ∧ ∀ n : Int, n < 0 → inD D' n → ¬ inD D n → ∀ p, m n = some p → v ∉ p ∧ ∀ x ∈ p, x < 0 → (m x).isSome = true → inD D' x
theorem DfsD.nil (m : MM) (v : Int) (D : Nat → Bool) : DfsD m v D [] D := ⟨fun _ h => h, by simp, by simp, fun n _ h h' => absurd h h'⟩
theorem DfsD.skip {m : MM} {v : Int} {D D' : Nat → Bool} {t : List Int} {n : Int} (h : DfsD m v D t D') (h1 : n ≠ v) (h2 : n < 0 → (m n).isSome = true → inD D' n) : DfsD m v D (t ++ [n]) D' := by
  refine ⟨h.1, ?_, fun x hx hx0 hs => ?_, h.2.2.2⟩
  · simp only [List.mem_append, List.mem_singleton, not_or]; exact ⟨h.2.1, fun e => h1 e.symm⟩
  · rcases List.mem_append.1 hx with hx | hx
    · exact h.2.2.1 x hx hx0 hs
    · simp at hx; subst hx; exact h2 hx0 hs
theorem DfsD.into {m : MM} {v : Int} {D D' D2 : Nat → Bool} {t p : List Int} {n : Int} {a : Nat} (hn : n < 0) (ha : -n - 1 = a) (h : DfsD m v D t D') (h1 : n ≠ v) (h2 : m n = some p) (k : DfsD m v (fun x => if x = a then true else D' x) p D2) : DfsD m v D (t ++ [n]) D2 := by
  have hD : ∀ x, D' x = true → D2 x = true := fun x hx => k.1 x (by simp only; split <;> simp [hx])
  have hn2 : inD D2 n := by unfold inD; rw [ha, Int.toNat_natCast]; exact k.1 a (by simp)
  refine ⟨fun x hx => hD x (h.1 x hx), ?_, fun x hx hx0 hs => ?_, fun x hx0 hx hxS q hq => ?_⟩
  · simp only [List.mem_append, List.mem_singleton, not_or]; exact ⟨h.2.1, fun e => h1 e.symm⟩
  · rcases List.mem_append.1 hx with hx | hx
    · exact hD _ (h.2.2.1 x hx hx0 hs)
    · simp at hx; subst hx; exact hn2
  · by_cases e : x = n
    · subst e
      rw [h2] at hq
      cases hq
      exact ⟨k.2.1, k.2.2.1⟩
    · by_cases hx' : inD D' x
      · have := h.2.2.2 x hx0 hx' hxS q hq
        exact ⟨this.1, fun y hy hy0 hs => hD _ (this.2 y hy hy0 hs)⟩
      · refine k.2.2.2 x hx0 hx ?_ q hq
        unfold inD at hx' ⊢
        simp only [show ¬ (-x - 1).toNat = a by omega, if_false]; exact hx'
theorem DfsD.no {m : MM} {v : Int} {t : List Int} {D' : Nat → Bool} (h : DfsD m v (fun _ => false) t D') : ¬ Reach m t v := by
  intro H
  obtain ⟨_, h2, h3, h4⟩ := h
  induction H with
  | here t v g1 g2 => exact h2 g1
  | step t v n p g1 g2 g3 g4 ih =>
    have := h4 n g2 (h3 n g1 g2 (by rw [g3]; rfl)) (by unfold inD; simp) p g3
    exact ih this.1 this.2 h4
set_option maxHeartbeats 1000000 in
set_option maxRecDepth 100000 in
theorem ref2_occurs (px pd : Nat) (vs : Value) (s : Sg) (T : TT) (v : Int) (a0 : Nat) (hv : v < 0) (hva : -v - 1 = a0) (ha0 : a0 ≤ 1000) (w0 : World) (hS : RSol w0 px vs s T) (hm : MOK s (mR T)) (hpd : w0.heap.size ≤ pd) : ∀ (k : Nat) (D : Nat → Bool) (t : List Int) (vt : Value) (cs : Array Value) (w : World),
    cntD D < k → IsT s 24 t → t.length ≤ 60 → Ints w0 vt t → Below w0.heap.size w0 w → ArrV w pd cs → Boo cs D →
    Calls Tryz.prog 219 #[.pointer (some ⟨px, 0, none⟩), .int .i64 a0, vt, .pointer (some ⟨pd, 0, none⟩)] w
      fun e w' => Below w0.heap.size w0 w' ∧ ((e = .returned (.bool true) ∧ Reach (mR T) t v) ∨ (e = .returned (.bool false) ∧ ∃ D' cs', ArrV w' pd cs' ∧ Boo cs' D' ∧ DfsD (mR T) v D t D')) := by
  intro k
  induction k with
  | zero => intro D t vt cs w hc; omega
  | succ k ih =>
    intro D t vt cs w hc hT hl ra hB hA hD
    obtain ⟨ta, tc, rfl, ht1, ht2, -, TC⟩ := ra.open
    have HT := hid hT
    have HTC := hid TC
    have HMV := hid hm.val
    have HS := hid hS
    have HA0 := hid hA
    have HD0 := hid hD
    have HB0 := hid hB
    have IH := hid ih
    have hq := fun (w : World) (a : Option Addr) (n c n' c' : Nat) => run_neq_slice_nil_any (P := Tryz.prog) w _ _ a n c n' c' Tryz.underlying34
    have HQ := hid hq
    clear hT TC ra hm hS hA hD hB ih hq
    go_enter Tryz.func219, Tryz.ntmps219
    go_wp2
    go_loopw [9] (fun iv wr => ∃ (i : Nat) (D' : Nat → Bool) (cs' : Array Value), i ≤ t.length ∧ iv = .int .i64 i ∧ ArrV wr pd cs' ∧ Boo cs' D' ∧ DfsD (mR T) v D (t.take i) D' ∧ cntD D' < k + 1 ∧ Below w0.heap.size w0 wr) (fun iv _ => t.length - (intOf iv).toNat)
    case atStart => exact ⟨0, D, cs, by omega, rfl, HA0.out, HD0.out, .nil _ _ _, hc, HB0.out⟩
    case round =>
      clear HA0 HD0 HB0
      obtain ⟨i, D', cs', hi, rfl, hA, hD, hF, hc', hB⟩ := hrel
      have HF := hid hF
      have HD := hid hD
      have HAV := hid hA
      clear hF hD hA
      by_cases hlt : i < t.length
      · obtain ⟨tb, to, rfl, cy0⟩ := HTC.out i hlt
        have cy := (hB.cell (World.block_lt_of_cell? _ _ cy0)).trans cy0
        have HTK := hid (List.take_succ_eq_append_getElem hlt)
        have hmem := List.getElem_mem hlt
        obtain ⟨y, hy⟩ : ∃ y, t[i] = y := ⟨_, rfl⟩
        rw [hy] at cy hmem
        have hrng := HT.out.range y hmem
        have HMEM := hid hmem
        have HY := hid hy
        clear cy0 hy hmem
        by_cases e2 : 0 ≤ y
        · have b2 : decide (y ≥ 0) = true := by simpa using e2
          go_wp2
          go_roundw
          case rel => exact ⟨i + 1, D', cs', by omega, by go_num, HAV.out, HD.out, by rw [HTK.out, HY.out]; exact HF.out.skip (by omega) (fun h => by omega), hc', hB⟩
          case measure => simp [intOf]; omega
        · have b2 : decide (y ≥ 0) = false := by simpa using e2
          have hy0 : y < 0 := by omega
          obtain ⟨u, hu⟩ := Int.eq_ofNat_of_zero_le (show 0 ≤ -y - 1 by omega)
          have hu24 : u < 24 := by omega
          have hub1 : (0 : Int) ≤ (u : Int) := by omega
          have hub2 : (u : Int) < 24 := by omega
          have hSw := HS.out.below hB
          have hcl := hSw.arr.cell hu24
          have hdl := HAV.out.cell u
          rw [HD.out.2 u hu24] at hdl
          have hdf := HAV.out.frozen u
          have hMT := MT_at T hy0 hu
          clear hrng
          by_cases e1 : u = a0
          · have hyv : y = v := by omega
            have b1 : ((u : Int) == (a0 : Int)) = true := by simp [e1]
            have HR : Hid (Reach (mR T) t v) := hid (.here _ _ (hyv ▸ HMEM.out) hv)
            have hw1 : IntKind.i64.wrap (-y) = -y := IntWalk.i64_in _ ⟨by omega, by omega⟩
            have hw2 : IntKind.i64.wrap (-y - 1) = u := by rw [hu]; exact IntWalk.i64_in _ ⟨by omega, by omega⟩
            clear hyv e1 hu hMT
            go_wp2
            go_ret
            exact ⟨hB, Or.inl ⟨rfl, HR.out⟩⟩
          · have b1 : ((u : Int) == (a0 : Int)) = false := by simp; omega
            have HNE : Hid (y ≠ v) := hid (by omega)
            have HU := hid hu
            cases hTu : T u with
            | none =>
              rw [hTu] at hcl hMT
              have hs0 : sV none = .slice none 0 0 := rfl
              rw [hs0] at hcl
              have HMY : Hid (mR T y = none) := hid (by rw [← mOf_MT]; simp [mOf, hMT])
              have hw1 : IntKind.i64.wrap (-y) = -y := IntWalk.i64_in _ ⟨by omega, by omega⟩
              have hw2 : IntKind.i64.wrap (-y - 1) = u := by rw [hu]; exact IntWalk.i64_in _ ⟨by omega, by omega⟩
              have hq := HQ.out
              clear e1 hu hMT hTu hSw
              go_wp2
              clear hw1 hw2
              go_roundw
              case rel => exact ⟨i + 1, D', cs', by omega, by go_num, HAV.out, HD.out, by rw [HTK.out, HY.out]; exact HF.out.skip HNE.out (fun _ h => by rw [HMY.out] at h; cases h), hc', hB⟩
              case measure => simp [intOf]; omega
            | some ul =>
              obtain ⟨v1, t1⟩ := ul
              obtain ⟨⟨x0, n0, c0, rfl⟩, -⟩ := hSw.arr.ints hu24 hTu
              have hi1 := (HS.out.arr.ints hu24 hTu).2
              rw [hTu] at hcl hMT
              have hs0 : sV (some (.slice (some x0) n0 c0, t1)) = .slice (some x0) n0 c0 := rfl
              rw [hs0] at hcl
              have hmy : mR T y = some t1 := by rw [← mOf_MT]; simp [mOf, hMT]
              have HMY := hid hmy
              have hv1 := HMV.out y t1 hmy
              cases hDu : D' u with
              | true =>
                rw [hDu] at hdl
                have HIN : Hid (inD D' y) := hid (by unfold inD; rw [hu, Int.toNat_natCast]; exact hDu)
                have hw1 : IntKind.i64.wrap (-y) = -y := IntWalk.i64_in _ ⟨by omega, by omega⟩
                have hw2 : IntKind.i64.wrap (-y - 1) = u := by rw [hu]; exact IntWalk.i64_in _ ⟨by omega, by omega⟩
                have hq := HQ.out
                clear e1 hu hMT hTu hSw hmy hv1 hDu
                go_wp2
                clear hw1 hw2
                go_roundw
                case rel => exact ⟨i + 1, D', cs', by omega, by go_num, HAV.out, HD.out, by rw [HTK.out, HY.out]; exact HF.out.skip HNE.out (fun _ _ => HIN.out), hc', hB⟩
                case measure => simp [intOf]; omega
              | false =>
                rw [hDu] at hdl
                have hcd := cntD_set hu24 hDu
                have hB2 : Below w0.heap.size w0 (wr.setCell ⟨pd, u, none⟩ (.bool true)) := hB.setCell (p := ⟨pd, u, none⟩) hpd _
                have hcl2 := (HS.out.below hB2).arr.cell hu24
                rw [hTu, hs0] at hcl2
                have HCALL := hid (IH.out (fun x => if x = u then true else D' x) t1 (.slice (some x0) n0 c0) _ (wr.setCell ⟨pd, u, none⟩ (.bool true)) (by omega) hv1.2.2.1 hv1.2.2.2 hi1 hB2 (HAV.out.set u (.bool true)) (HD.out.set u))
                have hw1 : IntKind.i64.wrap (-y) = -y := IntWalk.i64_in _ ⟨by omega, by omega⟩
                have hw2 : IntKind.i64.wrap (-y - 1) = u := by rw [hu]; exact IntWalk.i64_in _ ⟨by omega, by omega⟩
                have hq := HQ.out
                clear e1 hu hMT hTu hSw hmy hv1 hDu hi1 hB2
                go_wp2_with fail
                refine HCALL.out.mono ?_
                rintro e w3 ⟨hB3, ⟨rfl, hr3⟩ | ⟨rfl, D3, cs3, hA3, hD3, hF3⟩⟩
                · have HR : Hid (Reach (mR T) t v) := hid (.step _ _ y t1 HMEM.out hy0 HMY.out hr3)
                  clear hr3 hw1 hw2
                  go_wp2
                  go_ret
                  exact ⟨hB3, Or.inl ⟨rfl, HR.out⟩⟩
                · have HA3 := hid hA3
                  have HD3 := hid hD3
                  have HF3 := hid hF3
                  have hle := cntD_le hF3.1
                  clear hA3 hD3 hF3 hw1 hw2
                  go_wp2
                  go_roundw
                  case rel => exact ⟨i + 1, D3, cs3, by omega, by go_num, HA3.out, HD3.out, by rw [HTK.out, HY.out]; exact HF.out.into hy0 HU.out HNE.out HMY.out HF3.out, by omega, hB3⟩
                  case measure => simp [intOf]; omega
      · have HE : Hid (DfsD (mR T) v D t D') := hid (by
          have := HF.out
          rwa [List.take_of_length_le (by omega)] at this)
        go_wp2
        go_ret
        exact ⟨hB, Or.inr ⟨rfl, D', cs', HAV.out, HD.out, HE.out⟩⟩
def SolOK (s : Sg) (m : MM) (a b : List Int) (m' : MM) : Prop := MOK s m' ∧ (∀ σ, TS s σ → (Sol m' σ ↔ Sol m σ ∧ subL σ a = subL σ b)) ∧ (m' = m ∨ ub m' < ub m)
def SolNo (s : Sg) (m : MM) (a b : List Int) : Prop := ∀ σ, TS s σ → Sol m σ → subL σ a ≠ subL σ b
theorem SolOK.swap {s : Sg} {m m' : MM} {a b : List Int} (h : SolOK s m a b m') : SolOK s m b a m' :=
  ⟨h.1, fun σ hσ => (h.2.1 σ hσ).trans ⟨fun ⟨x, y⟩ => ⟨x, y.symm⟩, fun ⟨x, y⟩ => ⟨x, y.symm⟩⟩, h.2.2⟩
theorem SolNo.swap {s : Sg} {m : MM} {a b : List Int} (h : SolNo s m a b) : SolNo s m b a := fun σ h1 h2 e => h σ h1 h2 e.symm
theorem SolOK.looked {s : Sg} {m m' : MM} {a b p q : List Int} (hp : Lk s m a p) (hq : Lk s m b q) (h : SolOK s m p q m') : SolOK s m a b m' :=
  ⟨h.1, fun σ hσ => (h.2.1 σ hσ).trans ⟨fun ⟨x, y⟩ => ⟨x, by rw [hp.sub σ x, hq.sub σ x] at y; exact y⟩, fun ⟨x, y⟩ => ⟨x, by rw [hp.sub σ x, hq.sub σ x]; exact y⟩⟩, h.2.2⟩
theorem SolNo.looked {s : Sg} {m : MM} {a b p q : List Int} (hp : Lk s m a p) (hq : Lk s m b q) (h : SolNo s m p q) : SolNo s m a b := fun σ h1 h2 e => h σ h1 h2 (by rw [hp.sub σ h2, hq.sub σ h2]; exact e)
theorem SolOK.same {s : Sg} {m : MM} (h : MOK s m) (p : List Int) : SolOK s m p p m := ⟨h, fun σ _ => by simp, Or.inl rfl⟩
theorem SolOK.bind {s : Sg} {m : MM} (h : MOK s m) {v : Int} {q : List Int} (h1 : -24 ≤ v) (h2 : v < 0) (hm : m v = none) (hq : IsT s 24 q) (hl : q.length ≤ 60) (H : ¬ Reach m q v) : SolOK s m [v] q (updM m v q) :=
  ⟨h.bind h1 h2 hq hl H, fun σ _ => by rw [sol_upd hm, subL_one, if_pos h2], Or.inr (ub_upd hm h1 h2)⟩
theorem SolNo.occurs {s : Sg} {m : MM} (h : MOK s m) {v : Int} {q : List Int} (h2 : v < 0) (hm : m v = none) (hq : IsT s 24 q) (hqv : ∀ w, w < 0 → q.head? = some w → w ≠ v ∧ m w = none) (H : Reach m q v) : SolNo s m [v] q := by
  intro σ hσ hs e
  rw [subL_one, if_pos h2] at e
  cases q with
  | nil => exact absurd rfl hq.nonempty
  | cons c q =>
    by_cases hc : c < 0
    · obtain ⟨g1, g2⟩ := hqv c hc rfl
      obtain ⟨hr, _⟩ := hq.head_var hc
      subst hr
      cases H with
      | here _ _ k1 k2 => simp at k1; exact g1 k1.symm
      | step _ _ n p k1 k2 k3 k4 => simp at k1; subst k1; rw [g2] at k3; cases k3
    · exact occurs_no h hm (by omega) hq H hσ hs e
theorem SolNo.clash {s : Sg} {m : MM} {c c' : Int} {p q : List Int} (h1 : 0 ≤ c) (h2 : 0 ≤ c') (h : c ≠ c') : SolNo s m (c :: p) (c' :: q) := by
  intro σ _ _ e
  rw [subL_cons_app _ h1, subL_cons_app _ h2] at e
  exact h (List.cons.inj e).1
/-- after so many arguments. -/
def SolArgs (s : Sg) (m : MM) (xs ys : List (List Int)) (k : Nat) (m' : MM) : Prop := MOK s m' ∧ (∀ σ, TS s σ → (Sol m' σ ↔ Sol m σ ∧ ∀ r ∈ (xs.zip ys).take k, subL σ r.1 = subL σ r.2)) ∧ (m' = m ∨ ub m' < ub m)
theorem SolArgs.zero {s : Sg} {m : MM} (h : MOK s m) (xs ys : List (List Int)) : SolArgs s m xs ys 0 m := ⟨h, fun σ _ => by simp, Or.inl rfl⟩
theorem SolArgs.next {s : Sg} {m m1 m2 : MM} {xs ys : List (List Int)} {k : Nat} (h : SolArgs s m xs ys k m1) (hx : k < xs.length) (hy : k < ys.length) (g : SolOK s m1 xs[k] ys[k] m2) : SolArgs s m xs ys (k + 1) m2 := by
  have hk : k < (xs.zip ys).length := by simp; omega
  refine ⟨g.1, fun σ hσ => ?_, ?_⟩
  · rw [g.2.1 σ hσ, h.2.1 σ hσ, List.take_succ_eq_append_getElem hk]
    constructor
    · rintro ⟨⟨a, b⟩, c⟩
      refine ⟨a, fun r hr => ?_⟩
      rcases List.mem_append.1 hr with hr | hr
      · exact b r hr
      · simp at hr; subst hr; exact c
    · rintro ⟨a, b⟩
      exact ⟨⟨a, fun r hr => b r (by simp [hr])⟩, by simpa using b _ (List.mem_append.2 (Or.inr (List.mem_singleton.2 rfl)))⟩
  · rcases g.2.2 with rfl | h2
    · exact h.2.2
    · rcases h.2.2 with rfl | h3
      · exact Or.inr h2
      · exact Or.inr (by omega)
theorem SolArgs.no {s : Sg} {m m1 : MM} {c : Nat} {xs ys : List (List Int)} {k : Nat} (h : SolArgs s m xs ys k m1) (hl : xs.length = ys.length) (hx : ∀ a ∈ xs, IsT s 24 a) (hy : ∀ a ∈ ys, IsT s 24 a) (hkx : k < xs.length) (hky : k < ys.length) (g : SolNo s m1 xs[k] ys[k]) : SolNo s m ((c : Int) :: xs.flatten) ((c : Int) :: ys.flatten) := by
  intro σ hσ hs e
  obtain ⟨w, hw⟩ := id hσ
  rw [subL_node, subL_node] at e
  have e2 := app_unique (s := s) (m := w) (fun z hz => by obtain ⟨u, hu, rfl⟩ := List.mem_map.1 hz; exact subL_T hw (hx u hu)) (fun z hz => by obtain ⟨u, hu, rfl⟩ := List.mem_map.1 hz; exact subL_T hw (hy u hu)) (by simpa using hl) e
  have hall := (map_zip_eq (subL σ) (subL σ) xs ys hl).2 e2
  have hk : k < (xs.zip ys).length := by simp; omega
  refine g σ hσ ((h.2.1 σ hσ).2 ⟨hs, fun r hr => hall r (List.mem_of_mem_take hr)⟩) ?_
  have := hall _ (List.getElem_mem hk)
  simpa using this
theorem SolArgs.done {s : Sg} {m m1 : MM} {c : Nat} {xs ys : List (List Int)} (h : SolArgs s m xs ys xs.length m1) (hl : xs.length = ys.length) (hx : ∀ a ∈ xs, IsT s 24 a) (hy : ∀ a ∈ ys, IsT s 24 a) : SolOK s m ((c : Int) :: xs.flatten) ((c : Int) :: ys.flatten) m1 := by
  refine ⟨h.1, fun σ hσ => ?_, h.2.2⟩
  rw [h.2.1 σ hσ, subL_node, subL_node]
  obtain ⟨w, hw⟩ := hσ
  rw [List.take_of_length_le (by simp; omega), map_zip_eq (subL σ) (subL σ) xs ys hl]
  constructor
  · rintro ⟨a, b⟩; exact ⟨a, by rw [b]⟩
  · rintro ⟨a, b⟩
    exact ⟨a, app_unique (s := s) (m := w) (fun z hz => by obtain ⟨u, hu, rfl⟩ := List.mem_map.1 hz; exact subL_T hw (hx u hu)) (fun z hz => by obtain ⟨u, hu, rfl⟩ := List.mem_map.1 hz; exact subL_T hw (hy u hu)) (by simpa using hl) b⟩
theorem SolOK.mgu {s : Sg} {a b : List Int} {m : MM} (h : SolOK s noM a b m) : Mgu s a b m :=
  ⟨h.1, fun σ hσ => by rw [h.2.1 σ hσ]; simp [Sol, noM]⟩
theorem SolNo.nou {s : Sg} {a b : List Int} (h : SolNo s noM a b) : NoU s a b := fun σ hσ => h σ hσ (fun _ _ h => by cases h)
theorem fw_arg {m : MM} {c : Nat} {xs : List (List Int)} {k : Nat} (hk : k < xs.length) : (fw m xs[k]).length < (fw m ((c : Int) :: xs.flatten)).length := by
  rw [fw_app _ (by omega), List.length_cons]
  have : xs.flatten = (xs.take k).flatten ++ (xs[k] ++ (xs.drop (k + 1)).flatten) := by
    conv => lhs; rw [← List.take_append_drop k xs, List.flatten_append, List.drop_eq_getElem_cons hk, List.flatten_cons]
  rw [this, fw_append, fw_append, List.length_append, List.length_append]
  omega
def meas1 (m : MM) (a : List Int) : Nat := ub m * BIG + (fw m a).length
theorem meas1_arg {s : Sg} {m m1 : MM} {a : List Int} {c : Nat} {xs ys : List (List Int)} {k : Nat} (hp : Lk s m a ((c : Int) :: xs.flatten)) (h : SolArgs s m xs ys k m1) (hk : k < xs.length) (hl : xs[k].length ≤ 60) : meas1 m1 xs[k] < meas1 m a := by
  unfold meas1
  rcases h.2.2 with rfl | h2
  · rw [← hp.fwe]
    have := fw_arg (m := m1) (c := c) hk
    omega
  · have h3 := fw_len h.1 hl
    have h4 : (60 : Nat) ^ 26 < BIG := by decide
    have h5 : (ub m1 + 1) * BIG ≤ ub m * BIG := Nat.mul_le_mul_right _ h2
    rw [Nat.add_mul, Nat.one_mul] at h5
    omega
end Go.Proofs.YtmpjaakkjhmpmaaGreatDoor
