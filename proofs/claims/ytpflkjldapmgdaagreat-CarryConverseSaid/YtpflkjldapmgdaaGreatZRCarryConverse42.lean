/-
  WHAT IT HOLDS: contracts of cmp.Compare at strings, of the comparison of Equivalences of package carry, and of slices.SortFunc at pairs of names of the call's own. Conditions: the arguments read as data.
-/
import Derived.Deep.RegionHeld3
import Derived.Laws.Cover1
import Derived.Shelf.SlSortCmp.NoneTotal
import Derived.Test.YtpflkjldapmgdaaGreatZRCarryConverse2
import Derived.Test.YtpflkjldapmgdaaGreatZRCarryConverse41
import Derived.Test.YtpflkjldapmgdaaGreatZRCarryConverse22
import Derived.Test.YtpflkjldapmgdaaGreatZRCarryConverse23
namespace Go.Proofs.YtpflkjldapmgdaaGreat
open Go Go.RowKit Go.Maps
def cpN (x y : Nm) : Int := if ltN x y then -1 else if ltN y x then 1 else 0
def cpP (a b : N2) : Int := orI (cpN a.1 b.1) (cpN a.2 b.2)
theorem cpN_0 {x y : Nm} : cpN x y = 0 ↔ x = y := by
  unfold cpN
  constructor
  · intro h
    rcases ltN.tri x y with k | k | k
    · rw [if_pos k] at h; cases h
    · exact k
    · rw [if_neg k.asym, if_pos k] at h; cases h
  · rintro rfl
    rw [if_neg (ltN.irr _), if_neg (ltN.irr _)]
theorem cpN_lt {x y : Nm} : cpN x y < 0 ↔ ltN x y := by
  unfold cpN
  by_cases h : ltN x y
  · simp [h]
  · by_cases k : ltN y x <;> simp [h, k]
theorem cpP_lt {a b : N2} : cpP a b < 0 ↔ ltP a b := by
  unfold cpP orI ltP
  by_cases h : cpN a.1 b.1 = 0
  · rw [if_neg (by simpa using h), cpN_lt]
    have e := cpN_0.1 h
    constructor
    · intro k; exact Or.inr ⟨e, k⟩
    · rintro (k | ⟨-, k⟩)
      · rw [e] at k; exact absurd k (ltN.irr _)
      · exact k
  · rw [if_pos h, cpN_lt]
    constructor
    · exact Or.inl
    · rintro (k | ⟨k, -⟩)
      · exact k
      · exact absurd (cpN_0.2 k) h
theorem bgtr (x y : Nm) : (Op.bytesLess x.toList y.toList || x.toList == y.toList) = !decide (ltN y x) := by
  rw [bless, bytes_eq]
  rcases ltN.tri x y with k | k | k
  · simp [k, k.asym]
  · subst k; simp [ltN.irr]
  · have hne : x ≠ y := fun e => by subst e; exact ltN.irr _ k
    simp [k, k.asym, hne]
/-- the cells of pairs of names. -/
def pC (L : List N2) : List Value := L.flatMap fun p => [.string p.1, .string p.2]
theorem pC_len (L : List N2) : (pC L).length = L.length * 2 := by
  unfold pC
  induction L with
  | nil => rfl
  | cons p L ih => simp [ih]; omega
theorem pC_append (L M : List N2) : pC (L ++ M) = pC L ++ pC M := by unfold pC; rw [List.flatMap_append]
theorem pC_get : ∀ (L : List N2) (j : Nat) (h : j < L.length), (pC L)[j * 2]? = some (.string L[j].1) ∧ (pC L)[j * 2 + 1]? = some (.string L[j].2)
  | [], j, h => by simp at h
  | p :: L, 0, _ => by simp [pC]
  | p :: L, j + 1, h => by
    have := pC_get L j (by simpa using h)
    simpa [pC, Nat.add_mul, Nat.add_assoc] using this
theorem pC_one (L : List N2) : ∀ u ∈ pC L, u.oneCell' = true := by
  intro u hu
  obtain ⟨p, -, hp⟩ := List.mem_flatMap.1 hu
  simp at hp
  rcases hp with rfl | rfl <;> rfl
def encP (p : N2) : List Value := [.string p.1, .string p.2]
instance : Inhabited N2 := ⟨(ByteArray.empty, ByteArray.empty)⟩
theorem flat_pC (d : Array N2) : (Go.Sort.flatK encP 2 d).toList = pC d.toList := by
  apply List.ext_getElem?
  intro t
  by_cases ht : t < d.size * 2
  · have h1 := Go.Sort.get_flatK encP 2 d t ht
    rw [getElem!_pos _ t (by simpa using ht)] at h1
    rw [Array.getElem?_toList, Array.getElem?_eq_getElem (by simpa using ht), h1]
    have hj : t / 2 < d.size := by omega
    rw [getElem!_pos d _ hj]
    obtain ⟨g0, g1⟩ := pC_get d.toList (t / 2) (by simpa using hj)
    rcases Nat.mod_two_eq_zero_or_one t with e | e
    · rw [e]
      have : t = t / 2 * 2 := by omega
      conv => rhs; rw [this]
      rw [g0]
      simp [encP]
    · rw [e]
      have : t = t / 2 * 2 + 1 := by omega
      conv => rhs; rw [this]
      rw [g1]
      simp [encP]
  · rw [Array.getElem?_toList, Array.getElem?_eq_none (by simp; omega), List.getElem?_eq_none (by rw [pC_len]; simp; omega)]
theorem cmp_isNaNS (x : Nm) (w : World) : Calls Tryz.prog 151 #[.string x] w fun e w' => e = .returned (.bool false) ∧ w = w' := by
  go_enter Tryz.func151, Tryz.ntmps151
  go_wp2
  go_ret
  exact ⟨by simp, rfl⟩
theorem cmp_CompareS (x y : Nm) (w : World) : Calls Tryz.prog 93 #[.string x, .string y] w fun e w' => e = .returned (.int .i64 (cpN x y)) ∧ w = w' := by
  have HX := hid (cmp_isNaNS x w)
  have HY := hid (cmp_isNaNS y w)
  have q1 := bless x y
  have q2 := bgtr x y
  by_cases h1 : ltN x y
  · have HC : Hid (cpN x y = -1) := hid (by unfold cpN; rw [if_pos h1])
    rw [decide_eq_true h1] at q1
    clear q2
    go_enter Tryz.func93, Tryz.ntmps93
    go_wp2_with fail
    refine HX.out.mono ?_
    rintro e w1 ⟨rfl, rfl⟩
    go_wp2_with fail
    refine HY.out.mono ?_
    rintro e w1 ⟨rfl, rfl⟩
    go_wp2
    go_ret
    exact ⟨by rw [HC.out]; rfl, rfl⟩
  · rw [decide_eq_false h1] at q1
    by_cases h2 : ltN y x
    · have HC : Hid (cpN x y = 1) := hid (by unfold cpN; rw [if_neg h1, if_pos h2])
      rw [decide_eq_true h2] at q2
      have q3 : (x.toList == y.toList) = false := by simpa [q1] using q2
      clear q2
      go_enter Tryz.func93, Tryz.ntmps93
      go_wp2_with fail
      refine HX.out.mono ?_
      rintro e w1 ⟨rfl, rfl⟩
      go_wp2_with fail
      refine HY.out.mono ?_
      rintro e w1 ⟨rfl, rfl⟩
      go_wp2
      go_ret
      exact ⟨by rw [HC.out]; rfl, rfl⟩
    · have HC : Hid (cpN x y = 0) := hid (by unfold cpN; rw [if_neg h1, if_neg h2])
      rw [decide_eq_false h2] at q2
      have q3 : (x.toList == y.toList) = true := by simpa [q1] using q2
      clear q2
      go_enter Tryz.func93, Tryz.ntmps93
      go_wp2_with fail
      refine HX.out.mono ?_
      rintro e w1 ⟨rfl, rfl⟩
      go_wp2_with fail
      refine HY.out.mono ?_
      rintro e w1 ⟨rfl, rfl⟩
      go_wp2
      go_ret
      exact ⟨by rw [HC.out]; rfl, rfl⟩
theorem cmp_Or_litD (a b : Int) (c : Nat) (w : World) (T : TypeId) :
    Calls Tryz.prog 92 #[.slice (some ⟨w.heap.size, 0, none⟩) 2 c] (w.alloc (.cells #[.int .i64 a, .int .i64 b] T)).drew fun e w' => e = .returned (.int .i64 (orI a b)) ∧ (w.alloc (.cells #[.int .i64 a, .int .i64 b] T)).drew = w' :=
  cmp_Or a b w.heap.size 0 c _ (by show (w.alloc _).cell? _ = _; rw [World.cell?_alloc_new]; rfl) (by show (w.alloc _).cell? _ = _; rw [World.cell?_alloc_new]; rfl)
theorem gw3 (w : World) (a b c : Obj) : (((w.alloc a).alloc b).alloc c).drew = Go.Sort.grow (w.drewN 1) #[a, b, c] := by
  rw [Go.Sort.alloc_eq_grow, Go.Sort.alloc_eq_grow, Go.Sort.alloc_eq_grow]
  have e : ∀ (X : World) (os : Array Obj), (Go.Sort.grow X os).drew = Go.Sort.grow (X.drewN 1) os := fun _ _ => rfl
  rw [Go.Sort.grow_grow, Go.Sort.grow_grow, e]
  rfl
theorem box2e (w : World) (x y : Value) (t : TypeId) : (w.alloc (.cells #[x, y] t)).cell? ⟨w.heap.size, 0, none⟩ = some x ∧ (w.alloc (.cells #[x, y] t)).cell? ⟨w.heap.size, 1, none⟩ = some y := by
  refine ⟨?_, ?_⟩ <;> rw [World.cell?_alloc_new] <;> rfl
set_option maxHeartbeats 2000000 in
set_option maxRecDepth 100000 in
theorem carry_Equivalences1 (a b : N2) (w : World) :
    Calls Tryz.prog 91 #[.agg #[.string a.1, .string a.2], .agg #[.string b.1, .string b.2]] w fun e w' => e = .returned (.int .i64 (cpP a b)) ∧ ∃ q os, w' = Go.Sort.grow (w.drewN q) os := by
  obtain ⟨a0, a1⟩ := a
  obtain ⟨b0, b1⟩ := b
  have HO : Hid (orI (cpN a0 b0) (cpN a1 b1) = cpP (a0, a1) (b0, b1)) := hid rfl
  obtain ⟨k0, k1⟩ := box2e w (.string a0) (.string a1) 52
  obtain ⟨m0, m1⟩ := box2e (w.alloc (.cells #[.string a0, .string a1] 52)) (.string b0) (.string b1) 52
  have n0 := cell_alloc_keep (.cells #[.string b0, .string b1] 52) k0
  have n1 := cell_alloc_keep (.cells #[.string b0, .string b1] 52) k1
  simp only [World.size_alloc] at m0 m1
  clear k0 k1
  obtain ⟨W, hW⟩ : ∃ W, (w.alloc (.cells #[.string a0, .string a1] 52)).alloc (.cells #[.string b0, .string b1] 52) = W := ⟨_, rfl⟩
  rw [hW] at m0 m1 n0 n1
  have HW := hid hW
  obtain ⟨q0, hq0⟩ : ∃ q0, w.heap.size = q0 := ⟨_, rfl⟩
  rw [hq0] at m0 m1 n0 n1
  have HGW : Hid (∀ o : Obj, ∃ q os, (W.alloc o).drew = Go.Sort.grow (w.drewN q) os) := hid fun o => ⟨1, _, by rw [← hW]; exact gw3 _ _ _ _⟩
  clear hW
  simp only
  go_enter Tryz.func91, Tryz.ntmps91
  go_wp2
  rw [HW.out]
  try simp only [hq0]
  clear hq0
  go_region_held3 (fun w' => w'.cell? ⟨q0, 0, none⟩ = some (.string a0) ∧ w'.cell? ⟨q0, 1, none⟩ = some (.string a1) ∧ w'.cell? ⟨q0 + 1, 0, none⟩ = some (.string b0) ∧ w'.cell? ⟨q0 + 1, 1, none⟩ = some (.string b1))
    (first | exact ⟨by assumption, by assumption, by assumption, by assumption⟩ | go_keep)
    (first
    | (go_at_call 93; refine (cmp_CompareS _ _ _).mono ?_; rintro e w3 ⟨rfl, rfl⟩)
    | (go_at_call 92; refine (cmp_Or_litD _ _ _ _ _).mono ?_; rintro e w4 ⟨rfl, rfl⟩))
  clear m0 m1 n0 n1
  go_wp2
  go_ret
  exact ⟨by rw [HO.out]; rfl, HGW.out _⟩
theorem own_sortK {w : World} {base g n c k : Nat} {E : TypeId} {xs : List Value} (h : w.ownsRow base E k (.slice (some ⟨g, 0, none⟩) n c) n xs) (m : Nat) (d : Array Value) (hd : d.size = n * k) (os : Array Obj) :
    (Go.Proofs.sortWorld id w g 0 m d os).ownsRow base E k (.slice (some ⟨g, 0, none⟩) n c) n d.toList := by
  obtain ⟨h1, h2⟩ := h
  refine ⟨by simp [hd], ?_⟩
  rcases h2 with ⟨h2, -⟩ | ⟨g', cap, cur, r1, r2, r3, r4, r5, r6, r7⟩
  · cases h2
  · cases r1
    have hnk : n * k ≤ cur.size := by rw [r6]; exact Nat.mul_le_mul_right _ r4
    refine .inr ⟨g, c, Go.Sort.putCells id 0 d cur, rfl, r2, ?_, r4, r5, ?_, ?_⟩
    · unfold sortWorld Go.Sort.grow
      simp only
      have hlt := (Array.getElem?_eq_some_iff.1 r3).1
      rw [Array.getElem?_append_left (by rw [size_putRow]; exact hlt)]
      unfold Go.Sort.putRow Go.Sort.mapBlock
      simp only [Array.getElem?_modify]
      rw [if_pos trivial]
      show Option.map _ (w.heap[g]?) = _
      rw [r3]
      rfl
    · unfold Go.Sort.putCells; simpa using r6
    · apply List.ext_getElem?
      intro i
      rw [List.getElem?_take]
      by_cases hi : i < n * k
      · rw [if_pos (by omega)]
        unfold Go.Sort.putCells
        rw [Array.getElem?_toList, Array.getElem?_mapIdx, Array.getElem?_eq_getElem (show i < cur.size by omega), Array.getElem?_toList, Array.getElem?_eq_getElem (show i < d.size by omega)]
        simp only [Option.map_some]
        rw [if_pos ⟨Nat.zero_le _, by omega⟩, getElem!_pos d (i - 0) (by omega)]
        rfl
      · rw [if_neg (by omega), Array.getElem?_toList, Array.getElem?_eq_none (by omega)]
set_option maxRecDepth 100000 in
theorem sort_pairs (base g n c : Nat) (L : List N2) (w : World) (hn1 : n ≤ 100000) (hL : L.length = n) (hown : w.ownsRow base 52 2 (.slice (some ⟨g, 0, none⟩) n c) n (pC L)) :
    Calls Tryz.prog 90 #[.slice (some ⟨g, 0, none⟩) n c, .func (.func 91) #[] #[]] w fun e w' => ∃ L', e = .returned (.tuple #[]) ∧ w'.ownsRow base 52 2 (.slice (some ⟨g, 0, none⟩) n c) n (pC L') ∧ L'.Perm L ∧ L'.Pairwise (fun a b => ¬ ltP b a) ∧ Kb (fun k => k = g) w w' := by
  have hblk : g < w.heap.size := (hown.lt g rfl).2
  have hsw : Go.Sort.SWO (ltOf cpP) := {
    irrefl := fun x => by unfold ltOf; exact decide_eq_false (fun h => ltP.irr _ (cpP_lt.1 h))
    trans := fun x y z h1 h2 => by
      unfold ltOf at *; rw [decide_eq_true_eq] at *; exact cpP_lt.2 ((cpP_lt.1 h1).trans (cpP_lt.1 h2))
    ntrans := fun x y z h1 h2 => by
      unfold ltOf at *
      rw [decide_eq_false_iff_not, cpP_lt] at *
      intro h3
      rcases ltP.tri x y with k | k | k
      · exact h1 k
      · subst k; exact h2 h3
      · exact h2 (ltP.trans k h3) }
  have hds : L.toArray.size = n := by simpa using hL
  have hH : Go.Sort.HoldsK encP 2 w g 0 L.toArray := fun j hj => by
    have hj : j < n * 2 := by simpa [hL] using hj
    rw [Nat.zero_add]
    have hc := hown.cellAt j hj
    refine ⟨?_, hown.frozenAt j⟩
    rw [hc]
    have e : (Go.Sort.flatK encP 2 L.toArray).toList = pC L := flat_pC L.toArray
    rw [← e, Array.getElem?_toList, Array.getElem?_eq_getElem (by simpa [hL] using hj), getElem!_pos _ j (by simpa [hL] using hj)]
    rfl
  have hcon := AnyQ.slices_SortFunc Tryz.sort90 2 (fun w => by kernel_rfl) (fun w => by kernel_rfl) encP (fun _ => rfl) (fun p v hv => by simp [encP] at hv; rcases hv with rfl | rfl <;> rfl) cpP hsw 91 #[] g 0 c L.toArray w (enters_of Tryz.func91 (by kernel_rfl) rfl)
    (fun m os dk hs x y => carry_Equivalences1 x y _) hH hblk (by omega)
  rw [hds] at hcon
  change Calls Tryz.prog 90 _ _ _ at hcon
  refine hcon.mono ?_
  rintro e w' ⟨rfl, d', m, os, hp, hsd, rfl⟩
  obtain ⟨hps, -, hpp⟩ := hp
  have hds' : d'.size = n := by rw [hps]; exact hds
  have hpp : d'.toList.Perm L := by
    have ex : ∀ (D : Array N2) (m : Nat), D.size = m → D.extract 0 m = D := fun D m h => by subst h; simp
    have e1 := ex d' n hds'
    have e2 := ex L.toArray n hds
    rw [e1, e2] at hpp
    simpa using hpp
  refine ⟨d'.toList, rfl, ?_, hpp, ?_, kb_sort id w g m (Go.Sort.flatK encP 2 d') os⟩
  · rw [← flat_pC]
    exact own_sortK hown m (Go.Sort.flatK encP 2 d') (by simp [hds']) os
  · rw [List.pairwise_iff_getElem]
    intro i j hi hj hij
    have := hsd i j (Nat.zero_le _) hij (by simpa [hds'] using hj)
    unfold ltOf at this
    rw [decide_eq_false_iff_not, getElem!_pos d' j (by simpa using hj), getElem!_pos d' i (by simpa using hi), cpP_lt] at this
    simpa using this
theorem sort_pairs0 (p : Option Addr) (c : Nat) (fv : Value) (w : World) : Calls Tryz.prog 90 #[.slice p 0 c, fv] w fun e w' => e = .returned (.tuple #[]) ∧ w' = w :=
  AnyF.slices_SortFunc_none Tryz.sort90 p c fv w
end Go.Proofs.YtpflkjldapmgdaaGreat
