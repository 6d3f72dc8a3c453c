/-
  WHAT IT HOLDS: contracts of swapRangeCmpFunc, rotateCmpFunc, insertionSortCmpFunc of package slices at int, of a slice of the call's own. Conditions: indexes within the slice.
  WHAT IT HOLDS: contract of insertionSortCmpFunc of package slices at int, of a slice of the call's own, by a comparison that ranks. Conditions: the numbers ascend ahead of it.
-/
import Derived.Deep.RegionHeld3
import Derived.Deep.RegionLaw
import Derived.Test.YtldgkidojepdlaaGreatZRTopCarriedShelves40
import Derived.Test.YtldgkidojepdlaaGreatZRTopCarriedShelves18
namespace Go.Proofs.YtldgkidojepdlaaGreat
open Go Go.RowKit Go.Maps Go.Shelf
/-- the row at g holds the numbers D. -/
def Dat (base g n cap : Nat) (D : List Int) (w : World) : Prop := D.length = n ∧ w.ownsRow base 3 1 (.slice (some ⟨g, 0, none⟩) n cap) n (D.map (Value.int .i64))
theorem Dat.cell {base g n cap : Nat} {D : List Int} {w : World} (h : Dat base g n cap D w) {i : Nat} (hi : i < n) : w.cell? ⟨g, i, none⟩ = some (.int .i64 (D.getD i 0)) ∧ w.frozen? ⟨g, i, none⟩ = false := by
  have h1 := h.2.cellAt i (by omega)
  have hl := h.1
  rw [List.getElem?_map, List.getElem?_eq_getElem (by omega)] at h1
  rw [List.getD_eq_getElem?_getD, List.getElem?_eq_getElem (by omega)]
  exact ⟨h1, h.2.frozenAt i⟩
theorem Dat.set {base g n cap : Nat} {D : List Int} {w : World} (h : Dat base g n cap D w) (i : Nat) (x : Int) : Dat base g n cap (D.set i x) (w.setCell ⟨g, i, none⟩ (.int .i64 x)) := by
  refine ⟨by simpa using h.1, ?_⟩
  have := (h.2.stored i (.int .i64 x)).1
  rw [List.map_set]
  exact this
theorem Dat.swap {base g n cap : Nat} {D : List Int} {w : World} (h : Dat base g n cap D w) (i j : Nat) : Dat base g n cap (swapL D i j) ((w.setCell ⟨g, i, none⟩ (.int .i64 (D.getD j 0))).setCell ⟨g, j, none⟩ (.int .i64 (D.getD i 0))) := (h.set i _).set j _
theorem Dat.swap' {base g n cap : Nat} {D : List Int} {w : World} (h : Dat base g n cap D w) {i j : Nat} (hi : i < n) (hj : j < n) : Dat base g n cap (swapL D i j) ((w.setCell ⟨g, j, none⟩ (.int .i64 (D.getD i 0))).setCell ⟨g, i, none⟩ (.int .i64 (D.getD j 0))) := by
  rw [swapL_comm D i j (by rw [h.1]; exact hi) (by rw [h.1]; exact hj)]
  exact (h.set j _).set i _
theorem Dat.below {base g n cap : Nat} {D : List Int} {w w' : World} (h : Dat base g n cap D w) (hb : Below w.heap.size w w') : Dat base g n cap D w' := ⟨h.1, owns_below h.2 hb⟩
theorem Dat.drewN {base g n cap : Nat} {D : List Int} {w : World} (h : Dat base g n cap D w) (q : Nat) : Dat base g n cap D (w.drewN q) := h.below (below_self_drewN w q)
theorem kb_set2 {g : Nat} {w : World} {i j : Nat} {x y : Value} : Kb (fun k => k = g) w ((w.setCell ⟨g, i, none⟩ x).setCell ⟨g, j, none⟩ y) :=
  (Kb.setCell (M := fun k => k = g) x rfl).trans (Kb.setCell (M := fun k => k = g) y rfl) (fun _ h => Or.inl h)
theorem Kb.chain {g : Nat} {A B C : World} (h : Kb (fun k => k = g) A B) (k : Kb (fun k => k = g) B C) : Kb (fun k => k = g) A C := h.trans k (fun _ h => Or.inl h)
set_option maxHeartbeats 2000000 in
set_option maxRecDepth 100000 in
theorem sl_swapRange (base g n cap : Nat) (P X M Y S : List Int) (F : Value) (w : World) (hxy : X.length = Y.length) (hd : Dat base g n cap (P ++ (X ++ (M ++ (Y ++ S)))) w) (hn : n ≤ 1000) :
    Calls Tryz.prog 108 #[.slice (some ⟨g, 0, none⟩) n cap, .int .i64 (P.length : Nat), .int .i64 ((P.length + X.length + M.length : Nat) : Int), .int .i64 (X.length : Nat), F] w
      fun e w' => e = .returned (.tuple #[]) ∧ Dat base g n cap (P ++ (Y ++ (M ++ (X ++ S)))) w' ∧ Kb (fun k => k = g) w w' := by
  have hlen : P.length + X.length + M.length + Y.length + S.length = n := by have := hd.1; simp only [List.length_append] at this; omega
  obtain ⟨a, ha⟩ : ∃ a, P.length = a := ⟨_, rfl⟩
  obtain ⟨c, hc⟩ : ∃ c, X.length = c := ⟨_, rfl⟩
  obtain ⟨b, hb⟩ : ∃ b, P.length + X.length + M.length = b := ⟨_, rfl⟩
  have hSW := hid (fun i (hi : i < X.length) => swap_range P X M Y S i hxy hi)
  have hbn : b + c ≤ n ∧ a + c ≤ b := by omega
  have HD0 := hid hd
  have HYl : Hid (Y.length = c) := hid (by omega)
  have HXl := hid hc
  rw [ha, hc] at hSW
  rw [ha, hc] at hb
  rw [hb] at hSW
  rw [ha, hc, hb]
  clear hd hxy ha hc hb hlen
  go_enter Tryz.func108, Tryz.ntmps108
  go_wp2
  go_loopw [10] (fun iv wr => ∃ i : Nat, i ≤ c ∧ iv = .int .i64 i ∧ Dat base g n cap (P ++ (Y.take i ++ (X.drop i ++ (M ++ (X.take i ++ (Y.drop i ++ S)))))) wr ∧ Kb (fun k => k = g) w wr) (fun iv _ => c - (intOf iv).toNat)
  case atStart => exact ⟨0, by omega, rfl, by simpa using HD0.out, Kb.refl _ _⟩
  case round =>
    clear HD0
    obtain ⟨i, hi, rfl, hd, hk⟩ := hrel
    by_cases hlt : i < c
    · have hsw := hSW.out i hlt
      obtain ⟨D, hD⟩ : ∃ D, P ++ (Y.take i ++ (X.drop i ++ (M ++ (X.take i ++ (Y.drop i ++ S))))) = D := ⟨_, rfl⟩
      rw [hD] at hd hsw
      have HSW := hid hsw
      obtain ⟨c1, f1⟩ := hd.cell (i := a + i) (by omega)
      obtain ⟨c2, f2⟩ := hd.cell (i := b + i) (by omega)
      obtain ⟨x, hx⟩ : ∃ x, D.getD (a + i) 0 = x := ⟨_, rfl⟩
      obtain ⟨y, hy⟩ : ∃ y, D.getD (b + i) 0 = y := ⟨_, rfl⟩
      have hS1 := hd.swap (a + i) (b + i)
      have hS2 := hd.swap' (i := a + i) (j := b + i) (by omega) (by omega)
      rw [hx, hy] at hS1 hS2
      rw [hx] at c1
      rw [hy] at c2
      have HS1 := hid hS1
      have HS2 := hid hS2
      have HK := hid hk
      have q1 : (0 : Int) ≤ (a : Int) + (i : Int) := by omega
      have q2 : (a : Int) + (i : Int) < (n : Int) := by omega
      have q3 : (0 : Int) ≤ (b : Int) + (i : Int) := by omega
      have q4 : (b : Int) + (i : Int) < (n : Int) := by omega
      have t1 : ((a : Int) + (i : Int)).toNat = a + i := by omega
      have t2 : ((b : Int) + (i : Int)).toNat = b + i := by omega
      have w1 : IntKind.i64.wrap ((a : Int) + (i : Int)) = (a : Int) + (i : Int) := by rw [IntWalk.i64_in _ (by omega)]
      have w2 : IntKind.i64.wrap ((b : Int) + (i : Int)) = (b : Int) + (i : Int) := by rw [IntWalk.i64_in _ (by omega)]
      have hne : a + i ≠ b + i := by omega
      clear hS1 hS2 hd hk hsw hx hy hD
      go_wp2
      go_region
      go_wp2
      go_roundw
      case rel => exact ⟨i + 1, by omega, by go_num, by rw [← HSW.out]; exact HS1.out.below (Below.drew (Below.refl _ _)), HK.out.chain (kb_set2.chain (Kb.of_below (Below.drew (Below.refl _ _))))⟩
      case measure => simp [intOf]; omega
    · have hic : i = c := by omega
      subst hic
      have hd' : Dat base g n cap (P ++ (Y ++ (M ++ (X ++ S)))) wr := by
        rw [List.take_of_length_le (by rw [HYl.out]; exact Nat.le_refl _), List.take_of_length_le (by rw [HXl.out]; exact Nat.le_refl _), List.drop_eq_nil_of_le (by rw [HXl.out]; exact Nat.le_refl _), List.drop_eq_nil_of_le (by rw [HYl.out]; exact Nat.le_refl _)] at hd
        simpa using hd
      have HD := hid hd'
      clear hd hd'
      go_wp2
      go_end0
      exact ⟨rfl, HD.out, hk⟩
theorem sl_swapRange' (base g n cap : Nat) (P X M Y S : List Int) (F : Value) (w : World) (pa pb pc : Int) (h1 : pa = P.length) (h2 : pb = ((P.length + X.length + M.length : Nat) : Int)) (h3 : pc = X.length) (hxy : X.length = Y.length) (hd : Dat base g n cap (P ++ (X ++ (M ++ (Y ++ S)))) w) (hn : n ≤ 1000) :
    Calls Tryz.prog 108 #[.slice (some ⟨g, 0, none⟩) n cap, .int .i64 pa, .int .i64 pb, .int .i64 pc, F] w
      fun e w' => e = .returned (.tuple #[]) ∧ Dat base g n cap (P ++ (Y ++ (M ++ (X ++ S)))) w' ∧ Kb (fun k => k = g) w w' := by
  subst h1 h2 h3
  exact sl_swapRange base g n cap P X M Y S F w hxy hd hn
/-- how far a rotation is: the two ranges that are left. -/
def RotS (base g n cap m : Nat) (T : List Int) (w : World) (iv jv : Value) (wr : World) : Prop :=
  ∃ P A B S : List Int, iv = .int .i64 (A.length : Nat) ∧ jv = .int .i64 (B.length : Nat) ∧ 0 < A.length ∧ 0 < B.length ∧ P.length + A.length = m ∧ Dat base g n cap (P ++ (A ++ (B ++ S))) wr ∧ Kb (fun k => k = g) w wr ∧ P ++ (B ++ (A ++ S)) = T
set_option maxHeartbeats 2000000 in
set_option maxRecDepth 100000 in
theorem sl_rotate (base g n cap : Nat) (P U V S : List Int) (F : Value) (w : World) (hU : 0 < U.length) (hV : 0 < V.length) (hd : Dat base g n cap (P ++ (U ++ (V ++ S))) w) (hn : n ≤ 1000) :
    Calls Tryz.prog 101 #[.slice (some ⟨g, 0, none⟩) n cap, .int .i64 (P.length : Nat), .int .i64 ((P.length + U.length : Nat) : Int), .int .i64 ((P.length + U.length + V.length : Nat) : Int), F] w
      fun e w' => e = .returned (.tuple #[]) ∧ Dat base g n cap (P ++ (V ++ (U ++ S))) w' ∧ Kb (fun k => k = g) w w' := by
  have hlen : P.length + U.length + V.length + S.length = n := by have := hd.1; simp only [List.length_append] at this; omega
  obtain ⟨T, hT⟩ : ∃ T, P ++ (V ++ (U ++ S)) = T := ⟨_, rfl⟩
  have H0 : Hid (RotS base g n cap (P.length + U.length) T w (.int .i64 (U.length : Nat)) (.int .i64 (V.length : Nat)) w) := hid ⟨P, U, V, S, rfl, rfl, hU, hV, rfl, hd, Kb.refl _ _, hT⟩
  rw [hT]
  obtain ⟨a, ha⟩ : ∃ a, P.length = a := ⟨_, rfl⟩
  obtain ⟨c, hc⟩ : ∃ c, U.length = c := ⟨_, rfl⟩
  obtain ⟨d, hdd⟩ : ∃ d, V.length = d := ⟨_, rfl⟩
  rw [ha, hc, hdd] at hlen
  rw [ha, hc, hdd] at H0
  rw [ha, hc, hdd]
  have e1 : (((a + c : Nat) : Int)) - (a : Int) = (c : Int) := by omega
  have e2 : (((a + c + d : Nat) : Int)) - ((a + c : Nat) : Int) = (d : Int) := by omega
  obtain ⟨m, hm⟩ : ∃ m, a + c = m := ⟨_, rfl⟩
  rw [hm] at H0 e1 e2 hlen
  rw [hm]
  obtain ⟨q, hq⟩ : ∃ q, m + d = q := ⟨_, rfl⟩
  rw [hq] at e2 hlen
  rw [hq]
  have e1' := e1
  have hmn : m + d ≤ n := by omega
  have ham : a ≤ m := by omega
  have hqm : m ≤ q := by omega
  clear hT ha hc hdd hd hU hV hm hq
  go_enter Tryz.func101, Tryz.ntmps101
  go_wp2
  try rw [e1]
  try rw [e2]
  have E1 := hid e1
  have E2 := hid e2
  clear e1 e2 e1'
  go_loopw [10, 11] (fun iv jv wr => RotS base g n cap m T w iv jv wr) (fun iv jv _ => (intOf iv).toNat + (intOf jv).toNat)
  case atStart => first | exact H0.out | (rw [E1.out]; exact H0.out) | (rw [E2.out]; exact H0.out) | (rw [E1.out, E2.out]; exact H0.out)
  case round =>
    clear H0
    obtain ⟨P, A, B, S, rfl, rfl, hA, hB, hPA, hd, hk, hT⟩ := hrel
    have hlen : P.length + A.length + B.length + S.length = n := by have := hd.1; simp only [List.length_append] at this; omega
    have hko := hid hk
    rcases Nat.lt_trichotomy A.length B.length with hlt | heq | hgt
    · obtain ⟨B1, B2, rfl, hB2⟩ : ∃ B1 B2, B = B1 ++ B2 ∧ B2.length = A.length := ⟨B.take (B.length - A.length), B.drop (B.length - A.length), (List.take_append_drop _ _).symm, by simp; omega⟩
      have hd' : Dat base g n cap (P ++ (A ++ (B1 ++ (B2 ++ S)))) wr := by simpa using hd
      have HC := hid (fun pa pb pc h1 h2 h3 => sl_swapRange' base g n cap P A B1 B2 S F wr pa pb pc h1 h2 h3 hB2.symm hd' hn)
      have HN : Hid (∀ wr', Dat base g n cap (P ++ (B2 ++ (B1 ++ (A ++ S)))) wr' → Kb (fun k => k = g) wr wr' → RotS base g n cap m T w (.int .i64 (A.length : Nat)) (.int .i64 (B1.length : Nat)) wr') := hid (fun wr' g1 g2 => ⟨P, B2, B1, A ++ S, by rw [hB2], rfl, by omega, by rw [List.length_append] at hlt; omega, by omega, g1, hko.out.chain g2, by rw [← hT]; simp⟩)
      have hbl : (B1 ++ B2).length = B1.length + A.length := by rw [List.length_append, hB2]
      rw [hbl] at hlen hlt
      rw [hbl]
      have hAp := hA
      obtain ⟨i, hi⟩ : ∃ i, A.length = i := ⟨_, rfl⟩
      obtain ⟨b1, hb1⟩ : ∃ b1, B1.length = b1 := ⟨_, rfl⟩
      obtain ⟨pl, hpl⟩ : ∃ pl, P.length = pl := ⟨_, rfl⟩
      rw [hi, hb1] at HN
      rw [hpl, hi, hb1] at HC
      rw [hi, hpl] at hPA
      rw [hi] at hAp
      rw [hi, hb1, hpl] at hlen
      rw [hi, hb1] at hlt
      rw [hi, hb1]
      obtain ⟨jj, hjj⟩ : ∃ jj, b1 + i = jj := ⟨_, rfl⟩
      rw [hjj] at hlt
      rw [← Nat.add_assoc] at hlen
      rw [hjj]
      have hjb : b1 + i ≤ jj ∧ jj ≤ b1 + i := by omega
      have e9 : (jj : Int) - (i : Int) = (b1 : Int) := by omega
      have e9' := e9
      clear hA hB hd hd' hT hk hB2 hbl hi hb1 hpl hjj
      have n1 : ((i : Int) != (jj : Int)) = true := by simp; omega
      have n2 : decide ((jj : Int) < (i : Int)) = false := by simp; omega
      go_wp2_with fail
      refine (HC.out _ _ _ (by omega) (by omega) (by omega)).mono ?_
      rintro e w1 ⟨rfl, hd1, hk1⟩
      have HS := hid (HN.out _ hd1 hk1)
      clear hd1 hk1 HN HC n1 n2
      go_wp2
      go_roundw
      case rel =>
        exact HS.out
      case measure => simp [intOf]; omega
    · have hd' : Dat base g n cap (P ++ (A ++ ([] ++ (B ++ S)))) wr := by simpa using hd
      have HC := hid (fun pa pb pc h1 h2 h3 => sl_swapRange' base g n cap P A [] B S F wr pa pb pc h1 h2 h3 heq hd' hn)
      have hT' : P ++ (B ++ ([] ++ (A ++ S))) = T := by rw [← hT]; simp
      rw [hT'] at HC
      rw [← heq]
      obtain ⟨i, hi⟩ : ∃ i, A.length = i := ⟨_, rfl⟩
      obtain ⟨pl, hpl⟩ : ∃ pl, P.length = pl := ⟨_, rfl⟩
      rw [← heq] at hlen
      rw [hpl, hi] at HC
      rw [hi, hpl] at hPA
      rw [hi, hpl] at hlen
      rw [hi]
      have n1 : ((i : Int) != (i : Int)) = false := by simp
      clear hA hB hd hd' hT hT' hk heq hi hpl
      go_wp2_with fail
      refine (HC.out _ _ _ (by omega) (by simp; omega) (by omega)).mono ?_
      rintro e w1 ⟨rfl, hd1, hk1⟩
      have HS := hid hd1
      have HK1 := hid (hko.out.chain hk1)
      clear hd1 hk1 HC n1
      go_wp2
      go_end0
      exact ⟨rfl, HS.out, HK1.out⟩
    · obtain ⟨A1, A2, rfl, hA1⟩ : ∃ A1 A2, A = A1 ++ A2 ∧ A1.length = B.length := ⟨A.take B.length, A.drop B.length, (List.take_append_drop _ _).symm, by simp; omega⟩
      have hd' : Dat base g n cap (P ++ (A1 ++ (A2 ++ (B ++ S)))) wr := by simpa using hd
      have HC := hid (fun pa pb pc h1 h2 h3 => sl_swapRange' base g n cap P A1 A2 B S F wr pa pb pc h1 h2 h3 hA1 hd' hn)
      have hal : (A1 ++ A2).length = B.length + A2.length := by rw [List.length_append, hA1]
      rw [hal] at hlen hgt hPA
      have HN : Hid (∀ wr', Dat base g n cap (P ++ (B ++ (A2 ++ (A1 ++ S)))) wr' → Kb (fun k => k = g) wr wr' → RotS base g n cap m T w (.int .i64 (A2.length : Nat)) (.int .i64 (B.length : Nat)) wr') := hid (fun wr' g1 g2 => ⟨P ++ B, A2, A1, S, rfl, by rw [hA1], by omega, by omega, by rw [List.length_append]; omega, by simpa using g1, hko.out.chain g2, by rw [← hT]; simp⟩)
      rw [hal]
      obtain ⟨j, hj⟩ : ∃ j, B.length = j := ⟨_, rfl⟩
      obtain ⟨a2, ha2⟩ : ∃ a2, A2.length = a2 := ⟨_, rfl⟩
      obtain ⟨pl, hpl⟩ : ∃ pl, P.length = pl := ⟨_, rfl⟩
      rw [hj, ha2] at HN
      rw [hpl, hA1, hj, ha2] at HC
      rw [hj, ha2, hpl] at hPA
      rw [hj] at hB
      have hBp := hB
      rw [hj, ha2, hpl] at hlen
      rw [hj, ha2] at hgt
      rw [hj, ha2]
      obtain ⟨ii, hii⟩ : ∃ ii, j + a2 = ii := ⟨_, rfl⟩
      rw [hii] at hgt hPA
      rw [hii]
      have hib : j + a2 ≤ ii ∧ ii ≤ j + a2 := by omega
      have e9 : (ii : Int) - (j : Int) = (a2 : Int) := by omega
      have e9' := e9
      clear hA hB hd hd' hT hk hA1 hal hj ha2 hpl hii
      have n1 : ((ii : Int) != (j : Int)) = true := by simp; omega
      have n2 : decide ((j : Int) < (ii : Int)) = true := by simp; omega
      go_wp2_with fail
      refine (HC.out _ _ _ (by omega) (by omega) (by omega)).mono ?_
      rintro e w1 ⟨rfl, hd1, hk1⟩
      have HS := hid (HN.out _ hd1 hk1)
      clear hd1 hk1 HN HC n1 n2
      go_wp2
      go_roundw
      case rel =>
        exact HS.out
      case measure => simp [intOf]; omega
end Go.Proofs.YtldgkidojepdlaaGreat
namespace Go.Proofs.YtldgkidojepdlaaGreat
open Go Go.RowKit Go.Maps Go.Shelf
/-- the comparison: what the function answers, in each world in which only the row was turned. -/
def CmpOK (q1 q2 : Value) (cf : Int → Int → Int) (r : Int → Int) (N g : Nat) (w0 : World) : Prop :=
  (∀ x y : Int, 0 ≤ x → x < N → 0 ≤ y → y < N → (cf x y < 0 ↔ r x < r y)) ∧
  ∀ W, Kb (fun k => k = g) w0 W → ∀ x y : Int, 0 ≤ x → x < N → 0 ≤ y → y < N →
    Calls Tryz.prog 51 #[.int .i64 x, .int .i64 y, q1, q2] W fun e w' => e = .returned (.int .i64 (cf x y)) ∧ Below W.heap.size W w'
theorem CmpOK.turn {q1 q2 : Value} {cf : Int → Int → Int} {r : Int → Int} {N g : Nat} {w0 w : World} (h : CmpOK q1 q2 cf r N g w0) (hk : Kb (fun k => k = g) w0 w) : CmpOK q1 q2 cf r N g w := ⟨h.1, fun W hW => h.2 W (hk.chain hW)⟩
def fnK (q1 q2 : Value) : Value := .func (.func 51) #[] #[q1, q2]
theorem getD_mid (P Z S : List Int) (x : Int) (t : Nat) (ht : t ≤ Z.length) : (P ++ (Z.take t ++ x :: (Z.drop t ++ S))).getD (P.length + t) 0 = x := by
  rw [List.getD_eq_getElem?_getD, List.getElem?_append_right (by omega), show P.length + t - P.length = t from by omega, List.getElem?_append_right (by simp; omega)]
  have : t - (Z.take t).length = 0 := by simp; omega
  rw [this]; rfl
theorem getD_pre (P Z S : List Int) (x : Int) (t : Nat) (ht : t < Z.length) : (P ++ (Z.take (t + 1) ++ x :: (Z.drop (t + 1) ++ S))).getD (P.length + t) 0 = Z[t] := by
  rw [List.getD_eq_getElem?_getD, List.getElem?_append_right (by omega), show P.length + t - P.length = t from by omega, List.getElem?_append_left (by simp; omega), List.getElem?_take, if_pos (by omega), List.getElem?_eq_getElem ht]
  rfl
theorem swap_down (P Z S : List Int) (x : Int) (t : Nat) (ht : t < Z.length) : swapL (P ++ (Z.take (t + 1) ++ x :: (Z.drop (t + 1) ++ S))) (P.length + t) (P.length + t + 1) = P ++ (Z.take t ++ x :: (Z.drop t ++ S)) := by
  have e := swapL_next (P ++ Z.take t) (Z.drop (t + 1) ++ S) Z[t] x
  have l1 : (P ++ Z.take t).length = P.length + t := by simp; omega
  rw [l1] at e
  rw [List.take_succ_eq_append_getElem ht]
  conv => rhs; rw [List.drop_eq_getElem_cons ht]
  simp only [List.append_assoc, List.cons_append, List.nil_append] at e ⊢
  exact e
def InsO (base g n cap : Nat) (P L S : List Int) (r : Int → Int) (w : World) (iv : Value) (wr : World) : Prop :=
  ∃ (k : Nat) (Z : List Int), (k ≤ L.length ∨ L.length = 0) ∧ 1 ≤ k ∧ k ≤ L.length + 1 ∧ iv = .int .i64 ((P.length + k : Nat) : Int) ∧ Z.Perm (L.take k) ∧ SoR r Z ∧ Dat base g n cap (P ++ (Z ++ (L.drop k ++ S))) wr ∧ Kb (fun k => k = g) w wr
theorem InsO.below {base g n cap : Nat} {P L S : List Int} {r : Int → Int} {w : World} {iv : Value} {wr wr' : World} (h : InsO base g n cap P L S r w iv wr) (hb : Below wr.heap.size wr wr') : InsO base g n cap P L S r w iv wr' := by
  obtain ⟨k, Z, h1, h2, h3, h4, h5, h6, h7, h8⟩ := h
  exact ⟨k, Z, h1, h2, h3, h4, h5, h6, h7.below hb, h8.chain (Kb.of_below hb)⟩
def InsI (base g n cap a : Nat) (P Z S : List Int) (x : Int) (r : Int → Int) (w : World) (jv : Value) (wr : World) : Prop :=
  ∃ t : Nat, t ≤ Z.length ∧ jv = .int .i64 ((a + t : Nat) : Int) ∧ Dat base g n cap (P ++ (Z.take t ++ x :: (Z.drop t ++ S))) wr ∧ Kb (fun k => k = g) w wr ∧ ∀ y ∈ Z.drop t, Lt r x y
def SortR (base g n cap : Nat) (P L S : List Int) (r : Int → Int) (w : World) (e : Ending) (w' : World) : Prop :=
  ∃ Z : List Int, e = .returned (.tuple #[]) ∧ Z.Perm L ∧ SoR r Z ∧ Dat base g n cap (P ++ (Z ++ S)) w' ∧ Kb (fun k => k = g) w w'
set_option maxHeartbeats 4000000 in
set_option maxRecDepth 100000 in
theorem sl_insertion (base g n cap : Nat) (P L S : List Int) (q1 q2 : Value) (cf : Int → Int → Int) (r : Int → Int) (N : Nat) (w : World) (pa pb : Int) (ha : pa = P.length) (hb : pb = ((P.length + L.length : Nat) : Int)) (hL : L.Pairwise (· < ·)) (hr : ∀ x ∈ L, 0 ≤ x ∧ x < N)
    (hc : CmpOK q1 q2 cf r N g w) (hd : Dat base g n cap (P ++ (L ++ S)) w) (hn : n ≤ 1000) :
    Calls Tryz.prog 85 #[.slice (some ⟨g, 0, none⟩) n cap, .int .i64 pa, .int .i64 pb, .func (.func 51) #[] #[q1, q2]] w (SortR base g n cap P L S r w) := by
  subst ha hb
  have hlen : P.length + L.length + S.length = n := by have := hd.1; simp only [List.length_append] at this; omega
  have H0 : Hid (InsO base g n cap P L S r w (.int .i64 ((P.length + 1 : Nat) : Int)) w) := hid (by
    cases L with
    | nil => exact ⟨1, [], Or.inr rfl, Nat.le_refl _, by simp, rfl, by simp, List.Pairwise.nil, by simpa using hd, Kb.refl _ _⟩
    | cons x L => exact ⟨1, [x], Or.inl (by simp), Nat.le_refl _, by simp, rfl, by simp, List.pairwise_singleton _ _, by simpa using hd, Kb.refl _ _⟩)
  have HC := hid hc
  have HL := hid hL
  have HR := hid hr
  obtain ⟨a, hal⟩ : ∃ a, P.length = a := ⟨_, rfl⟩
  obtain ⟨c, hcl⟩ : ∃ c, L.length = c := ⟨_, rfl⟩
  have HAL := hid hal
  have HCL := hid hcl
  rw [hal, hcl] at hlen
  rw [hal] at H0
  rw [hal, hcl]
  obtain ⟨bb, hbb⟩ : ∃ bb, a + c = bb := ⟨_, rfl⟩
  rw [hbb]
  have hbc : a + c ≤ bb ∧ bb ≤ a + c := by omega
  clear hc hL hr hd hal hcl hbb
  go_enter Tryz.func85, Tryz.ntmps85
  go_wp2
  go_loopw [8] (fun iv wr => InsO base g n cap P L S r w iv wr) (fun iv _ => bb - (intOf iv).toNat)
  case atStart => exact H0.out
  case round =>
    clear H0
    obtain ⟨k, Z, hk1, hk2, hk3, rfl, hZ, hsZ, hd, hkb⟩ := hrel
    rw [HAL.out]
    rw [HCL.out] at hk1 hk3
    obtain ⟨W1, hW1⟩ : ∃ W1, W1 = wr := ⟨_, rfl⟩
    subst hW1
    by_cases hlt : k < c
    · have hkL : k < L.length := by rw [HCL.out]; exact hlt
      have hxr := HR.out L[k] (List.getElem_mem hkL)
      have hZx : ∀ y ∈ Z, y < L[k] ∧ 0 ≤ y ∧ y < N := fun y hy => by
        have hm := hZ.mem_iff.1 hy
        have := HR.out y (List.mem_of_mem_take hm)
        obtain ⟨i, hi, rfl⟩ := List.getElem_of_mem hm
        simp only [List.length_take] at hi
        rw [List.getElem_take] at *
        exact ⟨List.pairwise_iff_getElem.1 HL.out i k (by omega) hkL (by omega), this⟩
      have hZl : Z.length = k := by rw [hZ.length_eq, List.length_take]; omega
      have hI0 : InsI base g n cap a P Z (L.drop (k + 1) ++ S) L[k] r w (.int .i64 ((a + k : Nat) : Int)) W1 := ⟨k, by omega, rfl, by
        rw [List.take_of_length_le (by omega), List.drop_eq_nil_of_le (by omega)]
        rw [List.drop_eq_getElem_cons hkL] at hd
        simp only [List.append_assoc, List.cons_append, List.nil_append] at hd ⊢
        exact hd, hkb, by rw [List.drop_eq_nil_of_le (by omega)]; simp⟩
      have hfin : ∀ t, t ≤ Z.length → (∀ y ∈ Z.drop t, Lt r L[k] y) → (t = 0 ∨ ∃ h : t - 1 < Z.length, ¬ Lt r L[k] Z[t - 1]) → (Z.take t ++ L[k] :: Z.drop t).Perm (L.take (k + 1)) ∧ SoR r (Z.take t ++ L[k] :: Z.drop t) := fun t ht h1 h2 => by
        have hp := put_left (r := r) (x := L[k]) (Q1 := Z.take t) (Q2 := Z.drop t) (by rw [List.take_append_drop]; exact hsZ) (fun y hy => by
          obtain ⟨i, hi, rfl⟩ := List.getElem_of_mem hy
          simp only [List.length_take] at hi
          rw [List.getElem_take]
          rcases h2 with h2 | ⟨h, h2⟩
          · omega
          · have h3 := Lt.total h2 (fun e => by have := (hZx Z[t - 1] (List.getElem_mem h)).1; omega)
            rcases hsZ.le (i := i) (j := t - 1) (by omega) h with h4 | h4
            · exact h4.trans h3
            · rw [h4]; exact h3) h1
        rw [List.take_append_drop] at hp
        refine ⟨hp.1.trans ?_, hp.2⟩
        rw [List.take_succ_eq_append_getElem hkL]
        exact (List.Perm.cons _ hZ).trans (List.perm_append_comm (l₁ := [L[k]]))
      obtain ⟨x, hx⟩ : ∃ x, L[k] = x := ⟨_, rfl⟩
      rw [hx] at hxr hZx hI0 hfin
      obtain ⟨ii, hii⟩ : ∃ ii, a + k = ii := ⟨_, rfl⟩
      rw [hii] at hI0
      rw [hii]
      have hik : a + k ≤ ii ∧ ii ≤ a + k := by omega
      have hdb : decide (ii < bb) = true := by simp; omega
      have HI0 := hid hI0
      have HFIN := hid hfin
      have HZX := hid hZx
      have HZL := hid hZl
      clear hZ hsZ hd hI0 hfin hZx hZl hx hk1 hkL hkb hii
      go_wp2
      go_loopw [9] (fun jv wr2 => InsI base g n cap a P Z (L.drop (k + 1) ++ S) x r w jv wr2) (fun jv _ => (intOf jv).toNat)
      case atStart => exact HI0.out
      case round =>
        clear HI0
        obtain ⟨t, ht, rfl, hd, hkb, hgt⟩ := hrel
        have hDl := hd.1
        cases t with
        | zero =>
          obtain ⟨f1, f2⟩ := HFIN.out 0 (Nat.zero_le _) hgt (Or.inl rfl)
          have HN : Hid (InsO base g n cap P L S r w (.int .i64 ((ii : Int) + 1)) wr) := hid ⟨k + 1, _, Or.inl (by rw [HCL.out]; omega), by omega, by rw [HCL.out]; omega, by rw [HAL.out]; congr 1 <;> omega, f1, f2, by simpa using hd, hkb⟩
          have n1 : decide ((a : Int) < ((a + 0 : Nat) : Int)) = false := by simp
          have n2 : ((a + 0 : Nat) : Int) = (a : Int) := by simp
          clear hd hkb hgt f1 f2 ht
          go_wp2
          go_quiet (fail)
          go_wp2
          go_roundw
          case rel => exact HN.out.below (below_self_drewN _ _)
          case measure => simp [intOf]; omega
        | succ t =>
          have htl : t < Z.length := by omega
          have g1 := getD_mid P Z (L.drop (k + 1) ++ S) x (t + 1) (by omega)
          have g2 := getD_pre P Z (L.drop (k + 1) ++ S) x t htl
          have hsd := swap_down P Z (L.drop (k + 1) ++ S) x t htl
          rw [HAL.out] at g1 g2 hsd
          have hyx := HZX.out Z[t] (List.getElem_mem htl)
          have hnl : a + (t + 1) < n := by have := HZL.out; omega
          obtain ⟨c1, f1⟩ := hd.cell (i := a + (t + 1)) hnl
          obtain ⟨c2, f2⟩ := hd.cell (i := a + t) (by omega)
          have hsw := fun (X : World) (hX : Below wr.heap.size wr X) => (hd.below hX).swap' (i := a + t) (j := a + (t + 1)) (by omega) hnl
          rw [show a + t + 1 = a + (t + 1) from by omega] at hsd
          rw [g1] at c1 hsw
          rw [g2] at c2 hsw
          rw [hsd] at hsw
          obtain ⟨y, hy⟩ : ∃ y, Z[t] = y := ⟨_, rfl⟩
          rw [hy] at c2 hsw hyx
          have HSW := hid hsw
          have HCF := hid (HC.out.1 x y hxr.1 hxr.2 hyx.2.1 hyx.2.2)
          have HCC := hid (fun (X : World) (hX : Below wr.heap.size wr X) => HC.out.2 X (hkb.chain (Kb.of_below hX)) x y hxr.1 hxr.2 hyx.2.1 hyx.2.2)
          have hlt9 : cf x y < 0 ↔ Lt r x y := by rw [lt_iff hyx.1]; exact HCF.out
          have HKB := hid hkb
          have HTZ : Hid (t ≤ Z.length) := hid (by omega)
          have HGT := hid hgt
          have hI1 : Hid (Lt r x y → ∀ z ∈ Z.drop t, Lt r x z) := hid (fun h z hz => by
            rw [List.drop_eq_getElem_cons htl] at hz
            rcases List.mem_cons.1 hz with rfl | hz
            · rw [hy]; exact h
            · exact hgt z hz)
          have hfn : Hid (¬ Lt r x y → InsO base g n cap P L S r w (.int .i64 ((ii : Int) + 1)) wr) := hid (fun h => by
            obtain ⟨f1, f2⟩ := HFIN.out (t + 1) ht hgt (Or.inr ⟨by omega, by simpa [hy] using h⟩)
            exact ⟨k + 1, _, Or.inl (by rw [HCL.out]; omega), by omega, by rw [HCL.out]; omega, by rw [HAL.out]; congr 1 <;> omega, f1, f2, by simpa using hd, hkb⟩)
          obtain ⟨jj, hjj⟩ : ∃ jj, a + (t + 1) = jj := ⟨_, rfl⟩
          obtain ⟨jp, hjp⟩ : ∃ jp, a + t = jp := ⟨_, rfl⟩
          have hjn : jj < n ∧ a < jj ∧ jp < jj ∧ a ≤ jp ∧ jj ≤ jp + 1 := by omega
          rw [hjj] at c1 f1 HSW
          rw [hjp] at c2 f2 HSW
          rw [hjj]
          have HJP := hid hjp
          have n1 : decide ((a : Int) < (jj : Int)) = true := by simp; omega
          have w1 : IntKind.i64.wrap ((jj : Int) - 1) = (jp : Int) := by rw [IntWalk.i64_in _ (by omega)]; omega
          have p1 : (0 : Int) ≤ (jj : Int) := by omega
          have p2 : (jj : Int) < (n : Int) := by omega
          have p3 : (0 : Int) ≤ (jp : Int) := by omega
          have p4 : (jp : Int) < (n : Int) := by omega
          clear hd hgt g1 g2 hsd hsw hy hjj hjp hkb hnl htl hDl ht
          have hgl := World.block_lt_of_cell? _ _ c1
          have g1' := f1
          have g2' := f2
          clear f1 f2
          by_cases hcf : cf x y < 0
          · have hdc : decide (cf x y < 0) = true := by simpa using hcf
            have HI1 := hid (hI1.out (hlt9.1 hcf))
            clear hI1 hfn hlt9 hcf
            go_wp2
            go_region_held3 (fun w' => w'.cell? ⟨g, jj, none⟩ = some (.int .i64 x) ∧ w'.cell? ⟨g, jp, none⟩ = some (.int .i64 y))
              (first | exact ⟨by assumption, by assumption⟩ | go_keep)
              (first
              | (go_at_call 51; refine (HCC.out _ (Below.drew (Below.refl _ _))).mono ?_; rintro e w5 ⟨rfl, hb5⟩
                 have hb5' := (Below.drew (Below.refl _ _)).trans (hb5.mono (Nat.le_refl _))
                 have c1 := (hb5.cell (World.block_lt_of_cell? _ _ c1)).trans c1
                 have c2 := (hb5.cell (World.block_lt_of_cell? _ _ c2)).trans c2))
            have HB5 := hid (show Below wr.heap.size wr w5 from hb5')
            have g1 := (bcell HB5.out).2 g jj hgl
            have g2 := (bcell HB5.out).2 g jp hgl
            rw [g1'] at g1
            rw [g2'] at g2
            have HD5 := hid (HSW.out _ HB5.out)
            clear hb5 hb5' g1' g2'
            go_wp2
            go_region
            go_wp2
            go_roundw
            case rel => exact ⟨t, HTZ.out, by rw [← HJP.out], HD5.out.below (Below.drew (Below.refl _ _)), HKB.out.chain ((Kb.of_below HB5.out).chain (kb_set2.chain (Kb.of_below (Below.drew (Below.refl _ _))))), HI1.out⟩
            case measure => simp [intOf]; omega
          · have hdc : decide (cf x y < 0) = false := by simpa using hcf
            have HN := hid (hfn.out (fun h => hcf (hlt9.2 h)))
            clear hI1 hfn hlt9 hcf g1' g2' hgl
            go_wp2
            go_region_held3 (fun w' => w'.cell? ⟨g, jj, none⟩ = some (.int .i64 x) ∧ w'.cell? ⟨g, jp, none⟩ = some (.int .i64 y))
              (first | exact ⟨by assumption, by assumption⟩ | go_keep)
              (first
              | (go_at_call 51; refine (HCC.out _ (Below.drew (Below.refl _ _))).mono ?_; rintro e w5 ⟨rfl, hb5⟩
                 have hb5' := (Below.drew (Below.refl _ _)).trans (hb5.mono (Nat.le_refl _))
                 have c1 := (hb5.cell (World.block_lt_of_cell? _ _ c1)).trans c1
                 have c2 := (hb5.cell (World.block_lt_of_cell? _ _ c2)).trans c2))
            have HB5 := hid (show Below wr.heap.size wr w5 from hb5')
            clear hb5 hb5'
            go_wp2
            go_roundw
            case rel => exact HN.out.below HB5.out
            case measure => simp [intOf]; omega
    · have hkc : L.take k = L := List.take_of_length_le (by rw [HCL.out]; omega)
      have hkd : L.drop k = [] := List.drop_eq_nil_of_le (by rw [HCL.out]; omega)
      rw [hkc] at hZ
      rw [hkd] at hd
      have HD := hid hd
      have HZ := hid hZ
      have HS := hid hsZ
      have HK := hid hkb
      clear hd hZ hsZ hkb hkc hkd
      go_wp2
      go_end0
      exact ⟨Z, rfl, HZ.out, HS.out, by simpa using HD.out, HK.out⟩
end Go.Proofs.YtldgkidojepdlaaGreat
