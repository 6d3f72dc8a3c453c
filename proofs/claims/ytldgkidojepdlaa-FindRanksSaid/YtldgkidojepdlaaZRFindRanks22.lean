/-
  WHAT IT HOLDS: contracts of swapRangeCmpFunc, rotateCmpFunc, insertionSortCmpFunc of package slices at int, of a slice of the call's own. Conditions: indexes within the slice.
-/
import Derived.Deep.RegionHeld3
import Derived.Deep.RegionLaw
import Derived.Test.YtldgkidojepdlaaZRFindRanks1
import Derived.Test.YtldgkidojepdlaaZRFindRanks21
import Derived.Test.YtldgkidojepdlaaZRFindRanks20
namespace Go.Proofs.Ytldgkidojepdlaa
open Go Go.RowKit Go.Maps Go.Shelf
/-- the row at g holds the numbers D. -/
def Dat (base g n cap : Nat) (D : List Int) (w : World) : Prop := D.length = n ∧ w.ownsRow base 3 1 (.slice (some ⟨g, 0, none⟩) n cap) n (D.map (Value.int .i64))
theorem Dat.cell {base g n cap : Nat} {D : List Int} {w : World} (h : Dat base g n cap D w) {i : Nat} (hi : i < n) : w.cell? ⟨g, i, none⟩ = some (.int .i64 (D.getD i 0)) ∧ w.frozen? ⟨g, i, none⟩ = false := by
  have h1 := h.2.cellAt i (by omega)
  have hl := h.1
  rw [List.getElem?_map, List.getElem?_eq_getElem (by omega)] at h1
  rw [List.getD_eq_getElem?_getD, List.getElem?_eq_getElem (by omega)]
  exact ⟨h1, h.2.frozenAt i⟩
theorem Dat.set {base g n cap : Nat} {D : List Int} {w : World} (h : Dat base g n cap D w) (i : Nat) (x : Int) : Dat base g n cap (D.set i x) (w.setCell ⟨g, i, none⟩ (.int .i64 x)) := by
  refine ⟨by simpa using h.1, ?_⟩
  have := (h.2.stored i (.int .i64 x)).1
  rw [List.map_set]
  exact this
theorem Dat.swap {base g n cap : Nat} {D : List Int} {w : World} (h : Dat base g n cap D w) (i j : Nat) : Dat base g n cap (swapL D i j) ((w.setCell ⟨g, i, none⟩ (.int .i64 (D.getD j 0))).setCell ⟨g, j, none⟩ (.int .i64 (D.getD i 0))) := (h.set i _).set j _
theorem Dat.swap' {base g n cap : Nat} {D : List Int} {w : World} (h : Dat base g n cap D w) {i j : Nat} (hi : i < n) (hj : j < n) : Dat base g n cap (swapL D i j) ((w.setCell ⟨g, j, none⟩ (.int .i64 (D.getD i 0))).setCell ⟨g, i, none⟩ (.int .i64 (D.getD j 0))) := by
  rw [swapL_comm D i j (by rw [h.1]; exact hi) (by rw [h.1]; exact hj)]
  exact (h.set j _).set i _
theorem Dat.below {base g n cap : Nat} {D : List Int} {w w' : World} (h : Dat base g n cap D w) (hb : Below w.heap.size w w') : Dat base g n cap D w' := ⟨h.1, owns_below h.2 hb⟩
theorem Dat.drewN {base g n cap : Nat} {D : List Int} {w : World} (h : Dat base g n cap D w) (q : Nat) : Dat base g n cap D (w.drewN q) := h.below (below_self_drewN w q)
theorem kb_set2 {g : Nat} {w : World} {i j : Nat} {x y : Value} : Kb (fun k => k = g) w ((w.setCell ⟨g, i, none⟩ x).setCell ⟨g, j, none⟩ y) :=
  (Kb.setCell (M := fun k => k = g) x rfl).trans (Kb.setCell (M := fun k => k = g) y rfl) (fun _ h => Or.inl h)
theorem Kb.chain {g : Nat} {A B C : World} (h : Kb (fun k => k = g) A B) (k : Kb (fun k => k = g) B C) : Kb (fun k => k = g) A C := h.trans k (fun _ h => Or.inl h)
set_option maxHeartbeats 2000000 in
set_option maxRecDepth 100000 in
theorem sl_swapRange (base g n cap : Nat) (P X M Y S : List Int) (F : Value) (w : World) (hxy : X.length = Y.length) (hd : Dat base g n cap (P ++ (X ++ (M ++ (Y ++ S)))) w) (hn : n ≤ 1000) :
    Calls Try.prog 146 #[.slice (some ⟨g, 0, none⟩) n cap, .int .i64 (P.length : Nat), .int .i64 ((P.length + X.length + M.length : Nat) : Int), .int .i64 (X.length : Nat), F] w
      fun e w' => e = .returned (.tuple #[]) ∧ Dat base g n cap (P ++ (Y ++ (M ++ (X ++ S)))) w' ∧ Kb (fun k => k = g) w w' := by
  have hlen : P.length + X.length + M.length + Y.length + S.length = n := by have := hd.1; simp only [List.length_append] at this; omega
  obtain ⟨a, ha⟩ : ∃ a, P.length = a := ⟨_, rfl⟩
  obtain ⟨c, hc⟩ : ∃ c, X.length = c := ⟨_, rfl⟩
  obtain ⟨b, hb⟩ : ∃ b, P.length + X.length + M.length = b := ⟨_, rfl⟩
  have hSW := hid (fun i (hi : i < X.length) => swap_range P X M Y S i hxy hi)
  have hbn : b + c ≤ n ∧ a + c ≤ b := by omega
  have HD0 := hid hd
  have HYl : Hid (Y.length = c) := hid (by omega)
  have HXl := hid hc
  rw [ha, hc] at hSW
  rw [ha, hc] at hb
  rw [hb] at hSW
  rw [ha, hc, hb]
  clear hd hxy ha hc hb hlen
  go_enter Try.func146, Try.ntmps146
  go_wp2
  go_loopw [10] (fun iv wr => ∃ i : Nat, i ≤ c ∧ iv = .int .i64 i ∧ Dat base g n cap (P ++ (Y.take i ++ (X.drop i ++ (M ++ (X.take i ++ (Y.drop i ++ S)))))) wr ∧ Kb (fun k => k = g) w wr) (fun iv _ => c - (intOf iv).toNat)
  case atStart => exact ⟨0, by omega, rfl, by simpa using HD0.out, Kb.refl _ _⟩
  case round =>
    clear HD0
    obtain ⟨i, hi, rfl, hd, hk⟩ := hrel
    by_cases hlt : i < c
    · have hsw := hSW.out i hlt
      obtain ⟨D, hD⟩ : ∃ D, P ++ (Y.take i ++ (X.drop i ++ (M ++ (X.take i ++ (Y.drop i ++ S))))) = D := ⟨_, rfl⟩
      rw [hD] at hd hsw
      have HSW := hid hsw
      obtain ⟨c1, f1⟩ := hd.cell (i := a + i) (by omega)
      obtain ⟨c2, f2⟩ := hd.cell (i := b + i) (by omega)
      obtain ⟨x, hx⟩ : ∃ x, D.getD (a + i) 0 = x := ⟨_, rfl⟩
      obtain ⟨y, hy⟩ : ∃ y, D.getD (b + i) 0 = y := ⟨_, rfl⟩
      have hS1 := hd.swap (a + i) (b + i)
      have hS2 := hd.swap' (i := a + i) (j := b + i) (by omega) (by omega)
      rw [hx, hy] at hS1 hS2
      rw [hx] at c1
      rw [hy] at c2
      have HS1 := hid hS1
      have HS2 := hid hS2
      have HK := hid hk
      have q1 : (0 : Int) ≤ (a : Int) + (i : Int) := by omega
      have q2 : (a : Int) + (i : Int) < (n : Int) := by omega
      have q3 : (0 : Int) ≤ (b : Int) + (i : Int) := by omega
      have q4 : (b : Int) + (i : Int) < (n : Int) := by omega
      have t1 : ((a : Int) + (i : Int)).toNat = a + i := by omega
      have t2 : ((b : Int) + (i : Int)).toNat = b + i := by omega
      have w1 : IntKind.i64.wrap ((a : Int) + (i : Int)) = (a : Int) + (i : Int) := by rw [IntWalk.i64_in _ (by omega)]
      have w2 : IntKind.i64.wrap ((b : Int) + (i : Int)) = (b : Int) + (i : Int) := by rw [IntWalk.i64_in _ (by omega)]
      have hne : a + i ≠ b + i := by omega
      clear hS1 hS2 hd hk hsw hx hy hD
      go_wp2
      go_region
      go_wp2
      go_roundw
      case rel => exact ⟨i + 1, by omega, by go_num, by rw [← HSW.out]; exact HS1.out.below (Below.drew (Below.refl _ _)), HK.out.chain (kb_set2.chain (Kb.of_below (Below.drew (Below.refl _ _))))⟩
      case measure => simp [intOf]; omega
    · have hic : i = c := by omega
      subst hic
      have hd' : Dat base g n cap (P ++ (Y ++ (M ++ (X ++ S)))) wr := by
        rw [List.take_of_length_le (by rw [HYl.out]; exact Nat.le_refl _), List.take_of_length_le (by rw [HXl.out]; exact Nat.le_refl _), List.drop_eq_nil_of_le (by rw [HXl.out]; exact Nat.le_refl _), List.drop_eq_nil_of_le (by rw [HYl.out]; exact Nat.le_refl _)] at hd
        simpa using hd
      have HD := hid hd'
      clear hd hd'
      go_wp2
      go_end0
      exact ⟨rfl, HD.out, hk⟩
theorem sl_swapRange' (base g n cap : Nat) (P X M Y S : List Int) (F : Value) (w : World) (pa pb pc : Int) (h1 : pa = P.length) (h2 : pb = ((P.length + X.length + M.length : Nat) : Int)) (h3 : pc = X.length) (hxy : X.length = Y.length) (hd : Dat base g n cap (P ++ (X ++ (M ++ (Y ++ S)))) w) (hn : n ≤ 1000) :
    Calls Try.prog 146 #[.slice (some ⟨g, 0, none⟩) n cap, .int .i64 pa, .int .i64 pb, .int .i64 pc, F] w
      fun e w' => e = .returned (.tuple #[]) ∧ Dat base g n cap (P ++ (Y ++ (M ++ (X ++ S)))) w' ∧ Kb (fun k => k = g) w w' := by
  subst h1 h2 h3
  exact sl_swapRange base g n cap P X M Y S F w hxy hd hn
/-- how far a rotation is: the two ranges that are left. -/
def RotS (base g n cap m : Nat) (T : List Int) (w : World) (iv jv : Value) (wr : World) : Prop :=
  ∃ P A B S : List Int, iv = .int .i64 (A.length : Nat) ∧ jv = .int .i64 (B.length : Nat) ∧ 0 < A.length ∧ 0 < B.length ∧ P.length + A.length = m ∧ Dat base g n cap (P ++ (A ++ (B ++ S))) wr ∧ Kb (fun k => k = g) w wr ∧ P ++ (B ++ (A ++ S)) = T
set_option maxHeartbeats 2000000 in
set_option maxRecDepth 100000 in
theorem sl_rotate (base g n cap : Nat) (P U V S : List Int) (F : Value) (w : World) (hU : 0 < U.length) (hV : 0 < V.length) (hd : Dat base g n cap (P ++ (U ++ (V ++ S))) w) (hn : n ≤ 1000) :
    Calls Try.prog 132 #[.slice (some ⟨g, 0, none⟩) n cap, .int .i64 (P.length : Nat), .int .i64 ((P.length + U.length : Nat) : Int), .int .i64 ((P.length + U.length + V.length : Nat) : Int), F] w
      fun e w' => e = .returned (.tuple #[]) ∧ Dat base g n cap (P ++ (V ++ (U ++ S))) w' ∧ Kb (fun k => k = g) w w' := by
  have hlen : P.length + U.length + V.length + S.length = n := by have := hd.1; simp only [List.length_append] at this; omega
  obtain ⟨T, hT⟩ : ∃ T, P ++ (V ++ (U ++ S)) = T := ⟨_, rfl⟩
  have H0 : Hid (RotS base g n cap (P.length + U.length) T w (.int .i64 (U.length : Nat)) (.int .i64 (V.length : Nat)) w) := hid ⟨P, U, V, S, rfl, rfl, hU, hV, rfl, hd, Kb.refl _ _, hT⟩
  rw [hT]
  obtain ⟨a, ha⟩ : ∃ a, P.length = a := ⟨_, rfl⟩
  obtain ⟨c, hc⟩ : ∃ c, U.length = c := ⟨_, rfl⟩
  obtain ⟨d, hdd⟩ : ∃ d, V.length = d := ⟨_, rfl⟩
  rw [ha, hc, hdd] at hlen
  rw [ha, hc, hdd] at H0
  rw [ha, hc, hdd]
  have e1 : (((a + c : Nat) : Int)) - (a : Int) = (c : Int) := by omega
  have e2 : (((a + c + d : Nat) : Int)) - ((a + c : Nat) : Int) = (d : Int) := by omega
  obtain ⟨m, hm⟩ : ∃ m, a + c = m := ⟨_, rfl⟩
  rw [hm] at H0 e1 e2 hlen
  rw [hm]
  obtain ⟨q, hq⟩ : ∃ q, m + d = q := ⟨_, rfl⟩
  rw [hq] at e2 hlen
  rw [hq]
  have e1' := e1
  have hmn : m + d ≤ n := by omega
  have ham : a ≤ m := by omega
  have hqm : m ≤ q := by omega
  clear hT ha hc hdd hd hU hV hm hq
  go_enter Try.func132, Try.ntmps132
  go_wp2
  try rw [e1]
  try rw [e2]
  have E1 := hid e1
  have E2 := hid e2
  clear e1 e2 e1'
  go_loopw [10, 11] (fun iv jv wr => RotS base g n cap m T w iv jv wr) (fun iv jv _ => (intOf iv).toNat + (intOf jv).toNat)
  case atStart => first | exact H0.out | (rw [E1.out]; exact H0.out) | (rw [E2.out]; exact H0.out) | (rw [E1.out, E2.out]; exact H0.out)
  case round =>
    clear H0
    obtain ⟨P, A, B, S, rfl, rfl, hA, hB, hPA, hd, hk, hT⟩ := hrel
    have hlen : P.length + A.length + B.length + S.length = n := by have := hd.1; simp only [List.length_append] at this; omega
    have hko := hid hk
    rcases Nat.lt_trichotomy A.length B.length with hlt | heq | hgt
    · obtain ⟨B1, B2, rfl, hB2⟩ : ∃ B1 B2, B = B1 ++ B2 ∧ B2.length = A.length := ⟨B.take (B.length - A.length), B.drop (B.length - A.length), (List.take_append_drop _ _).symm, by simp; omega⟩
      have hd' : Dat base g n cap (P ++ (A ++ (B1 ++ (B2 ++ S)))) wr := by simpa using hd
      have HC := hid (fun pa pb pc h1 h2 h3 => sl_swapRange' base g n cap P A B1 B2 S F wr pa pb pc h1 h2 h3 hB2.symm hd' hn)
      have HN : Hid (∀ wr', Dat base g n cap (P ++ (B2 ++ (B1 ++ (A ++ S)))) wr' → Kb (fun k => k = g) wr wr' → RotS base g n cap m T w (.int .i64 (A.length : Nat)) (.int .i64 (B1.length : Nat)) wr') := hid (fun wr' g1 g2 => ⟨P, B2, B1, A ++ S, by rw [hB2], rfl, by omega, by rw [List.length_append] at hlt; omega, by omega, g1, hko.out.chain g2, by rw [← hT]; simp⟩)
      have hbl : (B1 ++ B2).length = B1.length + A.length := by rw [List.length_append, hB2]
      rw [hbl] at hlen hlt
      rw [hbl]
      have hAp := hA
      obtain ⟨i, hi⟩ : ∃ i, A.length = i := ⟨_, rfl⟩
      obtain ⟨b1, hb1⟩ : ∃ b1, B1.length = b1 := ⟨_, rfl⟩
      obtain ⟨pl, hpl⟩ : ∃ pl, P.length = pl := ⟨_, rfl⟩
      rw [hi, hb1] at HN
      rw [hpl, hi, hb1] at HC
      rw [hi, hpl] at hPA
      rw [hi] at hAp
      rw [hi, hb1, hpl] at hlen
      rw [hi, hb1] at hlt
      rw [hi, hb1]
      obtain ⟨jj, hjj⟩ : ∃ jj, b1 + i = jj := ⟨_, rfl⟩
      rw [hjj] at hlt
      rw [← Nat.add_assoc] at hlen
      rw [hjj]
      have hjb : b1 + i ≤ jj ∧ jj ≤ b1 + i := by omega
      have e9 : (jj : Int) - (i : Int) = (b1 : Int) := by omega
      have e9' := e9
      clear hA hB hd hd' hT hk hB2 hbl hi hb1 hpl hjj
      have n1 : ((i : Int) != (jj : Int)) = true := by simp; omega
      have n2 : decide ((jj : Int) < (i : Int)) = false := by simp; omega
      go_wp2_with fail
      refine (HC.out _ _ _ (by omega) (by omega) (by omega)).mono ?_
      rintro e w1 ⟨rfl, hd1, hk1⟩
      have HS := hid (HN.out _ hd1 hk1)
      clear hd1 hk1 HN HC n1 n2
      go_wp2
      go_roundw
      case rel =>
        exact HS.out
      case measure => simp [intOf]; omega
    · have hd' : Dat base g n cap (P ++ (A ++ ([] ++ (B ++ S)))) wr := by simpa using hd
      have HC := hid (fun pa pb pc h1 h2 h3 => sl_swapRange' base g n cap P A [] B S F wr pa pb pc h1 h2 h3 heq hd' hn)
      have hT' : P ++ (B ++ ([] ++ (A ++ S))) = T := by rw [← hT]; simp
      rw [hT'] at HC
      rw [← heq]
      obtain ⟨i, hi⟩ : ∃ i, A.length = i := ⟨_, rfl⟩
      obtain ⟨pl, hpl⟩ : ∃ pl, P.length = pl := ⟨_, rfl⟩
      rw [← heq] at hlen
      rw [hpl, hi] at HC
      rw [hi, hpl] at hPA
      rw [hi, hpl] at hlen
      rw [hi]
      have n1 : ((i : Int) != (i : Int)) = false := by simp
      clear hA hB hd hd' hT hT' hk heq hi hpl
      go_wp2_with fail
      refine (HC.out _ _ _ (by omega) (by simp; omega) (by omega)).mono ?_
      rintro e w1 ⟨rfl, hd1, hk1⟩
      have HS := hid hd1
      have HK1 := hid (hko.out.chain hk1)
      clear hd1 hk1 HC n1
      go_wp2
      go_end0
      exact ⟨rfl, HS.out, HK1.out⟩
    · obtain ⟨A1, A2, rfl, hA1⟩ : ∃ A1 A2, A = A1 ++ A2 ∧ A1.length = B.length := ⟨A.take B.length, A.drop B.length, (List.take_append_drop _ _).symm, by simp; omega⟩
      have hd' : Dat base g n cap (P ++ (A1 ++ (A2 ++ (B ++ S)))) wr := by simpa using hd
      have HC := hid (fun pa pb pc h1 h2 h3 => sl_swapRange' base g n cap P A1 A2 B S F wr pa pb pc h1 h2 h3 hA1 hd' hn)
      have hal : (A1 ++ A2).length = B.length + A2.length := by rw [List.length_append, hA1]
      rw [hal] at hlen hgt hPA
      have HN : Hid (∀ wr', Dat base g n cap (P ++ (B ++ (A2 ++ (A1 ++ S)))) wr' → Kb (fun k => k = g) wr wr' → RotS base g n cap m T w (.int .i64 (A2.length : Nat)) (.int .i64 (B.length : Nat)) wr') := hid (fun wr' g1 g2 => ⟨P ++ B, A2, A1, S, rfl, by rw [hA1], by omega, by omega, by rw [List.length_append]; omega, by simpa using g1, hko.out.chain g2, by rw [← hT]; simp⟩)
      rw [hal]
      obtain ⟨j, hj⟩ : ∃ j, B.length = j := ⟨_, rfl⟩
      obtain ⟨a2, ha2⟩ : ∃ a2, A2.length = a2 := ⟨_, rfl⟩
      obtain ⟨pl, hpl⟩ : ∃ pl, P.length = pl := ⟨_, rfl⟩
      rw [hj, ha2] at HN
      rw [hpl, hA1, hj, ha2] at HC
      rw [hj, ha2, hpl] at hPA
      rw [hj] at hB
      have hBp := hB
      rw [hj, ha2, hpl] at hlen
      rw [hj, ha2] at hgt
      rw [hj, ha2]
      obtain ⟨ii, hii⟩ : ∃ ii, j + a2 = ii := ⟨_, rfl⟩
      rw [hii] at hgt hPA
      rw [hii]
      have hib : j + a2 ≤ ii ∧ ii ≤ j + a2 := by omega
      have e9 : (ii : Int) - (j : Int) = (a2 : Int) := by omega
      have e9' := e9
      clear hA hB hd hd' hT hk hA1 hal hj ha2 hpl hii
      have n1 : ((ii : Int) != (j : Int)) = true := by simp; omega
      have n2 : decide ((j : Int) < (ii : Int)) = true := by simp; omega
      go_wp2_with fail
      refine (HC.out _ _ _ (by omega) (by omega) (by omega)).mono ?_
      rintro e w1 ⟨rfl, hd1, hk1⟩
      have HS := hid (HN.out _ hd1 hk1)
      clear hd1 hk1 HN HC n1 n2
      go_wp2
      go_roundw
      case rel =>
        exact HS.out
      case measure => simp [intOf]; omega
end Go.Proofs.Ytldgkidojepdlaa
