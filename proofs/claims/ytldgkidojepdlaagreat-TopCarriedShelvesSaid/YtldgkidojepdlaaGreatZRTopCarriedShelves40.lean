/-
  WHAT IT HOLDS: plain facts on a stable sort by merging: swaps, rotations, the halves of a symmetric merge. No program in sight.
  WHAT IT HOLDS: plain facts on blocks that stand in order, as a stable sort makes them. No program in sight.
-/
import Derived.Test.YtldgkidojepdlaaGreatZRTopCarriedShelves0
namespace Go.Proofs.YtldgkidojepdlaaGreat
/-- x stands before y: by rank, and then by number. -/
def Lt (r : Int → Int) (x y : Int) : Prop := r x < r y ∨ (r x = r y ∧ x < y)
theorem Lt.trans {r : Int → Int} {x y z : Int} (h : Lt r x y) (k : Lt r y z) : Lt r x z := by unfold Lt at *; omega
theorem Lt.irr {r : Int → Int} {x : Int} (h : Lt r x x) : False := by unfold Lt at h; omega
theorem Lt.total {r : Int → Int} {x y : Int} (h : ¬ Lt r x y) (hne : x ≠ y) : Lt r y x := by unfold Lt at *; omega
theorem lt_iff {r : Int → Int} {x y : Int} (h : x < y) : Lt r y x ↔ r y < r x := by unfold Lt; omega
abbrev SoR (r : Int → Int) (l : List Int) : Prop := l.Pairwise (Lt r)
theorem SoR.at {r : Int → Int} {l : List Int} (h : SoR r l) {i j : Nat} (hij : i < j) (hj : j < l.length) : Lt r (l[i]'(by omega)) l[j] := List.pairwise_iff_getElem.1 h i j (by omega) hj hij
theorem SoR.le {r : Int → Int} {l : List Int} (h : SoR r l) {i j : Nat} (hij : i ≤ j) (hj : j < l.length) : Lt r (l[i]'(by omega)) l[j] ∨ (l[i]'(by omega)) = l[j] := by
  rcases Nat.lt_or_ge i j with h1 | h1
  · exact Or.inl (h.at h1 hj)
  · have : i = j := by omega
    subst this
    exact Or.inr rfl
/-- two elements are swapped. -/
def swapL (D : List Int) (i j : Nat) : List Int := (D.set i (D.getD j 0)).set j (D.getD i 0)
theorem swapL_len (D : List Int) (i j : Nat) : (swapL D i j).length = D.length := by simp [swapL]
theorem swapL_parts (P M S : List Int) (x y : Int) : swapL (P ++ x :: (M ++ y :: S)) P.length (P.length + 1 + M.length) = P ++ y :: (M ++ x :: S) := by
  unfold swapL
  have e1 : (P ++ x :: (M ++ y :: S)).getD P.length 0 = x := by simp [List.getD_eq_getElem?_getD]
  have e2 : (P ++ x :: (M ++ y :: S)).getD (P.length + 1 + M.length) 0 = y := by
    rw [List.getD_eq_getElem?_getD, List.getElem?_append_right (by omega)]
    have : P.length + 1 + M.length - P.length = M.length + 1 := by omega
    rw [this]
    simp
  rw [e1, e2, List.set_append_right _ _ (Nat.le_refl _)]
  simp only [Nat.sub_self, List.set_cons_zero]
  rw [List.set_append_right _ _ (by omega)]
  have : P.length + 1 + M.length - P.length = M.length + 1 := by omega
  rw [this, List.set_cons_succ, List.set_append_right _ _ (Nat.le_refl _)]
  simp
theorem swapL_comm (D : List Int) (i j : Nat) (hi : i < D.length) (hj : j < D.length) : swapL D i j = swapL D j i := by
  unfold swapL
  by_cases h : i = j
  · subst h; rfl
  · exact List.set_comm _ _ h
theorem swapL_next (P S : List Int) (x y : Int) : swapL (P ++ x :: y :: S) P.length (P.length + 1) = P ++ y :: x :: S := by
  have := swapL_parts P [] S x y
  simpa using this
/-- two ranges are swapped, so far. -/
theorem swap_range (P X M Y S : List Int) (i : Nat) (hxy : X.length = Y.length) (hi : i < X.length) :
    swapL (P ++ (Y.take i ++ (X.drop i ++ (M ++ (X.take i ++ (Y.drop i ++ S)))))) (P.length + i) (P.length + X.length + M.length + i) = P ++ (Y.take (i + 1) ++ (X.drop (i + 1) ++ (M ++ (X.take (i + 1) ++ (Y.drop (i + 1) ++ S))))) := by
  have hi' : i < Y.length := by omega
  have e := swapL_parts (P ++ Y.take i) (X.drop (i + 1) ++ (M ++ X.take i)) (Y.drop (i + 1) ++ S) X[i] Y[i]
  have l1 : (P ++ Y.take i).length = P.length + i := by simp; omega
  have l2 : (P ++ Y.take i).length + 1 + (X.drop (i + 1) ++ (M ++ X.take i)).length = P.length + X.length + M.length + i := by simp; omega
  rw [l1] at e
  rw [l1] at l2
  rw [l2] at e
  rw [List.drop_eq_getElem_cons hi, List.drop_eq_getElem_cons hi', List.take_succ_eq_append_getElem hi, List.take_succ_eq_append_getElem hi']
  simp only [List.append_assoc, List.cons_append, List.nil_append] at e ⊢
  exact e
/-- what stands ahead of the middle is before what stands behind it. -/
theorem sym_halves {r : Int → Int} {L Q : List Int} (hL : SoR r L) (hQ : SoR r Q) (hx : ∀ x ∈ L, ∀ y ∈ Q, x < y) {M s lo hi : Nat} (h1 : lo ≤ s) (h2 : s ≤ hi) (hhl : hi ≤ L.length) (hhm : hi ≤ M) (hloq : M - lo ≤ Q.length)
    (hlo : lo = 0 ∨ M - lo = Q.length) (hhi : hi = L.length ∨ hi = M)
    (hno : ∀ c, lo ≤ c → c < s → ∀ (g1 : M - 1 - c < Q.length) (g2 : c < L.length), ¬ Lt r Q[M - 1 - c] L[c]) (hyes : ∀ c, s ≤ c → c < hi → ∀ (g1 : M - 1 - c < Q.length) (g2 : c < L.length), Lt r Q[M - 1 - c] L[c]) :
    ∀ x ∈ L.take s ++ Q.take (M - s), ∀ y ∈ L.drop s ++ Q.drop (M - s), Lt r x y := by
  have ne : ∀ x ∈ L, ∀ y ∈ Q, x ≠ y := fun x h y k e => by have := hx x h y k; omega
  intro x hxm y hym
  rcases List.mem_append.1 hxm with hxm | hxm <;> rcases List.mem_append.1 hym with hym | hym
  · obtain ⟨i, hi', rfl⟩ := List.getElem_of_mem hxm
    obtain ⟨j, hj', rfl⟩ := List.getElem_of_mem hym
    simp only [List.length_take] at hi'
    simp only [List.length_drop] at hj'
    rw [List.getElem_take, List.getElem_drop]
    exact hL.at (by omega) (by omega)
  · obtain ⟨i, hi', rfl⟩ := List.getElem_of_mem hxm
    obtain ⟨j, hj', rfl⟩ := List.getElem_of_mem hym
    simp only [List.length_take] at hi'
    simp only [List.length_drop] at hj'
    rw [List.getElem_take, List.getElem_drop]
    rcases Nat.lt_or_ge lo s with hs | hs
    · have g1 : M - 1 - (s - 1) < Q.length := by omega
      have g2 : s - 1 < L.length := by omega
      have h9 := hno (s - 1) (by omega) (by omega) g1 g2
      have h8 := h9 |> fun h => Lt.total h (fun e => ne _ (List.getElem_mem g2) _ (List.getElem_mem g1) e.symm)
      have h7 : Lt r L[s - 1] (Q[M - s + j]'(by omega)) := by
        rcases hQ.le (i := M - 1 - (s - 1)) (j := M - s + j) (by omega) (by omega) with h | h
        · exact h8.trans h
        · rw [← h]; exact h8
      rcases hL.le (i := i) (j := s - 1) (by omega) g2 with h | h
      · exact h.trans h7
      · rw [h]; exact h7
    · have : lo = s := by omega
      subst this
      rcases hlo with h | h
      · omega
      · omega
  · obtain ⟨i, hi', rfl⟩ := List.getElem_of_mem hxm
    obtain ⟨j, hj', rfl⟩ := List.getElem_of_mem hym
    simp only [List.length_take] at hi'
    simp only [List.length_drop] at hj'
    rw [List.getElem_take, List.getElem_drop]
    rcases Nat.lt_or_ge s hi with hs | hs
    · have g1 : M - 1 - s < Q.length := by omega
      have g2 : s < L.length := by omega
      have h8 := hyes s (by omega) hs g1 g2
      have h7 : Lt r (Q[i]'(by omega)) L[s] := by
        rcases hQ.le (i := i) (j := M - 1 - s) (by omega) g1 with h | h
        · exact h.trans h8
        · rw [h]; exact h8
      rcases hL.le (i := s) (j := s + j) (by omega) (by omega) with h | h
      · exact h7.trans h
      · rw [← h]; exact h7
    · have : hi = s := by omega
      subst this
      rcases hhi with h | h <;> omega
  · obtain ⟨i, hi', rfl⟩ := List.getElem_of_mem hxm
    obtain ⟨j, hj', rfl⟩ := List.getElem_of_mem hym
    simp only [List.length_take] at hi'
    simp only [List.length_drop] at hj'
    rw [List.getElem_take, List.getElem_drop]
    exact hQ.at (by omega) (by omega)
theorem sym_join {r : Int → Int} {L Q Z1 Z2 : List Int} {M s : Nat} (h : ∀ x ∈ L.take s ++ Q.take (M - s), ∀ y ∈ L.drop s ++ Q.drop (M - s), Lt r x y) (p1 : Z1.Perm (L.take s ++ Q.take (M - s))) (p2 : Z2.Perm (L.drop s ++ Q.drop (M - s))) (s1 : SoR r Z1) (s2 : SoR r Z2) :
    (Z1 ++ Z2).Perm (L ++ Q) ∧ SoR r (Z1 ++ Z2) := by
  constructor
  · refine (p1.append p2).trans ?_
    have e : ((L.take s ++ Q.take (M - s)) ++ (L.drop s ++ Q.drop (M - s))).Perm ((L.take s ++ L.drop s) ++ (Q.take (M - s) ++ Q.drop (M - s))) := by
      rw [List.append_assoc, List.append_assoc]
      refine List.Perm.append_left _ ?_
      rw [← List.append_assoc, ← List.append_assoc]
      exact List.Perm.append_right _ List.perm_append_comm
    rw [List.take_append_drop, List.take_append_drop] at e
    exact e
  · exact List.pairwise_append.2 ⟨s1, s2, fun x hx y hy => h x (p1.mem_iff.1 hx) y (p2.mem_iff.1 hy)⟩
theorem SoR.take {r : Int → Int} {l : List Int} (h : SoR r l) (n : Nat) : SoR r (l.take n) := h.sublist (List.take_sublist _ _)
theorem SoR.drop {r : Int → Int} {l : List Int} (h : SoR r l) (n : Nat) : SoR r (l.drop n) := h.sublist (List.drop_sublist _ _)
/-- one element is put where it belongs, from the left. -/
theorem put_left {r : Int → Int} {x : Int} {Q1 Q2 : List Int} (hQ : SoR r (Q1 ++ Q2)) (h1 : ∀ y ∈ Q1, Lt r y x) (h2 : ∀ y ∈ Q2, Lt r x y) : (Q1 ++ x :: Q2).Perm (x :: (Q1 ++ Q2)) ∧ SoR r (Q1 ++ x :: Q2) := by
  constructor
  · exact List.perm_middle
  · obtain ⟨a, b, c⟩ := List.pairwise_append.1 hQ
    refine List.pairwise_append.2 ⟨a, List.pairwise_cons.2 ⟨h2, b⟩, fun y hy z hz => ?_⟩
    rcases List.mem_cons.1 hz with rfl | hz
    · exact h1 y hy
    · exact c y hy z hz
end Go.Proofs.YtldgkidojepdlaaGreat
namespace Go.Proofs.YtldgkidojepdlaaGreat
/-- the numbers from s on. -/
def seg (s k : Nat) : List Int := (List.range k).map fun i => ((s + i : Nat) : Int)
theorem seg_len (s k : Nat) : (seg s k).length = k := by simp [seg]
theorem seg_mem {s k : Nat} {x : Int} : x ∈ seg s k ↔ (s : Int) ≤ x ∧ x < ((s + k : Nat) : Int) := by
  unfold seg
  rw [List.mem_map]
  constructor
  · rintro ⟨i, hi, rfl⟩
    have := List.mem_range.1 hi
    omega
  · rintro ⟨h1, h2⟩
    exact ⟨(x - s).toNat, List.mem_range.2 (by omega), by omega⟩
theorem seg_add (s k j : Nat) : seg s (k + j) = seg s k ++ seg (s + k) j := by
  unfold seg
  rw [List.range_add, List.map_append, List.map_map]
  congr 1
  refine List.map_congr_left fun i _ => ?_
  simp only [Function.comp]
  congr 1
  omega
theorem seg_up (s k : Nat) : (seg s k).Pairwise (· < ·) := by
  unfold seg
  rw [List.pairwise_map]
  refine List.Pairwise.imp ?_ List.pairwise_lt_range
  intro a b h
  omega
/-- a block that stands in order, of the numbers from s on. -/
structure Bl (r : Int → Int) (s k : Nat) (B : List Int) : Prop where
  so : SoR r B
  pm : B.Perm (seg s k)
theorem Bl.len {r : Int → Int} {s k : Nat} {B : List Int} (h : Bl r s k B) : B.length = k := by rw [h.pm.length_eq, seg_len]
theorem Bl.cross {r : Int → Int} {s k j : Nat} {B C : List Int} (h : Bl r s k B) (g : Bl r (s + k) j C) : ∀ x ∈ B, ∀ y ∈ C, x < y := by
  intro x hx y hy
  have h1 := seg_mem.1 (h.pm.mem_iff.1 hx)
  have h2 := seg_mem.1 (g.pm.mem_iff.1 hy)
  omega
theorem Bl.join {r : Int → Int} {s k j : Nat} {B C Z : List Int} (h : Bl r s k B) (g : Bl r (s + k) j C) (hp : Z.Perm (B ++ C)) (hs : SoR r Z) : Bl r s (k + j) Z :=
  ⟨hs, by rw [seg_add]; exact hp.trans (h.pm.append g.pm)⟩
/-- full blocks. -/
def FullB (r : Int → Int) (W : Nat) : Nat → List (List Int) → Prop
  | _, [] => True
  | s, B :: Bs => Bl r s W B ∧ FullB r W (s + W) Bs
/-- blocks, full ones but for the last. -/
def BlkB (r : Int → Int) (W : Nat) : Nat → List (List Int) → Prop
  | _, [] => True
  | s, B :: Bs => Bl r s B.length B ∧ 0 < B.length ∧ B.length ≤ W ∧ (Bs ≠ [] → B.length = W) ∧ BlkB r W (s + B.length) Bs
theorem FullB.len {r : Int → Int} {W : Nat} : ∀ {Bs : List (List Int)} {s : Nat}, FullB r W s Bs → Bs.flatten.length = W * Bs.length
  | [], _, _ => by simp
  | B :: Bs, s, h => by
    have := h.2.len
    rw [List.flatten_cons, List.length_append, this, h.1.len, List.length_cons, Nat.mul_succ]
    omega
theorem FullB.snoc {r : Int → Int} {W : Nat} {Z : List Int} : ∀ {Bs : List (List Int)} {s : Nat}, FullB r W s Bs → Bl r (s + W * Bs.length) W Z → FullB r W s (Bs ++ [Z])
  | [], s, _, hz => ⟨by simpa using hz, trivial⟩
  | B :: Bs, s, h, hz => ⟨h.1, h.2.snoc (by rw [List.length_cons, Nat.mul_succ] at hz; rw [show s + W + W * Bs.length = s + (W * Bs.length + W) from by omega]; exact hz)⟩
theorem FullB.append {r : Int → Int} {W : Nat} (hW : 0 < W) {Ds : List (List Int)} : ∀ {Bs : List (List Int)} {s : Nat}, FullB r W s Bs → BlkB r W (s + W * Bs.length) Ds → BlkB r W s (Bs ++ Ds)
  | [], s, _, hd => by simpa using hd
  | B :: Bs, s, h, hd => by
    have hl := h.1.len
    refine ⟨by rw [hl]; exact h.1, by omega, by omega, fun _ => hl, ?_⟩
    rw [hl]
    exact h.2.append hW (by rw [List.length_cons, Nat.mul_succ] at hd; rw [show s + W + W * Bs.length = s + (W * Bs.length + W) from by omega]; exact hd)
theorem BlkB.wide {r : Int → Int} {W V : Nat} {s : Nat} {B : List Int} (h : BlkB r W s [B]) (hV : W ≤ V) : BlkB r V s [B] := ⟨h.1, h.2.1, by have := h.2.2.1; omega, fun h => absurd rfl h, trivial⟩
theorem BlkB.one {r : Int → Int} {W : Nat} {Bs : List (List Int)} (h : BlkB r W 0 Bs) (hn : Bs.flatten.length ≤ W) : Bl r 0 Bs.flatten.length Bs.flatten := by
  match Bs, h with
  | [], _ => exact ⟨List.Pairwise.nil, by simp [seg]⟩
  | [B], h => simpa using h.1
  | B :: C :: Bs, h =>
    have h1 := h.2.2.2.1 (by simp)
    have h2 := h.2.2.2.2.2.1
    simp only [List.flatten_cons, List.length_append] at hn
    omega
/-- at least two full blocks are left. -/
theorem BlkB.two {r : Int → Int} {W s : Nat} {Bs : List (List Int)} (h : BlkB r W s Bs) (hW : 0 < W) (hn : W + W ≤ Bs.flatten.length) : ∃ B C Ds, Bs = B :: C :: Ds ∧ Bl r s W B ∧ Bl r (s + W) W C ∧ BlkB r W (s + W + W) Ds := by
  match Bs, h with
  | [], _ => simp at hn; omega
  | [B], h => have := h.2.2.1; simp at hn; omega
  | B :: C :: Ds, h =>
    obtain ⟨b1, b2, b3, b4, c1, c2, c3, c4, c5⟩ := h
    have hb := b4 (by simp)
    have hc : C.length = W := by
      by_cases hd : Ds = []
      · subst hd; simp at hn; omega
      · exact c4 hd
    rw [hb] at c1 c5 b1
    rw [hc] at c1 c5
    exact ⟨B, C, Ds, rfl, b1, c1, c5⟩
/-- less than two full blocks are left. -/
theorem BlkB.rest {r : Int → Int} {W s : Nat} {Bs : List (List Int)} (h : BlkB r W s Bs) (hn : Bs.flatten.length < W + W) : Bs = [] ∨ (∃ B, Bs = [B] ∧ B.length ≤ W) ∨ ∃ B C, Bs = [B, C] ∧ Bl r s W B ∧ Bl r (s + W) C.length C ∧ 0 < C.length ∧ C.length < W := by
  match Bs, h with
  | [], _ => exact Or.inl rfl
  | [B], h => exact Or.inr (Or.inl ⟨B, rfl, h.2.2.1⟩)
  | [B, C], h =>
    obtain ⟨b1, b2, b3, b4, c1, c2, c3, c4, c5⟩ := h
    have hb := b4 (by simp)
    rw [hb] at c1 b1
    simp at hn
    exact Or.inr (Or.inr ⟨B, C, rfl, b1, c1, c2, by omega⟩)
  | B :: C :: D :: Ds, h =>
    obtain ⟨b1, b2, b3, b4, c1, c2, c3, c4, d1, d2, -⟩ := h
    have hb := b4 (by simp)
    have hc := c4 (by simp)
    simp at hn
    omega
end Go.Proofs.YtldgkidojepdlaaGreat
