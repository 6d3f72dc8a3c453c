/-
  WHAT IT HOLDS: symMergeCmpFunc of package slices at int, where the middle lies anywhere. Conditions: both parts stand in order, and the numbers of the first are below those of the second.
  WHAT IT HOLDS: contract of slices.SortStableFunc at []int, of a slice of the call's own that holds the numbers from 0 on, by a comparison that ranks.
  WHAT IT HOLDS: contracts of ranked and Ranked of package find with their comparisons. Conditions: the arguments read as data; a small sign.
-/
import Derived.Test.YtldgkidojepdlaaGreatZRTopCarriedShelves43
import Derived.Test.YtldgkidojepdlaaGreatZRTopCarriedShelves44
import Derived.Test.YtldgkidojepdlaaGreatZRTopCarriedShelves40
import Derived.Test.YtldgkidojepdlaaGreatZRTopCarriedShelves6
import Derived.Test.YtldgkidojepdlaaGreatZRTopCarriedShelves12
import Derived.Test.YtldgkidojepdlaaGreatZRTopCarriedShelves23
import Derived.Test.YtldgkidojepdlaaGreatZRTopCarriedShelves3
namespace Go.Proofs.YtldgkidojepdlaaGreat
open Go Go.RowKit Go.Maps Go.Shelf
theorem sl_symMerge (base g n cap : Nat) (q1 q2 : Value) (cf : Int → Int → Int) (r : Int → Int) (N : Nat) (hn : n ≤ 1000) : ∀ (K : Nat), SymIH base g n cap q1 q2 cf r N K := by
  intro K
  induction K with
  | zero => intro P L Q S w pa pm pb h1 _ _ _ h2; omega
  | succ K ih =>
    intro P L Q S w pa pm pb hK ha hm hb hl0 hq0 hL hQ hx hr hc hd
    by_cases hl1 : L.length = 1
    · obtain ⟨x, rfl⟩ : ∃ x, L = [x] := List.length_eq_one_iff.1 hl1
      exact sl_symMerge1 base g n cap P Q S x q1 q2 cf r N w pa pm pb ha (by simpa using hm) (by simpa using hb) hQ (fun y hy => hx x (by simp) y hy) (hr x (by simp)) (fun y hy => hr y (by simp [hy])) hc (by simpa using hd) hn
    by_cases hq1 : Q.length = 1
    · obtain ⟨y, rfl⟩ : ∃ y, Q = [y] := List.length_eq_one_iff.1 hq1
      exact sl_symMerge2 base g n cap P L S y q1 q2 cf r N w pa pm pb ha hm (by simpa using hb) hl1 hL (fun x hx' => hx x hx' y (by simp)) (hr y (by simp)) (fun x hx' => hr x (by simp [hx'])) hc (by simpa using hd) hn
    by_cases dm : (P.length + (P.length + L.length + Q.length)) / 2 < P.length + L.length
    · exact sl_symA base g n cap q1 q2 cf r N hn K ih P L Q S w pa pm pb hK ha hm hb hl0 hq0 hL hQ hx hr hc hd hl1 hq1 dm
    · exact sl_symB base g n cap q1 q2 cf r N hn K ih P L Q S w pa pm pb hK ha hm hb hl0 hq0 hL hQ hx hr hc hd hl1 hq1 dm
end Go.Proofs.YtldgkidojepdlaaGreat
namespace Go.Proofs.YtldgkidojepdlaaGreat
open Go Go.RowKit Go.Maps Go.Shelf
/-- the first pass, so far. -/
def St1 (base g n cap : Nat) (r : Int → Int) (w : World) (av bv : Value) (wr : World) : Prop :=
  ∃ (a : Nat) (Bs : List (List Int)), a ≤ n ∧ a = 20 * Bs.length ∧ av = .int .i64 (a : Int) ∧ bv = .int .i64 ((a : Int) + 20) ∧ FullB r 20 0 Bs ∧ Dat base g n cap (Bs.flatten ++ (seg a (n - a))) wr ∧ Kb (fun k => k = g) w wr
def St2 (base g n cap : Nat) (r : Int → Int) (w : World) (wv : Value) (wr : World) : Prop :=
  ∃ (W : Nat) (Bs : List (List Int)), 0 < W ∧ W ≤ 2 * n + 20 ∧ wv = .int .i64 (W : Int) ∧ BlkB r W 0 Bs ∧ Dat base g n cap Bs.flatten wr ∧ Kb (fun k => k = g) w wr
def St3 (base g n cap W : Nat) (r : Int → Int) (w : World) (av bv : Value) (wr : World) : Prop :=
  ∃ (a : Nat) (Cs Bs : List (List Int)), a ≤ n ∧ a = (W + W) * Cs.length ∧ av = .int .i64 (a : Int) ∧ bv = .int .i64 ((a + (W + W) : Nat) : Int) ∧ FullB r (W + W) 0 Cs ∧ BlkB r W a Bs ∧ Dat base g n cap (Cs.flatten ++ Bs.flatten) wr ∧ Kb (fun k => k = g) w wr
theorem rng_seg {N n : Nat} (h : n ≤ N) {s k : Nat} (hs : s + k ≤ n) : ∀ x ∈ seg s k, 0 ≤ x ∧ x < N := fun x hx => by have := seg_mem.1 hx; omega
set_option maxHeartbeats 8000000 in
set_option maxRecDepth 100000 in
theorem sl_stable (base g n cap : Nat) (q1 q2 : Value) (cf : Int → Int → Int) (r : Int → Int) (N : Nat) (w : World) (hn : n ≤ 1000) (hN : n ≤ N) (hc : CmpOK q1 q2 cf r N g w) (hd : Dat base g n cap (seg 0 n) w) :
    Calls Tryz.prog 69 #[.slice (some ⟨g, 0, none⟩) n cap, .int .i64 (n : Nat), .func (.func 51) #[] #[q1, q2]] w (SortR base g n cap [] (seg 0 n) [] r w) := by
  have H0 : Hid (St1 base g n cap r w (.int .i64 0) (.int .i64 20) w) := hid ⟨0, [], Nat.zero_le _, rfl, rfl, rfl, trivial, by simpa using hd, Kb.refl _ _⟩
  have HC := hid hc
  clear hc hd
  go_enter Tryz.func69, Tryz.ntmps69
  go_wp2
  go_loopw [7, 8] (fun av bv wr => St1 base g n cap r w av bv wr) (fun av _ _ => n - (intOf av).toNat)
  case atStart => exact H0.out
  case round =>
    clear H0
    obtain ⟨a, Bs, ha, hak, rfl, rfl, hB, hd, hk⟩ := hrel
    have hBl := hB.len
    by_cases hlt : a + 20 ≤ n
    · have hd2 : Dat base g n cap (Bs.flatten ++ (seg a 20 ++ seg (a + 20) (n - (a + 20)))) wr := by
        have e : seg a (n - a) = seg a 20 ++ seg (a + 20) (n - (a + 20)) := by rw [← seg_add]; congr 1; omega
        rw [← e]; exact hd
      have HI := hid (fun pa pb h1 h2 => sl_insertion base g n cap Bs.flatten (seg a 20) (seg (a + 20) (n - (a + 20))) q1 q2 cf r N wr pa pb h1 h2 (seg_up _ _) (rng_seg hN hlt) (HC.out.turn hk) hd2 hn)
      have HN : Hid (∀ wr' Z, Z.Perm (seg a 20) → SoR r Z → Dat base g n cap (Bs.flatten ++ (Z ++ seg (a + 20) (n - (a + 20)))) wr' → Kb (fun k => k = g) wr wr' → St1 base g n cap r w (.int .i64 ((a : Int) + 20)) (.int .i64 ((a : Int) + 20 + 20)) wr') := hid (fun wr' Z g1 g2 g3 g4 => ⟨a + 20, Bs ++ [Z], hlt, by simp; omega, rfl, rfl, hB.snoc ⟨g2, by rw [Nat.zero_add, ← hak]; exact g1⟩, by simpa using g3, hk.chain g4⟩)
      rw [hBl, ← hak, seg_len] at HI
      have hle : (a : Int) + 20 ≤ (n : Int) := by omega
      clear hB hd hd2 hk hBl hak
      go_wp2_with fail
      refine (HI.out _ _ (by first | rfl | omega) (by omega)).mono ?_
      rintro e w1 ⟨Z, rfl, hp, hs, hd1, hk1⟩
      have HS := hid (HN.out w1 Z hp hs hd1 hk1)
      clear hp hs hd1 hk1 HI HN
      go_wp2
      go_roundw
      case rel => exact HS.out
      case measure => simp [intOf]; omega
    · have HI := hid (fun pa pb h1 h2 => sl_insertion base g n cap Bs.flatten (seg a (n - a)) [] q1 q2 cf r N wr pa pb h1 h2 (seg_up _ _) (rng_seg hN (by omega)) (HC.out.turn hk) (by simpa using hd) hn)
      have HN : Hid (∀ wr' Z, Z.Perm (seg a (n - a)) → SoR r Z → Dat base g n cap (Bs.flatten ++ (Z ++ [])) wr' → Kb (fun k => k = g) wr wr' → St2 base g n cap r w (.int .i64 20) wr') := hid (fun wr' Z g1 g2 g3 g4 => by
        have hZl : Z.length = n - a := by rw [g1.length_eq, seg_len]
        by_cases h0 : n - a = 0
        · have hZ0 : Z = [] := List.length_eq_zero_iff.1 (by omega)
          subst hZ0
          exact ⟨20, Bs, by omega, by omega, rfl, by have := hB.append (Ds := []) (by omega) trivial; simpa using this, by simpa using g3, hk.chain g4⟩
        · refine ⟨20, Bs ++ [Z], by omega, by omega, rfl, hB.append (by omega) ⟨⟨g2, ?_⟩, by omega, by omega, fun h => absurd rfl h, trivial⟩, by simpa using g3, hk.chain g4⟩
          rw [hZl, Nat.zero_add, ← hak]
          exact g1)
      rw [hBl, ← hak, seg_len] at HI
      have hle : ¬ (a : Int) + 20 ≤ (n : Int) := by omega
      have hled : decide ((a : Int) + 20 ≤ (n : Int)) = false := by simp; omega
      clear hB hd hk hBl hak
      go_wp2_with fail
      refine (HI.out _ _ (by first | rfl | omega) (by omega)).mono ?_
      rintro e w1 ⟨Z, rfl, hp, hs, hd1, hk1⟩
      have HS := hid (HN.out w1 Z hp hs hd1 hk1)
      clear hp hs hd1 hk1 HI HN hle hled
      go_wp2
      go_loopw [6] (fun wv w2 => St2 base g n cap r w wv w2) (fun wv _ => n - (intOf wv).toNat)
      case atStart => exact HS.out
      case round =>
        clear HS
        obtain ⟨W, Bs, hW0, hW1, rfl, hB, hd, hk⟩ := hrel
        have hBl : Bs.flatten.length = n := hd.1
        by_cases hlt2 : W < n
        · have hdw : decide (W < n) = true := by simpa using hlt2
          obtain ⟨W2, hW2⟩ : ∃ W2, W + W = W2 := ⟨_, rfl⟩
          have e1 : (2 : Int) * (W : Int) = (W2 : Int) := by omega
          have e2 : (W : Int) * 2 = (W2 : Int) := by omega
          have hw2 : W + W ≤ W2 ∧ W2 ≤ W + W := by omega
          obtain ⟨W4, hW4⟩ : ∃ W4, W4 = wr := ⟨_, rfl⟩
          subst hW4
          have H3 : Hid (St3 base g n cap W r w (.int .i64 0) (.int .i64 (W2 : Int)) W4) := hid ⟨0, [], Bs, Nat.zero_le _, by simp, rfl, by rw [hW2]; simp, trivial, hB, by simpa using hd, hk⟩
          clear hB hd hk hBl hW2
          go_wp2
          go_loopw [7, 8] (fun av bv wr => St3 base g n cap W r w av bv wr) (fun av _ _ => n - (intOf av).toNat)
          case atStart => exact H3.out
          case round =>
            clear H3
            obtain ⟨a, Cs, Bs, ha, hak, rfl, rfl, hC, hB, hd, hk⟩ := hrel
            have hCl := hC.len
            rw [← hak] at hCl
            have hBl : Bs.flatten.length = n - a := by have := hd.1; simp only [List.length_append] at this; omega
            obtain ⟨bb, hbb⟩ : ∃ bb, a + (W + W) = bb := ⟨_, rfl⟩
            rw [hbb]
            by_cases hlt : bb ≤ n
            · obtain ⟨B, C, Ds, rfl, b1, c1, d1⟩ := hB.two hW0 (by omega)
              have hd' : Dat base g n cap (Cs.flatten ++ (B ++ (C ++ Ds.flatten))) wr := by simpa using hd
              have hBL := b1.len
              have hCL := c1.len
              have HI := hid (fun pa pm pb h1 h2 h3 => sl_symMerge base g n cap q1 q2 cf r N hn (B.length + C.length) Cs.flatten B C Ds.flatten wr pa pm pb (Nat.le_refl _) h1 h2 h3 (by omega) (by omega) b1.so c1.so (b1.cross c1) (fun x hx => by
                rcases List.mem_append.1 hx with hx | hx
                · exact rng_seg hN (by omega) x (b1.pm.mem_iff.1 hx)
                · exact rng_seg hN (by omega) x (c1.pm.mem_iff.1 hx)) (HC.out.turn hk) hd')
              have HN : Hid (∀ wr' Z, Z.Perm (B ++ C) → SoR r Z → Dat base g n cap (Cs.flatten ++ (Z ++ Ds.flatten)) wr' → Kb (fun k => k = g) wr wr' → St3 base g n cap W r w (.int .i64 (bb : Int)) (.int .i64 ((bb : Int) + (W2 : Int))) wr') := hid (fun wr' Z g1 g2 g3 g4 =>
                ⟨bb, Cs ++ [Z], Ds, hlt, by rw [List.length_append, List.length_singleton, Nat.mul_succ]; omega, rfl, by congr 1; omega, hC.snoc (by rw [Nat.zero_add, ← hak]; exact b1.join c1 g1 g2), by rw [show bb = a + W + W from by omega]; exact d1, by simpa using g3, hk.chain g4⟩)
              rw [hCl, hBL, hCL] at HI
              have hdb : decide (bb ≤ n) = true := by simpa using hlt
              have hba : a < bb ∧ bb ≤ a + (W + W) ∧ a + (W + W) ≤ bb := by omega
              clear hC hB hd hd' hk hCl hBl hak hBL hCL b1 c1 d1 hbb
              go_wp2_with fail
              refine (HI.out _ _ _ (by first | rfl | omega) (by omega) (by omega)).mono ?_
              rintro e w1 ⟨Z, rfl, hp, hs, hd1, hk1⟩
              have HS := hid (HN.out w1 Z hp hs hd1 hk1)
              clear hp hs hd1 hk1 HI HN
              go_wp2
              go_roundw
              case rel => exact HS.out
              case measure => simp [intOf]; omega
            · have hdb : decide (bb ≤ n) = false := by simpa using hlt
              rcases hB.rest (by omega) with hB0 | ⟨B, hB0, hBw⟩ | ⟨B, C, hB0, b1, c1, hc0, hcW⟩
              · have hN2 : Hid (St2 base g n cap r w (.int .i64 (W2 : Int)) wr) := hid ⟨W2, Cs ++ Bs, by omega, by omega, rfl, by
                  rw [← show W + W = W2 from by omega]
                  exact hC.append (by omega) (by rw [hB0]; trivial), by simpa using hd, hk⟩
                subst hB0
                have hnm : ¬ (a : Int) + (W : Int) < (n : Int) := by simp at hBl; omega
                have hnd : decide ((a : Int) + (W : Int) < (n : Int)) = false := by simpa using hnm
                have hnd2 : decide (a + W < n) = false := by simp at hBl ⊢; omega
                clear hC hB hd hk hCl hBl hak hbb
                go_wp2
                go_roundw
                case rel => exact hN2.out
                case measure => simp [intOf]; omega
              · have hN2 : Hid (St2 base g n cap r w (.int .i64 (W2 : Int)) wr) := hid ⟨W2, Cs ++ Bs, by omega, by omega, rfl, by
                  rw [← show W + W = W2 from by omega]
                  refine hC.append (by omega) ?_
                  rw [hB0] at hB ⊢
                  rw [Nat.zero_add, ← hak]
                  exact hB.wide (by omega), by simpa using hd, hk⟩
                subst hB0
                have hnm : ¬ (a : Int) + (W : Int) < (n : Int) := by simp at hBl; omega
                have hnd : decide ((a : Int) + (W : Int) < (n : Int)) = false := by simpa using hnm
                have hnd2 : decide (a + W < n) = false := by simp at hBl ⊢; omega
                clear hC hB hd hk hCl hBl hak hbb
                go_wp2
                go_roundw
                case rel => exact hN2.out
                case measure => simp [intOf]; omega
              · subst hB0
                have hd' : Dat base g n cap (Cs.flatten ++ (B ++ (C ++ []))) wr := by simpa using hd
                have hBL := b1.len
                have hCL : C.length = n - a - W := by simp at hBl; omega
                have HI := hid (fun pa pm pb h1 h2 h3 => sl_symMerge base g n cap q1 q2 cf r N hn (B.length + C.length) Cs.flatten B C [] wr pa pm pb (Nat.le_refl _) h1 h2 h3 (by omega) (by omega) b1.so c1.so (b1.cross c1) (fun x hx => by
                  rcases List.mem_append.1 hx with hx | hx
                  · exact rng_seg hN (by omega) x (b1.pm.mem_iff.1 hx)
                  · exact rng_seg hN (by omega) x (c1.pm.mem_iff.1 hx)) (HC.out.turn hk) hd')
                have HN : Hid (∀ wr' Z, Z.Perm (B ++ C) → SoR r Z → Dat base g n cap (Cs.flatten ++ (Z ++ [])) wr' → Kb (fun k => k = g) wr wr' → St2 base g n cap r w (.int .i64 (W2 : Int)) wr') := hid (fun wr' Z g1 g2 g3 g4 =>
                  ⟨W2, Cs ++ [Z], by omega, by omega, rfl, by
                    rw [← show W + W = W2 from by omega]
                    refine hC.append (by omega) ?_
                    have hj := b1.join c1 g1 g2
                    have hZl : Z.length = W + C.length := hj.len
                    exact ⟨by rw [hZl, Nat.zero_add, ← hak]; exact hj, by omega, by omega, fun h => absurd rfl h, trivial⟩, by simpa using g3, hk.chain g4⟩)
                rw [hCl, hBL] at HI
                have hnm : (a : Int) + (W : Int) < (n : Int) := by omega
                have hnd : decide ((a : Int) + (W : Int) < (n : Int)) = true := by simpa using hnm
                have hnd2 : decide (a + W < n) = true := by simp; omega
                have hCn : a + W + C.length = n := by omega
                clear hC hB hd hd' hk hCl hBl hak hBL hCL b1 c1 hbb
                go_wp2_with fail
                refine (HI.out _ _ _ (by first | rfl | omega) (by omega) (by omega)).mono ?_
                rintro e w1 ⟨Z, rfl, hp, hs, hd1, hk1⟩
                have HS := hid (HN.out w1 Z hp hs hd1 hk1)
                clear hp hs hd1 hk1 HI HN
                go_wp2
                go_roundw
                case rel => exact HS.out
                case measure => simp [intOf]; omega
        · have hdw : decide (W < n) = false := by simpa using hlt2
          have hO := hB.one (by omega)
          rw [hBl] at hO
          have HO := hid hO
          have HD := hid hd
          have HK := hid hk
          clear hO hd hk hB hBl
          go_wp2
          go_end0
          exact ⟨Bs.flatten, rfl, HO.out.pm, HO.out.so, by simpa using HD.out, HK.out⟩
set_option maxHeartbeats 1000000 in
theorem sl_SortStable (base g n cap : Nat) (q1 q2 : Value) (cf : Int → Int → Int) (r : Int → Int) (N : Nat) (w : World) (hn : n ≤ 1000) (hN : n ≤ N) (hc : CmpOK q1 q2 cf r N g w) (hd : Dat base g n cap (seg 0 n) w) :
    Calls Tryz.prog 50 #[.slice (some ⟨g, 0, none⟩) n cap, .func (.func 51) #[] #[q1, q2]] w (SortR base g n cap [] (seg 0 n) [] r w) := by
  have HS := hid (sl_stable base g n cap q1 q2 cf r N w hn hN hc hd)
  clear hc hd
  go_enter Tryz.func50, Tryz.ntmps50
  go_wp2_with fail
  refine HS.out.mono ?_
  rintro e w1 ⟨Z, rfl, hp, hs, hd1, hk1⟩
  have HX := hid (show SortR base g n cap [] (seg 0 n) [] r w (.returned (.tuple #[])) w1 from ⟨Z, rfl, hp, hs, hd1, hk1⟩)
  clear hp hs hd1 hk1
  go_wp2
  go_end0
  exact HX.out
end Go.Proofs.YtldgkidojepdlaaGreat
namespace Go.Proofs.YtldgkidojepdlaaGreat
open Go Go.RowKit Go.Maps Go.Shelf
/-- how close two terms are. -/
def closN (s : Sg) (a q : List Int) : Nat := symN (comW s a q []).1
theorem closN_le (s : Sg) (a q : List Int) : closN s a q ≤ a.length := by
  have h1 := symN_le (comW s a q []).1
  have h2 := (comW_len s a q []).1
  unfold closN; omega
def rnkT (s : Sg) (q x : List Int) : Int := (x.length : Int) - 1000 * (closN s x q : Int)
def ordT (s : Sg) (q x y : List Int) : Int := orI (cpI (closN s y q) (closN s x q)) (cpI x.length y.length)
theorem ordT_lt {s : Sg} {q x y : List Int} (hx : x.length ≤ 60) (hy : y.length ≤ 60) : ordT s q x y < 0 ↔ rnkT s q x < rnkT s q y := by
  unfold ordT orI cpI rnkT
  by_cases h1 : (closN s y q : Int) < (closN s x q : Int)
  · rw [if_pos h1, if_pos (by decide)]
    constructor
    · intro _; omega
    · intro _; decide
  · rw [if_neg h1]
    by_cases h2 : (closN s x q : Int) < (closN s y q : Int)
    · rw [if_pos h2, if_pos (by decide)]
      constructor
      · intro h; exact absurd h (by decide)
      · intro h; omega
    · rw [if_neg h2, if_neg (by simp)]
      by_cases h3 : (x.length : Int) < (y.length : Int)
      · rw [if_pos h3]
        constructor
        · intro _; omega
        · intro _; decide
      · rw [if_neg h3]
        constructor
        · intro h
          exfalso
          split at h <;> omega
        · intro h; omega
theorem chain2 {P : Program} {f : FuncId} {args : Array Value} {WB W : World} {v : Value} (hb : Below WB.heap.size WB W) (h : Calls P f args W fun e w' => e = .returned v ∧ Below W.heap.size W w') : Calls P f args W fun e w' => e = .returned v ∧ Below W.heap.size W w' ∧ Below WB.heap.size WB w' :=
  h.mono fun _ _ ⟨h1, h2⟩ => ⟨h1, h2, hb.trans (h2.mono hb.size)⟩
theorem cmp_Or_lit (a b : Int) (c : Nat) (w : World) (T : TypeId) :
    Calls Tryz.prog 31 #[.slice (some ⟨w.heap.size, 0, none⟩) 2 c] (w.alloc (.cells #[.int .i64 a, .int .i64 b] T)) fun e w' => e = .returned (.int .i64 (orI a b)) ∧ w.alloc (.cells #[.int .i64 a, .int .i64 b] T) = w' :=
  cmp_Or a b w.heap.size 0 c _ (by rw [World.cell?_alloc_new]; rfl) (by rw [World.cell?_alloc_new]; rfl)
set_option maxHeartbeats 2000000 in
theorem find_Ranked1 (ps pq : Nat) (vs vq vx vy : Value) (s : Sg) (q x y : List Int) (w : World) (hs : SignAt w vs s) (hq : Ints w vq q) (hx : Ints w vx x) (hy : Ints w vy y) (cs : w.cell? ⟨ps, 0, none⟩ = some vs) (cq : w.cell? ⟨pq, 0, none⟩ = some vq)
    (hsl : 1 ≤ s.length) (hsl2 : s.length ≤ 12) (tq : IsT s 12 q) (tx : IsT s 12 x) (ty : IsT s 12 y) (lq : q.length ≤ 60) (lx : x.length ≤ 60) (ly : y.length ≤ 60) :
    Calls Tryz.prog 30 #[vx, vy, .pointer (some ⟨ps, 0, none⟩), .pointer (some ⟨pq, 0, none⟩)] w fun e w' => e = .returned (.int .i64 (ordT s q x y)) ∧ Below w.heap.size w w' := by
  have HY := hid (fun (X : World) (hX : Below w.heap.size w X) => chain2 hX (unify_Common s vs vy vq y q X hsl hsl2 ty tq (hs.below hX) (hy.below hX) (hq.below hX) (by omega) (by omega)))
  have HX := hid (fun (X : World) (hX : Below w.heap.size w X) => chain2 hX (unify_Common s vs vx vq x q X hsl hsl2 tx tq (hs.below hX) (hx.below hX) (hq.below hX) (by omega) (by omega)))
  obtain ⟨sa, sc, rfl, -⟩ := hs.open
  obtain ⟨qa, qc, rfl, -⟩ := hq.open
  obtain ⟨xa, xc, rfl, -⟩ := hx.open
  obtain ⟨ya, yc, rfl, -⟩ := hy.open
  have hcy : closN s y q ≤ 60 := by have := closN_le s y q; omega
  have hcx : closN s x q ≤ 60 := by have := closN_le s x q; omega
  change Hid (∀ X : World, Below w.heap.size w X → Calls _ _ _ X fun e w' => e = .returned (.int .i64 (closN s y q)) ∧ Below X.heap.size X w' ∧ Below w.heap.size w w') at HY
  change Hid (∀ X : World, Below w.heap.size w X → Calls _ _ _ X fun e w' => e = .returned (.int .i64 (closN s x q)) ∧ Below X.heap.size X w' ∧ Below w.heap.size w w') at HX
  have HO : Hid (orI (cpI (closN s y q) (closN s x q)) (cpI x.length y.length) = ordT s q x y) := hid rfl
  obtain ⟨cy, hcy'⟩ : ∃ cy, closN s y q = cy := ⟨_, rfl⟩
  obtain ⟨cx, hcx'⟩ : ∃ cx, closN s x q = cx := ⟨_, rfl⟩
  rw [hcy'] at HY HO
  rw [hcx'] at HX HO
  clear hs hq hx hy tq tx ty hcy' hcx'
  go_enter Tryz.func30, Tryz.ntmps30
  go_wp2
  go_region_held3 (fun w' => w'.cell? ⟨ps, 0, none⟩ = some (.slice sa s.length sc) ∧ w'.cell? ⟨pq, 0, none⟩ = some (.slice qa q.length qc))
    (first | exact ⟨by assumption, by assumption⟩ | go_keep)
    (first
    | (go_at_call 33; (with_reducible refine (HY.out _ (Below.drew (Below.refl _ _))).mono ?_); rintro e w1 ⟨rfl, hb1, gb1⟩
       have cs := (hb1.cell (World.block_lt_of_cell? _ _ cs)).trans cs
       have cq := (hb1.cell (World.block_lt_of_cell? _ _ cq)).trans cq)
    | (go_at_call 33; (with_reducible refine (HX.out _ gb1).mono ?_); rintro e w2 ⟨rfl, hb2, gb2⟩
       have cs := (hb2.cell (World.block_lt_of_cell? _ _ cs)).trans cs
       have cq := (hb2.cell (World.block_lt_of_cell? _ _ cq)).trans cq)
    | (go_at_call 32; refine (cmp_Compare _ _ _).mono ?_; rintro e w3 ⟨rfl, rfl⟩)
    | (go_at_call 31; refine (cmp_Or_lit _ _ _ _ _).mono ?_; rintro e w4 ⟨rfl, rfl⟩))
  have hB := gb2.alloc gb2.size (.cells #[.int .i64 (cpI cy cx), .int .i64 (cpI x.length y.length)] 3)
  have HB := hid hB
  clear hB hb1 gb1 hb2 gb2 cs cq
  go_wp2
  go_ret
  exact ⟨by rw [HO.out]; rfl, HB.out⟩
def cfL (s : Sg) (q : List Int) (l : List (List Int)) (i j : Int) : Int := ordT s q (l.getD i.toNat []) (l.getD j.toNat [])
def rkL (s : Sg) (q : List Int) (l : List (List Int)) (i : Int) : Int := rnkT s q (l.getD i.toNat [])
def fnO (ps pq : Nat) : Value := .func (.func 30) #[] #[.pointer (some ⟨ps, 0, none⟩), .pointer (some ⟨pq, 0, none⟩)]
set_option maxHeartbeats 2000000 in
theorem find_ranked1 (ps pq po pl : Nat) (vs vq vl : Value) (s : Sg) (q : List Int) (l : List (List Int)) (w : World) (i j : Int) (hs : SignAt w vs s) (hq : Ints w vq q) (hl : Terms w vl l) (cs : w.cell? ⟨ps, 0, none⟩ = some vs) (cq : w.cell? ⟨pq, 0, none⟩ = some vq)
    (co : w.cell? ⟨po, 0, none⟩ = some (fnO ps pq)) (cl : w.cell? ⟨pl, 0, none⟩ = some vl) (hsl : 1 ≤ s.length) (hsl2 : s.length ≤ 12) (tq : IsT s 12 q) (lq : q.length ≤ 60) (hT : ∀ x ∈ l, IsT s 12 x ∧ x.length ≤ 60)
    (i0 : 0 ≤ i) (i1 : i < l.length) (j0 : 0 ≤ j) (j1 : j < l.length) :
    Calls Tryz.prog 51 #[.int .i64 i, .int .i64 j, .pointer (some ⟨po, 0, none⟩), .pointer (some ⟨pl, 0, none⟩)] w fun e w' => e = .returned (.int .i64 (cfL s q l i j)) ∧ Below w.heap.size w w' := by
  obtain ⟨a, rfl⟩ : ∃ a : Nat, i = a := ⟨i.toNat, by omega⟩
  obtain ⟨b, rfl⟩ : ∃ b : Nat, j = b := ⟨j.toNat, by omega⟩
  have ha : a < l.length := by omega
  have hb : b < l.length := by omega
  have HF : Hid (cfL s q l a b = ordT s q l[a] l[b]) := hid (by
    unfold cfL
    simp [List.getD_eq_getElem?_getD, ha, hb])
  have ta := hT l[a] (List.getElem_mem ha)
  have tb := hT l[b] (List.getElem_mem hb)
  obtain ⟨la, lc, rfl, -, -, -, LC⟩ := hl.open
  obtain ⟨bb, bo, va, rfl, ca, ra⟩ := LC a ha
  obtain ⟨bb', bo', vb, he, cb, rb⟩ := LC b hb
  cases he
  have HO := hid (fun (X : World) (hX : Below w.heap.size w X) => find_Ranked1 ps pq vs vq va vb s q l[a] l[b] X (hs.below hX) (hq.below hX) (ra.below hX) (rb.below hX) ((hX.cell (World.block_lt_of_cell? _ _ cs)).trans cs) ((hX.cell (World.block_lt_of_cell? _ _ cq)).trans cq) hsl hsl2 tq ta.1 tb.1 lq ta.2 tb.2)
  obtain ⟨xa, xc, rfl, -⟩ := ra.open
  obtain ⟨ya, yc, rfl, -⟩ := rb.open
  obtain ⟨n1, hn1⟩ : ∃ n1, l[a].length = n1 := ⟨_, rfl⟩
  obtain ⟨n2, hn2⟩ : ∃ n2, l[b].length = n2 := ⟨_, rfl⟩
  rw [hn1] at HO ca
  rw [hn2] at HO cb
  have co' : w.cell? ⟨po, 0, none⟩ = some (.func (.func 30) #[] #[.pointer (some ⟨ps, 0, none⟩), .pointer (some ⟨pq, 0, none⟩)]) := co
  have p1 : (0 : Int) ≤ (a : Int) := by omega
  have p2 : (a : Int) < (l.length : Int) := by omega
  have p3 : (0 : Int) ≤ (b : Int) := by omega
  have p4 : (b : Int) < (l.length : Int) := by omega
  clear hs hq hl cs cq co tq hT ta tb LC ra rb hn1 hn2 i0 i1 j0 j1
  go_enter Tryz.func51, Tryz.ntmps51
  go_wp2
  go_region_held3 (fun w' => w'.cell? ⟨po, 0, none⟩ = some (.func (.func 30) #[] #[.pointer (some ⟨ps, 0, none⟩), .pointer (some ⟨pq, 0, none⟩)]) ∧ w'.cell? ⟨pl, 0, none⟩ = some (.slice (some ⟨bb, bo, none⟩) l.length lc) ∧ w'.cell? ⟨bb, bo + a, none⟩ = some (.slice xa n1 xc) ∧ w'.cell? ⟨bb, bo + b, none⟩ = some (.slice ya n2 yc))
    (first | exact ⟨by assumption, by assumption, by assumption, by assumption⟩ | go_keep)
    (first
    | (go_at_call 30; refine (HO.out _ (Below.drew (Below.refl _ _))).mono ?_; rintro e w1 ⟨rfl, hb1⟩
       have co' := (hb1.cell (World.block_lt_of_cell? _ _ co')).trans co'
       have cl := (hb1.cell (World.block_lt_of_cell? _ _ cl)).trans cl
       have ca := (hb1.cell (World.block_lt_of_cell? _ _ ca)).trans ca
       have cb := (hb1.cell (World.block_lt_of_cell? _ _ cb)).trans cb))
  have HB := hid ((Below.drew (Below.refl w.heap.size w)).trans (hb1.mono (Nat.le_refl _)))
  clear hb1 co' cl ca cb
  go_wp2
  go_ret
  exact ⟨by rw [HF.out]; rfl, HB.out⟩
/-- the statements by closeness. -/
def RankP (s : Sg) (q : List Int) (l : List (List Int)) (Z : List Int) : Prop := Z.Perm (seg 0 l.length) ∧ SoR (rkL s q l) Z
set_option maxHeartbeats 2000000 in
set_option maxRecDepth 100000 in
theorem find_ranked (ps pq : Nat) (vs vq vl : Value) (s : Sg) (q : List Int) (l : List (List Int)) (w : World) (hs : SignAt w vs s) (hq : Ints w vq q) (hl : Terms w vl l) (cs : w.cell? ⟨ps, 0, none⟩ = some vs) (cq : w.cell? ⟨pq, 0, none⟩ = some vq)
    (hsl : 1 ≤ s.length) (hsl2 : s.length ≤ 12) (tq : IsT s 12 q) (lq : q.length ≤ 60) (hT : ∀ x ∈ l, IsT s 12 x ∧ x.length ≤ 60) (hl0 : 0 < l.length) (hl1 : l.length ≤ 1000) :
    Calls Tryz.prog 29 #[vl, fnO ps pq] w fun e w' => ∃ u Z, RankP s q l Z ∧ e = .returned u ∧ w'.ownsRow w.heap.size 3 1 u Z.length (Z.map (Value.int .i64)) ∧ Below w.heap.size w w' := by
  have HS := hid hs
  have HQ := hid hq
  have HL := hid hl
  have HT := hid hT
  have CS := hid cs
  have CQ := hid cq
  obtain ⟨la, lc, rfl, -⟩ := hl.open
  obtain ⟨b1, b2, b3⟩ := boxes2 w (.slice la l.length lc) (fnO ps pq) 27 61
  have HB3 := hid b3
  have HC1 := hid b1
  have HC2 := hid b2
  obtain ⟨W2, hW2⟩ : ∃ W2, (w.alloc (.cells #[.slice la l.length lc] 27)).alloc (.cells #[fnO ps pq] 61) = W2 := ⟨_, rfl⟩
  have hsz2 : W2.heap.size = w.heap.size + 1 + 1 := by rw [← hW2]; simp
  rw [hW2] at HB3 HC1 HC2 b1
  have hszA : w.heap.size + 2 ≤ W2.heap.size := by omega
  have hszB : W2.heap.size ≤ w.heap.size + 2 := by omega
  unfold fnO at hW2
  have HW2 := hid hW2
  clear hs hq hl hT cs cq b2 b3 hW2 hsz2
  unfold fnO
  go_enter Tryz.func29, Tryz.ntmps29
  go_wp2
  rw [HW2.out]
  clear HW2 b1
  go_loopw [5, 9] (fun u i wr => ∃ k : Nat, k ≤ l.length ∧ i = .int .i64 k ∧ wr.ownsRow W2.heap.size 3 1 u (seg 0 k).length ((seg 0 k).map (Value.int .i64)) ∧ Below W2.heap.size W2 wr) (fun _ i _ => l.length - (intOf i).toNat)
  case atStart => exact ⟨0, by omega, rfl, World.ownsRow_nil _ _ _ _, Below.refl _ _⟩
  case round =>
    obtain ⟨k, hk, rfl, hown, hb⟩ := hrel
    have hsz := hb.size
    by_cases hlt : k < l.length
    · have hb1 : Below wr.heap.size wr (wr.alloc (.cells #[.int .i64 k] 3)) := (Below.refl _ _).alloc (Nat.le_refl _) _
      have HOWN := hid (owns_below hown hb1)
      have HB := hid (hb.trans (hb1.mono hsz))
      have hob := hid (fun q hq => (hown.lt q hq).1)
      have HSRC := hid (row_one_new wr (.int .i64 k) 3)
      have HLEN := hid (seg_len 0 k)
      have HAS := hid (seg_add 0 k 1)
      clear hown hb hb1
      go_wp2_with (at_builtin; refine wpList_append_row rfl _ _ 28 rfl W2.heap.size 3 el_int Tryz.underlying28 rfl (by decide) _ _ _ rfl HOWN.out _ 1 [.int .i64 k] rfl HSRC.out (by simp [Value.oneCell']) (by rw [HLEN.out]; omega) (by rw [HLEN.out]; omega) (by simp; omega) ?_; intro v' w4 hown4 hgrow4 _)
      go_roundw
      case rel =>
        refine ⟨k + 1, by omega, by go_num, ?_, HB.out.grown hgrow4 (by have := HB.out.size; omega) hob.out⟩
        rw [HAS.out]
        simpa [seg] using hown4
      case measure => simp [intOf]; omega
    · have hkl : k = l.length := by omega
      subst hkl
      have hown' := hown
      rw [seg_len] at hown'
      obtain ⟨g, cap, rfl, hg1, -⟩ := owns_some hown' (by omega)
      have hglt := hown'.lt g rfl
      have hD : Dat W2.heap.size g l.length cap (seg 0 l.length) wr := ⟨seg_len _ _, hown'⟩
      have hw2 : Below w.heap.size w wr := HB3.out.trans (hb.mono HB3.out.size)
      have hkb : ∀ W, Kb (fun k => k = g) wr W → Below w.heap.size w W := fun W hW => hw2.trans (hW.below (by omega) (fun k hk => by omega))
      have hcl : ∀ {a : Addr} {v : Value} W, a.block < W2.heap.size → W2.cell? a = some v → Kb (fun k => k = g) wr W → W.cell? a = some v := fun W h1 h2 hW => (World.cell?_of_block (hW.same _ (by omega) (by omega))).trans ((hb.cell h1).trans h2)
      have hc : CmpOK (.pointer (some ⟨w.heap.size + 1, 0, none⟩)) (.pointer (some ⟨w.heap.size, 0, none⟩)) (cfL s q l) (rkL s q l) l.length g wr := by
        refine ⟨fun x y x0 x1 y0 y1 => ?_, fun W hW x y x0 x1 y0 y1 => ?_⟩
        · unfold cfL rkL
          have hx : x.toNat < l.length := by omega
          have hy : y.toNat < l.length := by omega
          refine ordT_lt ?_ ?_
          · rw [List.getD_eq_getElem?_getD, List.getElem?_eq_getElem hx]; exact (HT.out _ (List.getElem_mem hx)).2
          · rw [List.getD_eq_getElem?_getD, List.getElem?_eq_getElem hy]; exact (HT.out _ (List.getElem_mem hy)).2
        · have hB := hkb W hW
          exact find_ranked1 ps pq (w.heap.size + 1) w.heap.size vs vq _ s q l W x y (HS.out.below hB) (HQ.out.below hB) (HL.out.below hB) ((hB.cell (World.block_lt_of_cell? _ _ CS.out)).trans CS.out) ((hB.cell (World.block_lt_of_cell? _ _ CQ.out)).trans CQ.out)
            (hcl W (by show w.heap.size + 1 < _; omega) HC2.out hW) (hcl W (by show w.heap.size < _; omega) HC1.out hW) hsl hsl2 tq lq HT.out x0 x1 y0 y1
      have HST := hid (sl_SortStable W2.heap.size g l.length cap _ _ (cfL s q l) (rkL s q l) l.length wr hl1 (Nat.le_refl _) hc hD)
      have HKB := hid hkb
      clear hown hown' hD hw2 hkb hcl hc hb
      go_wp2_with fail
      refine HST.out.mono ?_
      rintro e w5 ⟨Z, rfl, hp, hs, hd, hk5⟩
      have HB5 := hid (HKB.out w5 hk5)
      have HP := hid (show RankP s q l Z from ⟨hp, hs⟩)
      have hzl : Z.length = l.length := by rw [hp.length_eq, seg_len]
      have HO5 := hid (show w5.ownsRow w.heap.size 3 1 (.slice (some ⟨g, 0, none⟩) l.length cap) Z.length (Z.map (Value.int .i64)) from owns_base (by have := hd.2; rw [hzl]; simpa using this) (by omega))
      clear hp hs hd hk5 hzl HST
      go_wp2
      go_ret
      exact ⟨_, Z, HP.out, rfl, HO5.out, HB5.out⟩
end Go.Proofs.YtldgkidojepdlaaGreat
