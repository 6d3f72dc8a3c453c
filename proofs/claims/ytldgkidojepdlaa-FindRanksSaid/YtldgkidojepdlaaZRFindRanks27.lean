/-
  WHAT IT HOLDS: symMergeCmpFunc of package slices at int, where the middle lies anywhere. Conditions: both parts stand in order, and the numbers of the first are below those of the second.
  WHAT IT HOLDS: contract of slices.SortStableFunc at []int, of a slice of the call's own that holds the numbers from 0 on, by a comparison that ranks.
-/
import Derived.Test.YtldgkidojepdlaaZRFindRanks25
import Derived.Test.YtldgkidojepdlaaZRFindRanks26
import Derived.Test.YtldgkidojepdlaaZRFindRanks1
namespace Go.Proofs.Ytldgkidojepdlaa
open Go Go.RowKit Go.Maps Go.Shelf
theorem sl_symMerge (base g n cap : Nat) (q1 q2 : Value) (cf : Int → Int → Int) (r : Int → Int) (N : Nat) (hn : n ≤ 1000) : ∀ (K : Nat), SymIH base g n cap q1 q2 cf r N K := by
  intro K
  induction K with
  | zero => intro P L Q S w pa pm pb h1 _ _ _ h2; omega
  | succ K ih =>
    intro P L Q S w pa pm pb hK ha hm hb hl0 hq0 hL hQ hx hr hc hd
    by_cases hl1 : L.length = 1
    · obtain ⟨x, rfl⟩ : ∃ x, L = [x] := List.length_eq_one_iff.1 hl1
      exact sl_symMerge1 base g n cap P Q S x q1 q2 cf r N w pa pm pb ha (by simpa using hm) (by simpa using hb) hQ (fun y hy => hx x (by simp) y hy) (hr x (by simp)) (fun y hy => hr y (by simp [hy])) hc (by simpa using hd) hn
    by_cases hq1 : Q.length = 1
    · obtain ⟨y, rfl⟩ : ∃ y, Q = [y] := List.length_eq_one_iff.1 hq1
      exact sl_symMerge2 base g n cap P L S y q1 q2 cf r N w pa pm pb ha hm (by simpa using hb) hl1 hL (fun x hx' => hx x hx' y (by simp)) (hr y (by simp)) (fun x hx' => hr x (by simp [hx'])) hc (by simpa using hd) hn
    by_cases dm : (P.length + (P.length + L.length + Q.length)) / 2 < P.length + L.length
    · exact sl_symA base g n cap q1 q2 cf r N hn K ih P L Q S w pa pm pb hK ha hm hb hl0 hq0 hL hQ hx hr hc hd hl1 hq1 dm
    · exact sl_symB base g n cap q1 q2 cf r N hn K ih P L Q S w pa pm pb hK ha hm hb hl0 hq0 hL hQ hx hr hc hd hl1 hq1 dm
end Go.Proofs.Ytldgkidojepdlaa
namespace Go.Proofs.Ytldgkidojepdlaa
open Go Go.RowKit Go.Maps Go.Shelf
/-- the first pass, so far. -/
def St1 (base g n cap : Nat) (r : Int → Int) (w : World) (av bv : Value) (wr : World) : Prop :=
  ∃ (a : Nat) (Bs : List (List Int)), a ≤ n ∧ a = 20 * Bs.length ∧ av = .int .i64 (a : Int) ∧ bv = .int .i64 ((a : Int) + 20) ∧ FullB r 20 0 Bs ∧ Dat base g n cap (Bs.flatten ++ (seg a (n - a))) wr ∧ Kb (fun k => k = g) w wr
def St2 (base g n cap : Nat) (r : Int → Int) (w : World) (wv : Value) (wr : World) : Prop :=
  ∃ (W : Nat) (Bs : List (List Int)), 0 < W ∧ W ≤ 2 * n + 20 ∧ wv = .int .i64 (W : Int) ∧ BlkB r W 0 Bs ∧ Dat base g n cap Bs.flatten wr ∧ Kb (fun k => k = g) w wr
def St3 (base g n cap W : Nat) (r : Int → Int) (w : World) (av bv : Value) (wr : World) : Prop :=
  ∃ (a : Nat) (Cs Bs : List (List Int)), a ≤ n ∧ a = (W + W) * Cs.length ∧ av = .int .i64 (a : Int) ∧ bv = .int .i64 ((a + (W + W) : Nat) : Int) ∧ FullB r (W + W) 0 Cs ∧ BlkB r W a Bs ∧ Dat base g n cap (Cs.flatten ++ Bs.flatten) wr ∧ Kb (fun k => k = g) w wr
theorem rng_seg {N n : Nat} (h : n ≤ N) {s k : Nat} (hs : s + k ≤ n) : ∀ x ∈ seg s k, 0 ≤ x ∧ x < N := fun x hx => by have := seg_mem.1 hx; omega
set_option maxHeartbeats 8000000 in
set_option maxRecDepth 100000 in
theorem sl_stable (base g n cap : Nat) (q1 q2 : Value) (cf : Int → Int → Int) (r : Int → Int) (N : Nat) (w : World) (hn : n ≤ 1000) (hN : n ≤ N) (hc : CmpOK q1 q2 cf r N g w) (hd : Dat base g n cap (seg 0 n) w) :
    Calls Try.prog 103 #[.slice (some ⟨g, 0, none⟩) n cap, .int .i64 (n : Nat), .func (.func 72) #[] #[q1, q2]] w (SortR base g n cap [] (seg 0 n) [] r w) := by
  have H0 : Hid (St1 base g n cap r w (.int .i64 0) (.int .i64 20) w) := hid ⟨0, [], Nat.zero_le _, rfl, rfl, rfl, trivial, by simpa using hd, Kb.refl _ _⟩
  have HC := hid hc
  clear hc hd
  go_enter Try.func103, Try.ntmps103
  go_wp2
  go_loopw [7, 8] (fun av bv wr => St1 base g n cap r w av bv wr) (fun av _ _ => n - (intOf av).toNat)
  case atStart => exact H0.out
  case round =>
    clear H0
    obtain ⟨a, Bs, ha, hak, rfl, rfl, hB, hd, hk⟩ := hrel
    have hBl := hB.len
    by_cases hlt : a + 20 ≤ n
    · have hd2 : Dat base g n cap (Bs.flatten ++ (seg a 20 ++ seg (a + 20) (n - (a + 20)))) wr := by
        have e : seg a (n - a) = seg a 20 ++ seg (a + 20) (n - (a + 20)) := by rw [← seg_add]; congr 1; omega
        rw [← e]; exact hd
      have HI := hid (fun pa pb h1 h2 => sl_insertion base g n cap Bs.flatten (seg a 20) (seg (a + 20) (n - (a + 20))) q1 q2 cf r N wr pa pb h1 h2 (seg_up _ _) (rng_seg hN hlt) (HC.out.turn hk) hd2 hn)
      have HN : Hid (∀ wr' Z, Z.Perm (seg a 20) → SoR r Z → Dat base g n cap (Bs.flatten ++ (Z ++ seg (a + 20) (n - (a + 20)))) wr' → Kb (fun k => k = g) wr wr' → St1 base g n cap r w (.int .i64 ((a : Int) + 20)) (.int .i64 ((a : Int) + 20 + 20)) wr') := hid (fun wr' Z g1 g2 g3 g4 => ⟨a + 20, Bs ++ [Z], hlt, by simp; omega, rfl, rfl, hB.snoc ⟨g2, by rw [Nat.zero_add, ← hak]; exact g1⟩, by simpa using g3, hk.chain g4⟩)
      rw [hBl, ← hak, seg_len] at HI
      have hle : (a : Int) + 20 ≤ (n : Int) := by omega
      clear hB hd hd2 hk hBl hak
      go_wp2_with fail
      refine (HI.out _ _ (by first | rfl | omega) (by omega)).mono ?_
      rintro e w1 ⟨Z, rfl, hp, hs, hd1, hk1⟩
      have HS := hid (HN.out w1 Z hp hs hd1 hk1)
      clear hp hs hd1 hk1 HI HN
      go_wp2
      go_roundw
      case rel => exact HS.out
      case measure => simp [intOf]; omega
    · have HI := hid (fun pa pb h1 h2 => sl_insertion base g n cap Bs.flatten (seg a (n - a)) [] q1 q2 cf r N wr pa pb h1 h2 (seg_up _ _) (rng_seg hN (by omega)) (HC.out.turn hk) (by simpa using hd) hn)
      have HN : Hid (∀ wr' Z, Z.Perm (seg a (n - a)) → SoR r Z → Dat base g n cap (Bs.flatten ++ (Z ++ [])) wr' → Kb (fun k => k = g) wr wr' → St2 base g n cap r w (.int .i64 20) wr') := hid (fun wr' Z g1 g2 g3 g4 => by
        have hZl : Z.length = n - a := by rw [g1.length_eq, seg_len]
        by_cases h0 : n - a = 0
        · have hZ0 : Z = [] := List.length_eq_zero_iff.1 (by omega)
          subst hZ0
          exact ⟨20, Bs, by omega, by omega, rfl, by have := hB.append (Ds := []) (by omega) trivial; simpa using this, by simpa using g3, hk.chain g4⟩
        · refine ⟨20, Bs ++ [Z], by omega, by omega, rfl, hB.append (by omega) ⟨⟨g2, ?_⟩, by omega, by omega, fun h => absurd rfl h, trivial⟩, by simpa using g3, hk.chain g4⟩
          rw [hZl, Nat.zero_add, ← hak]
          exact g1)
      rw [hBl, ← hak, seg_len] at HI
      have hle : ¬ (a : Int) + 20 ≤ (n : Int) := by omega
      have hled : decide ((a : Int) + 20 ≤ (n : Int)) = false := by simp; omega
      clear hB hd hk hBl hak
      go_wp2_with fail
      refine (HI.out _ _ (by first | rfl | omega) (by omega)).mono ?_
      rintro e w1 ⟨Z, rfl, hp, hs, hd1, hk1⟩
      have HS := hid (HN.out w1 Z hp hs hd1 hk1)
      clear hp hs hd1 hk1 HI HN hle hled
      go_wp2
      go_loopw [6] (fun wv w2 => St2 base g n cap r w wv w2) (fun wv _ => n - (intOf wv).toNat)
      case atStart => exact HS.out
      case round =>
        clear HS
        obtain ⟨W, Bs, hW0, hW1, rfl, hB, hd, hk⟩ := hrel
        have hBl : Bs.flatten.length = n := hd.1
        by_cases hlt2 : W < n
        · have hdw : decide (W < n) = true := by simpa using hlt2
          obtain ⟨W2, hW2⟩ : ∃ W2, W + W = W2 := ⟨_, rfl⟩
          have e1 : (2 : Int) * (W : Int) = (W2 : Int) := by omega
          have e2 : (W : Int) * 2 = (W2 : Int) := by omega
          have hw2 : W + W ≤ W2 ∧ W2 ≤ W + W := by omega
          obtain ⟨W4, hW4⟩ : ∃ W4, W4 = wr := ⟨_, rfl⟩
          subst hW4
          have H3 : Hid (St3 base g n cap W r w (.int .i64 0) (.int .i64 (W2 : Int)) W4) := hid ⟨0, [], Bs, Nat.zero_le _, by simp, rfl, by rw [hW2]; simp, trivial, hB, by simpa using hd, hk⟩
          clear hB hd hk hBl hW2
          go_wp2
          go_loopw [7, 8] (fun av bv wr => St3 base g n cap W r w av bv wr) (fun av _ _ => n - (intOf av).toNat)
          case atStart => exact H3.out
          case round =>
            clear H3
            obtain ⟨a, Cs, Bs, ha, hak, rfl, rfl, hC, hB, hd, hk⟩ := hrel
            have hCl := hC.len
            rw [← hak] at hCl
            have hBl : Bs.flatten.length = n - a := by have := hd.1; simp only [List.length_append] at this; omega
            obtain ⟨bb, hbb⟩ : ∃ bb, a + (W + W) = bb := ⟨_, rfl⟩
            rw [hbb]
            by_cases hlt : bb ≤ n
            · obtain ⟨B, C, Ds, rfl, b1, c1, d1⟩ := hB.two hW0 (by omega)
              have hd' : Dat base g n cap (Cs.flatten ++ (B ++ (C ++ Ds.flatten))) wr := by simpa using hd
              have hBL := b1.len
              have hCL := c1.len
              have HI := hid (fun pa pm pb h1 h2 h3 => sl_symMerge base g n cap q1 q2 cf r N hn (B.length + C.length) Cs.flatten B C Ds.flatten wr pa pm pb (Nat.le_refl _) h1 h2 h3 (by omega) (by omega) b1.so c1.so (b1.cross c1) (fun x hx => by
                rcases List.mem_append.1 hx with hx | hx
                · exact rng_seg hN (by omega) x (b1.pm.mem_iff.1 hx)
                · exact rng_seg hN (by omega) x (c1.pm.mem_iff.1 hx)) (HC.out.turn hk) hd')
              have HN : Hid (∀ wr' Z, Z.Perm (B ++ C) → SoR r Z → Dat base g n cap (Cs.flatten ++ (Z ++ Ds.flatten)) wr' → Kb (fun k => k = g) wr wr' → St3 base g n cap W r w (.int .i64 (bb : Int)) (.int .i64 ((bb : Int) + (W2 : Int))) wr') := hid (fun wr' Z g1 g2 g3 g4 =>
                ⟨bb, Cs ++ [Z], Ds, hlt, by rw [List.length_append, List.length_singleton, Nat.mul_succ]; omega, rfl, by congr 1; omega, hC.snoc (by rw [Nat.zero_add, ← hak]; exact b1.join c1 g1 g2), by rw [show bb = a + W + W from by omega]; exact d1, by simpa using g3, hk.chain g4⟩)
              rw [hCl, hBL, hCL] at HI
              have hdb : decide (bb ≤ n) = true := by simpa using hlt
              have hba : a < bb ∧ bb ≤ a + (W + W) ∧ a + (W + W) ≤ bb := by omega
              clear hC hB hd hd' hk hCl hBl hak hBL hCL b1 c1 d1 hbb
              go_wp2_with fail
              refine (HI.out _ _ _ (by first | rfl | omega) (by omega) (by omega)).mono ?_
              rintro e w1 ⟨Z, rfl, hp, hs, hd1, hk1⟩
              have HS := hid (HN.out w1 Z hp hs hd1 hk1)
              clear hp hs hd1 hk1 HI HN
              go_wp2
              go_roundw
              case rel => exact HS.out
              case measure => simp [intOf]; omega
            · have hdb : decide (bb ≤ n) = false := by simpa using hlt
              rcases hB.rest (by omega) with hB0 | ⟨B, hB0, hBw⟩ | ⟨B, C, hB0, b1, c1, hc0, hcW⟩
              · have hN2 : Hid (St2 base g n cap r w (.int .i64 (W2 : Int)) wr) := hid ⟨W2, Cs ++ Bs, by omega, by omega, rfl, by
                  rw [← show W + W = W2 from by omega]
                  exact hC.append (by omega) (by rw [hB0]; trivial), by simpa using hd, hk⟩
                subst hB0
                have hnm : ¬ (a : Int) + (W : Int) < (n : Int) := by simp at hBl; omega
                have hnd : decide ((a : Int) + (W : Int) < (n : Int)) = false := by simpa using hnm
                have hnd2 : decide (a + W < n) = false := by simp at hBl ⊢; omega
                clear hC hB hd hk hCl hBl hak hbb
                go_wp2
                go_roundw
                case rel => exact hN2.out
                case measure => simp [intOf]; omega
              · have hN2 : Hid (St2 base g n cap r w (.int .i64 (W2 : Int)) wr) := hid ⟨W2, Cs ++ Bs, by omega, by omega, rfl, by
                  rw [← show W + W = W2 from by omega]
                  refine hC.append (by omega) ?_
                  rw [hB0] at hB ⊢
                  rw [Nat.zero_add, ← hak]
                  exact hB.wide (by omega), by simpa using hd, hk⟩
                subst hB0
                have hnm : ¬ (a : Int) + (W : Int) < (n : Int) := by simp at hBl; omega
                have hnd : decide ((a : Int) + (W : Int) < (n : Int)) = false := by simpa using hnm
                have hnd2 : decide (a + W < n) = false := by simp at hBl ⊢; omega
                clear hC hB hd hk hCl hBl hak hbb
                go_wp2
                go_roundw
                case rel => exact hN2.out
                case measure => simp [intOf]; omega
              · subst hB0
                have hd' : Dat base g n cap (Cs.flatten ++ (B ++ (C ++ []))) wr := by simpa using hd
                have hBL := b1.len
                have hCL : C.length = n - a - W := by simp at hBl; omega
                have HI := hid (fun pa pm pb h1 h2 h3 => sl_symMerge base g n cap q1 q2 cf r N hn (B.length + C.length) Cs.flatten B C [] wr pa pm pb (Nat.le_refl _) h1 h2 h3 (by omega) (by omega) b1.so c1.so (b1.cross c1) (fun x hx => by
                  rcases List.mem_append.1 hx with hx | hx
                  · exact rng_seg hN (by omega) x (b1.pm.mem_iff.1 hx)
                  · exact rng_seg hN (by omega) x (c1.pm.mem_iff.1 hx)) (HC.out.turn hk) hd')
                have HN : Hid (∀ wr' Z, Z.Perm (B ++ C) → SoR r Z → Dat base g n cap (Cs.flatten ++ (Z ++ [])) wr' → Kb (fun k => k = g) wr wr' → St2 base g n cap r w (.int .i64 (W2 : Int)) wr') := hid (fun wr' Z g1 g2 g3 g4 =>
                  ⟨W2, Cs ++ [Z], by omega, by omega, rfl, by
                    rw [← show W + W = W2 from by omega]
                    refine hC.append (by omega) ?_
                    have hj := b1.join c1 g1 g2
                    have hZl : Z.length = W + C.length := hj.len
                    exact ⟨by rw [hZl, Nat.zero_add, ← hak]; exact hj, by omega, by omega, fun h => absurd rfl h, trivial⟩, by simpa using g3, hk.chain g4⟩)
                rw [hCl, hBL] at HI
                have hnm : (a : Int) + (W : Int) < (n : Int) := by omega
                have hnd : decide ((a : Int) + (W : Int) < (n : Int)) = true := by simpa using hnm
                have hnd2 : decide (a + W < n) = true := by simp; omega
                have hCn : a + W + C.length = n := by omega
                clear hC hB hd hd' hk hCl hBl hak hBL hCL b1 c1 hbb
                go_wp2_with fail
                refine (HI.out _ _ _ (by first | rfl | omega) (by omega) (by omega)).mono ?_
                rintro e w1 ⟨Z, rfl, hp, hs, hd1, hk1⟩
                have HS := hid (HN.out w1 Z hp hs hd1 hk1)
                clear hp hs hd1 hk1 HI HN
                go_wp2
                go_roundw
                case rel => exact HS.out
                case measure => simp [intOf]; omega
        · have hdw : decide (W < n) = false := by simpa using hlt2
          have hO := hB.one (by omega)
          rw [hBl] at hO
          have HO := hid hO
          have HD := hid hd
          have HK := hid hk
          clear hO hd hk hB hBl
          go_wp2
          go_end0
          exact ⟨Bs.flatten, rfl, HO.out.pm, HO.out.so, by simpa using HD.out, HK.out⟩
set_option maxHeartbeats 1000000 in
theorem sl_SortStable (base g n cap : Nat) (q1 q2 : Value) (cf : Int → Int → Int) (r : Int → Int) (N : Nat) (w : World) (hn : n ≤ 1000) (hN : n ≤ N) (hc : CmpOK q1 q2 cf r N g w) (hd : Dat base g n cap (seg 0 n) w) :
    Calls Try.prog 71 #[.slice (some ⟨g, 0, none⟩) n cap, .func (.func 72) #[] #[q1, q2]] w (SortR base g n cap [] (seg 0 n) [] r w) := by
  have HS := hid (sl_stable base g n cap q1 q2 cf r N w hn hN hc hd)
  clear hc hd
  go_enter Try.func71, Try.ntmps71
  go_wp2_with fail
  refine HS.out.mono ?_
  rintro e w1 ⟨Z, rfl, hp, hs, hd1, hk1⟩
  have HX := hid (show SortR base g n cap [] (seg 0 n) [] r w (.returned (.tuple #[])) w1 from ⟨Z, rfl, hp, hs, hd1, hk1⟩)
  clear hp hs hd1 hk1
  go_wp2
  go_end0
  exact HX.out
end Go.Proofs.Ytldgkidojepdlaa
