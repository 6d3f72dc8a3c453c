/-
  WHAT IT HOLDS: the walk of the law FindOver.
-/
import Derived.Test.YtiacbdipagbblaaRlat
import Derived.Test.YtiacbdipagbblaaFindc
import Derived.Test.YtiacbdipagbblaaRef1b
namespace Go.Proofs.Ytiacbdipagbblaa
open Go Go.RowKit Go.Maps
theorem overB_len (s : Sg) (l : List (List Int)) (i : Int) : (overB s l i).1.length ≤ l.length := by
  unfold overB
  split
  · split
    · exact Nat.le_trans (chosenL_le _ _) (by simp [overL])
    · simp
  · simp
def latQ (s : Sg) (l : List (List Int)) : List PP × Int := if shelfB s l then (latB s l, 0) else ([], 1)
theorem latB_len {s : Sg} {l : List (List Int)} (hl : l.length ≤ 1000) : (latB s l).length ≤ 1000000 := by
  have h1 := firstsL_len l
  have h2 := latP_len (U := uAt s l) (F := firstsL l) (Nat.le_refl _)
  have e : latB s l = latP (uAt s l) (firstsL l) (firstsL l).length := by unfold latB latP latL; rw [List.take_length]; rfl
  rw [e]
  have : (firstsL l).length * (firstsL l).length ≤ 1000 * 1000 := Nat.mul_le_mul (by omega) (by omega)
  omega
theorem pairs_nil (w : World) : Pairs w (.slice none 0 0) [] := ⟨by simp [pCells], none, 0, rfl, Nat.le_refl _, by simp, fun _ => rfl, by simp [pCells]⟩
theorem lat_conv {f : Nat} {args : Array Value} {s : Sg} {l : List (List Int)} {w : World} (hl : l.length ≤ 1000)
    (h : Calls Try.prog f args w fun e w' => Below w.heap.size w w' ∧ ((shelfB s l = false ∧ e = .returned (.tuple #[.slice none 0 0, .int .i64 1])) ∨
      (shelfB s l = true ∧ ∃ u, e = .returned (.tuple #[u, .int .i64 0]) ∧ w'.ownsRow w.heap.size 76 2 u (latB s l).length (pCells (latB s l))))) :
    Calls Try.prog f args w fun e w' => ∃ u, e = .returned (.tuple #[u, .int .i64 (latQ s l).2]) ∧ Pairs w' u (latQ s l).1 ∧ Below w.heap.size w w' := by
  refine h.mono ?_
  rintro e w1 ⟨hb, ⟨h1, rfl⟩ | ⟨h1, u, rfl, ho⟩⟩
  · have hq : latQ s l = ([], 1) := by unfold latQ; rw [h1]; rfl
    rw [hq]
    exact ⟨_, rfl, pairs_nil _, hb⟩
  · have hq : latQ s l = (latB s l, 0) := by unfold latQ; rw [h1]; rfl
    rw [hq]
    exact ⟨u, rfl, RowK.of_owns ho (by have := latB_len (s := s) hl; show (latB s l).length ≤ _; omega), hb⟩
set_option maxHeartbeats 1000000 in
set_option maxRecDepth 100000 in
theorem walk_FindOver (vs vt : Value) (s : Sg) (l : List (List Int)) (i : Int) (w : World) (hs : SignAt w vs s) (hl : Terms w vt l) :
    Calls Try.prog 6 #[vs, vt, .int .i64 i] w fun e w' => e = .returned (.bool true) ∧ Below w.heap.size w w' := by
  have hF := law5_Few vs vt s l 40 w hs hl
  have HS := hid hs
  have HV := hid hl
  clear hs hl
  cases hf : (decide ((l.length : Int) ≤ 40) && smallB s l)
  · rw [hf] at hF
    have hFF := hid hF
    clear hf hF
    go_enter Try.func6, Try.ntmps6
    go_wp2_with fail
    refine hFF.out.mono ?_
    rintro e w1 ⟨rfl, rfl⟩
    go_wp2_with fail
    refine (law5_awake _).mono ?_
    rintro e w1 ⟨rfl, hb⟩
    go_wp2
    go_ret
    exact ⟨rfl, hb⟩
  · have hsm : s.length ≤ 40 ∧ l.length ≤ 40 := by
      simp only [Bool.and_eq_true, decide_eq_true_eq, smallB] at hf
      omega
    rw [hf] at hF
    have hFF := hid hF
    have HO := hid (find_Over vs vt s l i w HS.out HV.out (by omega) (by omega))
    have HRO := hid (fun (X : World) (hX : Below w.heap.size w X) => ref5_Over vs vt s l i X (HS.out.below hX) (HV.out.below hX) (by omega) (by omega))
    have HL := hid (fun (X : World) (hX : Below w.heap.size w X) => lat_conv (by omega) (find_Lattice vs vt s l X (HS.out.below hX) (HV.out.below hX) (by omega) (by omega)))
    have HRL := hid (fun (X : World) (hX : Below w.heap.size w X) => lat_conv (by omega) (ref5_Lattice vs vt s l X (HS.out.below hX) (HV.out.below hX) (by omega) (by omega)))
    have hol := overB_len s l i
    clear hf hF
    obtain ⟨x, hx⟩ : ∃ x, overB s l i = x := ⟨_, rfl⟩
    obtain ⟨x1, x2⟩ := x
    obtain ⟨y, hy⟩ : ∃ y, latQ s l = y := ⟨_, rfl⟩
    obtain ⟨y1, y2⟩ := y
    simp only [hx] at HO HRO hol
    simp only [hy] at HL HRL
    have n1 : (x2 != x2) = false := by simp
    have n2 : (y2 == y2) = true := by simp
    clear hx hy
    go_enter Try.func6, Try.ntmps6
    go_wp2_with fail
    refine hFF.out.mono ?_
    rintro e w1 ⟨rfl, rfl⟩
    go_wp2_with fail
    refine HO.out.mono ?_
    rintro e w1 ⟨u1, rfl, o1, b1⟩
    have HI1 := hid (Ints.of_owns o1 (by omega))
    have HB1 := hid b1
    clear o1 b1
    go_wp2_with fail
    refine (HRO.out _ HB1.out).mono ?_
    rintro e w2 ⟨u2, rfl, o2, b2⟩
    have HI2 := hid (Ints.of_owns o2 (by omega))
    have HJ2 := hid (HI1.out.below b2)
    have HB2 := hid (HB1.out.trans (b2.mono HB1.out.size))
    clear o2 b2
    go_wp2_with fail
    refine (ref1_SameInts _ _ _ _ _ HJ2.out HI2.out).mono ?_
    rintro e w3 ⟨rfl, n, rfl⟩
    rw [show decide (x1 = x1) = true from by simp]
    have HB3 := hid (below_drewN HB2.out n)
    clear HI2 HJ2
    generalize w2.drewN n = w3 at *
    go_wp2_with fail
    refine (HL.out _ HB3.out).mono ?_
    rintro e w4 ⟨u4, rfl, p4, b4⟩
    have HP4 := hid p4
    have HB4 := hid (HB3.out.trans (b4.mono HB3.out.size))
    clear p4 b4
    go_wp2_with fail
    refine (HRL.out _ HB4.out).mono ?_
    rintro e w5 ⟨u5, rfl, p5, b5⟩
    have HP5 := hid p5
    have HQ5 := hid (HP4.out.below b5)
    have HB5 := hid (HB4.out.trans (b5.mono HB4.out.size))
    clear p5 b5
    go_wp2_with fail
    refine (ref5_SamePairs _ _ _ _ _ HQ5.out HP5.out).mono ?_
    rintro e w6 ⟨rfl, n, rfl⟩
    rw [show decide (y1 = y1) = true from by simp]
    have HB6 := hid (below_drewN HB5.out n)
    clear HQ5 HP5
    generalize w5.drewN n = w6 at *
    go_wp2_with fail
    refine (law5_awake _).mono ?_
    rintro e w7 ⟨rfl, hb⟩
    have HB7 := hid (HB6.out.trans (hb.mono HB6.out.size))
    clear hb
    go_wp2
    go_ret
    exact ⟨rfl, HB7.out⟩
end Go.Proofs.Ytiacbdipagbblaa
