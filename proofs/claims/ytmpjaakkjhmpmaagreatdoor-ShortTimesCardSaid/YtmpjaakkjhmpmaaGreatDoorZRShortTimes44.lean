/-
  WHAT IT HOLDS: plain facts behind the helper awake of the laws of layer 7: what the steps of its proof say, how it is merged, how often its steps come, how it is cut. No program in sight.
  WHAT IT HOLDS: contracts of the helpers cite, detach, heavy and awake of the laws of layer 7. Conditions: the arguments read as data; awake: the library's table of powers of ten stands as it is written.
-/
import Derived.Test.YtmpjaakkjhmpmaaGreatDoorZRShortTimes34
import Derived.Test.YtmpjaakkjhmpmaaGreatDoorZRShortTimes35
import Derived.Test.YtmpjaakkjhmpmaaGreatDoorZRShortTimes43
import Derived.Test.YtmpjaakkjhmpmaaGreatDoorZRShortTimes23
import Derived.Test.YtmpjaakkjhmpmaaGreatDoorZRShortTimes0
namespace Go.Proofs.YtmpjaakkjhmpmaaGreatDoor
open Go Go.RowKit
def sC7 : Sg := [(⟨#[67]⟩, 2)]
def g70 : List Int := [0, -1, 0, -2, -1]
def g71 : List Int := [0, 0, -1, 0, -2, -3, 0, 0, -1, -2, 0, -1, -3]
def m71 : List Int := [0, 0, -1, -2, 0, -1, -1]
def m72 : List Int := [0, -1, -1]
def p7 : List St := [(1, 1, 0), (1, 0, 0), (1, 0, 0), (2, 0, 1), (2, 3, 2)]
def l7 : List (List Int) := [g71, g70, g70, m71, m72]
def q7 : List St := [(1, 1, 0), (1, 0, 0), (2, 0, 1), (2, 2, 1)]
def r7 : List St := [(1, 0, 0), (1, 2, 0), (2, 1, 0)]
theorem isC7 {q : Int} {x y : List Int} (hx : IsT sC7 q x) (hy : IsT sC7 q y) : IsT sC7 q (0 :: (x ++ y)) := by
  have h : IsT sC7 q (((0 : Nat) : Int) :: ([x, y] : List (List Int)).flatten) := .app 0 [x, y] (by simp [sC7]) (by simp [sC7, arOf]) (by
    intro z hz
    simp at hz
    rcases hz with rfl | rfl
    · exact hx
    · exact hy)
  simpa using h
theorem noreach7 {m : MM} {t : List Int} {v : Int} (h : ∀ n ∈ t, n ≠ v ∧ m n = none) : ¬ Reach m t v := by
  intro H
  cases H with
  | here _ _ h1 _ => exact (h v h1).1 rfl
  | step _ _ k p g1 g2 g3 _ => rw [(h k g1).2] at g3; cases g3
theorem sg7 : signB sC7 = true := by decide +kernel
theorem mgu71 : Mgu sC7 [0, -1, 0, -2, -3] [0, -13, 0, -14, -13] (updM (updM (updM noM (-3) [-13]) (-2) [-14]) (-1) [-13]) := by
  have v : ∀ n : Int, -24 ≤ n → n < 0 → IsT sC7 24 [n] := fun n h h' => .var _ h h'
  have hA2 : IsT sC7 24 [0, -2, -3] := isC7 (v (-2) (by omega) (by omega)) (v (-3) (by omega) (by omega))
  have hB2 : IsT sC7 24 [0, -14, -13] := isC7 (v (-14) (by omega) (by omega)) (v (-13) (by omega) (by omega))
  have hA : IsT sC7 24 [0, -1, 0, -2, -3] := isC7 (v (-1) (by omega) (by omega)) hA2
  have hB : IsT sC7 24 [0, -13, 0, -14, -13] := isC7 (v (-13) (by omega) (by omega)) hB2
  have h0 := UInv.start hA hB (by simp) (by simp)
  have h3 := (UInv.args sg7 (L := []) (x := [0, -1, 0, -2, -3]) (y := [0, -13, 0, -14, -13]) (c := 0) (ars := [[-1], [0, -2, -3]]) (bs := [[-13], [0, -14, -13]]) h0 (.refl hA (by simp)) (.refl hB (by simp)) (by simp [arOf, sC7]) (by simp [arOf, sC7])
    (by intro z hz; simp at hz; rcases hz with rfl | rfl <;> first | exact v (-1) (by omega) (by omega) | exact hA2) (by intro z hz; simp at hz; rcases hz with rfl | rfl <;> first | exact v (-13) (by omega) (by omega) | exact hB2)).1
  have h4 := (UInv.args sg7 (L := [([-1], [-13])]) (x := [0, -2, -3]) (y := [0, -14, -13]) (c := 0) (ars := [[-2], [-3]]) (bs := [[-14], [-13]]) h3 (.refl hA2 (by simp)) (.refl hB2 (by simp)) (by simp [arOf, sC7]) (by simp [arOf, sC7])
    (by intro z hz; simp at hz; rcases hz with rfl | rfl <;> first | exact v (-2) (by omega) (by omega) | exact v (-3) (by omega) (by omega)) (by intro z hz; simp at hz; rcases hz with rfl | rfl <;> first | exact v (-14) (by omega) (by omega) | exact v (-13) (by omega) (by omega))).1
  have h5 := (UInv.bind (L := [([-1], [-13]), ([-2], [-14])]) (x := [-3]) (y := [-13]) (v := -3) (q := [-13]) h4 (Or.inl ⟨.refl (v _ (by omega) (by omega)) (by simp), .refl (v _ (by omega) (by omega)) (by simp)⟩) (by omega) rfl (noreach7 (by simp [noM]))).1
  have h6 := (UInv.bind (L := [([-1], [-13])]) (x := [-2]) (y := [-14]) (v := -2) (q := [-14]) h5 (Or.inl ⟨.refl (v _ (by omega) (by omega)) (by simp), .refl (v _ (by omega) (by omega)) (by simp)⟩) (by omega) (by simp [updM, noM]) (noreach7 (by simp [updM, noM]))).1
  have h7 := (UInv.bind (L := []) (x := [-1]) (y := [-13]) (v := -1) (q := [-13]) h6 (Or.inl ⟨.refl (v _ (by omega) (by omega)) (by simp), .refl (v _ (by omega) (by omega)) (by simp)⟩) (by omega) (by simp [updM, noM]) (noreach7 (by simp [updM, noM]))).1
  exact h7.done
theorem mgu72 : Mgu sC7 [0, -1, -2] [0, -13, 0, -14, -13] (updM (updM noM (-2) [0, -14, -13]) (-1) [-13]) := by
  have v : ∀ n : Int, -24 ≤ n → n < 0 → IsT sC7 24 [n] := fun n h h' => .var _ h h'
  have hB2 : IsT sC7 24 [0, -14, -13] := isC7 (v (-14) (by omega) (by omega)) (v (-13) (by omega) (by omega))
  have hA : IsT sC7 24 [0, -1, -2] := isC7 (v (-1) (by omega) (by omega)) (v (-2) (by omega) (by omega))
  have hB : IsT sC7 24 [0, -13, 0, -14, -13] := isC7 (v (-13) (by omega) (by omega)) hB2
  have h0 := UInv.start hA hB (by simp) (by simp)
  have h3 := (UInv.args sg7 (L := []) (x := [0, -1, -2]) (y := [0, -13, 0, -14, -13]) (c := 0) (ars := [[-1], [-2]]) (bs := [[-13], [0, -14, -13]]) h0 (.refl hA (by simp)) (.refl hB (by simp)) (by simp [arOf, sC7]) (by simp [arOf, sC7])
    (by intro z hz; simp at hz; rcases hz with rfl | rfl <;> first | exact v (-1) (by omega) (by omega) | exact v (-2) (by omega) (by omega)) (by intro z hz; simp at hz; rcases hz with rfl | rfl <;> first | exact v (-13) (by omega) (by omega) | exact hB2)).1
  have h6 := (UInv.bind (L := [([-1], [-13])]) (x := [-2]) (y := [0, -14, -13]) (v := -2) (q := [0, -14, -13]) h3 (Or.inl ⟨.refl (v _ (by omega) (by omega)) (by simp), .refl hB2 (by simp)⟩) (by omega) rfl (noreach7 (by simp [noM]))).1
  have h7 := (UInv.bind (L := []) (x := [-1]) (y := [-13]) (v := -1) (q := [-13]) h6 (Or.inl ⟨.refl (v _ (by omega) (by omega)) (by simp), .refl (v _ (by omega) (by omega)) (by simp)⟩) (by omega) (by simp [updM, noM]) (noreach7 (by simp [updM, noM]))).1
  exact h7.done
theorem det71 : DetR sC7 g71 g70 (m71, 0) := by
  have v : ∀ n : Int, -12 ≤ n → n < 0 → IsT sC7 12 [n] := fun n h h' => .var _ h h'
  have ha : aparL g70 = [0, -13, 0, -14, -13] := by decide +kernel
  have hc : canonL (fw (updM (updM (updM noM (-3) [-13]) (-2) [-14]) (-1) [-13]) [0, 0, -1, -2, 0, -1, -3]) = m71 := by decide +kernel
  refine Or.inr ⟨by decide +kernel, by decide +kernel, Or.inr ⟨[0, -1, 0, -2, -3], [0, 0, -1, -2, 0, -1, -3], rfl, ?_, ?_, Or.inr ⟨_, by rw [ha]; exact mgu71, Or.inl ⟨by decide +kernel, by rw [hc]⟩⟩⟩⟩
  · exact isC7 (v (-1) (by omega) (by omega)) (isC7 (v (-2) (by omega) (by omega)) (v (-3) (by omega) (by omega)))
  · exact isC7 (isC7 (v (-1) (by omega) (by omega)) (v (-2) (by omega) (by omega))) (isC7 (v (-1) (by omega) (by omega)) (v (-3) (by omega) (by omega)))
theorem det72 : DetR sC7 m71 g70 (m72, 0) := by
  have v : ∀ n : Int, -12 ≤ n → n < 0 → IsT sC7 12 [n] := fun n h h' => .var _ h h'
  have ha : aparL g70 = [0, -13, 0, -14, -13] := by decide +kernel
  have hc : canonL (fw (updM (updM noM (-2) [0, -14, -13]) (-1) [-13]) [0, -1, -1]) = m72 := by decide +kernel
  refine Or.inr ⟨by decide +kernel, by decide +kernel, Or.inr ⟨[0, -1, -2], [0, -1, -1], rfl, ?_, ?_, Or.inr ⟨_, by rw [ha]; exact mgu72, Or.inl ⟨by decide +kernel, by rw [hc]⟩⟩⟩⟩
  · exact isC7 (v (-1) (by omega) (by omega)) (v (-2) (by omega) (by omega))
  · exact isC7 (v (-1) (by omega) (by omega)) (v (-1) (by omega) (by omega))
theorem can70 : canonL g70 = g70 := by decide +kernel
theorem can71 : canonL g71 = g71 := by decide +kernel
theorem run7 : RunR sC7 [g70, g71] p7 l7 0 := by
  refine ⟨fun i t h => ?_, Or.inl ⟨rfl, rfl⟩⟩
  match i, h with
  | 0, h =>
    obtain rfl : g71 = t := Option.some.inj h
    exact ⟨(1, 1, 0), rfl, by unfold sayR; rw [if_pos rfl]; exact congrArg (fun z => (z, (0 : Int))) can71.symm⟩
  | 1, h =>
    obtain rfl : g70 = t := Option.some.inj h
    exact ⟨(1, 0, 0), rfl, by unfold sayR; rw [if_pos rfl]; exact congrArg (fun z => (z, (0 : Int))) can70.symm⟩
  | 2, h =>
    obtain rfl : g70 = t := Option.some.inj h
    exact ⟨(1, 0, 0), rfl, by unfold sayR; rw [if_pos rfl]; exact congrArg (fun z => (z, (0 : Int))) can70.symm⟩
  | 3, h =>
    obtain rfl : m71 = t := Option.some.inj h
    exact ⟨(2, 0, 1), rfl, by unfold sayR; rw [if_neg (by decide)]; exact det71⟩
  | 4, h =>
    obtain rfl : m72 = t := Option.some.inj h
    exact ⟨(2, 3, 2), rfl, by unfold sayR; rw [if_neg (by decide)]; exact det72⟩
  | i + 5, h => simp [l7] at h
theorem said7 : SaidQ sC7 [g70, g71] p7 l7 0 := Or.inr ⟨by decide +kernel, l7, 0, run7, Or.inl ⟨rfl, rfl, rfl⟩⟩
theorem mrg7 : mrgP p7 l7 = q7 := by decide +kernel
theorem tim7 : timL q7 = [1, 2, 1, 1] := by decide +kernel
theorem timE7 : timE 2 q7 = 0 := by decide +kernel
theorem cutE7 : cutE 2 q7 2 = 0 := by decide +kernel
theorem cutA7 : trimL (q7.take 3) = q7.take 3 := by decide +kernel
theorem cutB7 : trimL (cutS q7 2 2) = r7 := by decide +kernel
end Go.Proofs.YtmpjaakkjhmpmaaGreatDoor
namespace Go.Proofs.YtmpjaakkjhmpmaaGreatDoor
open Go Go.RowKit Go.Maps
theorem ints7 (w : World) (l : List Int) (T : TypeId) {arr : Array Value} {n : Nat} (h : arr = (l.map (Value.int .i64)).toArray := by rfl) (hn : n = l.length := by rfl) (hl : l.length ≤ 1000 := by decide) : Ints (w.alloc (.cells arr T)) (.slice (some ⟨w.heap.size, 0, none⟩) n n) l := by
  subst h hn
  have r := World.ownsRow_lit (base := 0) (e := T) (size := 1) w (l.map (Value.int .i64)).toArray l.length (by omega) (by simp [maxLen]; omega) (by simp)
  simp only [List.toList_toArray] at r
  exact Ints.of_owns r (by omega)
theorem sign7 (w : World) (T : TypeId) : SignAt (w.alloc (.cells #[.string ⟨#[67]⟩, .int .i64 2] T)) (.slice (some ⟨w.heap.size, 0, none⟩) 1 1) sC7 := by
  have r1 := World.ownsRow_lit (base := 0) (e := T) (size := 2) w #[.string ⟨#[67]⟩, .int .i64 2] 1 (by omega) (by simp [maxLen]) rfl
  refine ⟨RowK.of_owns r1 (by simp [sC7]), ?_⟩
  intro x hx
  simp [sC7] at hx
  subst hx
  simp [ByteArray.size]
theorem steps7 (w : World) (l : List St) (T : TypeId) {cs : Array Value} {n : Nat} (hc : cs = (stC l).toArray := by rfl) (hn : n = l.length := by rfl) (hl : l.length ≤ 1000 := by decide) : StepsAt (w.alloc (.cells cs T)) (.slice (some ⟨w.heap.size, 0, none⟩) n n) l := by
  subst hc hn
  refine ⟨stC_len l, _, _, rfl, Nat.le_refl _, by omega, (fun h => by cases h), fun j u hj => ⟨_, _, rfl, ?_⟩⟩
  rw [Nat.zero_add, World.cell?_alloc_new]
  simpa using hj
theorem law7_cite (n : Int) (w : World) :
    Calls Tryz.prog 54 #[.int .i64 n] w fun e w' => e = .returned (.agg #[.int .i64 1, .int .i64 n, .int .i64 0]) ∧ Below w.heap.size w w' := by
  go_enter Tryz.func54, Tryz.ntmps54
  go_wp2
  (try simp only [Exit.inBlock, Exit.then])
  refine bodyPost_ret (v := .agg #[.int .i64 1, .int .i64 n, .int .i64 0]) ?_ rfl ?_
  · simp only [results, Tryz.results54]
    go_simp
  · exact ⟨rfl, (Below.refl _ _).alloc (Nat.le_refl _) _⟩
theorem law7_detach (n m : Int) (w : World) :
    Calls Tryz.prog 55 #[.int .i64 n, .int .i64 m] w fun e w' => e = .returned (.agg #[.int .i64 2, .int .i64 n, .int .i64 m]) ∧ Below w.heap.size w w' := by
  go_enter Tryz.func55, Tryz.ntmps55
  go_wp2
  (try simp only [Exit.inBlock, Exit.then])
  refine bodyPost_ret (v := .agg #[.int .i64 2, .int .i64 n, .int .i64 m]) ?_ rfl ?_
  · simp only [results, Tryz.results55]
    go_simp
  · exact ⟨rfl, (Below.refl _ _).alloc (Nat.le_refl _) _⟩
set_option maxHeartbeats 8000000 in
set_option maxRecDepth 100000 in
theorem law7_awake (w : World) (htab : Tab w) :
    Calls Tryz.prog 10 #[] w fun e w' => e = .returned (.bool true) ∧ Below w.heap.size w w' := by
  have HTAB := hid htab
  clear htab
  go_enter Tryz.func10, Tryz.ntmps10
  go_wp2_with fail
  have q1 := sign7 w 72
  obtain ⟨W1, hW1⟩ : ∃ W1, w.alloc (.cells #[.string ⟨#[67]⟩, .int .i64 2] 72) = W1 := ⟨_, rfl⟩
  have b1 : Below w.heap.size w W1 := hW1 ▸ (Below.refl _ _).alloc (Nat.le_refl _) _
  have z1 : W1.heap.size = w.heap.size + 1 := by rw [← hW1]; simp
  rw [hW1] at q1 ⊢
  have q2 := ints7 W1 g70 3
  obtain ⟨W2, hW2⟩ : ∃ W2, W1.alloc (.cells #[.int .i64 0, .int .i64 (-1), .int .i64 0, .int .i64 (-2), .int .i64 (-1)] 3) = W2 := ⟨_, rfl⟩
  have b2 : Below W1.heap.size W1 W2 := hW2 ▸ (Below.refl _ _).alloc (Nat.le_refl _) _
  have z2 : W2.heap.size = w.heap.size + 1 + 1 := by rw [← hW2]; simp [z1]
  have q2' : Ints W2 (.slice (some ⟨w.heap.size + 1, 0, none⟩) 5 5) g70 := by rw [← hW2, ← z1]; exact q2
  rw [hW2]
  have q3 := ints7 W2 g71 3
  obtain ⟨W3, hW3⟩ : ∃ W3, W2.alloc (.cells #[.int .i64 0, .int .i64 0, .int .i64 (-1), .int .i64 0, .int .i64 (-2), .int .i64 (-3), .int .i64 0, .int .i64 0, .int .i64 (-1), .int .i64 (-2), .int .i64 0, .int .i64 (-1), .int .i64 (-3)] 3) = W3 := ⟨_, rfl⟩
  have b3 : Below W2.heap.size W2 W3 := hW3 ▸ (Below.refl _ _).alloc (Nat.le_refl _) _
  have z3 : W3.heap.size = w.heap.size + 1 + 1 + 1 := by rw [← hW3]; simp [z2]
  have q3' : Ints W3 (.slice (some ⟨w.heap.size + 1 + 1, 0, none⟩) 13 13) g71 := by rw [← hW3, ← z2]; exact q3
  rw [hW3]
  have q4 := litT2 (q2'.below b3) q3' 34
  obtain ⟨W4, hW4⟩ : ∃ W4, W3.alloc (.cells #[.slice (some ⟨w.heap.size + 1, 0, none⟩) 5 5, .slice (some ⟨w.heap.size + 1 + 1, 0, none⟩) 13 13] 34) = W4 := ⟨_, rfl⟩
  have b4 : Below W3.heap.size W3 W4 := hW4 ▸ (Below.refl _ _).alloc (Nat.le_refl _) _
  rw [hW4] at q4
  rw [z3] at q4
  rw [hW4]
  have b24 : Below W2.heap.size W2 W4 := b3.trans (b4.mono b3.size)
  have b14 : Below W1.heap.size W1 W4 := b2.trans (b24.mono b2.size)
  have b04 : Below w.heap.size w W4 := b1.trans (b14.mono b1.size)
  have HS := hid (q1.below b14)
  have HG := hid q4
  have HB4 := hid b04
  clear q1 q2 q2' q3 q3' q4 b1 b2 b3 b4 b24 b14 b04 z1 z2 z3 hW1 hW2 hW3 hW4
  have HCI := hid (fun (n : Int) (B : World) (X : World) (hX : Below B.heap.size B X) => chainL hX (law7_cite n X))
  have HDE := hid (fun (n m : Int) (B : World) (X : World) (hX : Below B.heap.size B X) => chainL hX (law7_detach n m X))
  have hbA : Below W4.heap.size W4 W4 := Below.refl _ _
  refine (HCI.out 1 W4 W4 hbA).mono ?_
  rintro e wA ⟨rfl, hbA⟩
  go_wp2_with (first
    | (go_at_call 54; refine (HCI.out _ W4 _ hbA).mono ?_; rintro e wA ⟨rfl, hbA⟩)
    | (go_at_call 55; refine (HDE.out _ _ W4 _ hbA).mono ?_; rintro e wA ⟨rfl, hbA⟩))
  have qp := steps7 wA p7 57
  have hbP : Below W4.heap.size W4 (wA.alloc (.cells #[.int .i64 1, .int .i64 1, .int .i64 0, .int .i64 1, .int .i64 0, .int .i64 0, .int .i64 1, .int .i64 0, .int .i64 0, .int .i64 2, .int .i64 0, .int .i64 1, .int .i64 2, .int .i64 3, .int .i64 2] 57)) := hbA.alloc hbA.size _
  have hbW := HB4.out.trans (hbP.mono HB4.out.size)
  have HME := hid (short_Merged _ _ _ sC7 [g70, g71] p7 _ (HS.out.below hbP) (HG.out.below hbP) qp (by simp [sC7]) (HTAB.out.below hbW))
  have HBW := hid hbW
  clear qp hbP hbW hbA
  refine HME.out.mono ?_
  rintro e w5 ⟨u, l, er, rfl, hq, hu, hb5⟩
  obtain ⟨rfl, rfl⟩ := hq.unique said7
  rw [if_pos rfl, mrg7] at hu
  have HB5 := hid (HBW.out.trans (hb5.mono HBW.out.size))
  have HU := hid hu
  obtain ⟨ua, uc, rfl, huc, -⟩ := hu.open
  have e4 : q7.length = 4 := rfl
  rw [e4] at HU huc
  simp only [e4]
  clear hq hu hb5 HME e4
  have HTI := hid (short_Times 2 _ q7 w5 HU.out)
  go_wp2_with fail
  refine HTI.out.mono ?_
  rintro e w6 ⟨ut, rfl, hut, hb6⟩
  rw [timE7, if_pos rfl, tim7] at hut
  rw [timE7]
  have HB6 := hid (HB5.out.trans (hb6.mono HB5.out.size))
  have HU6 := hid (HU.out.below hb6)
  have HUT := hid hut
  obtain ⟨ta, tc, rfl, -⟩ := hut.open
  clear hut hb6 HTI
  have HCU := hid (short_Cut 2 _ q7 2 w6 HU6.out)
  go_wp2_with fail
  refine HCU.out.mono ?_
  rintro e w7 ⟨ul, ur, rfl, hul, hur, hb7⟩
  have e2 : (2 : Int).toNat = 2 := rfl
  rw [cutE7, if_pos rfl, e2, cutA7] at hul
  rw [cutE7, if_pos rfl, e2, cutB7] at hur
  rw [cutE7]
  have HB7 := hid (HB6.out.trans (hb7.mono HB6.out.size))
  have HU7 := hid (HU6.out.below hb7)
  have HUT7 := hid (HUT.out.below hb7)
  have HUL := hid hul
  have HUR := hid hur
  obtain ⟨la, lc, rfl, -⟩ := hul.open
  obtain ⟨ra, rc, rfl, -⟩ := hur.open
  have e3 : (q7.take 3).length = 3 := rfl
  have er3 : r7.length = 3 := rfl
  rw [e3] at HUL
  rw [er3] at HUR
  simp only [e3, er3]
  clear hul hur hb7 HCU e2 e3 er3
  have y1 : 3 ≤ uc := by omega
  have y2 : (3 : Int) ≤ (uc : Int) := by omega
  have hbA : Below w7.heap.size w7 w7 := Below.refl _ _
  go_wp2_with (first
    | (go_at_call 54; refine (HCI.out _ w7 _ hbA).mono ?_; rintro e wB ⟨rfl, hbA⟩)
    | (go_at_call 55; refine (HDE.out _ _ w7 _ hbA).mono ?_; rintro e wB ⟨rfl, hbA⟩))
  have hq := steps7 wB q7 57
  have hb8 : Below w7.heap.size w7 (wB.alloc (.cells #[.int .i64 1, .int .i64 1, .int .i64 0, .int .i64 1, .int .i64 0, .int .i64 0, .int .i64 2, .int .i64 0, .int .i64 1, .int .i64 2, .int .i64 2, .int .i64 1] 57)) := hbA.alloc hbA.size _
  have HS1 := hid (ref6_SameProof _ _ q7 q7 _ (HU7.out.below hb8) hq)
  rw [decide_eq_true (rfl : q7 = q7)] at HS1
  have HB8 := hid hb8
  clear hq hb8 hbA
  refine HS1.out.mono ?_
  rintro e w9 ⟨rfl, n9, hw9⟩
  have HB9 := hid (show Below w7.heap.size w7 w9 from hw9 ▸ below_drewN HB8.out n9)
  clear hw9 HS1 HB8
  go_wp2_with fail
  have hi := ints7 w9 [1, 2, 1, 1] 3
  have hbi : Below w7.heap.size w7 (w9.alloc (.cells #[.int .i64 1, .int .i64 2, .int .i64 1, .int .i64 1] 3)) := HB9.out.alloc HB9.out.size _
  have HS2 := hid (ref6_SameInts _ _ [1, 2, 1, 1] [1, 2, 1, 1] _ (HUT7.out.below hbi) hi)
  rw [decide_eq_true (rfl : ([1, 2, 1, 1] : List Int) = [1, 2, 1, 1])] at HS2
  have HBI := hid hbi
  clear hi hbi
  refine HS2.out.mono ?_
  rintro e wC ⟨rfl, n10, hw10⟩
  have HBC := hid (show Below w7.heap.size w7 wC from hw10 ▸ below_drewN HBI.out n10)
  clear hw10 HS2 HBI
  have HT3 := hid (StepsAt.take HU7.out 3 (by decide))
  have HS3 := hid (ref6_SameProof _ _ (q7.take 3) (q7.take 3) wC (HUL.out.below HBC.out) (HT3.out.below HBC.out))
  rw [decide_eq_true (rfl : q7.take 3 = q7.take 3)] at HS3
  go_wp2_with fail
  refine HS3.out.mono ?_
  rintro e wD ⟨rfl, n11, hw11⟩
  have HBD := hid (show Below w7.heap.size w7 wD from hw11 ▸ below_drewN HBC.out n11)
  have hbA := HBD.out
  clear hw11 HS3
  go_wp2_with (first
    | (go_at_call 54; refine (HCI.out _ w7 _ hbA).mono ?_; rintro e wE ⟨rfl, hbA⟩)
    | (go_at_call 55; refine (HDE.out _ _ w7 _ hbA).mono ?_; rintro e wE ⟨rfl, hbA⟩))
  have hr := steps7 wE r7 57
  have hbr : Below w7.heap.size w7 (wE.alloc (.cells #[.int .i64 1, .int .i64 0, .int .i64 0, .int .i64 1, .int .i64 2, .int .i64 0, .int .i64 2, .int .i64 1, .int .i64 0] 57)) := hbA.alloc hbA.size _
  have HS4 := hid (ref6_SameProof _ _ r7 r7 _ (HUR.out.below hbr) hr)
  rw [decide_eq_true (rfl : r7 = r7)] at HS4
  have HBR := hid hbr
  clear hr hbr hbA
  refine HS4.out.mono ?_
  rintro e wF ⟨rfl, n12, hw12⟩
  have HBF := hid (HB7.out.trans ((show Below w7.heap.size w7 wF from hw12 ▸ below_drewN HBR.out n12).mono HB7.out.size))
  clear hw12 HS4
  go_wp2
  go_ret
  exact ⟨rfl, HBF.out⟩
end Go.Proofs.YtmpjaakkjhmpmaaGreatDoor
