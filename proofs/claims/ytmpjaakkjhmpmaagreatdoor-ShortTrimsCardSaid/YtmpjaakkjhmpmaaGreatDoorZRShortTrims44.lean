/-
  WHAT IT HOLDS: contracts of slices.Clone at steps and of Cut of package short. Conditions: the arguments read as data.
  WHAT IT HOLDS: plain facts behind the helper awake of the laws of layer 7: what the steps of its proof say, how it is merged, how often its steps come, how it is cut. No program in sight.
  WHAT IT HOLDS: contracts of the helpers cite, detach, heavy and awake of the laws of layer 7. Conditions: the arguments read as data; awake: the library's table of powers of ten stands as it is written.
  WHAT IT HOLDS: contract of Inlined of package short. Conditions: the arguments read as data.
  WHAT IT HOLDS: contracts of slices.Index at ints, of Unused and Dropped of package short. Conditions: the arguments read as data.
  WHAT IT HOLDS: contract of Moved of package kernel where it moves a proof. Conditions: the arguments read as data; the proof is valid; the new givens are in range.
  WHAT IT HOLDS: contracts of cites, Unused and Dropped of the reference of layer 7. Conditions: the arguments read as data.
-/
import Derived.Test.YtmpjaakkjhmpmaaGreatDoorZRShortTrims41
import Derived.Test.YtmpjaakkjhmpmaaGreatDoorZRShortTrims43
import Derived.Test.YtmpjaakkjhmpmaaGreatDoorZRShortTrims35
import Derived.Test.YtmpjaakkjhmpmaaGreatDoorZRShortTrims20
import Derived.Test.YtmpjaakkjhmpmaaGreatDoorZRShortTrims37
import Derived.Test.YtmpjaakkjhmpmaaGreatDoorZRShortTrims21
import Derived.Test.YtmpjaakkjhmpmaaGreatDoorZRShortTrims0
import Derived.Test.YtmpjaakkjhmpmaaGreatDoorZRShortTrims36
namespace Go.Proofs.YtmpjaakkjhmpmaaGreatDoor
open Go Go.RowKit Go.Maps
theorem stC_set (l : List St) (x : St) : ∀ (k : Nat), ((((stC l).set (k * 3) (.int .i64 x.1)).set (k * 3 + 1) (.int .i64 x.2.1)).set (k * 3 + 2) (.int .i64 x.2.2)) = stC (l.set k x) := by
  induction l with
  | nil => intro k; simp [stC]
  | cons y l ih =>
    intro k
    cases k with
    | zero => simp [stC, stV]
    | succ k =>
      have e1 : (k + 1) * 3 = k * 3 + 3 := by omega
      have := ih k
      rw [e1]
      simpa [stC, stV, List.set_cons_succ] using this
def cutE (g : Int) (p : List St) (i : Int) : Int := if vldB g p = true then (if i < 0 ∨ (p.length : Int) ≤ i then 7 else if i = (p.length : Int) - 1 ∨ stB (needL p) i.toNat = false then 10 else if g = 60 then 4 else 0) else 1
def CutQ (g : Int) (p : List St) (i : Int) (w : World) (e : Ending) (w' : World) : Prop :=
  ∃ u v, e = .returned (.tuple #[u, v, .int .i64 (cutE g p i)]) ∧ StepsAt w' u (if cutE g p i = 0 then trimL (p.take (i.toNat + 1)) else []) ∧ StepsAt w' v (if cutE g p i = 0 then trimL (cutS p i.toNat g) else []) ∧ Below w.heap.size w w'
set_option maxHeartbeats 4000000 in
set_option maxRecDepth 100000 in
theorem short_Cut (g : Int) (v : Value) (p : List St) (i : Int) (w : World) (hv : StepsAt w v p) :
    Calls Tryz.prog 23 #[.int .i64 g, v, .int .i64 i] w fun e w' => CutQ g p i w e w' := by
  have HV := hid (short_valid g v p w hv)
  have HP := hid hv
  obtain ⟨pa, pc, rfl, hpc, -⟩ := hv.open
  clear hv
  unfold CutQ
  cases hb : vldB g p
  · have hE : vldE g p = 1 := by unfold vldE; rw [hb]; rfl
    have hE2 : cutE g p i = 1 := by unfold cutE; rw [hb]; rfl
    rw [hE] at HV
    rw [hE2]
    clear hb hE HP hE2
    go_enter Tryz.func23, Tryz.ntmps23
    go_wp2_with fail
    refine HV.out.mono ?_
    rintro e w1 ⟨rfl, hb1⟩
    go_wp2
    go_ret3
    exact ⟨_, _, rfl, StepsAt.nil _, StepsAt.nil _, hb1⟩
  have hE : vldE g p = 0 := by unfold vldE; rw [hb]; rfl
  have hp : proofB g p = true := by unfold vldB at hb; rw [Bool.and_eq_true] at hb; exact hb.2
  have hE2 : cutE g p i = (if i < 0 ∨ (p.length : Int) ≤ i then 7 else if i = (p.length : Int) - 1 ∨ stB (needL p) i.toNat = false then 10 else if g = 60 then 4 else 0) := by unfold cutE; rw [hb]; rfl
  have h60 := proof60 hp
  have h1 := proof1 hp
  have hg0 : 0 ≤ g := by unfold vldB at hb; rw [Bool.and_eq_true] at hb; exact (inB_true.1 hb.1).1
  rw [hE] at HV
  rw [hE2]
  have HPR := hid hp
  clear hb hE hE2 hp
  by_cases hi0 : i < 0
  · rw [if_pos (Or.inl hi0)]
    clear HPR
    go_enter Tryz.func23, Tryz.ntmps23
    go_wp2_with fail
    refine HV.out.mono ?_
    rintro e w1 ⟨rfl, hb1⟩
    go_wp2
    go_ret3
    exact ⟨_, _, rfl, StepsAt.nil _, StepsAt.nil _, hb1⟩
  by_cases hi1 : (p.length : Int) ≤ i
  · rw [if_pos (Or.inr hi1)]
    clear HPR
    go_enter Tryz.func23, Tryz.ntmps23
    go_wp2_with fail
    refine HV.out.mono ?_
    rintro e w1 ⟨rfl, hb1⟩
    go_wp2
    go_ret3
    exact ⟨_, _, rfl, StepsAt.nil _, StepsAt.nil _, hb1⟩
  rw [if_neg (fun h => h.elim hi0 hi1)]
  obtain ⟨k, rfl⟩ : ∃ k : Nat, i = k := ⟨i.toNat, by omega⟩
  have hk : k < p.length := by omega
  rw [Int.toNat_natCast]
  obtain ⟨m, hm⟩ : ∃ m, p.length = m + 1 := ⟨p.length - 1, by omega⟩
  have HM := hid hm
  have y5 : IntKind.i64.wrap (((m + 1 : Nat) : Int) - 1) = (m : Int) := by rw [IntWalk.i64_in _ (by omega)]; omega
  have y6 : (((m + 1 : Nat) : Int) - 1) = (m : Int) := by omega
  rw [hm] at HV
  simp only [hm] at hpc hi1 hk h60 ⊢
  have hm60 : m ≤ 59 := by omega
  clear hm h1
  by_cases hkm : k = m
  · have e1 : (k : Int) = (m : Int) := by omega
    have c1 : ((k : Int) == (m : Int)) = true := by rw [e1]; simp
    rw [if_pos (Or.inl (by rw [y6]; exact e1))]
    clear HPR hkm
    go_enter Tryz.func23, Tryz.ntmps23
    go_wp2_with fail
    refine HV.out.mono ?_
    rintro e w1 ⟨rfl, hb1⟩
    go_wp2
    go_ret3
    exact ⟨_, _, rfl, StepsAt.nil _, StepsAt.nil _, hb1⟩
  have c1 : ((k : Int) == (m : Int)) = false := by rw [beq_eq_false_iff_ne]; omega
  have hne : ¬ (k : Int) = ((m + 1 : Nat) : Int) - 1 := by omega
  have HN := hid (fun (X : World) (hX : Below w.heap.size w X) => short_needed g (.slice pa (m + 1) pc) p X (by have h := HP.out.below hX; rw [HM.out] at h; exact h) HPR.out)
  have hle : k ≤ m := by omega
  cases hz : stB (needL p) k
  · rw [if_pos (Or.inr rfl)]
    have HZ := hid hz
    clear hz hne hkm
    go_enter Tryz.func23, Tryz.ntmps23
    go_wp2_with fail
    refine HV.out.mono ?_
    rintro e w1 ⟨rfl, hb1⟩
    have K := hid (HN.out w1 hb1)
    have HB1 := hid hb1
    clear hb1
    go_wp2_with fail
    refine K.out.mono ?_
    rintro e w2 ⟨q, rfl, hq, hown, hb2⟩
    have HB2 := hid (HB1.out.trans (hb2.mono HB1.out.size))
    have c2 := hown.cellAt k (by rw [HM.out]; omega)
    rw [bools_at (by rw [needL_len, HM.out]; exact hk), HZ.out] at c2
    rw [HM.out]
    clear hown hb2 K hq
    go_wp2
    go_ret3
    exact ⟨_, _, rfl, StepsAt.nil _, StepsAt.nil _, HB2.out⟩
  rw [if_neg (show ¬ ((k : Int) = ((m + 1 : Nat) : Int) - 1 ∨ true = false) from fun h => h.elim hne (fun h => by cases h))]
  have HZ := hid hz
  clear hz hne hkm
  by_cases hg : g = 60
  · have c3 : (g == 60) = true := by rw [hg]; rfl
    rw [if_pos hg]
    clear hg
    go_enter Tryz.func23, Tryz.ntmps23
    go_wp2_with fail
    refine HV.out.mono ?_
    rintro e w1 ⟨rfl, hb1⟩
    have K := hid (HN.out w1 hb1)
    have HB1 := hid hb1
    clear hb1
    go_wp2_with fail
    refine K.out.mono ?_
    rintro e w2 ⟨q, rfl, hq, hown, hb2⟩
    have HB2 := hid (HB1.out.trans (hb2.mono HB1.out.size))
    have c2 := hown.cellAt k (by rw [HM.out]; omega)
    rw [bools_at (by rw [needL_len, HM.out]; exact hk), HZ.out] at c2
    rw [HM.out]
    clear hown hb2 K hq
    go_wp2
    go_ret3
    exact ⟨_, _, rfl, StepsAt.nil _, StepsAt.nil _, HB2.out⟩
  have c3 : (g == 60) = false := by rw [beq_eq_false_iff_ne]; exact hg
  rw [if_neg hg, if_pos rfl, if_pos rfl]
  have HGB := hid (proofB_take HPR.out (k := k + 1) (by omega) (by rw [HM.out]; omega))
  have HCV : Hid (proofB (g + 1) (cutS p k g) = true) := hid (by obtain ⟨n, rfl⟩ : ∃ n : Nat, g = n := ⟨g.toNat, by omega⟩; exact cut_valid HPR.out k)
  clear hg
  go_enter Tryz.func23, Tryz.ntmps23
  go_wp2_with fail
  refine HV.out.mono ?_
  rintro e w1 ⟨rfl, hb1⟩
  have K := hid (HN.out w1 hb1)
  have HB1 := hid hb1
  clear hb1
  go_wp2_with fail
  refine K.out.mono ?_
  rintro e w2 ⟨q, rfl, hq, hown, hb2⟩
  have HB2 := hid (HB1.out.trans (hb2.mono HB1.out.size))
  have c2 := hown.cellAt k (by rw [HM.out]; omega)
  rw [bools_at (by rw [needL_len, HM.out]; exact hk), HZ.out] at c2
  rw [HM.out]
  clear hown hb2 K hq
  have HCL := hid (sl_Clone_steps (.slice pa (m + 1) pc) (m + 1) (stC p) w2 (by have h := HP.out.below HB2.out; unfold StepsAt at h; rw [HM.out] at h; exact h) (stC_one p) (by omega))
  go_wp2_with fail
  refine HCL.out.mono ?_
  rintro e w3 ⟨u3, rfl, hown3, hb3⟩
  have HB3 := hid (HB2.out.trans (hb3.mono HB2.out.size))
  obtain ⟨c, cap, rfl⟩ : ∃ c cap, u3 = .slice (some ⟨c, 0, none⟩) (m + 1) cap := by
    rcases hown3.2 with ⟨rfl, h⟩ | ⟨c, cap, cur, rfl, -⟩
    · omega
    · exact ⟨c, cap, rfl⟩
  have hc0 : w2.heap.size ≤ c := (hown3.lt c rfl).1
  have hlen : (stC p).length = (m + 1) * 3 := by rw [stC_len, HM.out]
  have f0 := hown3.frozenAt (k * 3)
  have e0 := hown3.cellAt (k * 3) (by omega)
  rw [List.getElem?_eq_getElem (by omega)] at e0
  obtain ⟨z0, hz0⟩ : ∃ z, (stC p)[k * 3]'(by omega) = z := ⟨_, rfl⟩
  rw [hz0] at e0
  have s1 := (hown3.stored (k * 3) (.int .i64 1)).1
  have f1 := s1.frozenAt (k * 3 + 1)
  have e1 := s1.cellAt (k * 3 + 1) (by omega)
  rw [List.getElem?_eq_getElem (by rw [List.length_set]; omega)] at e1
  obtain ⟨z1, hz1⟩ : ∃ z, ((stC p).set (k * 3) (.int .i64 1))[k * 3 + 1]'(by rw [List.length_set]; omega) = z := ⟨_, rfl⟩
  rw [hz1] at e1
  have s2 := (s1.stored (k * 3 + 1) (.int .i64 g)).1
  have f2 := s2.frozenAt (k * 3 + 2)
  have e2 := s2.cellAt (k * 3 + 2) (by omega)
  rw [List.getElem?_eq_getElem (by rw [List.length_set, List.length_set]; omega)] at e2
  obtain ⟨z2, hz2⟩ : ∃ z, (((stC p).set (k * 3) (.int .i64 1)).set (k * 3 + 1) (.int .i64 g))[k * 3 + 2]'(by rw [List.length_set, List.length_set]; omega) = z := ⟨_, rfl⟩
  rw [hz2] at e2
  have s3 := (s2.stored (k * 3 + 2) (.int .i64 0)).1
  have e3 := stC_set p (1, g, 0) k
  dsimp only at e3
  rw [e3] at s3
  have HS3 := hid s3
  have HBX := hid (show Below w2.heap.size w2 (((w3.setCell ⟨c, k * 3, none⟩ (.int .i64 1)).setCell ⟨c, k * 3 + 1, none⟩ (.int .i64 g)).setCell ⟨c, k * 3 + 2, none⟩ (.int .i64 0)) from ((hb3.setCell (p := ⟨c, k * 3, none⟩) hc0 _).setCell (p := ⟨c, k * 3 + 1, none⟩) hc0 _).setCell (p := ⟨c, k * 3 + 2, none⟩) hc0 _)
  clear hown3 s1 s2 s3 e3 hz0 hz1 hz2 hlen hb3 HCL
  go_wp2_with fail
  obtain ⟨X, hX⟩ : ∃ X, ((w3.setCell ⟨c, k * 3, none⟩ (.int .i64 1)).setCell ⟨c, k * 3 + 1, none⟩ (.int .i64 g)).setCell ⟨c, k * 3 + 2, none⟩ (.int .i64 0) = X := ⟨_, rfl⟩
  rw [hX] at HS3 HBX ⊢
  have HBX2 := hid (HB2.out.trans (HBX.out.mono HB2.out.size))
  have hcl : (cutS p k g).length = m + 1 := by unfold cutS; rw [List.length_set, HM.out]
  have HSC : Hid (StepsAt X (.slice (some ⟨c, 0, none⟩) (m + 1) cap) (cutS p k g)) := hid (by
    have h := RowK.of_owns HS3.out (by omega)
    unfold StepsAt
    rw [hcl]
    exact h)
  have HT1 := hid (short_trimmed g (.slice pa (k + 1) pc) (p.take (k + 1)) X (StepsAt.take (by have h := HP.out.below HBX2.out; rw [HM.out] at h; exact h) (k + 1) (by rw [HM.out]; omega)) HGB.out)
  clear hX HBX HS3 f0 f1 f2 e0 e1 e2
  refine HT1.out.mono ?_
  rintro e w5 ⟨u5, rfl, hu5, hb5⟩
  have HU5 := hid hu5
  have HB5 := hid (HBX2.out.trans (hb5.mono HBX2.out.size))
  have HT2 := hid (short_trimmed (g + 1) (.slice (some ⟨c, 0, none⟩) (m + 1) cap) (cutS p k g) w5 (HSC.out.below hb5) HCV.out)
  obtain ⟨a5, c5, rfl, -⟩ := hu5.open
  clear hu5 hb5 HT1 HSC
  go_wp2_with fail
  refine HT2.out.mono ?_
  rintro e w6 ⟨u6, rfl, hu6, hb6⟩
  have HU6 := hid hu6
  have HB6 := hid (HB5.out.trans (hb6.mono HB5.out.size))
  have HU5' := hid (HU5.out.below hb6)
  obtain ⟨a6, c6, rfl, -⟩ := hu6.open
  clear hu6 hb6 HT2 HU5
  go_wp2
  go_ret3
  exact ⟨_, _, rfl, HU5'.out, HU6.out, HB6.out⟩
end Go.Proofs.YtmpjaakkjhmpmaaGreatDoor
namespace Go.Proofs.YtmpjaakkjhmpmaaGreatDoor
open Go Go.RowKit
def sC7 : Sg := [(⟨#[67]⟩, 2)]
def g70 : List Int := [0, -1, 0, -2, -1]
def g71 : List Int := [0, 0, -1, 0, -2, -3, 0, 0, -1, -2, 0, -1, -3]
def m71 : List Int := [0, 0, -1, -2, 0, -1, -1]
def m72 : List Int := [0, -1, -1]
def p7 : List St := [(1, 1, 0), (1, 0, 0), (1, 0, 0), (2, 0, 1), (2, 3, 2)]
def l7 : List (List Int) := [g71, g70, g70, m71, m72]
def q7 : List St := [(1, 1, 0), (1, 0, 0), (2, 0, 1), (2, 2, 1)]
def r7 : List St := [(1, 0, 0), (1, 2, 0), (2, 1, 0)]
theorem isC7 {q : Int} {x y : List Int} (hx : IsT sC7 q x) (hy : IsT sC7 q y) : IsT sC7 q (0 :: (x ++ y)) := by
  have h : IsT sC7 q (((0 : Nat) : Int) :: ([x, y] : List (List Int)).flatten) := .app 0 [x, y] (by simp [sC7]) (by simp [sC7, arOf]) (by
    intro z hz
    simp at hz
    rcases hz with rfl | rfl
    · exact hx
    · exact hy)
  simpa using h
theorem noreach7 {m : MM} {t : List Int} {v : Int} (h : ∀ n ∈ t, n ≠ v ∧ m n = none) : ¬ Reach m t v := by
  intro H
  cases H with
  | here _ _ h1 _ => exact (h v h1).1 rfl
  | step _ _ k p g1 g2 g3 _ => rw [(h k g1).2] at g3; cases g3
theorem sg7 : signB sC7 = true := by decide +kernel
theorem mgu71 : Mgu sC7 [0, -1, 0, -2, -3] [0, -13, 0, -14, -13] (updM (updM (updM noM (-3) [-13]) (-2) [-14]) (-1) [-13]) := by
  have v : ∀ n : Int, -24 ≤ n → n < 0 → IsT sC7 24 [n] := fun n h h' => .var _ h h'
  have hA2 : IsT sC7 24 [0, -2, -3] := isC7 (v (-2) (by omega) (by omega)) (v (-3) (by omega) (by omega))
  have hB2 : IsT sC7 24 [0, -14, -13] := isC7 (v (-14) (by omega) (by omega)) (v (-13) (by omega) (by omega))
  have hA : IsT sC7 24 [0, -1, 0, -2, -3] := isC7 (v (-1) (by omega) (by omega)) hA2
  have hB : IsT sC7 24 [0, -13, 0, -14, -13] := isC7 (v (-13) (by omega) (by omega)) hB2
  have h0 := UInv.start hA hB (by simp) (by simp)
  have h3 := (UInv.args sg7 (L := []) (x := [0, -1, 0, -2, -3]) (y := [0, -13, 0, -14, -13]) (c := 0) (ars := [[-1], [0, -2, -3]]) (bs := [[-13], [0, -14, -13]]) h0 (.refl hA (by simp)) (.refl hB (by simp)) (by simp [arOf, sC7]) (by simp [arOf, sC7])
    (by intro z hz; simp at hz; rcases hz with rfl | rfl <;> first | exact v (-1) (by omega) (by omega) | exact hA2) (by intro z hz; simp at hz; rcases hz with rfl | rfl <;> first | exact v (-13) (by omega) (by omega) | exact hB2)).1
  have h4 := (UInv.args sg7 (L := [([-1], [-13])]) (x := [0, -2, -3]) (y := [0, -14, -13]) (c := 0) (ars := [[-2], [-3]]) (bs := [[-14], [-13]]) h3 (.refl hA2 (by simp)) (.refl hB2 (by simp)) (by simp [arOf, sC7]) (by simp [arOf, sC7])
    (by intro z hz; simp at hz; rcases hz with rfl | rfl <;> first | exact v (-2) (by omega) (by omega) | exact v (-3) (by omega) (by omega)) (by intro z hz; simp at hz; rcases hz with rfl | rfl <;> first | exact v (-14) (by omega) (by omega) | exact v (-13) (by omega) (by omega))).1
  have h5 := (UInv.bind (L := [([-1], [-13]), ([-2], [-14])]) (x := [-3]) (y := [-13]) (v := -3) (q := [-13]) h4 (Or.inl ⟨.refl (v _ (by omega) (by omega)) (by simp), .refl (v _ (by omega) (by omega)) (by simp)⟩) (by omega) rfl (noreach7 (by simp [noM]))).1
  have h6 := (UInv.bind (L := [([-1], [-13])]) (x := [-2]) (y := [-14]) (v := -2) (q := [-14]) h5 (Or.inl ⟨.refl (v _ (by omega) (by omega)) (by simp), .refl (v _ (by omega) (by omega)) (by simp)⟩) (by omega) (by simp [updM, noM]) (noreach7 (by simp [updM, noM]))).1
  have h7 := (UInv.bind (L := []) (x := [-1]) (y := [-13]) (v := -1) (q := [-13]) h6 (Or.inl ⟨.refl (v _ (by omega) (by omega)) (by simp), .refl (v _ (by omega) (by omega)) (by simp)⟩) (by omega) (by simp [updM, noM]) (noreach7 (by simp [updM, noM]))).1
  exact h7.done
theorem mgu72 : Mgu sC7 [0, -1, -2] [0, -13, 0, -14, -13] (updM (updM noM (-2) [0, -14, -13]) (-1) [-13]) := by
  have v : ∀ n : Int, -24 ≤ n → n < 0 → IsT sC7 24 [n] := fun n h h' => .var _ h h'
  have hB2 : IsT sC7 24 [0, -14, -13] := isC7 (v (-14) (by omega) (by omega)) (v (-13) (by omega) (by omega))
  have hA : IsT sC7 24 [0, -1, -2] := isC7 (v (-1) (by omega) (by omega)) (v (-2) (by omega) (by omega))
  have hB : IsT sC7 24 [0, -13, 0, -14, -13] := isC7 (v (-13) (by omega) (by omega)) hB2
  have h0 := UInv.start hA hB (by simp) (by simp)
  have h3 := (UInv.args sg7 (L := []) (x := [0, -1, -2]) (y := [0, -13, 0, -14, -13]) (c := 0) (ars := [[-1], [-2]]) (bs := [[-13], [0, -14, -13]]) h0 (.refl hA (by simp)) (.refl hB (by simp)) (by simp [arOf, sC7]) (by simp [arOf, sC7])
    (by intro z hz; simp at hz; rcases hz with rfl | rfl <;> first | exact v (-1) (by omega) (by omega) | exact v (-2) (by omega) (by omega)) (by intro z hz; simp at hz; rcases hz with rfl | rfl <;> first | exact v (-13) (by omega) (by omega) | exact hB2)).1
  have h6 := (UInv.bind (L := [([-1], [-13])]) (x := [-2]) (y := [0, -14, -13]) (v := -2) (q := [0, -14, -13]) h3 (Or.inl ⟨.refl (v _ (by omega) (by omega)) (by simp), .refl hB2 (by simp)⟩) (by omega) rfl (noreach7 (by simp [noM]))).1
  have h7 := (UInv.bind (L := []) (x := [-1]) (y := [-13]) (v := -1) (q := [-13]) h6 (Or.inl ⟨.refl (v _ (by omega) (by omega)) (by simp), .refl (v _ (by omega) (by omega)) (by simp)⟩) (by omega) (by simp [updM, noM]) (noreach7 (by simp [updM, noM]))).1
  exact h7.done
theorem det71 : DetR sC7 g71 g70 (m71, 0) := by
  have v : ∀ n : Int, -12 ≤ n → n < 0 → IsT sC7 12 [n] := fun n h h' => .var _ h h'
  have ha : aparL g70 = [0, -13, 0, -14, -13] := by decide +kernel
  have hc : canonL (fw (updM (updM (updM noM (-3) [-13]) (-2) [-14]) (-1) [-13]) [0, 0, -1, -2, 0, -1, -3]) = m71 := by decide +kernel
  refine Or.inr ⟨by decide +kernel, by decide +kernel, Or.inr ⟨[0, -1, 0, -2, -3], [0, 0, -1, -2, 0, -1, -3], rfl, ?_, ?_, Or.inr ⟨_, by rw [ha]; exact mgu71, Or.inl ⟨by decide +kernel, by rw [hc]⟩⟩⟩⟩
  · exact isC7 (v (-1) (by omega) (by omega)) (isC7 (v (-2) (by omega) (by omega)) (v (-3) (by omega) (by omega)))
  · exact isC7 (isC7 (v (-1) (by omega) (by omega)) (v (-2) (by omega) (by omega))) (isC7 (v (-1) (by omega) (by omega)) (v (-3) (by omega) (by omega)))
theorem det72 : DetR sC7 m71 g70 (m72, 0) := by
  have v : ∀ n : Int, -12 ≤ n → n < 0 → IsT sC7 12 [n] := fun n h h' => .var _ h h'
  have ha : aparL g70 = [0, -13, 0, -14, -13] := by decide +kernel
  have hc : canonL (fw (updM (updM noM (-2) [0, -14, -13]) (-1) [-13]) [0, -1, -1]) = m72 := by decide +kernel
  refine Or.inr ⟨by decide +kernel, by decide +kernel, Or.inr ⟨[0, -1, -2], [0, -1, -1], rfl, ?_, ?_, Or.inr ⟨_, by rw [ha]; exact mgu72, Or.inl ⟨by decide +kernel, by rw [hc]⟩⟩⟩⟩
  · exact isC7 (v (-1) (by omega) (by omega)) (v (-2) (by omega) (by omega))
  · exact isC7 (v (-1) (by omega) (by omega)) (v (-1) (by omega) (by omega))
theorem can70 : canonL g70 = g70 := by decide +kernel
theorem can71 : canonL g71 = g71 := by decide +kernel
theorem run7 : RunR sC7 [g70, g71] p7 l7 0 := by
  refine ⟨fun i t h => ?_, Or.inl ⟨rfl, rfl⟩⟩
  match i, h with
  | 0, h =>
    obtain rfl : g71 = t := Option.some.inj h
    exact ⟨(1, 1, 0), rfl, by unfold sayR; rw [if_pos rfl]; exact congrArg (fun z => (z, (0 : Int))) can71.symm⟩
  | 1, h =>
    obtain rfl : g70 = t := Option.some.inj h
    exact ⟨(1, 0, 0), rfl, by unfold sayR; rw [if_pos rfl]; exact congrArg (fun z => (z, (0 : Int))) can70.symm⟩
  | 2, h =>
    obtain rfl : g70 = t := Option.some.inj h
    exact ⟨(1, 0, 0), rfl, by unfold sayR; rw [if_pos rfl]; exact congrArg (fun z => (z, (0 : Int))) can70.symm⟩
  | 3, h =>
    obtain rfl : m71 = t := Option.some.inj h
    exact ⟨(2, 0, 1), rfl, by unfold sayR; rw [if_neg (by decide)]; exact det71⟩
  | 4, h =>
    obtain rfl : m72 = t := Option.some.inj h
    exact ⟨(2, 3, 2), rfl, by unfold sayR; rw [if_neg (by decide)]; exact det72⟩
  | i + 5, h => simp [l7] at h
theorem said7 : SaidQ sC7 [g70, g71] p7 l7 0 := Or.inr ⟨by decide +kernel, l7, 0, run7, Or.inl ⟨rfl, rfl, rfl⟩⟩
theorem mrg7 : mrgP p7 l7 = q7 := by decide +kernel
theorem tim7 : timL q7 = [1, 2, 1, 1] := by decide +kernel
theorem timE7 : timE 2 q7 = 0 := by decide +kernel
theorem cutE7 : cutE 2 q7 2 = 0 := by decide +kernel
theorem cutA7 : trimL (q7.take 3) = q7.take 3 := by decide +kernel
theorem cutB7 : trimL (cutS q7 2 2) = r7 := by decide +kernel
end Go.Proofs.YtmpjaakkjhmpmaaGreatDoor
namespace Go.Proofs.YtmpjaakkjhmpmaaGreatDoor
open Go Go.RowKit Go.Maps
theorem ints7 (w : World) (l : List Int) (T : TypeId) {arr : Array Value} {n : Nat} (h : arr = (l.map (Value.int .i64)).toArray := by rfl) (hn : n = l.length := by rfl) (hl : l.length ≤ 1000 := by decide) : Ints (w.alloc (.cells arr T)) (.slice (some ⟨w.heap.size, 0, none⟩) n n) l := by
  subst h hn
  have r := World.ownsRow_lit (base := 0) (e := T) (size := 1) w (l.map (Value.int .i64)).toArray l.length (by omega) (by simp [maxLen]; omega) (by simp)
  simp only [List.toList_toArray] at r
  exact Ints.of_owns r (by omega)
theorem sign7 (w : World) (T : TypeId) : SignAt (w.alloc (.cells #[.string ⟨#[67]⟩, .int .i64 2] T)) (.slice (some ⟨w.heap.size, 0, none⟩) 1 1) sC7 := by
  have r1 := World.ownsRow_lit (base := 0) (e := T) (size := 2) w #[.string ⟨#[67]⟩, .int .i64 2] 1 (by omega) (by simp [maxLen]) rfl
  refine ⟨RowK.of_owns r1 (by simp [sC7]), ?_⟩
  intro x hx
  simp [sC7] at hx
  subst hx
  simp [ByteArray.size]
theorem steps7 (w : World) (l : List St) (T : TypeId) {cs : Array Value} {n : Nat} (hc : cs = (stC l).toArray := by rfl) (hn : n = l.length := by rfl) (hl : l.length ≤ 1000 := by decide) : StepsAt (w.alloc (.cells cs T)) (.slice (some ⟨w.heap.size, 0, none⟩) n n) l := by
  subst hc hn
  refine ⟨stC_len l, _, _, rfl, Nat.le_refl _, by omega, (fun h => by cases h), fun j u hj => ⟨_, _, rfl, ?_⟩⟩
  rw [Nat.zero_add, World.cell?_alloc_new]
  simpa using hj
theorem law7_cite (n : Int) (w : World) :
    Calls Tryz.prog 54 #[.int .i64 n] w fun e w' => e = .returned (.agg #[.int .i64 1, .int .i64 n, .int .i64 0]) ∧ Below w.heap.size w w' := by
  go_enter Tryz.func54, Tryz.ntmps54
  go_wp2
  (try simp only [Exit.inBlock, Exit.then])
  refine bodyPost_ret (v := .agg #[.int .i64 1, .int .i64 n, .int .i64 0]) ?_ rfl ?_
  · simp only [results, Tryz.results54]
    go_simp
  · exact ⟨rfl, (Below.refl _ _).alloc (Nat.le_refl _) _⟩
theorem law7_detach (n m : Int) (w : World) :
    Calls Tryz.prog 55 #[.int .i64 n, .int .i64 m] w fun e w' => e = .returned (.agg #[.int .i64 2, .int .i64 n, .int .i64 m]) ∧ Below w.heap.size w w' := by
  go_enter Tryz.func55, Tryz.ntmps55
  go_wp2
  (try simp only [Exit.inBlock, Exit.then])
  refine bodyPost_ret (v := .agg #[.int .i64 2, .int .i64 n, .int .i64 m]) ?_ rfl ?_
  · simp only [results, Tryz.results55]
    go_simp
  · exact ⟨rfl, (Below.refl _ _).alloc (Nat.le_refl _) _⟩
def Hv7 (s : Sg) (g : List (List Int)) (p : List St) (w : World) (e : Ending) (w' : World) : Prop := ∃ z, e = .returned (.bool z) ∧ (z = false → s.length ≤ 20 ∧ g.length ≤ 100 ∧ p.length ≤ 100 ∧ ∀ t ∈ g, t.length ≤ 100) ∧ Below w.heap.size w w'
theorem Hv7.yes {s : Sg} {g : List (List Int)} {p : List St} {w w' : World} (h : Below w.heap.size w w') : Hv7 s g p w (.returned (.bool true)) w' := ⟨true, rfl, (fun h => by cases h), h⟩
set_option maxHeartbeats 2000000 in
theorem law7_heavy (vs vg vp : Value) (s : Sg) (g : List (List Int)) (p : List St) (w : World) (hs : SignAt w vs s) (hg : Terms w vg g) (hp : StepsAt w vp p) :
    Calls Tryz.prog 11 #[vs, vg, vp] w fun e w' => Hv7 s g p w e w' := by
  obtain ⟨sa, sc, rfl, -, hsl, -⟩ := hs.open
  obtain ⟨pa, pc, rfl, -, hpl, -, -⟩ := hp.open
  obtain ⟨ga, gc, rfl, -, hgl, -, HC⟩ := hg.open
  have HC' := hid HC
  clear HC hg hs hp
  by_cases h1 : 20 < s.length
  · have q1 : (s.length : Int) > 20 := by omega
    go_enter Tryz.func11, Tryz.ntmps11
    go_wp2
    go_ret
    exact Hv7.yes (Below.refl _ _)
  have q1 : ¬ (s.length : Int) > 20 := by omega
  have HS20 : Hid (s.length ≤ 20) := hid (by omega)
  by_cases h0 : 100 < g.length
  · have q0 : (g.length : Int) > 100 := by omega
    go_enter Tryz.func11, Tryz.ntmps11
    go_wp2
    go_ret
    exact Hv7.yes (Below.refl _ _)
  have q0 : ¬ (g.length : Int) > 100 := by omega
  have HG20 : Hid (g.length ≤ 100) := hid (by omega)
  by_cases h2 : 14 < p.length ∧ p.length ≤ 60
  · have q2 : (p.length : Int) > 14 := by omega
    have q3 : (p.length : Int) ≤ 60 := by omega
    go_enter Tryz.func11, Tryz.ntmps11
    go_wp2
    go_ret
    exact Hv7.yes (Below.refl _ _)
  by_cases h3 : 100 < p.length
  · have q2 : (p.length : Int) > 14 := by omega
    have q3 : ¬ (p.length : Int) ≤ 60 := by omega
    have q4 : (p.length : Int) > 100 := by omega
    go_enter Tryz.func11, Tryz.ntmps11
    go_wp2
    go_ret
    exact Hv7.yes (Below.refl _ _)
  have q4 : ¬ (p.length : Int) > 100 := by omega
  have HL100 : Hid (p.length ≤ 100) := hid (by omega)
  have hq : ¬ ((p.length : Int) > 14) ∨ ((p.length : Int) > 14 ∧ ¬ (p.length : Int) ≤ 60) := by omega
  clear h1 h2 h3 h0
  rcases hq with q2 | ⟨q2, q3⟩
  all_goals
    go_enter Tryz.func11, Tryz.ntmps11
    go_wp2
    go_loopw [7] (fun kv wr => ∃ k : Nat, k ≤ g.length ∧ kv = .int .i64 k ∧ wr = w ∧ ∀ j (hj : j < g.length), j < k → g[j].length ≤ 100) (fun kv _ => g.length - (intOf kv).toNat)
    case atStart => exact ⟨0, by omega, rfl, rfl, fun j _ h => by omega⟩
    case round =>
      obtain ⟨k, hk, rfl, rfl, hall⟩ := hrel
      have HALL := hid hall
      clear hall
      by_cases hlt : k < g.length
      · obtain ⟨b, o, u, rfl, c0, hu⟩ := HC'.out k hlt
        obtain ⟨xa, xc, rfl, -, hxl, -, -⟩ := hu.open
        have HX := hid (show g[k].length = g[k].length from rfl)
        obtain ⟨x, hx⟩ : ∃ x, g[k].length = x := ⟨_, rfl⟩
        have HXX := hid hx
        rw [hx] at c0 hxl
        clear hx hu HX
        by_cases e1 : (x : Int) > 100
        · go_wp2
          go_ret
          exact Hv7.yes (Below.refl _ _)
        · go_wp2
          go_roundw
          case rel =>
            refine ⟨k + 1, by omega, by go_num, by first | rfl | trivial, fun j hj hjk => ?_⟩
            by_cases hjj : j = k
            · subst hjj; rw [HXX.out]; omega
            · exact HALL.out j hj (by omega)
          case measure => simp [intOf]; omega
      · have hkl : k = g.length := by omega
        subst hkl
        go_wp2
        go_ret
        refine ⟨false, rfl, fun _ => ⟨HS20.out, HG20.out, HL100.out, fun t ht => ?_⟩, Below.refl _ _⟩
        obtain ⟨i, hi, rfl⟩ := List.getElem_of_mem ht
        exact HALL.out i hi hi
set_option maxHeartbeats 8000000 in
set_option maxRecDepth 100000 in
theorem law7_awake (w : World) (htab : Tab w) :
    Calls Tryz.prog 10 #[] w fun e w' => e = .returned (.bool true) ∧ Below w.heap.size w w' := by
  have HTAB := hid htab
  clear htab
  go_enter Tryz.func10, Tryz.ntmps10
  go_wp2_with fail
  have q1 := sign7 w 72
  obtain ⟨W1, hW1⟩ : ∃ W1, w.alloc (.cells #[.string ⟨#[67]⟩, .int .i64 2] 72) = W1 := ⟨_, rfl⟩
  have b1 : Below w.heap.size w W1 := hW1 ▸ (Below.refl _ _).alloc (Nat.le_refl _) _
  have z1 : W1.heap.size = w.heap.size + 1 := by rw [← hW1]; simp
  rw [hW1] at q1 ⊢
  have q2 := ints7 W1 g70 3
  obtain ⟨W2, hW2⟩ : ∃ W2, W1.alloc (.cells #[.int .i64 0, .int .i64 (-1), .int .i64 0, .int .i64 (-2), .int .i64 (-1)] 3) = W2 := ⟨_, rfl⟩
  have b2 : Below W1.heap.size W1 W2 := hW2 ▸ (Below.refl _ _).alloc (Nat.le_refl _) _
  have z2 : W2.heap.size = w.heap.size + 1 + 1 := by rw [← hW2]; simp [z1]
  have q2' : Ints W2 (.slice (some ⟨w.heap.size + 1, 0, none⟩) 5 5) g70 := by rw [← hW2, ← z1]; exact q2
  rw [hW2]
  have q3 := ints7 W2 g71 3
  obtain ⟨W3, hW3⟩ : ∃ W3, W2.alloc (.cells #[.int .i64 0, .int .i64 0, .int .i64 (-1), .int .i64 0, .int .i64 (-2), .int .i64 (-3), .int .i64 0, .int .i64 0, .int .i64 (-1), .int .i64 (-2), .int .i64 0, .int .i64 (-1), .int .i64 (-3)] 3) = W3 := ⟨_, rfl⟩
  have b3 : Below W2.heap.size W2 W3 := hW3 ▸ (Below.refl _ _).alloc (Nat.le_refl _) _
  have z3 : W3.heap.size = w.heap.size + 1 + 1 + 1 := by rw [← hW3]; simp [z2]
  have q3' : Ints W3 (.slice (some ⟨w.heap.size + 1 + 1, 0, none⟩) 13 13) g71 := by rw [← hW3, ← z2]; exact q3
  rw [hW3]
  have q4 := litT2 (q2'.below b3) q3' 34
  obtain ⟨W4, hW4⟩ : ∃ W4, W3.alloc (.cells #[.slice (some ⟨w.heap.size + 1, 0, none⟩) 5 5, .slice (some ⟨w.heap.size + 1 + 1, 0, none⟩) 13 13] 34) = W4 := ⟨_, rfl⟩
  have b4 : Below W3.heap.size W3 W4 := hW4 ▸ (Below.refl _ _).alloc (Nat.le_refl _) _
  rw [hW4] at q4
  rw [z3] at q4
  rw [hW4]
  have b24 : Below W2.heap.size W2 W4 := b3.trans (b4.mono b3.size)
  have b14 : Below W1.heap.size W1 W4 := b2.trans (b24.mono b2.size)
  have b04 : Below w.heap.size w W4 := b1.trans (b14.mono b1.size)
  have HS := hid (q1.below b14)
  have HG := hid q4
  have HB4 := hid b04
  clear q1 q2 q2' q3 q3' q4 b1 b2 b3 b4 b24 b14 b04 z1 z2 z3 hW1 hW2 hW3 hW4
  have HCI := hid (fun (n : Int) (B : World) (X : World) (hX : Below B.heap.size B X) => chainL hX (law7_cite n X))
  have HDE := hid (fun (n m : Int) (B : World) (X : World) (hX : Below B.heap.size B X) => chainL hX (law7_detach n m X))
  have hbA : Below W4.heap.size W4 W4 := Below.refl _ _
  refine (HCI.out 1 W4 W4 hbA).mono ?_
  rintro e wA ⟨rfl, hbA⟩
  go_wp2_with (first
    | (go_at_call 54; refine (HCI.out _ W4 _ hbA).mono ?_; rintro e wA ⟨rfl, hbA⟩)
    | (go_at_call 55; refine (HDE.out _ _ W4 _ hbA).mono ?_; rintro e wA ⟨rfl, hbA⟩))
  have qp := steps7 wA p7 57
  have hbP : Below W4.heap.size W4 (wA.alloc (.cells #[.int .i64 1, .int .i64 1, .int .i64 0, .int .i64 1, .int .i64 0, .int .i64 0, .int .i64 1, .int .i64 0, .int .i64 0, .int .i64 2, .int .i64 0, .int .i64 1, .int .i64 2, .int .i64 3, .int .i64 2] 57)) := hbA.alloc hbA.size _
  have hbW := HB4.out.trans (hbP.mono HB4.out.size)
  have HME := hid (short_Merged _ _ _ sC7 [g70, g71] p7 _ (HS.out.below hbP) (HG.out.below hbP) qp (by simp [sC7]) (HTAB.out.below hbW))
  have HBW := hid hbW
  clear qp hbP hbW hbA
  refine HME.out.mono ?_
  rintro e w5 ⟨u, l, er, rfl, hq, hu, hb5⟩
  obtain ⟨rfl, rfl⟩ := hq.unique said7
  rw [if_pos rfl, mrg7] at hu
  have HB5 := hid (HBW.out.trans (hb5.mono HBW.out.size))
  have HU := hid hu
  obtain ⟨ua, uc, rfl, huc, -⟩ := hu.open
  have e4 : q7.length = 4 := rfl
  rw [e4] at HU huc
  simp only [e4]
  clear hq hu hb5 HME e4
  have HTI := hid (short_Times 2 _ q7 w5 HU.out)
  go_wp2_with fail
  refine HTI.out.mono ?_
  rintro e w6 ⟨ut, rfl, hut, hb6⟩
  rw [timE7, if_pos rfl, tim7] at hut
  rw [timE7]
  have HB6 := hid (HB5.out.trans (hb6.mono HB5.out.size))
  have HU6 := hid (HU.out.below hb6)
  have HUT := hid hut
  obtain ⟨ta, tc, rfl, -⟩ := hut.open
  clear hut hb6 HTI
  have HCU := hid (short_Cut 2 _ q7 2 w6 HU6.out)
  go_wp2_with fail
  refine HCU.out.mono ?_
  rintro e w7 ⟨ul, ur, rfl, hul, hur, hb7⟩
  have e2 : (2 : Int).toNat = 2 := rfl
  rw [cutE7, if_pos rfl, e2, cutA7] at hul
  rw [cutE7, if_pos rfl, e2, cutB7] at hur
  rw [cutE7]
  have HB7 := hid (HB6.out.trans (hb7.mono HB6.out.size))
  have HU7 := hid (HU6.out.below hb7)
  have HUT7 := hid (HUT.out.below hb7)
  have HUL := hid hul
  have HUR := hid hur
  obtain ⟨la, lc, rfl, -⟩ := hul.open
  obtain ⟨ra, rc, rfl, -⟩ := hur.open
  have e3 : (q7.take 3).length = 3 := rfl
  have er3 : r7.length = 3 := rfl
  rw [e3] at HUL
  rw [er3] at HUR
  simp only [e3, er3]
  clear hul hur hb7 HCU e2 e3 er3
  have y1 : 3 ≤ uc := by omega
  have y2 : (3 : Int) ≤ (uc : Int) := by omega
  have hbA : Below w7.heap.size w7 w7 := Below.refl _ _
  go_wp2_with (first
    | (go_at_call 54; refine (HCI.out _ w7 _ hbA).mono ?_; rintro e wB ⟨rfl, hbA⟩)
    | (go_at_call 55; refine (HDE.out _ _ w7 _ hbA).mono ?_; rintro e wB ⟨rfl, hbA⟩))
  have hq := steps7 wB q7 57
  have hb8 : Below w7.heap.size w7 (wB.alloc (.cells #[.int .i64 1, .int .i64 1, .int .i64 0, .int .i64 1, .int .i64 0, .int .i64 0, .int .i64 2, .int .i64 0, .int .i64 1, .int .i64 2, .int .i64 2, .int .i64 1] 57)) := hbA.alloc hbA.size _
  have HS1 := hid (ref6_SameProof _ _ q7 q7 _ (HU7.out.below hb8) hq)
  rw [decide_eq_true (rfl : q7 = q7)] at HS1
  have HB8 := hid hb8
  clear hq hb8 hbA
  refine HS1.out.mono ?_
  rintro e w9 ⟨rfl, n9, hw9⟩
  have HB9 := hid (show Below w7.heap.size w7 w9 from hw9 ▸ below_drewN HB8.out n9)
  clear hw9 HS1 HB8
  go_wp2_with fail
  have hi := ints7 w9 [1, 2, 1, 1] 3
  have hbi : Below w7.heap.size w7 (w9.alloc (.cells #[.int .i64 1, .int .i64 2, .int .i64 1, .int .i64 1] 3)) := HB9.out.alloc HB9.out.size _
  have HS2 := hid (ref6_SameInts _ _ [1, 2, 1, 1] [1, 2, 1, 1] _ (HUT7.out.below hbi) hi)
  rw [decide_eq_true (rfl : ([1, 2, 1, 1] : List Int) = [1, 2, 1, 1])] at HS2
  have HBI := hid hbi
  clear hi hbi
  refine HS2.out.mono ?_
  rintro e wC ⟨rfl, n10, hw10⟩
  have HBC := hid (show Below w7.heap.size w7 wC from hw10 ▸ below_drewN HBI.out n10)
  clear hw10 HS2 HBI
  have HT3 := hid (StepsAt.take HU7.out 3 (by decide))
  have HS3 := hid (ref6_SameProof _ _ (q7.take 3) (q7.take 3) wC (HUL.out.below HBC.out) (HT3.out.below HBC.out))
  rw [decide_eq_true (rfl : q7.take 3 = q7.take 3)] at HS3
  go_wp2_with fail
  refine HS3.out.mono ?_
  rintro e wD ⟨rfl, n11, hw11⟩
  have HBD := hid (show Below w7.heap.size w7 wD from hw11 ▸ below_drewN HBC.out n11)
  have hbA := HBD.out
  clear hw11 HS3
  go_wp2_with (first
    | (go_at_call 54; refine (HCI.out _ w7 _ hbA).mono ?_; rintro e wE ⟨rfl, hbA⟩)
    | (go_at_call 55; refine (HDE.out _ _ w7 _ hbA).mono ?_; rintro e wE ⟨rfl, hbA⟩))
  have hr := steps7 wE r7 57
  have hbr : Below w7.heap.size w7 (wE.alloc (.cells #[.int .i64 1, .int .i64 0, .int .i64 0, .int .i64 1, .int .i64 2, .int .i64 0, .int .i64 2, .int .i64 1, .int .i64 0] 57)) := hbA.alloc hbA.size _
  have HS4 := hid (ref6_SameProof _ _ r7 r7 _ (HUR.out.below hbr) hr)
  rw [decide_eq_true (rfl : r7 = r7)] at HS4
  have HBR := hid hbr
  clear hr hbr hbA
  refine HS4.out.mono ?_
  rintro e wF ⟨rfl, n12, hw12⟩
  have HBF := hid (HB7.out.trans ((show Below w7.heap.size w7 wF from hw12 ▸ below_drewN HBR.out n12).mono HB7.out.size))
  clear hw12 HS4
  go_wp2
  go_ret
  exact ⟨rfl, HBF.out⟩
end Go.Proofs.YtmpjaakkjhmpmaaGreatDoor
namespace Go.Proofs.YtmpjaakkjhmpmaaGreatDoor
open Go Go.RowKit Go.Maps Go.Shelf
attribute [local go_sem] Oper.semAt_some
theorem cell3_new7 (w : World) (a b c : Value) (T : TypeId) : (w.alloc (.cells #[a, b, c] T)).cell? ⟨w.heap.size, 0, none⟩ = some a ∧ (w.alloc (.cells #[a, b, c] T)).cell? ⟨w.heap.size, 1, none⟩ = some b ∧ (w.alloc (.cells #[a, b, c] T)).cell? ⟨w.heap.size, 2, none⟩ = some c := by
  refine ⟨?_, ?_, ?_⟩ <;> rw [World.cell?_alloc_new] <;> rfl
theorem frz_new7 (w : World) (cs : Array Value) (T : TypeId) (o : Nat) : (w.alloc (.cells cs T)).frozen? ⟨w.heap.size, o, none⟩ = false := World.frozen?_alloc_at _ _ _ _ rfl
end Go.Proofs.YtmpjaakkjhmpmaaGreatDoor
namespace Go.Proofs.YtmpjaakkjhmpmaaGreatDoor
open Go Go.RowKit Go.Maps
end Go.Proofs.YtmpjaakkjhmpmaaGreatDoor
namespace Go.Proofs.YtmpjaakkjhmpmaaGreatDoor
open Go Go.RowKit Go.Maps
end Go.Proofs.YtmpjaakkjhmpmaaGreatDoor
namespace Go.Proofs.YtmpjaakkjhmpmaaGreatDoor
open Go Go.RowKit Go.Maps
theorem ints7_at {b : List Int} {i : Nat} (h : i < b.length) : (b.map (Value.int .i64))[i]? = some (.int .i64 (b.getD i 0)) := by
  rw [List.getElem?_map, List.getD_eq_getElem?_getD, List.getElem?_eq_getElem h]; rfl
end Go.Proofs.YtmpjaakkjhmpmaaGreatDoor
