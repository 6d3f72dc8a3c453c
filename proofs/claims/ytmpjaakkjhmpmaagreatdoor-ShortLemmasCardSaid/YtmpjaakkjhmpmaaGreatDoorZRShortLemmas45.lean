/-
  WHAT IT HOLDS: contracts of slices.Clone at steps and of Cut of package short. Conditions: the arguments read as data.
  WHAT IT HOLDS: plain facts behind the helper awake of the laws of layer 7: what the steps of its proof say, how it is merged, how often its steps come, how it is cut. No program in sight.
  WHAT IT HOLDS: contract of Inlined of package short. Conditions: the arguments read as data.
-/
import Derived.Test.YtmpjaakkjhmpmaaGreatDoorZRShortLemmas42
import Derived.Test.YtmpjaakkjhmpmaaGreatDoorZRShortLemmas44
import Derived.Test.YtmpjaakkjhmpmaaGreatDoorZRShortLemmas36
import Derived.Test.YtmpjaakkjhmpmaaGreatDoorZRShortLemmas21
import Derived.Test.YtmpjaakkjhmpmaaGreatDoorZRShortLemmas40
import Derived.Test.YtmpjaakkjhmpmaaGreatDoorZRShortLemmas0
namespace Go.Proofs.YtmpjaakkjhmpmaaGreatDoor
open Go Go.RowKit Go.Maps
theorem stC_set (l : List St) (x : St) : ∀ (k : Nat), ((((stC l).set (k * 3) (.int .i64 x.1)).set (k * 3 + 1) (.int .i64 x.2.1)).set (k * 3 + 2) (.int .i64 x.2.2)) = stC (l.set k x) := by
  induction l with
  | nil => intro k; simp [stC]
  | cons y l ih =>
    intro k
    cases k with
    | zero => simp [stC, stV]
    | succ k =>
      have e1 : (k + 1) * 3 = k * 3 + 3 := by omega
      have := ih k
      rw [e1]
      simpa [stC, stV, List.set_cons_succ] using this
def cutE (g : Int) (p : List St) (i : Int) : Int := if vldB g p = true then (if i < 0 ∨ (p.length : Int) ≤ i then 7 else if i = (p.length : Int) - 1 ∨ stB (needL p) i.toNat = false then 10 else if g = 60 then 4 else 0) else 1
def CutQ (g : Int) (p : List St) (i : Int) (w : World) (e : Ending) (w' : World) : Prop :=
  ∃ u v, e = .returned (.tuple #[u, v, .int .i64 (cutE g p i)]) ∧ StepsAt w' u (if cutE g p i = 0 then trimL (p.take (i.toNat + 1)) else []) ∧ StepsAt w' v (if cutE g p i = 0 then trimL (cutS p i.toNat g) else []) ∧ Below w.heap.size w w'
set_option maxHeartbeats 4000000 in
set_option maxRecDepth 100000 in
theorem short_Cut (g : Int) (v : Value) (p : List St) (i : Int) (w : World) (hv : StepsAt w v p) :
    Calls Tryz.prog 23 #[.int .i64 g, v, .int .i64 i] w fun e w' => CutQ g p i w e w' := by
  have HV := hid (short_valid g v p w hv)
  have HP := hid hv
  obtain ⟨pa, pc, rfl, hpc, -⟩ := hv.open
  clear hv
  unfold CutQ
  cases hb : vldB g p
  · have hE : vldE g p = 1 := by unfold vldE; rw [hb]; rfl
    have hE2 : cutE g p i = 1 := by unfold cutE; rw [hb]; rfl
    rw [hE] at HV
    rw [hE2]
    clear hb hE HP hE2
    go_enter Tryz.func23, Tryz.ntmps23
    go_wp2_with fail
    refine HV.out.mono ?_
    rintro e w1 ⟨rfl, hb1⟩
    go_wp2
    go_ret3
    exact ⟨_, _, rfl, StepsAt.nil _, StepsAt.nil _, hb1⟩
  have hE : vldE g p = 0 := by unfold vldE; rw [hb]; rfl
  have hp : proofB g p = true := by unfold vldB at hb; rw [Bool.and_eq_true] at hb; exact hb.2
  have hE2 : cutE g p i = (if i < 0 ∨ (p.length : Int) ≤ i then 7 else if i = (p.length : Int) - 1 ∨ stB (needL p) i.toNat = false then 10 else if g = 60 then 4 else 0) := by unfold cutE; rw [hb]; rfl
  have h60 := proof60 hp
  have h1 := proof1 hp
  have hg0 : 0 ≤ g := by unfold vldB at hb; rw [Bool.and_eq_true] at hb; exact (inB_true.1 hb.1).1
  rw [hE] at HV
  rw [hE2]
  have HPR := hid hp
  clear hb hE hE2 hp
  by_cases hi0 : i < 0
  · rw [if_pos (Or.inl hi0)]
    clear HPR
    go_enter Tryz.func23, Tryz.ntmps23
    go_wp2_with fail
    refine HV.out.mono ?_
    rintro e w1 ⟨rfl, hb1⟩
    go_wp2
    go_ret3
    exact ⟨_, _, rfl, StepsAt.nil _, StepsAt.nil _, hb1⟩
  by_cases hi1 : (p.length : Int) ≤ i
  · rw [if_pos (Or.inr hi1)]
    clear HPR
    go_enter Tryz.func23, Tryz.ntmps23
    go_wp2_with fail
    refine HV.out.mono ?_
    rintro e w1 ⟨rfl, hb1⟩
    go_wp2
    go_ret3
    exact ⟨_, _, rfl, StepsAt.nil _, StepsAt.nil _, hb1⟩
  rw [if_neg (fun h => h.elim hi0 hi1)]
  obtain ⟨k, rfl⟩ : ∃ k : Nat, i = k := ⟨i.toNat, by omega⟩
  have hk : k < p.length := by omega
  rw [Int.toNat_natCast]
  obtain ⟨m, hm⟩ : ∃ m, p.length = m + 1 := ⟨p.length - 1, by omega⟩
  have HM := hid hm
  have y5 : IntKind.i64.wrap (((m + 1 : Nat) : Int) - 1) = (m : Int) := by rw [IntWalk.i64_in _ (by omega)]; omega
  have y6 : (((m + 1 : Nat) : Int) - 1) = (m : Int) := by omega
  rw [hm] at HV
  simp only [hm] at hpc hi1 hk h60 ⊢
  have hm60 : m ≤ 59 := by omega
  clear hm h1
  by_cases hkm : k = m
  · have e1 : (k : Int) = (m : Int) := by omega
    have c1 : ((k : Int) == (m : Int)) = true := by rw [e1]; simp
    rw [if_pos (Or.inl (by rw [y6]; exact e1))]
    clear HPR hkm
    go_enter Tryz.func23, Tryz.ntmps23
    go_wp2_with fail
    refine HV.out.mono ?_
    rintro e w1 ⟨rfl, hb1⟩
    go_wp2
    go_ret3
    exact ⟨_, _, rfl, StepsAt.nil _, StepsAt.nil _, hb1⟩
  have c1 : ((k : Int) == (m : Int)) = false := by rw [beq_eq_false_iff_ne]; omega
  have hne : ¬ (k : Int) = ((m + 1 : Nat) : Int) - 1 := by omega
  have HN := hid (fun (X : World) (hX : Below w.heap.size w X) => short_needed g (.slice pa (m + 1) pc) p X (by have h := HP.out.below hX; rw [HM.out] at h; exact h) HPR.out)
  have hle : k ≤ m := by omega
  cases hz : stB (needL p) k
  · rw [if_pos (Or.inr rfl)]
    have HZ := hid hz
    clear hz hne hkm
    go_enter Tryz.func23, Tryz.ntmps23
    go_wp2_with fail
    refine HV.out.mono ?_
    rintro e w1 ⟨rfl, hb1⟩
    have K := hid (HN.out w1 hb1)
    have HB1 := hid hb1
    clear hb1
    go_wp2_with fail
    refine K.out.mono ?_
    rintro e w2 ⟨q, rfl, hq, hown, hb2⟩
    have HB2 := hid (HB1.out.trans (hb2.mono HB1.out.size))
    have c2 := hown.cellAt k (by rw [HM.out]; omega)
    rw [bools_at (by rw [needL_len, HM.out]; exact hk), HZ.out] at c2
    rw [HM.out]
    clear hown hb2 K hq
    go_wp2
    go_ret3
    exact ⟨_, _, rfl, StepsAt.nil _, StepsAt.nil _, HB2.out⟩
  rw [if_neg (show ¬ ((k : Int) = ((m + 1 : Nat) : Int) - 1 ∨ true = false) from fun h => h.elim hne (fun h => by cases h))]
  have HZ := hid hz
  clear hz hne hkm
  by_cases hg : g = 60
  · have c3 : (g == 60) = true := by rw [hg]; rfl
    rw [if_pos hg]
    clear hg
    go_enter Tryz.func23, Tryz.ntmps23
    go_wp2_with fail
    refine HV.out.mono ?_
    rintro e w1 ⟨rfl, hb1⟩
    have K := hid (HN.out w1 hb1)
    have HB1 := hid hb1
    clear hb1
    go_wp2_with fail
    refine K.out.mono ?_
    rintro e w2 ⟨q, rfl, hq, hown, hb2⟩
    have HB2 := hid (HB1.out.trans (hb2.mono HB1.out.size))
    have c2 := hown.cellAt k (by rw [HM.out]; omega)
    rw [bools_at (by rw [needL_len, HM.out]; exact hk), HZ.out] at c2
    rw [HM.out]
    clear hown hb2 K hq
    go_wp2
    go_ret3
    exact ⟨_, _, rfl, StepsAt.nil _, StepsAt.nil _, HB2.out⟩
  have c3 : (g == 60) = false := by rw [beq_eq_false_iff_ne]; exact hg
  rw [if_neg hg, if_pos rfl, if_pos rfl]
  have HGB := hid (proofB_take HPR.out (k := k + 1) (by omega) (by rw [HM.out]; omega))
  have HCV : Hid (proofB (g + 1) (cutS p k g) = true) := hid (by obtain ⟨n, rfl⟩ : ∃ n : Nat, g = n := ⟨g.toNat, by omega⟩; exact cut_valid HPR.out k)
  clear hg
  go_enter Tryz.func23, Tryz.ntmps23
  go_wp2_with fail
  refine HV.out.mono ?_
  rintro e w1 ⟨rfl, hb1⟩
  have K := hid (HN.out w1 hb1)
  have HB1 := hid hb1
  clear hb1
  go_wp2_with fail
  refine K.out.mono ?_
  rintro e w2 ⟨q, rfl, hq, hown, hb2⟩
  have HB2 := hid (HB1.out.trans (hb2.mono HB1.out.size))
  have c2 := hown.cellAt k (by rw [HM.out]; omega)
  rw [bools_at (by rw [needL_len, HM.out]; exact hk), HZ.out] at c2
  rw [HM.out]
  clear hown hb2 K hq
  have HCL := hid (sl_Clone_steps (.slice pa (m + 1) pc) (m + 1) (stC p) w2 (by have h := HP.out.below HB2.out; unfold StepsAt at h; rw [HM.out] at h; exact h) (stC_one p) (by omega))
  go_wp2_with fail
  refine HCL.out.mono ?_
  rintro e w3 ⟨u3, rfl, hown3, hb3⟩
  have HB3 := hid (HB2.out.trans (hb3.mono HB2.out.size))
  obtain ⟨c, cap, rfl⟩ : ∃ c cap, u3 = .slice (some ⟨c, 0, none⟩) (m + 1) cap := by
    rcases hown3.2 with ⟨rfl, h⟩ | ⟨c, cap, cur, rfl, -⟩
    · omega
    · exact ⟨c, cap, rfl⟩
  have hc0 : w2.heap.size ≤ c := (hown3.lt c rfl).1
  have hlen : (stC p).length = (m + 1) * 3 := by rw [stC_len, HM.out]
  have f0 := hown3.frozenAt (k * 3)
  have e0 := hown3.cellAt (k * 3) (by omega)
  rw [List.getElem?_eq_getElem (by omega)] at e0
  obtain ⟨z0, hz0⟩ : ∃ z, (stC p)[k * 3]'(by omega) = z := ⟨_, rfl⟩
  rw [hz0] at e0
  have s1 := (hown3.stored (k * 3) (.int .i64 1)).1
  have f1 := s1.frozenAt (k * 3 + 1)
  have e1 := s1.cellAt (k * 3 + 1) (by omega)
  rw [List.getElem?_eq_getElem (by rw [List.length_set]; omega)] at e1
  obtain ⟨z1, hz1⟩ : ∃ z, ((stC p).set (k * 3) (.int .i64 1))[k * 3 + 1]'(by rw [List.length_set]; omega) = z := ⟨_, rfl⟩
  rw [hz1] at e1
  have s2 := (s1.stored (k * 3 + 1) (.int .i64 g)).1
  have f2 := s2.frozenAt (k * 3 + 2)
  have e2 := s2.cellAt (k * 3 + 2) (by omega)
  rw [List.getElem?_eq_getElem (by rw [List.length_set, List.length_set]; omega)] at e2
  obtain ⟨z2, hz2⟩ : ∃ z, (((stC p).set (k * 3) (.int .i64 1)).set (k * 3 + 1) (.int .i64 g))[k * 3 + 2]'(by rw [List.length_set, List.length_set]; omega) = z := ⟨_, rfl⟩
  rw [hz2] at e2
  have s3 := (s2.stored (k * 3 + 2) (.int .i64 0)).1
  have e3 := stC_set p (1, g, 0) k
  dsimp only at e3
  rw [e3] at s3
  have HS3 := hid s3
  have HBX := hid (show Below w2.heap.size w2 (((w3.setCell ⟨c, k * 3, none⟩ (.int .i64 1)).setCell ⟨c, k * 3 + 1, none⟩ (.int .i64 g)).setCell ⟨c, k * 3 + 2, none⟩ (.int .i64 0)) from ((hb3.setCell (p := ⟨c, k * 3, none⟩) hc0 _).setCell (p := ⟨c, k * 3 + 1, none⟩) hc0 _).setCell (p := ⟨c, k * 3 + 2, none⟩) hc0 _)
  clear hown3 s1 s2 s3 e3 hz0 hz1 hz2 hlen hb3 HCL
  go_wp2_with fail
  obtain ⟨X, hX⟩ : ∃ X, ((w3.setCell ⟨c, k * 3, none⟩ (.int .i64 1)).setCell ⟨c, k * 3 + 1, none⟩ (.int .i64 g)).setCell ⟨c, k * 3 + 2, none⟩ (.int .i64 0) = X := ⟨_, rfl⟩
  rw [hX] at HS3 HBX ⊢
  have HBX2 := hid (HB2.out.trans (HBX.out.mono HB2.out.size))
  have hcl : (cutS p k g).length = m + 1 := by unfold cutS; rw [List.length_set, HM.out]
  have HSC : Hid (StepsAt X (.slice (some ⟨c, 0, none⟩) (m + 1) cap) (cutS p k g)) := hid (by
    have h := RowK.of_owns HS3.out (by omega)
    unfold StepsAt
    rw [hcl]
    exact h)
  have HT1 := hid (short_trimmed g (.slice pa (k + 1) pc) (p.take (k + 1)) X (StepsAt.take (by have h := HP.out.below HBX2.out; rw [HM.out] at h; exact h) (k + 1) (by rw [HM.out]; omega)) HGB.out)
  clear hX HBX HS3 f0 f1 f2 e0 e1 e2
  refine HT1.out.mono ?_
  rintro e w5 ⟨u5, rfl, hu5, hb5⟩
  have HU5 := hid hu5
  have HB5 := hid (HBX2.out.trans (hb5.mono HBX2.out.size))
  have HT2 := hid (short_trimmed (g + 1) (.slice (some ⟨c, 0, none⟩) (m + 1) cap) (cutS p k g) w5 (HSC.out.below hb5) HCV.out)
  obtain ⟨a5, c5, rfl, -⟩ := hu5.open
  clear hu5 hb5 HT1 HSC
  go_wp2_with fail
  refine HT2.out.mono ?_
  rintro e w6 ⟨u6, rfl, hu6, hb6⟩
  have HU6 := hid hu6
  have HB6 := hid (HB5.out.trans (hb6.mono HB5.out.size))
  have HU5' := hid (HU5.out.below hb6)
  obtain ⟨a6, c6, rfl, -⟩ := hu6.open
  clear hu6 hb6 HT2 HU5
  go_wp2
  go_ret3
  exact ⟨_, _, rfl, HU5'.out, HU6.out, HB6.out⟩
end Go.Proofs.YtmpjaakkjhmpmaaGreatDoor
namespace Go.Proofs.YtmpjaakkjhmpmaaGreatDoor
open Go Go.RowKit
def sC7 : Sg := [(⟨#[67]⟩, 2)]
def g70 : List Int := [0, -1, 0, -2, -1]
def g71 : List Int := [0, 0, -1, 0, -2, -3, 0, 0, -1, -2, 0, -1, -3]
def m71 : List Int := [0, 0, -1, -2, 0, -1, -1]
def m72 : List Int := [0, -1, -1]
def p7 : List St := [(1, 1, 0), (1, 0, 0), (1, 0, 0), (2, 0, 1), (2, 3, 2)]
def l7 : List (List Int) := [g71, g70, g70, m71, m72]
def q7 : List St := [(1, 1, 0), (1, 0, 0), (2, 0, 1), (2, 2, 1)]
def r7 : List St := [(1, 0, 0), (1, 2, 0), (2, 1, 0)]
theorem isC7 {q : Int} {x y : List Int} (hx : IsT sC7 q x) (hy : IsT sC7 q y) : IsT sC7 q (0 :: (x ++ y)) := by
  have h : IsT sC7 q (((0 : Nat) : Int) :: ([x, y] : List (List Int)).flatten) := .app 0 [x, y] (by simp [sC7]) (by simp [sC7, arOf]) (by
    intro z hz
    simp at hz
    rcases hz with rfl | rfl
    · exact hx
    · exact hy)
  simpa using h
theorem noreach7 {m : MM} {t : List Int} {v : Int} (h : ∀ n ∈ t, n ≠ v ∧ m n = none) : ¬ Reach m t v := by
  intro H
  cases H with
  | here _ _ h1 _ => exact (h v h1).1 rfl
  | step _ _ k p g1 g2 g3 _ => rw [(h k g1).2] at g3; cases g3
theorem sg7 : signB sC7 = true := by decide +kernel
theorem mgu71 : Mgu sC7 [0, -1, 0, -2, -3] [0, -13, 0, -14, -13] (updM (updM (updM noM (-3) [-13]) (-2) [-14]) (-1) [-13]) := by
  have v : ∀ n : Int, -24 ≤ n → n < 0 → IsT sC7 24 [n] := fun n h h' => .var _ h h'
  have hA2 : IsT sC7 24 [0, -2, -3] := isC7 (v (-2) (by omega) (by omega)) (v (-3) (by omega) (by omega))
  have hB2 : IsT sC7 24 [0, -14, -13] := isC7 (v (-14) (by omega) (by omega)) (v (-13) (by omega) (by omega))
  have hA : IsT sC7 24 [0, -1, 0, -2, -3] := isC7 (v (-1) (by omega) (by omega)) hA2
  have hB : IsT sC7 24 [0, -13, 0, -14, -13] := isC7 (v (-13) (by omega) (by omega)) hB2
  have h0 := UInv.start hA hB (by simp) (by simp)
  have h3 := (UInv.args sg7 (L := []) (x := [0, -1, 0, -2, -3]) (y := [0, -13, 0, -14, -13]) (c := 0) (ars := [[-1], [0, -2, -3]]) (bs := [[-13], [0, -14, -13]]) h0 (.refl hA (by simp)) (.refl hB (by simp)) (by simp [arOf, sC7]) (by simp [arOf, sC7])
    (by intro z hz; simp at hz; rcases hz with rfl | rfl <;> first | exact v (-1) (by omega) (by omega) | exact hA2) (by intro z hz; simp at hz; rcases hz with rfl | rfl <;> first | exact v (-13) (by omega) (by omega) | exact hB2)).1
  have h4 := (UInv.args sg7 (L := [([-1], [-13])]) (x := [0, -2, -3]) (y := [0, -14, -13]) (c := 0) (ars := [[-2], [-3]]) (bs := [[-14], [-13]]) h3 (.refl hA2 (by simp)) (.refl hB2 (by simp)) (by simp [arOf, sC7]) (by simp [arOf, sC7])
    (by intro z hz; simp at hz; rcases hz with rfl | rfl <;> first | exact v (-2) (by omega) (by omega) | exact v (-3) (by omega) (by omega)) (by intro z hz; simp at hz; rcases hz with rfl | rfl <;> first | exact v (-14) (by omega) (by omega) | exact v (-13) (by omega) (by omega))).1
  have h5 := (UInv.bind (L := [([-1], [-13]), ([-2], [-14])]) (x := [-3]) (y := [-13]) (v := -3) (q := [-13]) h4 (Or.inl ⟨.refl (v _ (by omega) (by omega)) (by simp), .refl (v _ (by omega) (by omega)) (by simp)⟩) (by omega) rfl (noreach7 (by simp [noM]))).1
  have h6 := (UInv.bind (L := [([-1], [-13])]) (x := [-2]) (y := [-14]) (v := -2) (q := [-14]) h5 (Or.inl ⟨.refl (v _ (by omega) (by omega)) (by simp), .refl (v _ (by omega) (by omega)) (by simp)⟩) (by omega) (by simp [updM, noM]) (noreach7 (by simp [updM, noM]))).1
  have h7 := (UInv.bind (L := []) (x := [-1]) (y := [-13]) (v := -1) (q := [-13]) h6 (Or.inl ⟨.refl (v _ (by omega) (by omega)) (by simp), .refl (v _ (by omega) (by omega)) (by simp)⟩) (by omega) (by simp [updM, noM]) (noreach7 (by simp [updM, noM]))).1
  exact h7.done
theorem mgu72 : Mgu sC7 [0, -1, -2] [0, -13, 0, -14, -13] (updM (updM noM (-2) [0, -14, -13]) (-1) [-13]) := by
  have v : ∀ n : Int, -24 ≤ n → n < 0 → IsT sC7 24 [n] := fun n h h' => .var _ h h'
  have hB2 : IsT sC7 24 [0, -14, -13] := isC7 (v (-14) (by omega) (by omega)) (v (-13) (by omega) (by omega))
  have hA : IsT sC7 24 [0, -1, -2] := isC7 (v (-1) (by omega) (by omega)) (v (-2) (by omega) (by omega))
  have hB : IsT sC7 24 [0, -13, 0, -14, -13] := isC7 (v (-13) (by omega) (by omega)) hB2
  have h0 := UInv.start hA hB (by simp) (by simp)
  have h3 := (UInv.args sg7 (L := []) (x := [0, -1, -2]) (y := [0, -13, 0, -14, -13]) (c := 0) (ars := [[-1], [-2]]) (bs := [[-13], [0, -14, -13]]) h0 (.refl hA (by simp)) (.refl hB (by simp)) (by simp [arOf, sC7]) (by simp [arOf, sC7])
    (by intro z hz; simp at hz; rcases hz with rfl | rfl <;> first | exact v (-1) (by omega) (by omega) | exact v (-2) (by omega) (by omega)) (by intro z hz; simp at hz; rcases hz with rfl | rfl <;> first | exact v (-13) (by omega) (by omega) | exact hB2)).1
  have h6 := (UInv.bind (L := [([-1], [-13])]) (x := [-2]) (y := [0, -14, -13]) (v := -2) (q := [0, -14, -13]) h3 (Or.inl ⟨.refl (v _ (by omega) (by omega)) (by simp), .refl hB2 (by simp)⟩) (by omega) rfl (noreach7 (by simp [noM]))).1
  have h7 := (UInv.bind (L := []) (x := [-1]) (y := [-13]) (v := -1) (q := [-13]) h6 (Or.inl ⟨.refl (v _ (by omega) (by omega)) (by simp), .refl (v _ (by omega) (by omega)) (by simp)⟩) (by omega) (by simp [updM, noM]) (noreach7 (by simp [updM, noM]))).1
  exact h7.done
theorem det71 : DetR sC7 g71 g70 (m71, 0) := by
  have v : ∀ n : Int, -12 ≤ n → n < 0 → IsT sC7 12 [n] := fun n h h' => .var _ h h'
  have ha : aparL g70 = [0, -13, 0, -14, -13] := by decide +kernel
  have hc : canonL (fw (updM (updM (updM noM (-3) [-13]) (-2) [-14]) (-1) [-13]) [0, 0, -1, -2, 0, -1, -3]) = m71 := by decide +kernel
  refine Or.inr ⟨by decide +kernel, by decide +kernel, Or.inr ⟨[0, -1, 0, -2, -3], [0, 0, -1, -2, 0, -1, -3], rfl, ?_, ?_, Or.inr ⟨_, by rw [ha]; exact mgu71, Or.inl ⟨by decide +kernel, by rw [hc]⟩⟩⟩⟩
  · exact isC7 (v (-1) (by omega) (by omega)) (isC7 (v (-2) (by omega) (by omega)) (v (-3) (by omega) (by omega)))
  · exact isC7 (isC7 (v (-1) (by omega) (by omega)) (v (-2) (by omega) (by omega))) (isC7 (v (-1) (by omega) (by omega)) (v (-3) (by omega) (by omega)))
theorem det72 : DetR sC7 m71 g70 (m72, 0) := by
  have v : ∀ n : Int, -12 ≤ n → n < 0 → IsT sC7 12 [n] := fun n h h' => .var _ h h'
  have ha : aparL g70 = [0, -13, 0, -14, -13] := by decide +kernel
  have hc : canonL (fw (updM (updM noM (-2) [0, -14, -13]) (-1) [-13]) [0, -1, -1]) = m72 := by decide +kernel
  refine Or.inr ⟨by decide +kernel, by decide +kernel, Or.inr ⟨[0, -1, -2], [0, -1, -1], rfl, ?_, ?_, Or.inr ⟨_, by rw [ha]; exact mgu72, Or.inl ⟨by decide +kernel, by rw [hc]⟩⟩⟩⟩
  · exact isC7 (v (-1) (by omega) (by omega)) (v (-2) (by omega) (by omega))
  · exact isC7 (v (-1) (by omega) (by omega)) (v (-1) (by omega) (by omega))
theorem can70 : canonL g70 = g70 := by decide +kernel
theorem can71 : canonL g71 = g71 := by decide +kernel
theorem run7 : RunR sC7 [g70, g71] p7 l7 0 := by
  refine ⟨fun i t h => ?_, Or.inl ⟨rfl, rfl⟩⟩
  match i, h with
  | 0, h =>
    obtain rfl : g71 = t := Option.some.inj h
    exact ⟨(1, 1, 0), rfl, by unfold sayR; rw [if_pos rfl]; exact congrArg (fun z => (z, (0 : Int))) can71.symm⟩
  | 1, h =>
    obtain rfl : g70 = t := Option.some.inj h
    exact ⟨(1, 0, 0), rfl, by unfold sayR; rw [if_pos rfl]; exact congrArg (fun z => (z, (0 : Int))) can70.symm⟩
  | 2, h =>
    obtain rfl : g70 = t := Option.some.inj h
    exact ⟨(1, 0, 0), rfl, by unfold sayR; rw [if_pos rfl]; exact congrArg (fun z => (z, (0 : Int))) can70.symm⟩
  | 3, h =>
    obtain rfl : m71 = t := Option.some.inj h
    exact ⟨(2, 0, 1), rfl, by unfold sayR; rw [if_neg (by decide)]; exact det71⟩
  | 4, h =>
    obtain rfl : m72 = t := Option.some.inj h
    exact ⟨(2, 3, 2), rfl, by unfold sayR; rw [if_neg (by decide)]; exact det72⟩
  | i + 5, h => simp [l7] at h
theorem said7 : SaidQ sC7 [g70, g71] p7 l7 0 := Or.inr ⟨by decide +kernel, l7, 0, run7, Or.inl ⟨rfl, rfl, rfl⟩⟩
theorem mrg7 : mrgP p7 l7 = q7 := by decide +kernel
theorem tim7 : timL q7 = [1, 2, 1, 1] := by decide +kernel
theorem timE7 : timE 2 q7 = 0 := by decide +kernel
theorem cutE7 : cutE 2 q7 2 = 0 := by decide +kernel
theorem cutA7 : trimL (q7.take 3) = q7.take 3 := by decide +kernel
theorem cutB7 : trimL (cutS q7 2 2) = r7 := by decide +kernel
end Go.Proofs.YtmpjaakkjhmpmaaGreatDoor
namespace Go.Proofs.YtmpjaakkjhmpmaaGreatDoor
open Go Go.RowKit Go.Maps Go.Shelf
attribute [local go_sem] Oper.semAt_some
def inlE (g : Int) (lem rest : List St) : Int := if vldB g lem = true then (if g = 60 then 4 else if vldB (g + 1) rest = true then (if 60 < (inlL g lem rest).length then 4 else 0) else 1) else 1
def InlQ (g : Int) (lem rest : List St) (w : World) (e : Ending) (w' : World) : Prop := ∃ u, e = .returned (.tuple #[u, .int .i64 (inlE g lem rest)]) ∧ StepsAt w' u (if inlE g lem rest = 0 then inlL g lem rest else []) ∧ Below w.heap.size w w'
theorem inlF_step (G : Int) (lem rest : List St) {k : Nat} (hk : k < rest.length) : inlF G lem rest (k + 1) = if inlX G rest[k] = true then ((inlF G lem rest k).1 ++ [lem.length - 1], (inlF G lem rest k).2) else ((inlF G lem rest k).1 ++ [(inlF G lem rest k).2.length], (inlF G lem rest k).2 ++ [inlM (inlF G lem rest k).1 rest[k]]) := by
  have e : rest.getD k st0 = rest[k] := by rw [List.getD_eq_getElem?_getD, List.getElem?_eq_getElem hk]; rfl
  rw [inlF, e]
theorem inlF_small (G : Int) (lem rest : List St) : ∀ k, (inlF G lem rest k).2.length ≤ lem.length + k ∧ (∀ n ∈ (inlF G lem rest k).1, n ≤ lem.length + k) ∧ ∃ r, (inlF G lem rest k).2 = lem ++ r
  | 0 => ⟨Nat.le_refl _, fun n h => by simp [inlF] at h, [], by simp [inlF]⟩
  | k + 1 => by
    obtain ⟨h1, h2, r, h3⟩ := inlF_small G lem rest k
    rw [inlF]
    split
    · refine ⟨by simp only; omega, fun n hn => ?_, r, h3⟩
      rcases List.mem_append.1 hn with h | h
      · have := h2 n h; omega
      · simp at h; omega
    · refine ⟨by simp only [List.length_append, List.length_singleton]; omega, fun n hn => ?_, r ++ [inlM (inlF G lem rest k).1 (rest.getD k st0)], by simp only [h3, List.append_assoc]⟩
      rcases List.mem_append.1 hn with h | h
      · have := h2 n h; omega
      · simp at h; omega
def natI (l : List Nat) : List Value := l.map fun n : Nat => Value.int .i64 (n : Int)
theorem natI_at {l : List Nat} {i : Nat} (h : i < l.length) : (natI l)[i]? = some (.int .i64 ((l.getD i 0 : Nat) : Int)) := by
  unfold natI
  rw [List.getElem?_map, List.getD_eq_getElem?_getD, List.getElem?_eq_getElem h]; rfl
theorem getD_mem7 {l : List Nat} {i : Nat} (h : i < l.length) : l.getD i 0 ∈ l := by
  rw [List.getD_eq_getElem?_getD, List.getElem?_eq_getElem h]; exact List.getElem_mem h
theorem cell3_new7 (w : World) (a b c : Value) (T : TypeId) : (w.alloc (.cells #[a, b, c] T)).cell? ⟨w.heap.size, 0, none⟩ = some a ∧ (w.alloc (.cells #[a, b, c] T)).cell? ⟨w.heap.size, 1, none⟩ = some b ∧ (w.alloc (.cells #[a, b, c] T)).cell? ⟨w.heap.size, 2, none⟩ = some c := by
  refine ⟨?_, ?_, ?_⟩ <;> rw [World.cell?_alloc_new] <;> rfl
theorem frz_new7 (w : World) (cs : Array Value) (T : TypeId) (o : Nat) : (w.alloc (.cells cs T)).frozen? ⟨w.heap.size, o, none⟩ = false := World.frozen?_alloc_at _ _ _ _ rfl
theorem grown_cell7 {w w' : World} {row : Option Nat} {b o : Nat} {v : Value} (hg : w.grownBy w' row) (hc : w.cell? ⟨b, o, none⟩ = some v) (hne : some b = row → False) : w'.cell? ⟨b, o, none⟩ = some v :=
  (World.cell?_of_block (a := ⟨b, o, none⟩) (hg.block b (World.block_lt_of_cell? _ _ hc) hne)).trans hc
set_option maxHeartbeats 8000000 in
set_option maxRecDepth 100000 in
theorem short_Inlined (g : Int) (vl vr : Value) (lem rest : List St) (w : World) (hl : StepsAt w vl lem) (hr : StepsAt w vr rest) :
    Calls Tryz.prog 24 #[.int .i64 g, vl, vr] w fun e w' => InlQ g lem rest w e w' := by
  have HV := hid (short_valid g vl lem w hl)
  have HL := hid hl
  have HR := hid hr
  obtain ⟨la, lc, rfl, hlc, -⟩ := hl.open
  obtain ⟨ra, rc, rfl, hrc, -, -, HC⟩ := hr.open
  have HC' := hid HC
  clear hl hr HC
  unfold InlQ
  obtain ⟨E, hEE⟩ : ∃ E, inlE g lem rest = E := ⟨_, rfl⟩
  rw [hEE]
  cases hb : vldB g lem
  · have hE : vldE g lem = 1 := by unfold vldE; rw [hb]; rfl
    have hE2 : E = 1 := by rw [← hEE]; unfold inlE; rw [hb]; rfl
    rw [hE] at HV
    rw [hE2]
    clear hb hE HL HR hE2 HC' hEE
    go_enter Tryz.func24, Tryz.ntmps24
    go_wp2_with fail
    refine HV.out.mono ?_
    rintro e w1 ⟨rfl, hb1⟩
    go_wp2
    go_ret2
    exact ⟨_, rfl, StepsAt.nil _, hb1⟩
  have hE : vldE g lem = 0 := by unfold vldE; rw [hb]; rfl
  have hp : proofB g lem = true := by unfold vldB at hb; rw [Bool.and_eq_true] at hb; exact hb.2
  have hE2 : E = (if g = 60 then 4 else if vldB (g + 1) rest = true then (if 60 < (inlL g lem rest).length then 4 else 0) else 1) := by rw [← hEE]; unfold inlE; rw [hb]; rfl
  have h60 := proof60 hp
  have h1 := proof1 hp
  have hg0 : 0 ≤ g ∧ g ≤ 60 := by unfold vldB at hb; rw [Bool.and_eq_true] at hb; exact inB_true.1 hb.1
  rw [hE] at HV
  clear hb hE hp hEE
  by_cases hg : g = 60
  · have c3 : (g == 60) = true := by rw [hg]; rfl
    rw [if_pos hg] at hE2
    rw [hE2]
    clear hg hg0 hE2 HL HR HC'
    go_enter Tryz.func24, Tryz.ntmps24
    go_wp2_with fail
    refine HV.out.mono ?_
    rintro e w1 ⟨rfl, hb1⟩
    go_wp2
    go_ret2
    exact ⟨_, rfl, StepsAt.nil _, hb1⟩
  have c3 : (g == 60) = false := by rw [beq_eq_false_iff_ne]; exact hg
  rw [if_neg hg] at hE2
  have y1 : IntKind.i64.wrap (g + 1) = g + 1 := IntWalk.i64_in _ (by omega)
  have HV2 := hid (fun (X : World) (hX : Below w.heap.size w X) => short_valid (g + 1) (.slice ra rest.length rc) rest X (HR.out.below hX))
  have hg59 : g ≤ 59 := by omega
  clear hg
  cases hb2 : vldB (g + 1) rest
  · have hE : vldE (g + 1) rest = 1 := by unfold vldE; rw [hb2]; rfl
    rw [hE] at HV2
    rw [hb2] at hE2
    obtain rfl : E = 1 := hE2
    clear hb2 hE HL HR HC' hg0
    go_enter Tryz.func24, Tryz.ntmps24
    go_wp2_with fail
    refine HV.out.mono ?_
    rintro e w1 ⟨rfl, hb1⟩
    have HB1 := hid hb1
    have K := hid (HV2.out w1 hb1)
    clear hb1
    go_wp2_with fail
    refine K.out.mono ?_
    rintro e w2 ⟨rfl, hb2⟩
    have HB2 := hid (HB1.out.trans (hb2.mono HB1.out.size))
    clear hb2
    go_wp2
    go_ret2
    exact ⟨_, rfl, StepsAt.nil _, HB2.out⟩
  have hE : vldE (g + 1) rest = 0 := by unfold vldE; rw [hb2]; rfl
  have hpr : proofB (g + 1) rest = true := by unfold vldB at hb2; rw [Bool.and_eq_true] at hb2; exact hb2.2
  have hr60 := proof60 hpr
  have hr1 := proof1 hpr
  have HG := hid hpr
  rw [hE] at HV2
  rw [if_pos hb2] at hE2
  have HE3 := hid hE2
  clear hE2
  clear hb2 hE hpr
  obtain ⟨m, hm⟩ : ∃ m, lem.length = m + 1 := ⟨lem.length - 1, by omega⟩
  have HM := hid hm
  have y5 : IntKind.i64.wrap (((m + 1 : Nat) : Int) - 1) = (m : Int) := by rw [IntWalk.i64_in _ (by omega)]; omega
  have y6 : (((m + 1 : Nat) : Int) - 1) = (m : Int) := by omega
  rw [hm] at HV
  simp only [hm] at hlc h60 ⊢
  have hm60 : m ≤ 59 := by omega
  clear hm h1
  go_enter Tryz.func24, Tryz.ntmps24
  go_wp2_with fail
  refine HV.out.mono ?_
  rintro e w1 ⟨rfl, hb1⟩
  have HB1 := hid hb1
  have K := hid (HV2.out w1 hb1)
  clear hb1
  go_wp2_with fail
  refine K.out.mono ?_
  rintro e w2 ⟨rfl, hb2⟩
  have HB2 := hid (HB1.out.trans (hb2.mono HB1.out.size))
  have HCL := hid (sl_Clone_steps (.slice la (m + 1) lc) (m + 1) (stC lem) w2 (by have h := HL.out.below HB2.out; unfold StepsAt at h; rw [HM.out] at h; exact h) (stC_one lem) (by omega))
  clear hb2 K HB1
  go_wp2_with fail
  refine HCL.out.mono ?_
  rintro e w3 ⟨u3, rfl, hown3, hb3⟩
  have HB3 := hid (HB2.out.trans (hb3.mono HB2.out.size))
  have HO3 := hid (owns_base hown3 HB2.out.size)
  clear hown3 hb3 HCL
  go_wp2
  go_loopw [10, 12, 37] (fun uo ua kv wr => ∃ k, k ≤ rest.length ∧ kv = .int .i64 (k : Nat) ∧ wr.ownsRow w.heap.size 57 3 uo (inlF g lem rest k).2.length (stC (inlF g lem rest k).2) ∧ wr.ownsRow w.heap.size 3 1 ua k (natI (inlF g lem rest k).1) ∧ Below w.heap.size w wr) (fun _ _ kv _ => rest.length - (intOf kv).toNat)
  case atStart => exact ⟨0, by omega, rfl, by have h := HO3.out; rw [← HM.out] at h; exact h, World.ownsRow_nil _ _ _ _, HB3.out⟩
  case round =>
    clear HO3 HB3
    obtain ⟨k, hk, rfl, ho, ha, hb⟩ := hrel
    have hsz := hb.size
    obtain ⟨hF1, hF2, hF3⟩ := inlF_small g lem rest k
    have hF4 := inlF_len g lem rest k
    rw [HM.out] at hF1 hF2
    by_cases hlt : k < rest.length
    · have hst := inlF_step g lem rest hlt
      rw [HM.out, Nat.add_sub_cancel] at hst
      obtain ⟨eg, hx⟩ := st_at HG.out hlt
      obtain ⟨xb, xo, rfl, y0, y1, y2⟩ := HC'.out k hlt
      have x0 := (hb.cell (World.block_lt_of_cell? _ _ y0)).trans y0
      have x1 := (hb.cell (World.block_lt_of_cell? _ _ y1)).trans y1
      have x2 := (hb.cell (World.block_lt_of_cell? _ _ y2)).trans y2
      obtain ⟨x, hxx⟩ : ∃ x, rest[k] = x := ⟨_, rfl⟩
      rw [hxx] at x0 x1 x2 hx hst
      obtain ⟨F1, hF1e⟩ : ∃ F, (inlF g lem rest k).1 = F := ⟨_, rfl⟩
      obtain ⟨F2, hF2e⟩ : ∃ F, (inlF g lem rest k).2 = F := ⟨_, rfl⟩
      rw [hF1e] at hst hF2 hF4 ha
      rw [hF2e] at hst hF1 hF3 ho
      have HF4 := hid hF4
      have HF2 := hid hF2
      clear y0 y1 y2 hxx eg hF1e hF2e hF3
      rcases hx with ⟨h1, h2, h3⟩ | ⟨h1, h2, h3, h4, h5⟩
      · rw [h1] at x0
        by_cases hxg : x.2.1 = g
        · have HST : Hid (inlF g lem rest (k + 1) = (F1 ++ [m], F2)) := hid (by rw [hst, if_pos (by unfold inlX; rw [decide_eq_true h1, decide_eq_true hxg]; rfl)])
          rw [hxg] at x1
          have z1 : (g == g) = true := by simp
          obtain ⟨z, hz⟩ : ∃ z, x.2.2 = z := ⟨_, rfl⟩
          rw [hz] at x2
          have hbX := hb.alloc hsz (.cells #[.int .i64 1, .int .i64 g, .int .i64 z] 57)
          have HB := hid (hbX.alloc hbX.size (.cells #[.int .i64 (m : Int)] 3))
          have HO := hid ((ho.alloc (.cells #[.int .i64 1, .int .i64 g, .int .i64 z] 57)).alloc (.cells #[.int .i64 (m : Int)] 3))
          have HA := hid ((ha.alloc (.cells #[.int .i64 1, .int .i64 g, .int .i64 z] 57)).alloc (.cells #[.int .i64 (m : Int)] 3))
          have HSRC := hid (row_one_new (wr.alloc (.cells #[.int .i64 1, .int .i64 g, .int .i64 z] 57)) (.int .i64 (m : Int)) 3)
          rw [World.size_alloc] at HSRC
          clear h1 h2 h3 hst hxg hz ho ha hb hbX hF4 hF2
          go_wp2_with (at_builtin; refine wpList_append_row rfl _ _ 33 rfl w.heap.size 3 el_int Tryz.underlying33 rfl (by decide) _ _ _ rfl HA.out _ 1 [.int .i64 (m : Int)] rfl HSRC.out (oneCell_one rfl) (by omega) (by omega) (by have := HB.out.size; omega) ?_; intro v' w4 hown4 hgrow4 _)
          go_roundw
          case rel =>
            refine ⟨k + 1, by omega, by go_num, ?_, ?_, HB.out.grown hgrow4 HB.out.size (fun q hq => (HA.out.lt q hq).1)⟩
            · rw [HST.out]; exact owns_kept7 HO.out HA.out (by decide) hgrow4
            · rw [HST.out]
              unfold natI at hown4 ⊢
              rw [List.map_append]
              exact hown4
          case measure => simp [intOf]; omega
        · have hne : (x.2.1 == g) = false := by rw [beq_eq_false_iff_ne]; exact hxg
          have HST : Hid (inlF g lem rest (k + 1) = (F1 ++ [F2.length], F2 ++ [x])) := hid (by rw [hst, if_neg (by unfold inlX; rw [decide_eq_false hxg]; simp)]; unfold inlM; rw [if_neg (by omega)])
          obtain ⟨y, hy⟩ : ∃ y, x.2.1 = y := ⟨_, rfl⟩
          obtain ⟨z, hz⟩ : ∃ z, x.2.2 = z := ⟨_, rfl⟩
          have HXV : Hid (x = (1, y, z)) := hid (by rw [← h1, ← hy, ← hz])
          rw [hy] at x1 hne
          rw [hz] at x2
          clear h1 h2 h3 hst hxg hz hy hF4 hF2
--INL0
          have hbX := hb.alloc hsz (.cells #[.int .i64 1, .int .i64 y, .int .i64 z] 57)
          have HBY := hid hbX
          have HOY := hid (ho.alloc (.cells #[.int .i64 1, .int .i64 y, .int .i64 z] 57))
          have HAY := hid (ha.alloc (.cells #[.int .i64 1, .int .i64 y, .int .i64 z] 57))
          obtain ⟨d0, d1, d2⟩ := cell3_new7 wr (.int .i64 1) (.int .i64 y) (.int .i64 z) 57
          have HNA := hid (fun (h : some wr.heap.size = u12.ownBlock) => (Nat.lt_irrefl _ (ha.lt _ h.symm).2 : False))
          obtain ⟨oa, oc, rfl⟩ := owns_slice ho
          clear ho ha hb hbX
          have HB1 := hid (HBY.out.alloc HBY.out.size (.cells #[.int .i64 (F2.length : Int)] 3))
          have HO1 := hid (HOY.out.alloc (.cells #[.int .i64 (F2.length : Int)] 3))
          have HA1 := hid (HAY.out.alloc (.cells #[.int .i64 (F2.length : Int)] 3))
          have HSRC := hid (row_one_new (wr.alloc (.cells #[.int .i64 1, .int .i64 y, .int .i64 z] 57)) (.int .i64 (F2.length : Int)) 3)
          (try rw [World.size_alloc] at HSRC)
          have HD := hid (And.intro d0 (And.intro d1 d2))
          have hbA : Below (wr.alloc (.cells #[.int .i64 1, .int .i64 y, .int .i64 z] 57)).heap.size (wr.alloc (.cells #[.int .i64 1, .int .i64 y, .int .i64 z] 57)) ((wr.alloc (.cells #[.int .i64 1, .int .i64 y, .int .i64 z] 57)).alloc (.cells #[.int .i64 (F2.length : Int)] 3)) := (Below.refl _ _).alloc (Nat.le_refl _) _
          have HD1 := hid (And.intro ((hbA.cell (World.block_lt_of_cell? _ _ d0)).trans d0) (And.intro ((hbA.cell (World.block_lt_of_cell? _ _ d1)).trans d1) ((hbA.cell (World.block_lt_of_cell? _ _ d2)).trans d2)))
          clear HOY HAY HBY d0 d1 d2 HD hbA
          go_wp2_with (first
            | (at_builtin; refine wpList_append_row rfl _ _ 33 rfl w.heap.size 3 el_int Tryz.underlying33 rfl (by decide) _ _ _ rfl HA1.out _ 1 [.int .i64 (F2.length : Int)] rfl HSRC.out (oneCell_one rfl) (by omega) (by omega) HB1.out.size ?_; intro v4 w4 hown4 hgrow4 _; have d0 := grown_cell7 hgrow4 HD1.out.1 HNA.out; have d1 := grown_cell7 hgrow4 HD1.out.2.1 HNA.out; have d2 := grown_cell7 hgrow4 HD1.out.2.2 HNA.out; have hO4 := (owns_kept7 HO1.out HA1.out (by decide) hgrow4).alloc (.cells #[.int .i64 1, .int .i64 y, .int .i64 z] 57); have hB4 := HB1.out.grown hgrow4 HB1.out.size (fun q hq => (HA1.out.lt q hq).1); have hA4 := hown4.alloc (.cells #[.int .i64 1, .int .i64 y, .int .i64 z] 57))
            | (at_builtin; refine wpList_append_row rfl _ _ 25 rfl w.heap.size 57 el_step Tryz.underlying25 rfl (by decide) _ _ _ rfl hO4 _ 1 (stV (1, y, z)) rfl (row_one_st w4 (1, y, z) 57) (by simp [stV, Value.oneCell']) (by omega) (by omega) (hB4.alloc hB4.size _).size ?_; intro v5 w5 hown5 hgrow5 _))
          go_roundw
          case rel =>
            refine ⟨k + 1, by omega, by go_num, ?_, ?_, (hB4.alloc hB4.size _).grown hgrow5 (hB4.alloc hB4.size _).size (fun q hq => (hO4.lt q hq).1)⟩
            · rw [HST.out, HXV.out, List.length_append, stC_snoc]; exact hown5
            · rw [HST.out]
              have h := owns_kept7 hA4 hO4 (by decide) hgrow5
              unfold natI at h ⊢
              rw [List.map_append]
              exact h
          case measure => simp [intOf]; omega
      · -- a detachment
        rw [h1] at x0
        rw [h2] at x1
        rw [h3] at x2
        obtain ⟨A, hA⟩ : ∃ A, nA x = A := ⟨_, rfl⟩
        obtain ⟨B, hBq⟩ : ∃ B, nB x = B := ⟨_, rfl⟩
        rw [hA] at x1 h4
        rw [hBq] at x2 h5
        obtain ⟨a1, ha1⟩ : ∃ a, F1.getD A 0 = a := ⟨_, rfl⟩
        obtain ⟨b1, hb1⟩ : ∃ a, F1.getD B 0 = a := ⟨_, rfl⟩
        have HST : Hid (inlF g lem rest (k + 1) = (F1 ++ [F2.length], F2 ++ [(2, (a1 : Int), (b1 : Int))])) := hid (by rw [hst, if_neg (by unfold inlX; rw [decide_eq_false (show ¬ x.1 = 1 by omega)]; simp)]; unfold inlM; rw [if_pos h1, hA, hBq, ha1, hb1])
        have hla : a1 ≤ m + 1 + k := by rw [← ha1]; exact HF2.out _ (getD_mem7 (by rw [HF4.out]; omega))
        have hlb : b1 ≤ m + 1 + k := by rw [← hb1]; exact HF2.out _ (getD_mem7 (by rw [HF4.out]; omega))
        obtain ⟨at', ac', rfl⟩ : ∃ q c, u12 = .slice (some ⟨q, 0, none⟩) k c := by
          rcases ha.2 with ⟨rfl, h⟩ | ⟨c, cap, cur, rfl, -⟩
          · omega
          · exact ⟨c, cap, rfl⟩
        have cA := ha.cellAt A (by omega)
        rw [natI_at (by rw [HF4.out]; omega), ha1] at cA
        have cB := ha.cellAt B (by omega)
        rw [natI_at (by rw [HF4.out]; omega), hb1] at cB
        have hlt' := (ha.lt _ rfl).2
        have fz : ∀ o : Nat, (wr.alloc (.cells #[.int .i64 2, .int .i64 (A : Int), .int .i64 (B : Int)] 57)).frozen? ⟨wr.heap.size, o, none⟩ = false := fun o => frz_new7 _ _ _ _
        have f1 := fz 1
        have f2 := fz 2
        have HOY := hid (ho.alloc (.cells #[.int .i64 2, .int .i64 (a1 : Int), .int .i64 (b1 : Int)] 57)).drew
        have HAY := hid (ha.alloc (.cells #[.int .i64 2, .int .i64 (a1 : Int), .int .i64 (b1 : Int)] 57)).drew
        have HBY := hid (below_drewN (hb.alloc hsz (.cells #[.int .i64 2, .int .i64 (a1 : Int), .int .i64 (b1 : Int)] 57)) 1)
        have HDY := hid (cell3_new7 wr (.int .i64 2) (.int .i64 (a1 : Int)) (.int .i64 (b1 : Int)) 57)
        have HNA := hid (fun (h : some wr.heap.size = (Value.slice (some ⟨at', 0, none⟩) k ac').ownBlock) => (Nat.lt_irrefl _ (ha.lt _ h.symm).2 : False))
        obtain ⟨oa, oc, rfl⟩ := owns_slice ho
        clear hA hBq h1 h2 h3 hst ha1 hb1 ho ha hb
        go_wp2
        go_region
        obtain ⟨Y, hY⟩ : ∃ Y, (wr.alloc (.cells #[.int .i64 2, .int .i64 (a1 : Int), .int .i64 (b1 : Int)] 57)).drew = Y := ⟨_, rfl⟩
        rw [hY] at HOY HAY ⊢
        have hbY : Below w.heap.size w Y := hY ▸ HBY.out
        obtain ⟨d0, d1, d2⟩ : Y.cell? ⟨wr.heap.size, 0, none⟩ = some (.int .i64 2) ∧ Y.cell? ⟨wr.heap.size, 1, none⟩ = some (.int .i64 (a1 : Int)) ∧ Y.cell? ⟨wr.heap.size, 2, none⟩ = some (.int .i64 (b1 : Int)) := hY ▸ HDY.out
        clear HBY hY HDY cA cB x0 x1 x2 hlt' fz f1 f2 
        have HBY := hid hbY
        clear hbY
        have HB1 := hid (HBY.out.alloc HBY.out.size (.cells #[.int .i64 (F2.length : Int)] 3))
        have HO1 := hid (HOY.out.alloc (.cells #[.int .i64 (F2.length : Int)] 3))
        have HA1 := hid (HAY.out.alloc (.cells #[.int .i64 (F2.length : Int)] 3))
        have HSRC := hid (row_one_new Y (.int .i64 (F2.length : Int)) 3)
        (try rw [World.size_alloc] at HSRC)
        have HD := hid (And.intro d0 (And.intro d1 d2))
        have hbA : Below Y.heap.size Y (Y.alloc (.cells #[.int .i64 (F2.length : Int)] 3)) := (Below.refl _ _).alloc (Nat.le_refl _) _
        have HD1 := hid (And.intro ((hbA.cell (World.block_lt_of_cell? _ _ d0)).trans d0) (And.intro ((hbA.cell (World.block_lt_of_cell? _ _ d1)).trans d1) ((hbA.cell (World.block_lt_of_cell? _ _ d2)).trans d2)))
        clear HOY HAY HBY d0 d1 d2 HD hbA
        go_wp2_with (first
          | (at_builtin; refine wpList_append_row rfl _ _ 33 rfl w.heap.size 3 el_int Tryz.underlying33 rfl (by decide) _ _ _ rfl HA1.out _ 1 [.int .i64 (F2.length : Int)] rfl HSRC.out (oneCell_one rfl) (by omega) (by omega) HB1.out.size ?_; intro v4 w4 hown4 hgrow4 _; have d0 := grown_cell7 hgrow4 HD1.out.1 HNA.out; have d1 := grown_cell7 hgrow4 HD1.out.2.1 HNA.out; have d2 := grown_cell7 hgrow4 HD1.out.2.2 HNA.out; have hO4 := (owns_kept7 HO1.out HA1.out (by decide) hgrow4).alloc (.cells #[.int .i64 2, .int .i64 (a1 : Int), .int .i64 (b1 : Int)] 57); have hB4 := HB1.out.grown hgrow4 HB1.out.size (fun q hq => (HA1.out.lt q hq).1); have hA4 := hown4.alloc (.cells #[.int .i64 2, .int .i64 (a1 : Int), .int .i64 (b1 : Int)] 57))
          | (at_builtin; refine wpList_append_row rfl _ _ 25 rfl w.heap.size 57 el_step Tryz.underlying25 rfl (by decide) _ _ _ rfl hO4 _ 1 (stV (2, (a1 : Int), (b1 : Int))) rfl (row_one_st w4 (2, (a1 : Int), (b1 : Int)) 57) (by simp [stV, Value.oneCell']) (by omega) (by omega) (hB4.alloc hB4.size _).size ?_; intro v5 w5 hown5 hgrow5 _))
        go_roundw
        case rel =>
          refine ⟨k + 1, by omega, by go_num, ?_, ?_, (hB4.alloc hB4.size _).grown hgrow5 (hB4.alloc hB4.size _).size (fun q hq => (hO4.lt q hq).1)⟩
          · rw [HST.out, List.length_append, stC_snoc]; exact hown5
          · rw [HST.out]
            have h := owns_kept7 hA4 hO4 (by decide) hgrow5
            unfold natI at h ⊢
            rw [List.map_append]
            exact h
        case measure => simp [intOf]; omega
--INL1
    · have hkl : k = rest.length := by omega
      subst hkl
      obtain ⟨n, hn⟩ : ∃ n, rest.length = n + 1 := ⟨rest.length - 1, by omega⟩
      obtain ⟨r, hr⟩ := hF3
      obtain ⟨aq, ac, rfl⟩ : ∃ q c, u12 = .slice (some ⟨q, 0, none⟩) rest.length c := by
        rcases ha.2 with ⟨rfl, h⟩ | ⟨c, cap, cur, rfl, -⟩
        · omega
        · exact ⟨c, cap, rfl⟩
      have hc1 := ha.cellAt n (by rw [Nat.mul_one]; omega)
      rw [natI_at (l := (inlF g lem rest rest.length).1) (by omega)] at hc1
      have hin : inlL g lem rest = if (inlF g lem rest rest.length).1.getD n 0 = m then lem else (inlF g lem rest rest.length).2 := by
        unfold inlL
        rw [HM.out, hn]; rfl
      have hzs := hF2 _ (getD_mem7 (l := (inlF g lem rest rest.length).1) (i := n) (by omega))
      obtain ⟨F2, hF2e⟩ : ∃ F, (inlF g lem rest rest.length).2 = F := ⟨_, rfl⟩
      obtain ⟨z, hz⟩ : ∃ z, (inlF g lem rest rest.length).1.getD n 0 = z := ⟨_, rfl⟩
      rw [hz] at hc1 hin hzs
      rw [hF2e] at hin ho hr hF1
      have hSO : StepsAt wr u10 F2 := RowK.of_owns ho (by omega)
      obtain ⟨oa, oc, rfl, hoc, -⟩ := hSO.open
      have hlr : m + 1 ≤ F2.length := by rw [hr, List.length_append, HM.out]; omega
      have HTK := hid (StepsAt.take hSO (m + 1) hlr)
      have HR : Hid (F2.take (m + 1) = lem) := hid (by rw [hr, ← HM.out, List.take_left'] ; rfl)
      have HSO := hid hSO
      have HB := hid hb
      have HIN := hid hin
      obtain ⟨R, hR⟩ : ∃ R, F2.length = R := ⟨_, rfl⟩
      have HRL := hid hR
      rw [hR] at hoc hlr hF1
      have y1 : m + 1 ≤ oc := by omega
      have y2 : ((m : Int) + 1) ≤ (oc : Int) := by omega
      have y3 : (0 : Int) ≤ (m : Int) + 1 := by omega
      have y4 : IntKind.i64.wrap ((m : Int) + 1) = ((m + 1 : Nat) : Int) := by rw [IntWalk.i64_in _ (by omega)]; omega
      have y8 : IntKind.i64.wrap (((n + 1 : Nat) : Int) - 1) = (n : Int) := by rw [IntWalk.i64_in _ (by omega)]; omega
      have y9 : (((n + 1 : Nat) : Int) - 1) = (n : Int) := by omega
      have hn60 : n ≤ 59 := by omega
      simp only [hn, hR]
      clear hn hF2e hz hr hin hb ha ho hSO hF2 hF4 hR
      by_cases hzm : z = m
      · have HE : Hid (inlL g lem rest = lem) := hid (by rw [HIN.out, if_pos hzm])
        have HE2 : Hid (E = 0) := hid (by rw [HE3.out, HE.out, HM.out, if_neg (by omega)])
        have d1 : ((z : Int) == (m : Int)) = true := by rw [hzm]; simp
        have d2 : ¬ ((m + 1 : Nat) : Int) > 60 := by omega
        clear hzm
        obtain rfl : E = 0 := HE2.out
        go_wp2
        go_ret2
        refine ⟨_, rfl, ?_, HB.out⟩
        (try rw [if_pos rfl])
        rw [HE.out]
        have h := HTK.out
        rw [HR.out] at h
        exact h
      · have HE : Hid (inlL g lem rest = F2) := hid (by rw [HIN.out, if_neg hzm])
        have d1 : ((z : Int) == (m : Int)) = false := by rw [beq_eq_false_iff_ne]; omega
        clear hzm
        by_cases hbig : 60 < R
        · have HE2 : Hid (E = 4) := hid (by rw [HE3.out, HE.out, HRL.out, if_pos hbig])
          have d2 : (R : Int) > 60 := by omega
          obtain rfl : E = 4 := HE2.out
          go_wp2
          go_ret2
          refine ⟨_, rfl, ?_, HB.out⟩
          (try rw [if_neg (by decide)])
          exact StepsAt.nil _
        · have HE2 : Hid (E = 0) := hid (by rw [HE3.out, HE.out, HRL.out, if_neg hbig])
          have d2 : ¬ (R : Int) > 60 := by omega
          obtain rfl : E = 0 := HE2.out
          go_wp2
          go_ret2
          refine ⟨_, rfl, ?_, HB.out⟩
          (try rw [if_pos rfl])
          rw [HE.out]
          have h := HSO.out
          rw [HRL.out] at h
          exact h
end Go.Proofs.YtmpjaakkjhmpmaaGreatDoor
