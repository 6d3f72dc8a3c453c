/-
  WHAT IT HOLDS: contracts of the helpers cite, detach, heavy and awake of the laws of layer 7. Conditions: the arguments read as data; awake: the library's table of powers of ten stands as it is written.
  WHAT IT HOLDS: the walk of the law ShortLemmas: it returns true. Conditions: the arguments read as data; the library's table of powers of ten stands as it is written.
-/
import Derived.Test.YtmpjaakkjhmpmaaGreatDoorZRShortLemmas45
import Derived.Test.YtmpjaakkjhmpmaaGreatDoorZRShortLemmas22
import Derived.Test.YtmpjaakkjhmpmaaGreatDoorZRShortLemmas0
import Derived.Test.YtmpjaakkjhmpmaaGreatDoorZRShortLemmas35
import Derived.Test.YtmpjaakkjhmpmaaGreatDoorZRShortLemmas34
namespace Go.Proofs.YtmpjaakkjhmpmaaGreatDoor
open Go Go.RowKit Go.Maps
theorem ints7 (w : World) (l : List Int) (T : TypeId) {arr : Array Value} {n : Nat} (h : arr = (l.map (Value.int .i64)).toArray := by rfl) (hn : n = l.length := by rfl) (hl : l.length ≤ 1000 := by decide) : Ints (w.alloc (.cells arr T)) (.slice (some ⟨w.heap.size, 0, none⟩) n n) l := by
  subst h hn
  have r := World.ownsRow_lit (base := 0) (e := T) (size := 1) w (l.map (Value.int .i64)).toArray l.length (by omega) (by simp [maxLen]; omega) (by simp)
  simp only [List.toList_toArray] at r
  exact Ints.of_owns r (by omega)
theorem sign7 (w : World) (T : TypeId) : SignAt (w.alloc (.cells #[.string ⟨#[67]⟩, .int .i64 2] T)) (.slice (some ⟨w.heap.size, 0, none⟩) 1 1) sC7 := by
  have r1 := World.ownsRow_lit (base := 0) (e := T) (size := 2) w #[.string ⟨#[67]⟩, .int .i64 2] 1 (by omega) (by simp [maxLen]) rfl
  refine ⟨RowK.of_owns r1 (by simp [sC7]), ?_⟩
  intro x hx
  simp [sC7] at hx
  subst hx
  simp [ByteArray.size]
theorem steps7 (w : World) (l : List St) (T : TypeId) {cs : Array Value} {n : Nat} (hc : cs = (stC l).toArray := by rfl) (hn : n = l.length := by rfl) (hl : l.length ≤ 1000 := by decide) : StepsAt (w.alloc (.cells cs T)) (.slice (some ⟨w.heap.size, 0, none⟩) n n) l := by
  subst hc hn
  refine ⟨stC_len l, _, _, rfl, Nat.le_refl _, by omega, (fun h => by cases h), fun j u hj => ⟨_, _, rfl, ?_⟩⟩
  rw [Nat.zero_add, World.cell?_alloc_new]
  simpa using hj
theorem law7_cite (n : Int) (w : World) :
    Calls Tryz.prog 54 #[.int .i64 n] w fun e w' => e = .returned (.agg #[.int .i64 1, .int .i64 n, .int .i64 0]) ∧ Below w.heap.size w w' := by
  go_enter Tryz.func54, Tryz.ntmps54
  go_wp2
  (try simp only [Exit.inBlock, Exit.then])
  refine bodyPost_ret (v := .agg #[.int .i64 1, .int .i64 n, .int .i64 0]) ?_ rfl ?_
  · simp only [results, Tryz.results54]
    go_simp
  · exact ⟨rfl, (Below.refl _ _).alloc (Nat.le_refl _) _⟩
theorem law7_detach (n m : Int) (w : World) :
    Calls Tryz.prog 55 #[.int .i64 n, .int .i64 m] w fun e w' => e = .returned (.agg #[.int .i64 2, .int .i64 n, .int .i64 m]) ∧ Below w.heap.size w w' := by
  go_enter Tryz.func55, Tryz.ntmps55
  go_wp2
  (try simp only [Exit.inBlock, Exit.then])
  refine bodyPost_ret (v := .agg #[.int .i64 2, .int .i64 n, .int .i64 m]) ?_ rfl ?_
  · simp only [results, Tryz.results55]
    go_simp
  · exact ⟨rfl, (Below.refl _ _).alloc (Nat.le_refl _) _⟩
def Hv7 (s : Sg) (g : List (List Int)) (p : List St) (w : World) (e : Ending) (w' : World) : Prop := ∃ z, e = .returned (.bool z) ∧ (z = false → s.length ≤ 20 ∧ g.length ≤ 100 ∧ p.length ≤ 100 ∧ ∀ t ∈ g, t.length ≤ 100) ∧ Below w.heap.size w w'
theorem Hv7.yes {s : Sg} {g : List (List Int)} {p : List St} {w w' : World} (h : Below w.heap.size w w') : Hv7 s g p w (.returned (.bool true)) w' := ⟨true, rfl, (fun h => by cases h), h⟩
set_option maxHeartbeats 2000000 in
theorem law7_heavy (vs vg vp : Value) (s : Sg) (g : List (List Int)) (p : List St) (w : World) (hs : SignAt w vs s) (hg : Terms w vg g) (hp : StepsAt w vp p) :
    Calls Tryz.prog 11 #[vs, vg, vp] w fun e w' => Hv7 s g p w e w' := by
  obtain ⟨sa, sc, rfl, -, hsl, -⟩ := hs.open
  obtain ⟨pa, pc, rfl, -, hpl, -, -⟩ := hp.open
  obtain ⟨ga, gc, rfl, -, hgl, -, HC⟩ := hg.open
  have HC' := hid HC
  clear HC hg hs hp
  by_cases h1 : 20 < s.length
  · have q1 : (s.length : Int) > 20 := by omega
    go_enter Tryz.func11, Tryz.ntmps11
    go_wp2
    go_ret
    exact Hv7.yes (Below.refl _ _)
  have q1 : ¬ (s.length : Int) > 20 := by omega
  have HS20 : Hid (s.length ≤ 20) := hid (by omega)
  by_cases h0 : 100 < g.length
  · have q0 : (g.length : Int) > 100 := by omega
    go_enter Tryz.func11, Tryz.ntmps11
    go_wp2
    go_ret
    exact Hv7.yes (Below.refl _ _)
  have q0 : ¬ (g.length : Int) > 100 := by omega
  have HG20 : Hid (g.length ≤ 100) := hid (by omega)
  by_cases h2 : 14 < p.length ∧ p.length ≤ 60
  · have q2 : (p.length : Int) > 14 := by omega
    have q3 : (p.length : Int) ≤ 60 := by omega
    go_enter Tryz.func11, Tryz.ntmps11
    go_wp2
    go_ret
    exact Hv7.yes (Below.refl _ _)
  by_cases h3 : 100 < p.length
  · have q2 : (p.length : Int) > 14 := by omega
    have q3 : ¬ (p.length : Int) ≤ 60 := by omega
    have q4 : (p.length : Int) > 100 := by omega
    go_enter Tryz.func11, Tryz.ntmps11
    go_wp2
    go_ret
    exact Hv7.yes (Below.refl _ _)
  have q4 : ¬ (p.length : Int) > 100 := by omega
  have HL100 : Hid (p.length ≤ 100) := hid (by omega)
  have hq : ¬ ((p.length : Int) > 14) ∨ ((p.length : Int) > 14 ∧ ¬ (p.length : Int) ≤ 60) := by omega
  clear h1 h2 h3 h0
  rcases hq with q2 | ⟨q2, q3⟩
  all_goals
    go_enter Tryz.func11, Tryz.ntmps11
    go_wp2
    go_loopw [7] (fun kv wr => ∃ k : Nat, k ≤ g.length ∧ kv = .int .i64 k ∧ wr = w ∧ ∀ j (hj : j < g.length), j < k → g[j].length ≤ 100) (fun kv _ => g.length - (intOf kv).toNat)
    case atStart => exact ⟨0, by omega, rfl, rfl, fun j _ h => by omega⟩
    case round =>
      obtain ⟨k, hk, rfl, rfl, hall⟩ := hrel
      have HALL := hid hall
      clear hall
      by_cases hlt : k < g.length
      · obtain ⟨b, o, u, rfl, c0, hu⟩ := HC'.out k hlt
        obtain ⟨xa, xc, rfl, -, hxl, -, -⟩ := hu.open
        have HX := hid (show g[k].length = g[k].length from rfl)
        obtain ⟨x, hx⟩ : ∃ x, g[k].length = x := ⟨_, rfl⟩
        have HXX := hid hx
        rw [hx] at c0 hxl
        clear hx hu HX
        by_cases e1 : (x : Int) > 100
        · go_wp2
          go_ret
          exact Hv7.yes (Below.refl _ _)
        · go_wp2
          go_roundw
          case rel =>
            refine ⟨k + 1, by omega, by go_num, by first | rfl | trivial, fun j hj hjk => ?_⟩
            by_cases hjj : j = k
            · subst hjj; rw [HXX.out]; omega
            · exact HALL.out j hj (by omega)
          case measure => simp [intOf]; omega
      · have hkl : k = g.length := by omega
        subst hkl
        go_wp2
        go_ret
        refine ⟨false, rfl, fun _ => ⟨HS20.out, HG20.out, HL100.out, fun t ht => ?_⟩, Below.refl _ _⟩
        obtain ⟨i, hi, rfl⟩ := List.getElem_of_mem ht
        exact HALL.out i hi hi
set_option maxHeartbeats 8000000 in
set_option maxRecDepth 100000 in
theorem law7_awake (w : World) (htab : Tab w) :
    Calls Tryz.prog 10 #[] w fun e w' => e = .returned (.bool true) ∧ Below w.heap.size w w' := by
  have HTAB := hid htab
  clear htab
  go_enter Tryz.func10, Tryz.ntmps10
  go_wp2_with fail
  have q1 := sign7 w 72
  obtain ⟨W1, hW1⟩ : ∃ W1, w.alloc (.cells #[.string ⟨#[67]⟩, .int .i64 2] 72) = W1 := ⟨_, rfl⟩
  have b1 : Below w.heap.size w W1 := hW1 ▸ (Below.refl _ _).alloc (Nat.le_refl _) _
  have z1 : W1.heap.size = w.heap.size + 1 := by rw [← hW1]; simp
  rw [hW1] at q1 ⊢
  have q2 := ints7 W1 g70 3
  obtain ⟨W2, hW2⟩ : ∃ W2, W1.alloc (.cells #[.int .i64 0, .int .i64 (-1), .int .i64 0, .int .i64 (-2), .int .i64 (-1)] 3) = W2 := ⟨_, rfl⟩
  have b2 : Below W1.heap.size W1 W2 := hW2 ▸ (Below.refl _ _).alloc (Nat.le_refl _) _
  have z2 : W2.heap.size = w.heap.size + 1 + 1 := by rw [← hW2]; simp [z1]
  have q2' : Ints W2 (.slice (some ⟨w.heap.size + 1, 0, none⟩) 5 5) g70 := by rw [← hW2, ← z1]; exact q2
  rw [hW2]
  have q3 := ints7 W2 g71 3
  obtain ⟨W3, hW3⟩ : ∃ W3, W2.alloc (.cells #[.int .i64 0, .int .i64 0, .int .i64 (-1), .int .i64 0, .int .i64 (-2), .int .i64 (-3), .int .i64 0, .int .i64 0, .int .i64 (-1), .int .i64 (-2), .int .i64 0, .int .i64 (-1), .int .i64 (-3)] 3) = W3 := ⟨_, rfl⟩
  have b3 : Below W2.heap.size W2 W3 := hW3 ▸ (Below.refl _ _).alloc (Nat.le_refl _) _
  have z3 : W3.heap.size = w.heap.size + 1 + 1 + 1 := by rw [← hW3]; simp [z2]
  have q3' : Ints W3 (.slice (some ⟨w.heap.size + 1 + 1, 0, none⟩) 13 13) g71 := by rw [← hW3, ← z2]; exact q3
  rw [hW3]
  have q4 := litT2 (q2'.below b3) q3' 34
  obtain ⟨W4, hW4⟩ : ∃ W4, W3.alloc (.cells #[.slice (some ⟨w.heap.size + 1, 0, none⟩) 5 5, .slice (some ⟨w.heap.size + 1 + 1, 0, none⟩) 13 13] 34) = W4 := ⟨_, rfl⟩
  have b4 : Below W3.heap.size W3 W4 := hW4 ▸ (Below.refl _ _).alloc (Nat.le_refl _) _
  rw [hW4] at q4
  rw [z3] at q4
  rw [hW4]
  have b24 : Below W2.heap.size W2 W4 := b3.trans (b4.mono b3.size)
  have b14 : Below W1.heap.size W1 W4 := b2.trans (b24.mono b2.size)
  have b04 : Below w.heap.size w W4 := b1.trans (b14.mono b1.size)
  have HS := hid (q1.below b14)
  have HG := hid q4
  have HB4 := hid b04
  clear q1 q2 q2' q3 q3' q4 b1 b2 b3 b4 b24 b14 b04 z1 z2 z3 hW1 hW2 hW3 hW4
  have HCI := hid (fun (n : Int) (B : World) (X : World) (hX : Below B.heap.size B X) => chainL hX (law7_cite n X))
  have HDE := hid (fun (n m : Int) (B : World) (X : World) (hX : Below B.heap.size B X) => chainL hX (law7_detach n m X))
  have hbA : Below W4.heap.size W4 W4 := Below.refl _ _
  refine (HCI.out 1 W4 W4 hbA).mono ?_
  rintro e wA ⟨rfl, hbA⟩
  go_wp2_with (first
    | (go_at_call 54; refine (HCI.out _ W4 _ hbA).mono ?_; rintro e wA ⟨rfl, hbA⟩)
    | (go_at_call 55; refine (HDE.out _ _ W4 _ hbA).mono ?_; rintro e wA ⟨rfl, hbA⟩))
  have qp := steps7 wA p7 57
  have hbP : Below W4.heap.size W4 (wA.alloc (.cells #[.int .i64 1, .int .i64 1, .int .i64 0, .int .i64 1, .int .i64 0, .int .i64 0, .int .i64 1, .int .i64 0, .int .i64 0, .int .i64 2, .int .i64 0, .int .i64 1, .int .i64 2, .int .i64 3, .int .i64 2] 57)) := hbA.alloc hbA.size _
  have hbW := HB4.out.trans (hbP.mono HB4.out.size)
  have HME := hid (short_Merged _ _ _ sC7 [g70, g71] p7 _ (HS.out.below hbP) (HG.out.below hbP) qp (by simp [sC7]) (HTAB.out.below hbW))
  have HBW := hid hbW
  clear qp hbP hbW hbA
  refine HME.out.mono ?_
  rintro e w5 ⟨u, l, er, rfl, hq, hu, hb5⟩
  obtain ⟨rfl, rfl⟩ := hq.unique said7
  rw [if_pos rfl, mrg7] at hu
  have HB5 := hid (HBW.out.trans (hb5.mono HBW.out.size))
  have HU := hid hu
  obtain ⟨ua, uc, rfl, huc, -⟩ := hu.open
  have e4 : q7.length = 4 := rfl
  rw [e4] at HU huc
  simp only [e4]
  clear hq hu hb5 HME e4
  have HTI := hid (short_Times 2 _ q7 w5 HU.out)
  go_wp2_with fail
  refine HTI.out.mono ?_
  rintro e w6 ⟨ut, rfl, hut, hb6⟩
  rw [timE7, if_pos rfl, tim7] at hut
  rw [timE7]
  have HB6 := hid (HB5.out.trans (hb6.mono HB5.out.size))
  have HU6 := hid (HU.out.below hb6)
  have HUT := hid hut
  obtain ⟨ta, tc, rfl, -⟩ := hut.open
  clear hut hb6 HTI
  have HCU := hid (short_Cut 2 _ q7 2 w6 HU6.out)
  go_wp2_with fail
  refine HCU.out.mono ?_
  rintro e w7 ⟨ul, ur, rfl, hul, hur, hb7⟩
  have e2 : (2 : Int).toNat = 2 := rfl
  rw [cutE7, if_pos rfl, e2, cutA7] at hul
  rw [cutE7, if_pos rfl, e2, cutB7] at hur
  rw [cutE7]
  have HB7 := hid (HB6.out.trans (hb7.mono HB6.out.size))
  have HU7 := hid (HU6.out.below hb7)
  have HUT7 := hid (HUT.out.below hb7)
  have HUL := hid hul
  have HUR := hid hur
  obtain ⟨la, lc, rfl, -⟩ := hul.open
  obtain ⟨ra, rc, rfl, -⟩ := hur.open
  have e3 : (q7.take 3).length = 3 := rfl
  have er3 : r7.length = 3 := rfl
  rw [e3] at HUL
  rw [er3] at HUR
  simp only [e3, er3]
  clear hul hur hb7 HCU e2 e3 er3
  have y1 : 3 ≤ uc := by omega
  have y2 : (3 : Int) ≤ (uc : Int) := by omega
  have hbA : Below w7.heap.size w7 w7 := Below.refl _ _
  go_wp2_with (first
    | (go_at_call 54; refine (HCI.out _ w7 _ hbA).mono ?_; rintro e wB ⟨rfl, hbA⟩)
    | (go_at_call 55; refine (HDE.out _ _ w7 _ hbA).mono ?_; rintro e wB ⟨rfl, hbA⟩))
  have hq := steps7 wB q7 57
  have hb8 : Below w7.heap.size w7 (wB.alloc (.cells #[.int .i64 1, .int .i64 1, .int .i64 0, .int .i64 1, .int .i64 0, .int .i64 0, .int .i64 2, .int .i64 0, .int .i64 1, .int .i64 2, .int .i64 2, .int .i64 1] 57)) := hbA.alloc hbA.size _
  have HS1 := hid (ref6_SameProof _ _ q7 q7 _ (HU7.out.below hb8) hq)
  rw [decide_eq_true (rfl : q7 = q7)] at HS1
  have HB8 := hid hb8
  clear hq hb8 hbA
  refine HS1.out.mono ?_
  rintro e w9 ⟨rfl, n9, hw9⟩
  have HB9 := hid (show Below w7.heap.size w7 w9 from hw9 ▸ below_drewN HB8.out n9)
  clear hw9 HS1 HB8
  go_wp2_with fail
  have hi := ints7 w9 [1, 2, 1, 1] 3
  have hbi : Below w7.heap.size w7 (w9.alloc (.cells #[.int .i64 1, .int .i64 2, .int .i64 1, .int .i64 1] 3)) := HB9.out.alloc HB9.out.size _
  have HS2 := hid (ref6_SameInts _ _ [1, 2, 1, 1] [1, 2, 1, 1] _ (HUT7.out.below hbi) hi)
  rw [decide_eq_true (rfl : ([1, 2, 1, 1] : List Int) = [1, 2, 1, 1])] at HS2
  have HBI := hid hbi
  clear hi hbi
  refine HS2.out.mono ?_
  rintro e wC ⟨rfl, n10, hw10⟩
  have HBC := hid (show Below w7.heap.size w7 wC from hw10 ▸ below_drewN HBI.out n10)
  clear hw10 HS2 HBI
  have HT3 := hid (StepsAt.take HU7.out 3 (by decide))
  have HS3 := hid (ref6_SameProof _ _ (q7.take 3) (q7.take 3) wC (HUL.out.below HBC.out) (HT3.out.below HBC.out))
  rw [decide_eq_true (rfl : q7.take 3 = q7.take 3)] at HS3
  go_wp2_with fail
  refine HS3.out.mono ?_
  rintro e wD ⟨rfl, n11, hw11⟩
  have HBD := hid (show Below w7.heap.size w7 wD from hw11 ▸ below_drewN HBC.out n11)
  have hbA := HBD.out
  clear hw11 HS3
  go_wp2_with (first
    | (go_at_call 54; refine (HCI.out _ w7 _ hbA).mono ?_; rintro e wE ⟨rfl, hbA⟩)
    | (go_at_call 55; refine (HDE.out _ _ w7 _ hbA).mono ?_; rintro e wE ⟨rfl, hbA⟩))
  have hr := steps7 wE r7 57
  have hbr : Below w7.heap.size w7 (wE.alloc (.cells #[.int .i64 1, .int .i64 0, .int .i64 0, .int .i64 1, .int .i64 2, .int .i64 0, .int .i64 2, .int .i64 1, .int .i64 0] 57)) := hbA.alloc hbA.size _
  have HS4 := hid (ref6_SameProof _ _ r7 r7 _ (HUR.out.below hbr) hr)
  rw [decide_eq_true (rfl : r7 = r7)] at HS4
  have HBR := hid hbr
  clear hr hbr hbA
  refine HS4.out.mono ?_
  rintro e wF ⟨rfl, n12, hw12⟩
  have HBF := hid (HB7.out.trans ((show Below w7.heap.size w7 wF from hw12 ▸ below_drewN HBR.out n12).mono HB7.out.size))
  clear hw12 HS4
  go_wp2
  go_ret
  exact ⟨rfl, HBF.out⟩
end Go.Proofs.YtmpjaakkjhmpmaaGreatDoor
namespace Go.Proofs.YtmpjaakkjhmpmaaGreatDoor
open Go Go.RowKit Go.Maps
theorem terms_one7 {w : World} {v : Value} {vs : List Value} {l : List (List Int)} (h : TermsV w v vs l) : ∀ u ∈ vs, u.oneCell' = true := by
  intro u hu
  obtain ⟨i, hi, rfl⟩ := List.getElem_of_mem hu
  have hl : i < l.length := by rw [← h.2.1]; exact hi
  obtain ⟨a, c, e, -⟩ := (h.2.2 i _ _ (List.getElem?_eq_getElem hi) (List.getElem?_eq_getElem hl)).open
  rw [e]; rfl
theorem terms_snoc7 {w w' : World} {B : Nat} {e : TypeId} {u v x : Value} {vs : List Value} {l : List (List Int)} {t : List Int} {n : Nat} (h : TermsV w v vs l) (hx : Ints w x t) (hb : Below w.heap.size w w') (ho : w'.ownsRow B e 1 u n (vs ++ [x])) (hn : n = l.length + 1) (hl : l.length ≤ 1000) : Terms w' u (l ++ [t]) := by
  obtain ⟨h1, h2, h3⟩ := h
  subst hn
  refine ⟨vs ++ [x], ?_, by simp [h2], fun i y z hy hz => ?_⟩
  · have := RowK.of_owns ho (by omega)
    unfold Vals
    rw [List.length_append, List.length_singleton, h2]
    exact this
  · rcases Nat.lt_trichotomy i vs.length with h | h | h
    · rw [List.getElem?_append_left h] at hy
      rw [List.getElem?_append_left (by omega)] at hz
      exact (h3 i y z hy hz).below hb
    · subst h
      rw [List.getElem?_append_right (Nat.le_refl _), Nat.sub_self] at hy
      rw [List.getElem?_append_right (by omega), show vs.length - l.length = 0 by omega] at hz
      cases hy; cases hz
      exact hx.below hb
    · rw [List.getElem?_eq_none (by rw [List.length_append, List.length_singleton]; omega)] at hy
      cases hy
theorem cut_ok {g : Nat} {p : List St} {i : Int} (h : cutE g p i = 0) : vldB g p = true ∧ (∃ k : Nat, i = k ∧ k < p.length) ∧ g < 60 := by
  unfold cutE at h
  cases hv : vldB g p with
  | false => rw [hv] at h; simp at h
  | true =>
    rw [hv, if_pos rfl] at h
    have hg : (g : Int) ≤ 60 := by unfold vldB at hv; rw [Bool.and_eq_true] at hv; exact (inB_true.1 hv.1).2
    split at h
    · omega
    · rename_i h1
      split at h
      · omega
      · split at h
        · omega
        · rename_i h2
          exact ⟨rfl, ⟨i.toNat, by omega, by omega⟩, by omega⟩
theorem inl_ok {g : Nat} {a b : List St} (ha : proofB g a = true) (hb : proofB ((g : Int) + 1) b = true) (hg : g < 60) : inlE g a b = if 60 < (inlL g a b).length then 4 else 0 := by
  have h1 : vldB g a = true := by unfold vldB; rw [ha, inB_true.2 (by omega)]; rfl
  have h2 : vldB ((g : Int) + 1) b = true := by unfold vldB; rw [hb, inB_true.2 (by omega)]; rfl
  unfold inlE
  rw [if_pos h1, if_neg (by omega), if_pos h2]
set_option maxHeartbeats 8000000 in
set_option maxRecDepth 100000 in
theorem walk_ShortLemmas (vs vg vp : Value) (s : Sg) (g : List (List Int)) (p : List St) (i : Int) (w : World) (hs : SignAt w vs s) (hg : Terms w vg g) (hp : StepsAt w vp p) (htab : Tab w) :
    Calls Tryz.prog 4 #[vs, vg, vp, .int .i64 i] w fun e w' => e = .returned (.bool true) ∧ Below w.heap.size w w' := by
  have HSG := hid hs
  have HGG := hid hg
  have HPP := hid hp
  have HAW := hid (law7_awake w htab)
  obtain ⟨ga, gc, rfl, -⟩ := hg.open
  clear hs hg hp htab
  go_enter Tryz.func4, Tryz.ntmps4
  go_wp2_with fail
  refine HAW.out.mono ?_
  rintro e w1 ⟨rfl, hb1⟩
  go_wp2_with fail
  refine (law7_heavy vs _ vp s g p w1 (HSG.out.below hb1) (HGG.out.below hb1) (HPP.out.below hb1)).mono ?_
  rintro e w2 ⟨z, rfl, hz, hb2'⟩
  have hb2 := hb1.trans (hb2'.mono hb1.size)
  clear hb1 hb2' HAW
  cases z
  case true =>
    clear hz
    go_wp2
    go_ret
    exact ⟨rfl, hb2⟩
  obtain ⟨hs20, hg100, hp100, -⟩ := hz rfl
  clear hz
  have HS1 := hid (show s.length ≤ 1000 by omega)
  have HB2 := hid hb2
  have HCU := hid (short_Cut (g.length : Int) vp p i w2 (HPP.out.below hb2))
  clear hb2 hs20
  go_wp2_with fail
  refine HCU.out.mono ?_
  rintro e w3 ⟨ua, ub, rfl, hua, hub, hb3⟩
  have HB3 := hid (HB2.out.trans (hb3.mono HB2.out.size))
  have HGD := hid (ref7_Good vs _ vp s g p w3 (HSG.out.below HB3.out) (HGG.out.below HB3.out) (HPP.out.below HB3.out) HS1.out)
  by_cases h0 : cutE g.length p i = 0
  case neg =>
    have n0 : (cutE g.length p i != 0) = true := by simpa using h0
    rw [if_neg h0] at hua hub
    obtain ⟨aa, ac, rfl, -⟩ := hua.open
    obtain ⟨ba, bc, rfl, -⟩ := hub.open
    clear hua hub hb3 HCU HGD h0
    go_wp2
    go_ret
    exact ⟨rfl, HB3.out⟩
  obtain ⟨hv, ⟨k, rfl, hk⟩, h60⟩ := cut_ok h0
  rw [if_pos h0, Int.toNat_natCast] at hua hub
  rw [h0]
  have HUA := hid hua
  have HUB := hid hub
  have HV := hid hv
  obtain ⟨aa, ac, rfl, -⟩ := hua.open
  obtain ⟨ba, bc, rfl, -⟩ := hub.open
  obtain ⟨LA, hLA⟩ : ∃ L, trimL (p.take (k + 1)) = L := ⟨_, rfl⟩
  obtain ⟨LB, hLB⟩ : ∃ L, trimL (cutS p k g.length) = L := ⟨_, rfl⟩
  have HLA := hid hLA
  have HLB := hid hLB
  rw [hLA] at HUA
  rw [hLB] at HUB
  simp only [hLA, hLB]
  clear hua hub hb3 HCU h0 hv hLA hLB
  go_wp2_with fail
  refine HGD.out.mono ?_
  rintro e w4 ⟨l, er, hq, rfl, hb4⟩
  have HB4 := hid (HB3.out.trans (hb4.mono HB3.out.size))
  have HB34 := hid hb4
  by_cases he : er = 0
  case neg =>
    rw [decide_eq_false he]
    clear hq he hb4 HGD
    go_wp2
    go_ret
    exact ⟨rfl, HB4.out⟩
  subst he
  have hgd := hq.good
  obtain ⟨k1, k2, k3, k4, k5, k6⟩ := lemmas_law hgd.1 hgd.2 hk h60
  rw [HLA.out] at k1 k4 k5
  rw [HLB.out] at k2 k4 k6
  obtain ⟨T, hT⟩ : ∃ T, l.getD k [] = T := ⟨_, rfl⟩
  obtain ⟨V, hV⟩ : ∃ V, l.getD (p.length - 1) [] = V := ⟨_, rfl⟩
  rw [hT] at k1 k2
  rw [hV] at k2 k3 k4
  have K1 := hid k1
  have K2 := hid k2
  have K3 := hid k3
  have K4 := hid k4
  have K56 := hid (inl_ok k5 k6 h60)
  rw [decide_eq_true (rfl : (0 : Int) = 0)]
  have HUA4 := hid (HUA.out.below hb4)
  have HUB4 := hid (HUB.out.below hb4)
  clear hq hgd k1 k2 k3 k4 k5 k6 hT hV hb4 HGD HUA HUB HB34 hk h60
  have HSA := hid (kernel_Says vs _ _ s g LA w4 (HSG.out.below HB4.out) (HGG.out.below HB4.out) HUA4.out HS1.out)
  go_wp2_with fail
  refine HSA.out.mono ?_
  rintro e w5 ⟨x, ut, hx, rfl, hit, hb5⟩
  obtain rfl := hx.unique K1.out
  dsimp only at hit ⊢
  have HB5 := hid (HB4.out.trans (hb5.mono HB4.out.size))
  have HUB5 := hid (HUB4.out.below hb5)
  have HUA5 := hid (HUA4.out.below hb5)
  have HIT := hid hit
  obtain ⟨ta, tc, rfl, -⟩ := hit.open
  clear hx hit hb5 HSA K1 HUA4 HUB4
  -- the givens and the lemma's statement
  obtain ⟨vvs, hV5⟩ := HGG.out.below HB5.out
  have hvl := hV5.2.1
  have hrow := hV5.1
  unfold Vals at hrow
  rw [hvl] at hrow
  have hb0 : Below w5.heap.size w5 (w5.alloc (.cells #[] 34)) := (Below.refl _ _).alloc (Nat.le_refl _) _
  have HR := hid (hrow.below hb0)
  have HOWN := hid (World.ownsRow_lit (base := w5.heap.size) (e := 34) (size := 1) w5 #[] 0 (Nat.le_refl _) (by simp [maxLen]) rfl)
  have HB0 := hid hb0
  have HV5 := hid hV5
  have H1 := hid (terms_one7 hV5)
  have HVL := hid hvl
  clear hb0 hvl hrow hV5
  go_wp2_with (first
    | (at_builtin; refine wpList_append_row rfl _ _ 24 rfl w5.heap.size 34 el_term Tryz.underlying24 rfl (by decide) _ 0 [] rfl HOWN.out _ g.length vvs rfl HR.out H1.out (by omega) (by omega) (by simp) ?_; intro v6 w6 hown6 hgrow6 _; have HB6 := hid (HB0.out.grown hgrow6 (by simp) (fun q hq => by cases hq; exact Nat.le_refl _)); have HO6 := hid (show w6.ownsRow w5.heap.size 34 1 v6 g.length vvs by simpa using hown6); clear hown6 hgrow6)
    | (at_builtin; refine wpList_append_row rfl _ _ 24 rfl w5.heap.size 34 el_term Tryz.underlying24 rfl (by decide) _ _ _ rfl (HO6.out.alloc (.cells #[.slice ta T.length tc] 34)) _ 1 [.slice ta T.length tc] rfl (row_one_new _ _ _) (oneCell_one rfl) (by omega) (by omega) (HB6.out.alloc HB6.out.size _).size ?_; intro v7 w7 hown7 hgrow7 _))
  have hb7 := (HB6.out.alloc HB6.out.size (.cells #[.slice ta T.length tc] 34)).grown hgrow7 (HB6.out.alloc HB6.out.size _).size (fun q hq => (HO6.out.lt q hq).1)
  have HT7 := hid (terms_snoc7 HV5.out HIT.out hb7 hown7 rfl (by omega))
  have HB7 := hid (HB5.out.trans (hb7.mono HB5.out.size))
  have HUA7 := hid (HUA5.out.below hb7)
  have HUB7 := hid (HUB5.out.below hb7)
  clear hb7 hown7 hgrow7 HO6 HB6 HB0 HV5 H1 HVL HR HOWN HIT HUA5 HUB5
  have HSB := hid (kernel_Says vs v7 _ s (g ++ [T]) LB w7 (HSG.out.below HB7.out) HT7.out HUB7.out HS1.out)
  refine HSB.out.mono ?_
  rintro e w8 ⟨x, uu, hx, rfl, hiu, hb8⟩
  obtain rfl := hx.unique K2.out
  dsimp only at hiu ⊢
  have HB8 := hid (HB7.out.trans (hb8.mono HB7.out.size))
  have HUA8 := hid (HUA7.out.below hb8)
  have HUB8 := hid (HUB7.out.below hb8)
  have HIU := hid hiu
  obtain ⟨xa, xc, rfl, -⟩ := hiu.open
  clear hx hiu hb8 HSB K2 HUA7 HUB7 HT7
  have HSC := hid (kernel_Says vs _ _ s g p w8 (HSG.out.below HB8.out) (HGG.out.below HB8.out) (HPP.out.below HB8.out) HS1.out)
  go_wp2_with fail
  refine HSC.out.mono ?_
  rintro e w9 ⟨x, uv, hx, rfl, hiv, hb9⟩
  obtain rfl := hx.unique K3.out
  dsimp only at hiv ⊢
  have HB9 := hid (HB8.out.trans (hb9.mono HB8.out.size))
  have HUA9 := hid (HUA8.out.below hb9)
  have HUB9 := hid (HUB8.out.below hb9)
  have HIU9 := hid (HIU.out.below hb9)
  have HIV := hid hiv
  obtain ⟨ya, yc, rfl, -⟩ := hiv.open
  clear hx hiv hb9 HSC K3 HUA8 HUB8 HIU
  have HIN := hid (short_Inlined (g.length : Int) _ _ LA LB w9 HUA9.out HUB9.out)
  go_wp2_with fail
  refine HIN.out.mono ?_
  rintro e wa ⟨ubk, rfl, hbk, hba⟩
  have HBa := hid (HB9.out.trans (hba.mono HB9.out.size))
  have HIUa := hid (HIU9.out.below hba)
  have HIVa := hid (HIV.out.below hba)
  have hE := K56.out
  obtain ⟨E, hEE⟩ : ∃ E, inlE g.length LA LB = E := ⟨_, rfl⟩
  rw [hEE] at hbk hE ⊢
  obtain ⟨BK, hBK⟩ : ∃ B, (if E = 0 then inlL g.length LA LB else []) = B := ⟨_, rfl⟩
  rw [hBK] at hbk
  have HBK := hid hBK
  have HE := hid hE
  have HPK := hid hbk
  obtain ⟨ka, kc, rfl, -⟩ := hbk.open
  clear hbk hba HIN HIU9 HIV HUA9 HUB9 hEE hE hBK K56
  have HSD := hid (kernel_Says vs _ _ s g BK wa (HSG.out.below HBa.out) (HGG.out.below HBa.out) HPK.out HS1.out)
  go_wp2_with fail
  refine HSD.out.mono ?_
  rintro e wb ⟨x, uw, hx, rfl, hiw, hbb⟩
  have HBb := hid (HBa.out.trans (hbb.mono HBa.out.size))
  have HIUb := hid (HIUa.out.below hbb)
  have HIVb := hid (HIVa.out.below hbb)
  have HX := hid hx
  have HIW := hid hiw
  obtain ⟨wa', wc, rfl, -⟩ := hiw.open
  clear hx hiw hbb HSD HPK
  have HS5 := hid (fun (X : World) (hX : Below wb.heap.size wb X) => ref6_SameTerm _ _ V V X (HIUb.out.below hX) (HIVb.out.below hX))
  rw [decide_eq_true (rfl : V = V)] at HS5
  by_cases hbig : 60 < (inlL g.length LA LB).length
  · obtain rfl : E = 4 := by rw [HE.out, if_pos hbig]
    obtain ⟨x1, x2⟩ := x
    dsimp only
    obtain ⟨XL, hXL⟩ : ∃ n, x1.length = n := ⟨_, rfl⟩
    rw [hXL]
    clear HX HIW HBK HE hbig K4 hXL
    go_wp2_with fail
    refine (HS5.out wb (Below.refl _ _)).mono ?_
    rintro e wc ⟨rfl, n1, hwc⟩
    have HBc := hid (HBb.out.trans ((show Below wb.heap.size wb wc from hwc ▸ below_self_drewN _ _).mono HBb.out.size))
    clear hwc
    go_wp2
    go_ret
    exact ⟨rfl, HBc.out⟩
  · obtain rfl : E = 0 := by rw [HE.out, if_neg hbig]
    have hbk := HBK.out
    rw [if_pos rfl] at hbk
    have h4 := K4.out (by omega)
    rw [hbk] at h4
    obtain rfl := HX.out.unique h4
    dsimp only at HIW ⊢
    clear HX HBK HE hbig K4 hbk h4
    go_wp2_with fail
    refine (HS5.out wb (Below.refl _ _)).mono ?_
    rintro e wc ⟨rfl, n1, hwc⟩
    have hbc : Below wb.heap.size wb wc := hwc ▸ below_self_drewN _ _
    have HBc := hid hbc
    have HS6 := hid (ref6_SameTerm _ _ V V wc (HIW.out.below hbc) (HIVb.out.below hbc))
    rw [decide_eq_true (rfl : V = V)] at HS6
    clear hwc hbc
    go_wp2_with fail
    refine HS6.out.mono ?_
    rintro e wd ⟨rfl, n2, hwd⟩
    have HBd := hid (HBb.out.trans ((show Below wb.heap.size wb wd from hwd ▸ below_drewN HBc.out n2).mono HBb.out.size))
    clear hwd
    go_wp2
    go_ret
    exact ⟨rfl, HBd.out⟩
end Go.Proofs.YtmpjaakkjhmpmaaGreatDoor
