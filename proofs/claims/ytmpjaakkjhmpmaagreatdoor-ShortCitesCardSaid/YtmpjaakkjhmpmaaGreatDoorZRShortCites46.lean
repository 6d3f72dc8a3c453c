/-
  WHAT IT HOLDS: contracts of the helpers cite, detach, heavy and awake of the laws of layer 7. Conditions: the arguments read as data; awake: the library's table of powers of ten stands as it is written.
  WHAT IT HOLDS: the contract of Citing of the reference of layer 7. Conditions: the arguments read as data; a small sign.
  WHAT IT HOLDS: the walk of the law ShortCites: it returns true. Conditions: the arguments read as data; the library's table of powers of ten stands as it is written.
-/
import Derived.Test.YtmpjaakkjhmpmaaGreatDoorZRShortCites43
import Derived.Test.YtmpjaakkjhmpmaaGreatDoorZRShortCites21
import Derived.Test.YtmpjaakkjhmpmaaGreatDoorZRShortCites0
import Derived.Test.YtmpjaakkjhmpmaaGreatDoorZRShortCites44
import Derived.Test.YtmpjaakkjhmpmaaGreatDoorZRShortCites45
import Derived.Test.YtmpjaakkjhmpmaaGreatDoorZRShortCites35
namespace Go.Proofs.YtmpjaakkjhmpmaaGreatDoor
open Go Go.RowKit Go.Maps
theorem ints7 (w : World) (l : List Int) (T : TypeId) {arr : Array Value} {n : Nat} (h : arr = (l.map (Value.int .i64)).toArray := by rfl) (hn : n = l.length := by rfl) (hl : l.length ≤ 1000 := by decide) : Ints (w.alloc (.cells arr T)) (.slice (some ⟨w.heap.size, 0, none⟩) n n) l := by
  subst h hn
  have r := World.ownsRow_lit (base := 0) (e := T) (size := 1) w (l.map (Value.int .i64)).toArray l.length (by omega) (by simp [maxLen]; omega) (by simp)
  simp only [List.toList_toArray] at r
  exact Ints.of_owns r (by omega)
theorem sign7 (w : World) (T : TypeId) : SignAt (w.alloc (.cells #[.string ⟨#[67]⟩, .int .i64 2] T)) (.slice (some ⟨w.heap.size, 0, none⟩) 1 1) sC7 := by
  have r1 := World.ownsRow_lit (base := 0) (e := T) (size := 2) w #[.string ⟨#[67]⟩, .int .i64 2] 1 (by omega) (by simp [maxLen]) rfl
  refine ⟨RowK.of_owns r1 (by simp [sC7]), ?_⟩
  intro x hx
  simp [sC7] at hx
  subst hx
  simp [ByteArray.size]
theorem steps7 (w : World) (l : List St) (T : TypeId) {cs : Array Value} {n : Nat} (hc : cs = (stC l).toArray := by rfl) (hn : n = l.length := by rfl) (hl : l.length ≤ 1000 := by decide) : StepsAt (w.alloc (.cells cs T)) (.slice (some ⟨w.heap.size, 0, none⟩) n n) l := by
  subst hc hn
  refine ⟨stC_len l, _, _, rfl, Nat.le_refl _, by omega, (fun h => by cases h), fun j u hj => ⟨_, _, rfl, ?_⟩⟩
  rw [Nat.zero_add, World.cell?_alloc_new]
  simpa using hj
theorem law7_cite (n : Int) (w : World) :
    Calls Tryz.prog 54 #[.int .i64 n] w fun e w' => e = .returned (.agg #[.int .i64 1, .int .i64 n, .int .i64 0]) ∧ Below w.heap.size w w' := by
  go_enter Tryz.func54, Tryz.ntmps54
  go_wp2
  (try simp only [Exit.inBlock, Exit.then])
  refine bodyPost_ret (v := .agg #[.int .i64 1, .int .i64 n, .int .i64 0]) ?_ rfl ?_
  · simp only [results, Tryz.results54]
    go_simp
  · exact ⟨rfl, (Below.refl _ _).alloc (Nat.le_refl _) _⟩
theorem law7_detach (n m : Int) (w : World) :
    Calls Tryz.prog 55 #[.int .i64 n, .int .i64 m] w fun e w' => e = .returned (.agg #[.int .i64 2, .int .i64 n, .int .i64 m]) ∧ Below w.heap.size w w' := by
  go_enter Tryz.func55, Tryz.ntmps55
  go_wp2
  (try simp only [Exit.inBlock, Exit.then])
  refine bodyPost_ret (v := .agg #[.int .i64 2, .int .i64 n, .int .i64 m]) ?_ rfl ?_
  · simp only [results, Tryz.results55]
    go_simp
  · exact ⟨rfl, (Below.refl _ _).alloc (Nat.le_refl _) _⟩
def Hv7 (s : Sg) (g : List (List Int)) (p : List St) (w : World) (e : Ending) (w' : World) : Prop := ∃ z, e = .returned (.bool z) ∧ (z = false → s.length ≤ 20 ∧ g.length ≤ 100 ∧ p.length ≤ 100 ∧ ∀ t ∈ g, t.length ≤ 100) ∧ Below w.heap.size w w'
theorem Hv7.yes {s : Sg} {g : List (List Int)} {p : List St} {w w' : World} (h : Below w.heap.size w w') : Hv7 s g p w (.returned (.bool true)) w' := ⟨true, rfl, (fun h => by cases h), h⟩
set_option maxHeartbeats 2000000 in
theorem law7_heavy (vs vg vp : Value) (s : Sg) (g : List (List Int)) (p : List St) (w : World) (hs : SignAt w vs s) (hg : Terms w vg g) (hp : StepsAt w vp p) :
    Calls Tryz.prog 11 #[vs, vg, vp] w fun e w' => Hv7 s g p w e w' := by
  obtain ⟨sa, sc, rfl, -, hsl, -⟩ := hs.open
  obtain ⟨pa, pc, rfl, -, hpl, -, -⟩ := hp.open
  obtain ⟨ga, gc, rfl, -, hgl, -, HC⟩ := hg.open
  have HC' := hid HC
  clear HC hg hs hp
  by_cases h1 : 20 < s.length
  · have q1 : (s.length : Int) > 20 := by omega
    go_enter Tryz.func11, Tryz.ntmps11
    go_wp2
    go_ret
    exact Hv7.yes (Below.refl _ _)
  have q1 : ¬ (s.length : Int) > 20 := by omega
  have HS20 : Hid (s.length ≤ 20) := hid (by omega)
  by_cases h0 : 100 < g.length
  · have q0 : (g.length : Int) > 100 := by omega
    go_enter Tryz.func11, Tryz.ntmps11
    go_wp2
    go_ret
    exact Hv7.yes (Below.refl _ _)
  have q0 : ¬ (g.length : Int) > 100 := by omega
  have HG20 : Hid (g.length ≤ 100) := hid (by omega)
  by_cases h2 : 14 < p.length ∧ p.length ≤ 60
  · have q2 : (p.length : Int) > 14 := by omega
    have q3 : (p.length : Int) ≤ 60 := by omega
    go_enter Tryz.func11, Tryz.ntmps11
    go_wp2
    go_ret
    exact Hv7.yes (Below.refl _ _)
  by_cases h3 : 100 < p.length
  · have q2 : (p.length : Int) > 14 := by omega
    have q3 : ¬ (p.length : Int) ≤ 60 := by omega
    have q4 : (p.length : Int) > 100 := by omega
    go_enter Tryz.func11, Tryz.ntmps11
    go_wp2
    go_ret
    exact Hv7.yes (Below.refl _ _)
  have q4 : ¬ (p.length : Int) > 100 := by omega
  have HL100 : Hid (p.length ≤ 100) := hid (by omega)
  have hq : ¬ ((p.length : Int) > 14) ∨ ((p.length : Int) > 14 ∧ ¬ (p.length : Int) ≤ 60) := by omega
  clear h1 h2 h3 h0
  rcases hq with q2 | ⟨q2, q3⟩
  all_goals
    go_enter Tryz.func11, Tryz.ntmps11
    go_wp2
    go_loopw [7] (fun kv wr => ∃ k : Nat, k ≤ g.length ∧ kv = .int .i64 k ∧ wr = w ∧ ∀ j (hj : j < g.length), j < k → g[j].length ≤ 100) (fun kv _ => g.length - (intOf kv).toNat)
    case atStart => exact ⟨0, by omega, rfl, rfl, fun j _ h => by omega⟩
    case round =>
      obtain ⟨k, hk, rfl, rfl, hall⟩ := hrel
      have HALL := hid hall
      clear hall
      by_cases hlt : k < g.length
      · obtain ⟨b, o, u, rfl, c0, hu⟩ := HC'.out k hlt
        obtain ⟨xa, xc, rfl, -, hxl, -, -⟩ := hu.open
        have HX := hid (show g[k].length = g[k].length from rfl)
        obtain ⟨x, hx⟩ : ∃ x, g[k].length = x := ⟨_, rfl⟩
        have HXX := hid hx
        rw [hx] at c0 hxl
        clear hx hu HX
        by_cases e1 : (x : Int) > 100
        · go_wp2
          go_ret
          exact Hv7.yes (Below.refl _ _)
        · go_wp2
          go_roundw
          case rel =>
            refine ⟨k + 1, by omega, by go_num, by first | rfl | trivial, fun j hj hjk => ?_⟩
            by_cases hjj : j = k
            · subst hjj; rw [HXX.out]; omega
            · exact HALL.out j hj (by omega)
          case measure => simp [intOf]; omega
      · have hkl : k = g.length := by omega
        subst hkl
        go_wp2
        go_ret
        refine ⟨false, rfl, fun _ => ⟨HS20.out, HG20.out, HL100.out, fun t ht => ?_⟩, Below.refl _ _⟩
        obtain ⟨i, hi, rfl⟩ := List.getElem_of_mem ht
        exact HALL.out i hi hi
set_option maxHeartbeats 8000000 in
set_option maxRecDepth 100000 in
theorem law7_awake (w : World) (htab : Tab w) :
    Calls Tryz.prog 10 #[] w fun e w' => e = .returned (.bool true) ∧ Below w.heap.size w w' := by
  have HTAB := hid htab
  clear htab
  go_enter Tryz.func10, Tryz.ntmps10
  go_wp2_with fail
  have q1 := sign7 w 72
  obtain ⟨W1, hW1⟩ : ∃ W1, w.alloc (.cells #[.string ⟨#[67]⟩, .int .i64 2] 72) = W1 := ⟨_, rfl⟩
  have b1 : Below w.heap.size w W1 := hW1 ▸ (Below.refl _ _).alloc (Nat.le_refl _) _
  have z1 : W1.heap.size = w.heap.size + 1 := by rw [← hW1]; simp
  rw [hW1] at q1 ⊢
  have q2 := ints7 W1 g70 3
  obtain ⟨W2, hW2⟩ : ∃ W2, W1.alloc (.cells #[.int .i64 0, .int .i64 (-1), .int .i64 0, .int .i64 (-2), .int .i64 (-1)] 3) = W2 := ⟨_, rfl⟩
  have b2 : Below W1.heap.size W1 W2 := hW2 ▸ (Below.refl _ _).alloc (Nat.le_refl _) _
  have z2 : W2.heap.size = w.heap.size + 1 + 1 := by rw [← hW2]; simp [z1]
  have q2' : Ints W2 (.slice (some ⟨w.heap.size + 1, 0, none⟩) 5 5) g70 := by rw [← hW2, ← z1]; exact q2
  rw [hW2]
  have q3 := ints7 W2 g71 3
  obtain ⟨W3, hW3⟩ : ∃ W3, W2.alloc (.cells #[.int .i64 0, .int .i64 0, .int .i64 (-1), .int .i64 0, .int .i64 (-2), .int .i64 (-3), .int .i64 0, .int .i64 0, .int .i64 (-1), .int .i64 (-2), .int .i64 0, .int .i64 (-1), .int .i64 (-3)] 3) = W3 := ⟨_, rfl⟩
  have b3 : Below W2.heap.size W2 W3 := hW3 ▸ (Below.refl _ _).alloc (Nat.le_refl _) _
  have z3 : W3.heap.size = w.heap.size + 1 + 1 + 1 := by rw [← hW3]; simp [z2]
  have q3' : Ints W3 (.slice (some ⟨w.heap.size + 1 + 1, 0, none⟩) 13 13) g71 := by rw [← hW3, ← z2]; exact q3
  rw [hW3]
  have q4 := litT2 (q2'.below b3) q3' 34
  obtain ⟨W4, hW4⟩ : ∃ W4, W3.alloc (.cells #[.slice (some ⟨w.heap.size + 1, 0, none⟩) 5 5, .slice (some ⟨w.heap.size + 1 + 1, 0, none⟩) 13 13] 34) = W4 := ⟨_, rfl⟩
  have b4 : Below W3.heap.size W3 W4 := hW4 ▸ (Below.refl _ _).alloc (Nat.le_refl _) _
  rw [hW4] at q4
  rw [z3] at q4
  rw [hW4]
  have b24 : Below W2.heap.size W2 W4 := b3.trans (b4.mono b3.size)
  have b14 : Below W1.heap.size W1 W4 := b2.trans (b24.mono b2.size)
  have b04 : Below w.heap.size w W4 := b1.trans (b14.mono b1.size)
  have HS := hid (q1.below b14)
  have HG := hid q4
  have HB4 := hid b04
  clear q1 q2 q2' q3 q3' q4 b1 b2 b3 b4 b24 b14 b04 z1 z2 z3 hW1 hW2 hW3 hW4
  have HCI := hid (fun (n : Int) (B : World) (X : World) (hX : Below B.heap.size B X) => chainL hX (law7_cite n X))
  have HDE := hid (fun (n m : Int) (B : World) (X : World) (hX : Below B.heap.size B X) => chainL hX (law7_detach n m X))
  have hbA : Below W4.heap.size W4 W4 := Below.refl _ _
  refine (HCI.out 1 W4 W4 hbA).mono ?_
  rintro e wA ⟨rfl, hbA⟩
  go_wp2_with (first
    | (go_at_call 54; refine (HCI.out _ W4 _ hbA).mono ?_; rintro e wA ⟨rfl, hbA⟩)
    | (go_at_call 55; refine (HDE.out _ _ W4 _ hbA).mono ?_; rintro e wA ⟨rfl, hbA⟩))
  have qp := steps7 wA p7 57
  have hbP : Below W4.heap.size W4 (wA.alloc (.cells #[.int .i64 1, .int .i64 1, .int .i64 0, .int .i64 1, .int .i64 0, .int .i64 0, .int .i64 1, .int .i64 0, .int .i64 0, .int .i64 2, .int .i64 0, .int .i64 1, .int .i64 2, .int .i64 3, .int .i64 2] 57)) := hbA.alloc hbA.size _
  have hbW := HB4.out.trans (hbP.mono HB4.out.size)
  have HME := hid (short_Merged _ _ _ sC7 [g70, g71] p7 _ (HS.out.below hbP) (HG.out.below hbP) qp (by simp [sC7]) (HTAB.out.below hbW))
  have HBW := hid hbW
  clear qp hbP hbW hbA
  refine HME.out.mono ?_
  rintro e w5 ⟨u, l, er, rfl, hq, hu, hb5⟩
  obtain ⟨rfl, rfl⟩ := hq.unique said7
  rw [if_pos rfl, mrg7] at hu
  have HB5 := hid (HBW.out.trans (hb5.mono HBW.out.size))
  have HU := hid hu
  obtain ⟨ua, uc, rfl, huc, -⟩ := hu.open
  have e4 : q7.length = 4 := rfl
  rw [e4] at HU huc
  simp only [e4]
  clear hq hu hb5 HME e4
  have HTI := hid (short_Times 2 _ q7 w5 HU.out)
  go_wp2_with fail
  refine HTI.out.mono ?_
  rintro e w6 ⟨ut, rfl, hut, hb6⟩
  rw [timE7, if_pos rfl, tim7] at hut
  rw [timE7]
  have HB6 := hid (HB5.out.trans (hb6.mono HB5.out.size))
  have HU6 := hid (HU.out.below hb6)
  have HUT := hid hut
  obtain ⟨ta, tc, rfl, -⟩ := hut.open
  clear hut hb6 HTI
  have HCU := hid (short_Cut 2 _ q7 2 w6 HU6.out)
  go_wp2_with fail
  refine HCU.out.mono ?_
  rintro e w7 ⟨ul, ur, rfl, hul, hur, hb7⟩
  have e2 : (2 : Int).toNat = 2 := rfl
  rw [cutE7, if_pos rfl, e2, cutA7] at hul
  rw [cutE7, if_pos rfl, e2, cutB7] at hur
  rw [cutE7]
  have HB7 := hid (HB6.out.trans (hb7.mono HB6.out.size))
  have HU7 := hid (HU6.out.below hb7)
  have HUT7 := hid (HUT.out.below hb7)
  have HUL := hid hul
  have HUR := hid hur
  obtain ⟨la, lc, rfl, -⟩ := hul.open
  obtain ⟨ra, rc, rfl, -⟩ := hur.open
  have e3 : (q7.take 3).length = 3 := rfl
  have er3 : r7.length = 3 := rfl
  rw [e3] at HUL
  rw [er3] at HUR
  simp only [e3, er3]
  clear hul hur hb7 HCU e2 e3 er3
  have y1 : 3 ≤ uc := by omega
  have y2 : (3 : Int) ≤ (uc : Int) := by omega
  have hbA : Below w7.heap.size w7 w7 := Below.refl _ _
  go_wp2_with (first
    | (go_at_call 54; refine (HCI.out _ w7 _ hbA).mono ?_; rintro e wB ⟨rfl, hbA⟩)
    | (go_at_call 55; refine (HDE.out _ _ w7 _ hbA).mono ?_; rintro e wB ⟨rfl, hbA⟩))
  have hq := steps7 wB q7 57
  have hb8 : Below w7.heap.size w7 (wB.alloc (.cells #[.int .i64 1, .int .i64 1, .int .i64 0, .int .i64 1, .int .i64 0, .int .i64 0, .int .i64 2, .int .i64 0, .int .i64 1, .int .i64 2, .int .i64 2, .int .i64 1] 57)) := hbA.alloc hbA.size _
  have HS1 := hid (ref6_SameProof _ _ q7 q7 _ (HU7.out.below hb8) hq)
  rw [decide_eq_true (rfl : q7 = q7)] at HS1
  have HB8 := hid hb8
  clear hq hb8 hbA
  refine HS1.out.mono ?_
  rintro e w9 ⟨rfl, n9, hw9⟩
  have HB9 := hid (show Below w7.heap.size w7 w9 from hw9 ▸ below_drewN HB8.out n9)
  clear hw9 HS1 HB8
  go_wp2_with fail
  have hi := ints7 w9 [1, 2, 1, 1] 3
  have hbi : Below w7.heap.size w7 (w9.alloc (.cells #[.int .i64 1, .int .i64 2, .int .i64 1, .int .i64 1] 3)) := HB9.out.alloc HB9.out.size _
  have HS2 := hid (ref6_SameInts _ _ [1, 2, 1, 1] [1, 2, 1, 1] _ (HUT7.out.below hbi) hi)
  rw [decide_eq_true (rfl : ([1, 2, 1, 1] : List Int) = [1, 2, 1, 1])] at HS2
  have HBI := hid hbi
  clear hi hbi
  refine HS2.out.mono ?_
  rintro e wC ⟨rfl, n10, hw10⟩
  have HBC := hid (show Below w7.heap.size w7 wC from hw10 ▸ below_drewN HBI.out n10)
  clear hw10 HS2 HBI
  have HT3 := hid (StepsAt.take HU7.out 3 (by decide))
  have HS3 := hid (ref6_SameProof _ _ (q7.take 3) (q7.take 3) wC (HUL.out.below HBC.out) (HT3.out.below HBC.out))
  rw [decide_eq_true (rfl : q7.take 3 = q7.take 3)] at HS3
  go_wp2_with fail
  refine HS3.out.mono ?_
  rintro e wD ⟨rfl, n11, hw11⟩
  have HBD := hid (show Below w7.heap.size w7 wD from hw11 ▸ below_drewN HBC.out n11)
  have hbA := HBD.out
  clear hw11 HS3
  go_wp2_with (first
    | (go_at_call 54; refine (HCI.out _ w7 _ hbA).mono ?_; rintro e wE ⟨rfl, hbA⟩)
    | (go_at_call 55; refine (HDE.out _ _ w7 _ hbA).mono ?_; rintro e wE ⟨rfl, hbA⟩))
  have hr := steps7 wE r7 57
  have hbr : Below w7.heap.size w7 (wE.alloc (.cells #[.int .i64 1, .int .i64 0, .int .i64 0, .int .i64 1, .int .i64 2, .int .i64 0, .int .i64 2, .int .i64 1, .int .i64 0] 57)) := hbA.alloc hbA.size _
  have HS4 := hid (ref6_SameProof _ _ r7 r7 _ (HUR.out.below hbr) hr)
  rw [decide_eq_true (rfl : r7 = r7)] at HS4
  have HBR := hid hbr
  clear hr hbr hbA
  refine HS4.out.mono ?_
  rintro e wF ⟨rfl, n12, hw12⟩
  have HBF := hid (HB7.out.trans ((show Below w7.heap.size w7 wF from hw12 ▸ below_drewN HBR.out n12).mono HB7.out.size))
  clear hw12 HS4
  go_wp2
  go_ret
  exact ⟨rfl, HBF.out⟩
end Go.Proofs.YtmpjaakkjhmpmaaGreatDoor
namespace Go.Proofs.YtmpjaakkjhmpmaaGreatDoor
open Go Go.RowKit Go.Maps
theorem CiR.asked {s : Sg} {g : List (List Int)} {p : List St} {k : Nat} {o : List St} {l : List (List Int)} {x : St} (ha : askedB s g p = true) (h : CiR s g p k o l) (hx : p[k]? = some x) : askedB s g (o ++ [x]) = true := by
  obtain ⟨hg, hp⟩ := asked_parts ha
  have h60 := proof60 hp
  obtain ⟨hk, hkx⟩ := List.getElem?_eq_some_iff.1 hx
  have hl := h.len
  refine asked_of hg ?_
  rw [proofB_all fun j hj => ?_]
  · exact inB_true.2 (by rw [List.length_append]; simp; omega)
  · by_cases e : j < o.length
    · rw [List.getElem_append_left e]; exact h.right hp j e
    · have e2 : j = o.length := by simp at hj; omega
      subst e2
      rw [List.getElem_append_right (Nat.le_refl _)]
      simp only [Nat.sub_self, List.getElem_cons_zero]
      have := proofB_at hp hk
      rw [hkx] at this
      rw [hl.1]; exact this
/-- what the steps say of which the last one is the old one. -/
theorem CiR.step {s : Sg} {g : List (List Int)} {p : List St} {k : Nat} {o : List St} {l l' : List (List Int)} {x : St} {n er : Int} (ha : askedB s g p = true) (h : CiR s g p k o l) (hx : p[k]? = some x) (hr : RunQ s g (o ++ [x]) l' n er) :
    (er = 0 ∧ ∃ t, l' = l ++ [t] ∧ ((x.1 = 1 ∧ t = canonL (g.getD x.2.1.toNat [])) ∨ (x.1 ≠ 1 ∧ DetR s (l.getD x.2.1.toNat []) (l.getD x.2.2.toNat []) (t, 0)))) ∨
      (er ≠ 0 ∧ x.1 ≠ 1 ∧ ∃ y, DetR s (l.getD x.2.1.toNat []) (l.getD x.2.2.toNat []) y ∧ y.2 ≠ 0) := by
  have hl := h.len
  have hro := h.run
  rcases hr with ⟨h1, -⟩ | ⟨-, hr, -⟩
  · rw [h.asked ha hx] at h1; cases h1
  by_cases c1 : x.1 = 1
  · have h2 := run_add hro (x := x) (t := canonL (g.getD x.2.1.toNat [])) (by unfold sayR; rw [if_pos c1])
    obtain ⟨e1, e2⟩ := hr.unique h2
    exact Or.inl ⟨e2, _, e1, Or.inl ⟨c1, rfl⟩⟩
  · rcases hr.2 with ⟨rfl, hlen⟩ | ⟨h0, hlen, st, t, h3, h4⟩
    · have hlen2 : l'.length = k + 1 := by rw [hlen, List.length_append, hl.1]; rfl
      have ht := run_take hr (k := k) (by rw [List.length_append]; omega)
      rw [List.take_append_of_le_length (by omega), List.take_of_length_le (by omega)] at ht
      obtain ⟨e1, -⟩ := ht.unique hro
      have hk' : k < l'.length := by omega
      obtain ⟨st, h1, h2⟩ := hr.1 k l'[k] (List.getElem?_eq_getElem hk')
      rw [List.getElem?_append_right (by omega), hl.1, Nat.sub_self] at h1
      obtain rfl : x = st := by simpa using h1
      rw [e1] at h2
      unfold sayR at h2
      rw [if_neg c1] at h2
      refine Or.inl ⟨rfl, l'[k], ?_, Or.inr ⟨c1, h2⟩⟩
      have h6 := List.take_succ_eq_append_getElem (l := l') (i := k) hk'
      rw [List.take_of_length_le (by omega), e1] at h6
      exact h6
    · by_cases hj : l'.length < k
      · have h5 : RunR s g o l' er := ⟨fun i u hi => by
          obtain ⟨st', a1, a2⟩ := hr.1 i u hi
          have := (List.getElem?_eq_some_iff.1 hi).1
          exact ⟨st', by rw [List.getElem?_append_left (by omega)] at a1; exact a1, a2⟩, Or.inr ⟨h0, by omega, st, t, by rw [List.getElem?_append_left (by omega)] at h3; exact h3, h4⟩⟩
        exact absurd (h5.unique hro).2 h0
      · have hk : l'.length = k := by rw [List.length_append] at hlen; simp at hlen; omega
        have h5 : RunR s g o l' 0 := ⟨fun i u hi => by
          obtain ⟨st', a1, a2⟩ := hr.1 i u hi
          have := (List.getElem?_eq_some_iff.1 hi).1
          exact ⟨st', by rw [List.getElem?_append_left (by omega)] at a1; exact a1, a2⟩, Or.inl ⟨rfl, by omega⟩⟩
        obtain ⟨rfl, -⟩ := h5.unique hro
        rw [hk, List.getElem?_append_right (by omega), hl.1, Nat.sub_self] at h3
        obtain rfl : x = st := by simpa using h3
        unfold sayR at h4
        rw [if_neg c1] at h4
        exact Or.inr ⟨h0, c1, (t, er), h4, h0⟩
theorem cit_take {o p : List St} {k : Nat} (ho : o.length = k) (hk : k < p.length) : (o ++ p.drop k).take (k + 1) = o ++ [p[k]] := by
  rw [List.take_append, ho, List.take_of_length_le (by omega), Nat.add_sub_cancel_left, List.drop_eq_getElem_cons hk, List.take_succ_cons, List.take_zero]
set_option maxHeartbeats 8000000 in
set_option maxRecDepth 100000 in
theorem ref7_Citing (vs vg vp : Value) (s : Sg) (g : List (List Int)) (p : List St) (w : World) (hs : SignAt w vs s) (hg : Terms w vg g) (hp : StepsAt w vp p) (hs1 : s.length ≤ 1000) :
    Calls Tryz.prog 42 #[vs, vg, vp] w fun e w' => ∃ u o er, e = .returned (.tuple #[u, .int .i64 er]) ∧ CitQ s g p o er ∧ StepsAt w' u o ∧ Below w.heap.size w w' := by
  have HSD := hid (ref7_run vs vg vp s g p w hs hg hp hs1)
  have HSG := hid hs
  have HGG := hid hg
  have HPP := hid hp
  obtain ⟨ga, gc, rfl, -⟩ := hg.open
  obtain ⟨pa, pc, rfl, -⟩ := hp.open
  clear hs hg hp
  go_enter Tryz.func42, Tryz.ntmps42
  go_wp2_with fail
  refine HSD.out.mono ?_
  rintro e w1 ⟨u1, lp, er, rfl, hq, hT, hb1⟩
  obtain ⟨ua, uc, rfl, -⟩ := hT.open
  have HB1 := hid hb1
  have HQ := hid hq
  clear hT hb1 HSD
  by_cases h0 : er = 0
  rotate_left
  · have n0 : (er != 0) = true := by simpa using h0
    have HN := hid h0
    clear h0 hq
    go_wp2
    go_ret2
    exact ⟨_, [], er, rfl, ⟨lp, er, HQ.out, Or.inl ⟨HN.out, rfl, rfl⟩⟩, StepsAt.nil _, HB1.out⟩
  subst h0
  have hgd := hq.good
  obtain ⟨hgv, hpv⟩ := asked_parts hgd.1
  have hp60 := proof60 hpv
  have hp1 := proof1 hpv
  have hg60 : g.length ≤ 60 := by unfold givensB at hgv; rw [Bool.and_eq_true, Bool.and_eq_true, decide_eq_true_eq] at hgv; omega
  have HST := hid (fun (k : Nat) (hk : k < p.length) => right_step (proofB_at hpv hk))
  have HASK := hid hgd.1
  clear hgd hgv hpv hq
  have hb0 : Below w1.heap.size w1 (w1.alloc (.cells #[] 57)) := (Below.refl _ _).alloc (Nat.le_refl _) _
  have HR := hid (show RowK (w1.alloc (.cells #[] 57)) (.slice pa p.length pc) 3 p.length (stC p) from (HPP.out.below HB1.out).below hb0)
  have HOWN := hid (World.ownsRow_lit (base := w1.heap.size) (e := 57) (size := 3) w1 #[] 0 (Nat.le_refl _) (by simp [maxLen]) rfl)
  have HB0 := hid hb0
  clear hb0
  go_wp2_with (at_builtin; refine wpList_append_row rfl _ _ 25 rfl w1.heap.size 57 el_step Tryz.underlying25 rfl (by decide) _ 0 [] rfl HOWN.out _ p.length (stC p) rfl HR.out (stC_one p) (by omega) (by omega) (by simp) ?_; intro u5 w5 hown5 hgrow5 _)
  have hown6 : w5.ownsRow w1.heap.size 57 3 u5 p.length (stC p) := by simpa using hown5
  have hb5 := HB0.out.grown hgrow5 (by simp) (fun q hq => by cases hq; exact Nat.le_refl _)
  obtain ⟨c, cap, rfl⟩ : ∃ c cap, u5 = .slice (some ⟨c, 0, none⟩) p.length cap := by
    rcases hown6.2 with ⟨rfl, h⟩ | ⟨c, cap, cur, rfl, -⟩
    · omega
    · exact ⟨c, cap, rfl⟩
  have hc0 : w1.heap.size ≤ c := (hown6.lt c rfl).1
  have hc2 : w.heap.size ≤ c := Nat.le_trans HB1.out.size hc0
  have HO6 := hid hown6
  have HB5 := hid (HB1.out.trans (hb5.mono HB1.out.size))
  clear hown5 hgrow5 hown6 hb5 HR HOWN HB0 hc0
  go_wp2
  go_loopw [11] (fun kv wr => ∃ (k : Nat) (o : List St) (l : List (List Int)), k ≤ p.length ∧ kv = .int .i64 k ∧ CiR s g p k o l ∧ wr.ownsRow w1.heap.size 57 3 (.slice (some ⟨c, 0, none⟩) p.length cap) p.length (stC (o ++ p.drop k)) ∧ Below w.heap.size w wr) (fun kv _ => p.length - (intOf kv).toNat)
  case atStart => exact ⟨0, [], [], by omega, rfl, .zero, HO6.out, HB5.out⟩
  case round =>
    clear HO6 HB5
    obtain ⟨k, o, l, hk, rfl, hC, hown, hb⟩ := hrel
    have hsz := hb.size
    obtain ⟨hol, hll, -⟩ := hC.len
    by_cases hlt : k < p.length
    · have hml := cit_len hol hk
      have hat := cit_at hol hlt
      obtain ⟨g0, -, -⟩ := stC_get (o ++ p.drop k) k (by rw [hml]; exact hlt)
      have hat2 : (o ++ p.drop k)[k]'(by rw [hml]; exact hlt) = p[k] := by rw [List.getElem?_eq_getElem (by rw [hml]; exact hlt)] at hat; exact Option.some.inj hat
      rw [hat2] at g0
      have x0 := hown.cellAt (k * 3) (by omega)
      rw [g0] at x0
      have hst := HST.out k hlt
      have hpk : p[k]? = some p[k] := List.getElem?_eq_getElem hlt
      have hset := fun x => cit_set hol hlt x
      have hsame := cit_same (o := o) hlt
      have hso : StepsAt wr (.slice (some ⟨c, 0, none⟩) p.length cap) (o ++ p.drop k) := by
        have h := RowK.of_owns hown (by omega)
        unfold StepsAt
        rw [hml]
        exact h
      have htk := StepsAt.take hso (k + 1) (by omega)
      rw [cit_take hol hlt] at htk
      have HRUN := hid (ref4_Run vs _ (.slice (some ⟨c, 0, none⟩) (k + 1) cap) s g (o ++ [p[k]]) wr (HSG.out.below hb) (HGG.out.below hb) htk)
      have HSTEP := hid (fun (l' : List (List Int)) (n er : Int) (h : RunQ s g (o ++ [p[k]]) l' n er) => hC.step HASK.out hpk h)
      obtain ⟨x, hxx⟩ : ∃ x, p[k] = x := ⟨_, rfl⟩
      rw [hxx] at x0 hst hpk hsame HRUN HSTEP
      obtain ⟨s1, s2, s3⟩ := x
      dsimp only at x0 hst
      obtain ⟨L, hL⟩ : ∃ L, o ++ p.drop k = L := ⟨_, rfl⟩
      have HSAME := hid (hL.symm.trans hsame)
      have HSET := hid (fun x => hL ▸ hset x)
      rw [hL] at hown
      have HOWN := hid hown
      have HCI := hid hC
      have HPK := hid hpk
      have HB := hid hb
      have HLL := hid hll
      have hkc : k + 1 ≤ cap := by have := hso.open; obtain ⟨_, _, he, hc, -⟩ := this; rw [hml] at hc; simp only [Value.slice.injEq] at he; obtain ⟨-, -, rfl⟩ := he; omega
      have y5 : IntKind.i64.wrap ((k : Int) + 1) = ((k + 1 : Nat) : Int) := by rw [IntWalk.i64_in _ (by omega)]; omega
      clear g0 hat hat2 hml hset hsame hL hxx hpk hC hso htk hown hb
      go_wp2_with fail
      refine HRUN.out.mono ?_
      rintro e w4 ⟨u4, l', n', er, rfl, hq4, hT4, hb4⟩
      have HB4 := hid (HB.out.trans (hb4.mono hsz))
      have HW4 := hid (owns_below HOWN.out hb4)
      have x4 := (hb4.cell (World.block_lt_of_cell? _ _ x0)).trans x0
      have HT4 := hid hT4
      have hres := HSTEP.out _ _ _ hq4
      clear hb4 hq4 HRUN HSTEP x0
      rcases hres with ⟨rfl, t, rfl, hres⟩ | ⟨hne, h1, y, hy, hy0⟩
      rotate_left
      · obtain ⟨ta, tc, rfl, -⟩ := hT4.open
        have n0 : (er != 0) = true := by simpa using hne
        have HR : Hid (CitQ s g p [] 11) := hid ⟨lp, 0, HQ.out, Or.inr ⟨rfl, Or.inr ⟨rfl, rfl, k, o, l, _, y, HCI.out, HPK.out, h1, hy, hy0⟩⟩⟩
        clear hne h1 hy hy0 hT4
        go_wp2
        go_ret2
        exact ⟨_, [], 11, rfl, HR.out, StepsAt.nil _, HB4.out⟩
      rcases hst with ⟨rfl, h1, h2⟩ | ⟨rfl, h1, h2, h3, h4⟩
      · obtain ⟨ta, tc, rfl, -⟩ := hT4.open
        have HCN := hid (CiR.cite HCI.out HPK.out rfl)
        clear hT4 hres
        go_wp2
        go_roundw
        case rel => exact ⟨k + 1, _, _, by omega, by go_num, HCN.out, by rw [← HSAME.out]; exact HW4.out, HB4.out⟩
        case measure => simp [intOf]; omega
      have hd : DetR s (l.getD ((2, s2, s3) : St).2.1.toNat []) (l.getD ((2, s2, s3) : St).2.2.toNat []) (t, 0) := by
        rcases hres with ⟨h, -⟩ | ⟨-, h⟩
        · cases h
        · exact h
      have HCN := hid (CiR.det HCI.out HPK.out (by show (2 : Int) ≠ 1; decide) hd)
      unfold citS citT at HCN
      obtain ⟨ta, tc, he, -, -, -, TC⟩ := hT4.open
      rw [List.length_append, hll] at he
      have he : u4 = .slice ta (k + 1) tc := he
      subst he
      obtain ⟨tb, to, ut, rfl, tcell, hti⟩ := TC k (by simp; omega)
      have e1 : (l ++ [t])[k]'(by simp; omega) = t := by rw [List.getElem_append_right (by omega)]; simp
      rw [e1] at hti
      have HTI := hid hti
      have K := hid (ref7_best vs _ ut s g t w4 (HSG.out.below HB4.out) (HGG.out.below HB4.out) hti hs1 (by omega))
      clear hres hd TC hT4 e1 hti
      rcases bestI_cases s g t with hbi | ⟨i, hig, hbi, hob⟩
      · rw [hbi, if_pos (by decide), if_pos (by decide)] at HCN
        rw [hbi] at K
        clear hbi
        go_wp2_with fail
        refine K.out.mono ?_
        rintro e w5 ⟨rfl, hb5⟩
        have HB6 := hid (HB4.out.trans (hb5.mono HB4.out.size))
        have HW6 := hid (owns_below HW4.out hb5)
        clear hb5
        go_wp2
        go_roundw
        case rel => exact ⟨k + 1, _, _, by omega, by go_num, HCN.out, by rw [← HSAME.out]; exact HW6.out, HB6.out⟩
        case measure => simp [intOf]; omega
      · rw [hbi, if_neg (by omega), if_neg (by omega)] at HCN
        rw [hbi] at K
        have hi0 : (0 : Int) ≤ (i : Int) := by omega
        clear hbi hob
        go_wp2_with fail
        refine K.out.mono ?_
        rintro e w5 ⟨rfl, hb5⟩
        have hw6 := owns_below HW4.out hb5
        have hb6 := HB4.out.trans (hb5.mono HB4.out.size)
        obtain ⟨v3, v4, v5, d0, d1, d2, m0, m1, m2, hw7⟩ := row_put7 hw6 (k := k) hlt (.int .i64 1) (.int .i64 (i : Int)) (.int .i64 0)
        rw [stC_set L (1, (i : Int), 0) k, HSET.out] at hw7
        have hb7 := ((hb6.setCell (p := ⟨c, k * 3, none⟩) hc2 (.int .i64 1)).setCell (p := ⟨c, k * 3 + 1, none⟩) hc2 (.int .i64 (i : Int))).setCell (p := ⟨c, k * 3 + 2, none⟩) hc2 (.int .i64 0)
        have HW7 := hid hw7
        have HB7 := hid hb7
        clear hw6 hb6 hw7 hb7 hb5 K
        go_wp2
        go_roundw
        case rel => exact ⟨k + 1, _, _, by omega, by go_num, HCN.out, HW7.out, HB7.out⟩
        case measure => simp [intOf]; omega
    · have hkl : k = p.length := by omega
      subst hkl
      rw [List.drop_length, List.append_nil] at hown
      have HO := hid (show StepsAt wr (.slice (some ⟨c, 0, none⟩) p.length cap) o from by
        have h := RowK.of_owns hown (by omega)
        unfold StepsAt
        rw [hol]
        exact h)
      have HC := hid hC
      have HB := hid hb
      clear hown hC hb
      go_wp2
      go_ret2
      exact ⟨_, o, 0, rfl, ⟨lp, 0, HQ.out, Or.inr ⟨rfl, Or.inl ⟨l, HC.out, rfl⟩⟩⟩, HO.out, HB.out⟩
end Go.Proofs.YtmpjaakkjhmpmaaGreatDoor
namespace Go.Proofs.YtmpjaakkjhmpmaaGreatDoor
open Go Go.RowKit Go.Maps
set_option maxHeartbeats 8000000 in
set_option maxRecDepth 100000 in
theorem walk_ShortCites (vs vg vp : Value) (s : Sg) (g : List (List Int)) (p : List St) (w : World) (hs : SignAt w vs s) (hg : Terms w vg g) (hp : StepsAt w vp p) (htab : Tab w) :
    Calls Tryz.prog 8 #[vs, vg, vp] w fun e w' => e = .returned (.bool true) ∧ Below w.heap.size w w' := by
  have HSG := hid hs
  have HGG := hid hg
  have HPP := hid hp
  have HAW := hid (law7_awake w htab)
  obtain ⟨ga, gc, rfl, -⟩ := hg.open
  obtain ⟨pa, pc, rfl, -⟩ := hp.open
  clear hs hg hp htab
  go_enter Tryz.func8, Tryz.ntmps8
  go_wp2_with fail
  refine HAW.out.mono ?_
  rintro e w1 ⟨rfl, hb1⟩
  go_wp2_with fail
  refine (law7_heavy vs _ _ s g p w1 (HSG.out.below hb1) (HGG.out.below hb1) (HPP.out.below hb1)).mono ?_
  rintro e w2 ⟨z, rfl, hz, hb2'⟩
  have hb2 := hb1.trans (hb2'.mono hb1.size)
  clear hb1 hb2' HAW
  cases z
  case true =>
    clear hz
    go_wp2
    go_ret
    exact ⟨rfl, hb2⟩
  obtain ⟨hs20, hg100, hp100, -⟩ := hz rfl
  clear hz
  have HS1 := hid (show s.length ≤ 1000 by omega)
  have HB2 := hid hb2
  have C1 := hid (short_Citing vs _ _ s g p w2 (HSG.out.below HB2.out) (HGG.out.below HB2.out) (HPP.out.below HB2.out) HS1.out)
  clear hs20 hb2
  go_wp2_with fail
  refine C1.out.mono ?_
  rintro e w3 ⟨ua, o, er, rfl, hq, hua, hb3⟩
  have HB3 := hid (HB2.out.trans (hb3.mono HB2.out.size))
  have HUA := hid hua
  have HQ := hid hq
  obtain ⟨aa, ac, rfl, -⟩ := hua.open
  have C2 := hid (ref7_Citing vs _ _ s g p w3 (HSG.out.below HB3.out) (HGG.out.below HB3.out) (HPP.out.below HB3.out) HS1.out)
  clear hua hq hb3 C1
  go_wp2_with fail
  refine C2.out.mono ?_
  rintro e w4 ⟨ub, o2, er2, rfl, hq2, hub, hb4⟩
  obtain ⟨rfl, rfl⟩ := hq2.unique HQ.out
  have HB4 := hid (HB3.out.trans (hb4.mono HB3.out.size))
  have HUA4 := hid (HUA.out.below hb4)
  obtain ⟨ba, bc, rfl, -⟩ := hub.open
  have P1 := hid (ref6_SameProof _ _ o2 o2 w4 HUA4.out hub)
  rw [decide_eq_true (rfl : o2 = o2)] at P1
  have c2 : (er2 != er2) = false := by simp
  clear hub hq2 hb4 C2 HUA
  go_wp2_with fail
  refine P1.out.mono ?_
  rintro e w5 ⟨rfl, n5, hw5⟩
  have hb5 : Below w4.heap.size w4 w5 := hw5 ▸ below_self_drewN _ _
  have HB5 := hid (HB4.out.trans (hb5.mono HB4.out.size))
  have HUA5 := hid (HUA4.out.below hb5)
  clear hw5 hb5 P1 HUA4
  by_cases h0 : er2 = 0
  rotate_left
  · have n0 : (er2 != 0) = true := by simpa using h0
    clear h0
    go_wp2
    go_ret
    exact ⟨rfl, HB5.out⟩
  subst h0
  obtain ⟨U, V, hV, hU, hlen, hin⟩ := cites_law HQ.out
  have HV := hid hV
  have HU := hid hU
  have HIN := hid hin
  have hle : ((o2.length : Int) == (p.length : Int)) = true := by rw [hlen]; simp
  have K1 := hid (kernel_Says vs _ _ s g p w5 (HSG.out.below HB5.out) (HGG.out.below HB5.out) (HPP.out.below HB5.out) HS1.out)
  clear hV hU hin hlen
  go_wp2_with fail
  refine K1.out.mono ?_
  rintro e w6 ⟨x, ux, hx, rfl, hix, hb6⟩
  obtain rfl := hx.unique HV.out
  dsimp only at hix ⊢
  have HB6 := hid (HB5.out.trans (hb6.mono HB5.out.size))
  have HUA6 := hid (HUA5.out.below hb6)
  have HIX := hid hix
  obtain ⟨xa, xc, rfl, -⟩ := hix.open
  have K2 := hid (kernel_Says vs _ _ s g o2 w6 (HSG.out.below HB6.out) (HGG.out.below HB6.out) HUA6.out HS1.out)
  clear hix hx hb6 K1 HUA5
  go_wp2_with fail
  refine K2.out.mono ?_
  rintro e w7 ⟨y, uy, hy, rfl, hiy, hb7⟩
  obtain rfl := hy.unique HU.out
  dsimp only at hiy ⊢
  have HB7 := hid (HB6.out.trans (hb7.mono HB6.out.size))
  have K3 := hid (ref2_Instance vs uy (.slice xa V.length xc) s U V w7 (HSG.out.below HB7.out) hiy (HIX.out.below hb7) HS1.out)
  rw [HIN.out] at K3
  obtain ⟨ya, yc, rfl, -⟩ := hiy.open
  clear hiy hy hb7 K2 HUA6 HIX
  go_wp2_with fail
  refine K3.out.mono ?_
  rintro e w8 ⟨rfl, hb8⟩
  have HB8 := hid (HB7.out.trans (hb8.mono HB7.out.size))
  clear hb8 K3
  go_wp2
  go_ret
  exact ⟨rfl, HB8.out⟩
end Go.Proofs.YtmpjaakkjhmpmaaGreatDoor
