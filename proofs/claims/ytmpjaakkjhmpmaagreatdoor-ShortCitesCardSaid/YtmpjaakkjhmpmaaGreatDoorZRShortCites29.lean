/-
  WHAT IT HOLDS: a new solver of the reference (layer 2). No condition.
  WHAT IT HOLDS: contracts of detach and Detach of the reference of layer 4. Conditions: the arguments read as data.
-/
import Derived.Deep.WholeRow
import Derived.Test.YtmpjaakkjhmpmaaGreatDoorZRShortCites28
import Derived.Test.YtmpjaakkjhmpmaaGreatDoorZRShortCites27
import Derived.Test.YtmpjaakkjhmpmaaGreatDoorZRShortCites19
import Derived.Test.YtmpjaakkjhmpmaaGreatDoorZRShortCites22
namespace Go.Proofs.YtmpjaakkjhmpmaaGreatDoor
open Go Go.RowKit Go.Maps
theorem mR_none' : mR (fun _ => none) = noM := by
  funext x
  unfold mR noM
  split <;> rfl
theorem rsol_new (w : World) (s : Sg) (sa : Option Addr) (sc : Nat) (ty : TypeId) (hs : SignAt w (.slice sa s.length sc) s) : RSol (w.alloc (.cells #[.slice sa s.length sc, .slice none 0 0, .slice none 0 0, .slice none 0 0, .slice none 0 0, .slice none 0 0, .slice none 0 0, .slice none 0 0, .slice none 0 0, .slice none 0 0, .slice none 0 0, .slice none 0 0, .slice none 0 0, .slice none 0 0, .slice none 0 0, .slice none 0 0, .slice none 0 0, .slice none 0 0, .slice none 0 0, .slice none 0 0, .slice none 0 0, .slice none 0 0, .slice none 0 0, .slice none 0 0, .slice none 0 0] ty)) w.heap.size (.slice sa s.length sc) s (fun _ => none) := by
  have hh := (MapKept.heap_alloc w (.cells #[.slice sa s.length sc, .slice none 0 0, .slice none 0 0, .slice none 0 0, .slice none 0 0, .slice none 0 0, .slice none 0 0, .slice none 0 0, .slice none 0 0, .slice none 0 0, .slice none 0 0, .slice none 0 0, .slice none 0 0, .slice none 0 0, .slice none 0 0, .slice none 0 0, .slice none 0 0, .slice none 0 0, .slice none 0 0, .slice none 0 0, .slice none 0 0, .slice none 0 0, .slice none 0 0, .slice none 0 0, .slice none 0 0] ty)).1
  refine ⟨(cell_of_row _ _ 0 _ ty (0, 0) hh).trans rfl, ⟨_, ty, hh, fun i u hi => ?_, fun v hv => ⟨?_, fun _ _ h => by cases h⟩⟩, hs.below ((Below.refl _ _).alloc (Nat.le_refl _) _), fun _ _ => rfl⟩
  · have hm := Array.mem_of_getElem? hi
    simp at hm
    rcases hm with h | h <;> exact ⟨_, _, _, h⟩
  · match v, hv with
    | 0, _ => rfl
    | 1, _ => rfl
    | 2, _ => rfl
    | 3, _ => rfl
    | 4, _ => rfl
    | 5, _ => rfl
    | 6, _ => rfl
    | 7, _ => rfl
    | 8, _ => rfl
    | 9, _ => rfl
    | 10, _ => rfl
    | 11, _ => rfl
    | 12, _ => rfl
    | 13, _ => rfl
    | 14, _ => rfl
    | 15, _ => rfl
    | 16, _ => rfl
    | 17, _ => rfl
    | 18, _ => rfl
    | 19, _ => rfl
    | 20, _ => rfl
    | 21, _ => rfl
    | 22, _ => rfl
    | 23, _ => rfl
    | v + 24, h => omega
/-- the world with a new solver, and what the store of it does. -/
theorem sol_new (w : World) (s : Sg) (sa : Option Addr) (sc : Nat) (hs : SignAt w (.slice sa s.length sc) s) : ∃ W : World, ∃ cs : Array Value, #[Value.slice sa s.length sc, Value.slice none 0 0, Value.slice none 0 0, Value.slice none 0 0, Value.slice none 0 0, Value.slice none 0 0, Value.slice none 0 0, Value.slice none 0 0, Value.slice none 0 0, Value.slice none 0 0, Value.slice none 0 0, Value.slice none 0 0, Value.slice none 0 0, Value.slice none 0 0, Value.slice none 0 0, Value.slice none 0 0, Value.slice none 0 0, Value.slice none 0 0, Value.slice none 0 0, Value.slice none 0 0, Value.slice none 0 0, Value.slice none 0 0, Value.slice none 0 0, Value.slice none 0 0, Value.slice none 0 0] = cs ∧ RSol W w.heap.size (.slice sa s.length sc) s (fun _ => none) ∧ Below w.heap.size w W ∧
    (Instr.storeAt 212 (.pointer (some ⟨w.heap.size, 0, none⟩)) (.agg cs)).run Tryz.prog (w.alloc (.cells #[Value.slice none 0 0, Value.slice none 0 0, Value.slice none 0 0, Value.slice none 0 0, Value.slice none 0 0, Value.slice none 0 0, Value.slice none 0 0, Value.slice none 0 0, Value.slice none 0 0, Value.slice none 0 0, Value.slice none 0 0, Value.slice none 0 0, Value.slice none 0 0, Value.slice none 0 0, Value.slice none 0 0, Value.slice none 0 0, Value.slice none 0 0, Value.slice none 0 0, Value.slice none 0 0, Value.slice none 0 0, Value.slice none 0 0, Value.slice none 0 0, Value.slice none 0 0, Value.slice none 0 0, Value.slice none 0 0] 212)) = .ok () W ∧
    (storeVar 212 ⟨w.heap.size, 0, none⟩ (.agg cs)).run Tryz.prog (w.alloc (.cells #[Value.slice none 0 0, Value.slice none 0 0, Value.slice none 0 0, Value.slice none 0 0, Value.slice none 0 0, Value.slice none 0 0, Value.slice none 0 0, Value.slice none 0 0, Value.slice none 0 0, Value.slice none 0 0, Value.slice none 0 0, Value.slice none 0 0, Value.slice none 0 0, Value.slice none 0 0, Value.slice none 0 0, Value.slice none 0 0, Value.slice none 0 0, Value.slice none 0 0, Value.slice none 0 0, Value.slice none 0 0, Value.slice none 0 0, Value.slice none 0 0, Value.slice none 0 0, Value.slice none 0 0, Value.slice none 0 0] 212)) = .ok () W ∧
    (storeCells ⟨w.heap.size, 0, none⟩ cs.toList 0).run Tryz.prog (w.alloc (.cells #[Value.slice none 0 0, Value.slice none 0 0, Value.slice none 0 0, Value.slice none 0 0, Value.slice none 0 0, Value.slice none 0 0, Value.slice none 0 0, Value.slice none 0 0, Value.slice none 0 0, Value.slice none 0 0, Value.slice none 0 0, Value.slice none 0 0, Value.slice none 0 0, Value.slice none 0 0, Value.slice none 0 0, Value.slice none 0 0, Value.slice none 0 0, Value.slice none 0 0, Value.slice none 0 0, Value.slice none 0 0, Value.slice none 0 0, Value.slice none 0 0, Value.slice none 0 0, Value.slice none 0 0, Value.slice none 0 0] 212)) = .ok () W ∧ cs.size = 25 ∧ w.alloc (.cells #[Value.slice sa s.length sc, Value.slice none 0 0, Value.slice none 0 0, Value.slice none 0 0, Value.slice none 0 0, Value.slice none 0 0, Value.slice none 0 0, Value.slice none 0 0, Value.slice none 0 0, Value.slice none 0 0, Value.slice none 0 0, Value.slice none 0 0, Value.slice none 0 0, Value.slice none 0 0, Value.slice none 0 0, Value.slice none 0 0, Value.slice none 0 0, Value.slice none 0 0, Value.slice none 0 0, Value.slice none 0 0, Value.slice none 0 0, Value.slice none 0 0, Value.slice none 0 0, Value.slice none 0 0, Value.slice none 0 0] 212) = W := by
  refine ⟨w.alloc (.cells #[Value.slice sa s.length sc, Value.slice none 0 0, Value.slice none 0 0, Value.slice none 0 0, Value.slice none 0 0, Value.slice none 0 0, Value.slice none 0 0, Value.slice none 0 0, Value.slice none 0 0, Value.slice none 0 0, Value.slice none 0 0, Value.slice none 0 0, Value.slice none 0 0, Value.slice none 0 0, Value.slice none 0 0, Value.slice none 0 0, Value.slice none 0 0, Value.slice none 0 0, Value.slice none 0 0, Value.slice none 0 0, Value.slice none 0 0, Value.slice none 0 0, Value.slice none 0 0, Value.slice none 0 0, Value.slice none 0 0] 212), _, rfl, rsol_new w s sa sc _ hs, (Below.refl _ _).alloc (Nat.le_refl _) _, ?_, ?_, ?_, rfl, rfl⟩
  · exact run_storeAt_new w 212 #[Value.slice none 0 0, Value.slice none 0 0, Value.slice none 0 0, Value.slice none 0 0, Value.slice none 0 0, Value.slice none 0 0, Value.slice none 0 0, Value.slice none 0 0, Value.slice none 0 0, Value.slice none 0 0, Value.slice none 0 0, Value.slice none 0 0, Value.slice none 0 0, Value.slice none 0 0, Value.slice none 0 0, Value.slice none 0 0, Value.slice none 0 0, Value.slice none 0 0, Value.slice none 0 0, Value.slice none 0 0, Value.slice none 0 0, Value.slice none 0 0, Value.slice none 0 0, Value.slice none 0 0, Value.slice none 0 0] #[Value.slice sa s.length sc, Value.slice none 0 0, Value.slice none 0 0, Value.slice none 0 0, Value.slice none 0 0, Value.slice none 0 0, Value.slice none 0 0, Value.slice none 0 0, Value.slice none 0 0, Value.slice none 0 0, Value.slice none 0 0, Value.slice none 0 0, Value.slice none 0 0, Value.slice none 0 0, Value.slice none 0 0, Value.slice none 0 0, Value.slice none 0 0, Value.slice none 0 0, Value.slice none 0 0, Value.slice none 0 0, Value.slice none 0 0, Value.slice none 0 0, Value.slice none 0 0, Value.slice none 0 0, Value.slice none 0 0] (by kernel_rfl) rfl (by simp [Value.oneCell'])
  · exact run_storeVar_new w 212 #[Value.slice none 0 0, Value.slice none 0 0, Value.slice none 0 0, Value.slice none 0 0, Value.slice none 0 0, Value.slice none 0 0, Value.slice none 0 0, Value.slice none 0 0, Value.slice none 0 0, Value.slice none 0 0, Value.slice none 0 0, Value.slice none 0 0, Value.slice none 0 0, Value.slice none 0 0, Value.slice none 0 0, Value.slice none 0 0, Value.slice none 0 0, Value.slice none 0 0, Value.slice none 0 0, Value.slice none 0 0, Value.slice none 0 0, Value.slice none 0 0, Value.slice none 0 0, Value.slice none 0 0, Value.slice none 0 0] #[Value.slice sa s.length sc, Value.slice none 0 0, Value.slice none 0 0, Value.slice none 0 0, Value.slice none 0 0, Value.slice none 0 0, Value.slice none 0 0, Value.slice none 0 0, Value.slice none 0 0, Value.slice none 0 0, Value.slice none 0 0, Value.slice none 0 0, Value.slice none 0 0, Value.slice none 0 0, Value.slice none 0 0, Value.slice none 0 0, Value.slice none 0 0, Value.slice none 0 0, Value.slice none 0 0, Value.slice none 0 0, Value.slice none 0 0, Value.slice none 0 0, Value.slice none 0 0, Value.slice none 0 0, Value.slice none 0 0] (by kernel_rfl) rfl (by simp [Value.oneCell'])
  · exact run_storeCells_new w 212 #[Value.slice none 0 0, Value.slice none 0 0, Value.slice none 0 0, Value.slice none 0 0, Value.slice none 0 0, Value.slice none 0 0, Value.slice none 0 0, Value.slice none 0 0, Value.slice none 0 0, Value.slice none 0 0, Value.slice none 0 0, Value.slice none 0 0, Value.slice none 0 0, Value.slice none 0 0, Value.slice none 0 0, Value.slice none 0 0, Value.slice none 0 0, Value.slice none 0 0, Value.slice none 0 0, Value.slice none 0 0, Value.slice none 0 0, Value.slice none 0 0, Value.slice none 0 0, Value.slice none 0 0, Value.slice none 0 0] #[Value.slice sa s.length sc, Value.slice none 0 0, Value.slice none 0 0, Value.slice none 0 0, Value.slice none 0 0, Value.slice none 0 0, Value.slice none 0 0, Value.slice none 0 0, Value.slice none 0 0, Value.slice none 0 0, Value.slice none 0 0, Value.slice none 0 0, Value.slice none 0 0, Value.slice none 0 0, Value.slice none 0 0, Value.slice none 0 0, Value.slice none 0 0, Value.slice none 0 0, Value.slice none 0 0, Value.slice none 0 0, Value.slice none 0 0, Value.slice none 0 0, Value.slice none 0 0, Value.slice none 0 0, Value.slice none 0 0] (by kernel_rfl) rfl (by simp [Value.oneCell'])
end Go.Proofs.YtmpjaakkjhmpmaaGreatDoor
namespace Go.Proofs.YtmpjaakkjhmpmaaGreatDoor
open Go Go.RowKit Go.Maps
theorem startL2 (A B : List Int) : startL 0 [A, B] [A, B].length = [1, ((1 + A.length : Nat) : Int)] := by
  unfold startL
  simp [List.range_succ]
set_option maxHeartbeats 4000000 in
set_option maxRecDepth 100000 in
theorem ref4_detach (vs vm vn : Value) (s : Sg) (m n : List Int) (w : World) (h1 : termB s m = true) (h2 : termB s n = true) (hs : SignAt w vs s) (rm : Ints w vm m) (rn : Ints w vn n) :
    Calls Tryz.prog 162 #[vs, vm, vn] w fun e w' => ∃ x u, DetR s m n x ∧ e = .returned (.tuple #[u, .int .i64 x.2]) ∧ w'.ownsRow w.heap.size 3 1 u x.1.length (x.1.map (Value.int .i64)) ∧ Below w.heap.size w w' := by
  have hm0 := (termB_T h1).ne
  by_cases h0 : m.head? = some 0
  · obtain ⟨A, B, hm, tA, tB, lA, lB⟩ := halves_T h1 h0
    obtain ⟨f1, f2, f3, f4⟩ := termB_facts h1
    obtain ⟨_, _, _, f5⟩ := termB_facts h2
    have hX : Hid (∀ x, UR s A (aparL n) B x → DetR s m n x) := hid fun x hx => Or.inr ⟨h1, h2, Or.inr ⟨A, B, hm, tA, tB, hx⟩⟩
    have tn := termB_T h2
    have hn0 := tn.ne
    have TA := hid (tA.mono (m' := 24) (by omega))
    have TB := hid (tB.mono (m' := 24) (by omega))
    have TN := hid (aparL_T tn)
    have TS := hid (T_small12 tn f3)
    have LN := hid (aparL_len n)
    have hsg : ∀ x ∈ m, x < s.length := T_lt24r ((termB_T h1).mono (m' := 24) (by omega))
    have hs0 : 0 < s.length := by
      have := halves_arP f1
      unfold signB at f1
      simp only [Bool.and_eq_true] at f1
      have := inB_true.1 f1.1.1
      omega
    have har : (([A, B] : List (List Int)).length : Int) = arOf s (0 : Nat) := by
      have := halves_arP f1
      unfold arP at this
      rw [show inB 0 (-12) (-1) = false from by decide, if_neg (by simp)] at this
      split at this
      · simpa using this.symm
      · omega
    have HARG := hid (ref1_Arguments vs vm s 12 m [] 0 [A, B] 0 w hs rm hs0 har (by intro a ha; simp at ha; rcases ha with rfl | rfl <;> assumption) (by simpa using hm) hsg (by omega))
    have HPA := hid (fun (X : World) (hX : Below w.heap.size w X) => ref1_Part vs vm s 12 m A B 1 X (hs.below hX) (rm.below hX) tA (by rw [hm]; simp) hsg (by omega) (by rw [hm]; simp; have := tA.ne; omega))
    have HPB := hid (fun (X : World) (hX : Below w.heap.size w X) => ref1_Part vs vm s 12 m B [] (1 + A.length) X (hs.below hX) (rm.below hX) tB (by rw [hm, Nat.add_comm]; simp) hsg (by omega) (by rw [hm]; simp; have := tB.ne; omega))
    have HRN := hid rn
    have HSG := hid hs
    have hl60 : A.length ≤ 60 := lA
    obtain ⟨sa, sc, hse, -⟩ := hs.open
    subst hse
    obtain ⟨ta, tcap, rfl, hcap, hml, -, TC⟩ := rm.open
    obtain ⟨tb, to, rfl, hc0⟩ := TC 0 hm0
    have hm00 : m[0] = 0 := by subst hm; rfl
    rw [hm00] at hc0
    simp only [Nat.add_zero] at hc0
    have y0 : (0 : Int) < (m.length : Int) := by omega
    clear TC rm hs h0 har hm hm00 rn tA tB tn
    go_enter Tryz.func162, Tryz.ntmps162
    go_wp2_with fail
    refine HARG.out.mono ?_
    rintro e w1 ⟨u, rfl, hown, hb1⟩
    rw [startL2] at hown
    have hI1 := Ints.of_owns hown (by simp)
    obtain ⟨xa, xc, rfl, xcap, -, -, XC⟩ := hI1.open
    obtain ⟨xb, xo, rfl, k0⟩ := XC 0 (by simp)
    obtain ⟨xb', xo', he', k1⟩ := XC 1 (by simp)
    obtain ⟨rfl, rfl⟩ : xb = xb' ∧ xo = xo' := by simpa using he'
    simp only [List.getElem_cons_zero, List.getElem_cons_succ, Nat.add_zero, List.length_cons, List.length_nil, Nat.zero_add, Nat.reduceAdd] at k0 k1 xcap ⊢
    have hsz1 := hb1.size
    obtain ⟨W, cs, hag, hS1, hbW, hst0, hst1, hst2, hsz, -⟩ := sol_new w1 s sa sc (HSG.out.below hb1)
    have hag2 : True → _ := fun _ => hag
    have HS1 := hid hS1
    have HBW := hid hbW
    have HB1 := hid hb1
    have HK := hid (And.intro k0 k1)
    have k0' := (hbW.cell (World.block_lt_of_cell? _ _ k0)).trans k0
    clear hS1 hbW hb1 hag k1 hown hI1 XC he' hc0 k0
    go_wp2_with fail
    clear hst0 hst1 hst2 hsz hag2
    have HBw := hid (HB1.out.trans (HBW.out.mono hsz1))
    refine (HPA.out W HBw.out).mono ?_
    rintro e w2 ⟨ua, rfl, o2, hb2⟩
    have r2 := Ints.of_owns o2 (by omega)
    have hb2w := HBw.out.trans (hb2.mono HBw.out.size)
    clear o2
    go_wp2_with fail
    refine (ref2_Apart _ n w2 (HRN.out.below hb2w) hn0 (by omega) TS.out).mono ?_
    rintro e w4 ⟨ub, rfl, hown, hb4⟩
    have rb4 := Ints.of_owns hown (by rw [LN.out]; omega)
    have hb4W : Below W.heap.size W w4 := hb2.trans (hb4.mono hb2.size)
    have hb4w := hb2w.trans (hb4.mono hb2w.size)
    have HSV := hid (ref2_Solve w1.heap.size (.slice sa s.length sc) s f1 (meas1 (mR (fun _ => none)) A + 1) A (aparL n) ua ub (fun _ => none) w4 (by omega) (HS1.out.below hb4W) (by rw [mR_none']; exact MOK.empty s) TA.out TN.out hl60 (by rw [LN.out]; omega) (r2.below hb4) rb4)
    have HB4W := hid hb4W
    have HB4 := hid hb4w
    clear hown hb4 hb4w rb4 hb4W hb2 hb2w r2 k0'
    go_wp2_with fail
    refine HSV.out.mono ?_
    intro e w5 hpost
    obtain ⟨z, T', rfl, hS', hg, hok, hno⟩ := hpost.bool
    rw [mR_none'] at hok hno
    have HB5 : Hid (Below w.heap.size w w5) := hid (HB4.out.grown hg HB4.out.size (fun q hq => by cases hq; exact hsz1))
    have HB51 : Hid (Below w1.heap.size w1 w5) := hid ((HBW.out.trans (HB4W.out.mono HBW.out.size)).grown hg (HBW.out.trans (HB4W.out.mono HBW.out.size)).size (fun q hq => by cases hq; exact Nat.le_refl _))
    cases z with
    | false =>
      have HX : Hid (DetR s m n ([], 8)) := hid (hX.out _ (Or.inl ⟨(hno rfl).nou, rfl⟩))
      clear hpost hS' hg hok hno
      go_wp2
      go_ret2
      exact ⟨([], 8), _, HX.out, rfl, World.ownsRow_nil _ _ _ _, HB5.out⟩
    | true =>
      have hmgu := (hok rfl).mgu
      have hsz5 := HB5.out.size
      have HMG := hid hmgu
      have HSS := hid hS'
      have k1' := (HB51.out.cell (World.block_lt_of_cell? _ _ HK.out.2)).trans HK.out.2
      clear hpost hS' hg hok hno hmgu
      go_wp2_with fail
      refine (HPB.out w5 HB5.out).mono ?_
      rintro e w6 ⟨uc, rfl, o6, hb6⟩
      have r6 := Ints.of_owns o6 (by omega)
      have HFW := hid (ref2_Few w1.heap.size (.slice sa s.length sc) uc s T' B w6 HMG.out.1 (HSS.out.below hb6) TB.out lB r6 (by omega))
      have HB6 := hid (HB5.out.trans (hb6.mono hsz5))
      clear o6 hb6 r6 k1'
      go_wp2_with fail
      refine HFW.out.mono ?_
      rintro e w7 ⟨u, hb7, ⟨hm, rfl, hown⟩ | ⟨hm, rfl⟩⟩
      · have HX : Hid (DetR s m n (canonL (fw (mR T') B), 0)) := hid (hX.out _ (Or.inr ⟨_, HMG.out, Or.inl ⟨hm, rfl⟩⟩))
        have HO := hid (owns_base hown HB6.out.size)
        have HB7 := hid (HB6.out.trans (hb7.mono HB6.out.size))
        clear hown hb7 hm
        go_wp2
        go_ret2
        exact ⟨(canonL (fw (mR T') B), 0), u, HX.out, rfl, HO.out, HB7.out⟩
      · have HX : Hid (DetR s m n ([], 4)) := hid (hX.out _ (Or.inr ⟨_, HMG.out, Or.inr ⟨hm, rfl⟩⟩))
        have HB7 := hid (HB6.out.trans (hb7.mono HB6.out.size))
        clear hb7 hm
        go_wp2
        go_ret2
        exact ⟨([], 4), _, HX.out, rfl, World.ownsRow_nil _ _ _ _, HB7.out⟩
  · have HR : Hid (DetR s m n ([], 10)) := hid (Or.inr ⟨h1, h2, Or.inl ⟨h0, rfl⟩⟩)
    obtain ⟨ta, tcap, rfl, hcap, hml, -, TC⟩ := rm.open
    obtain ⟨b, o, rfl, hc0⟩ := TC 0 hm0
    simp only [Nat.add_zero] at hc0
    have hnz : m[0] ≠ 0 := fun h => h0 (by rw [List.head?_eq_getElem?, List.getElem?_eq_getElem hm0, h])
    have hnd : (m[0] != 0) = true := by simpa using hnz
    obtain ⟨x, hx⟩ : ∃ x, m[0] = x := ⟨_, rfl⟩
    rw [hx] at hc0 hnd
    clear TC rm h0 hx hnz h1 h2
    go_enter Tryz.func162, Tryz.ntmps162
    go_wp2
    go_ret2
    exact ⟨([], 10), _, HR.out, rfl, World.ownsRow_nil _ _ _ _, Below.refl _ _⟩
end Go.Proofs.YtmpjaakkjhmpmaaGreatDoor
