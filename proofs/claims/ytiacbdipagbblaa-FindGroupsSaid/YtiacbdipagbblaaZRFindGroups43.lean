/-
  WHAT IT HOLDS: a new solver of the reference (layer 2). No condition.
-/
import Derived.Deep.WholeRow
import Derived.Test.YtiacbdipagbblaaZRFindGroups41
import Derived.Test.YtiacbdipagbblaaZRFindGroups42
import Derived.Test.YtiacbdipagbblaaZRFindGroups23
namespace Go.Proofs.Ytiacbdipagbblaa
open Go Go.RowKit Go.Maps
theorem mR_none' : mR (fun _ => none) = noM := by
  funext x
  unfold mR noM
  split <;> rfl
theorem rsol_new (w : World) (s : Sg) (sa : Option Addr) (sc : Nat) (ty : TypeId) (hs : SignAt w (.slice sa s.length sc) s) : RSol (w.alloc (.cells #[.slice sa s.length sc, .slice none 0 0, .slice none 0 0, .slice none 0 0, .slice none 0 0, .slice none 0 0, .slice none 0 0, .slice none 0 0, .slice none 0 0, .slice none 0 0, .slice none 0 0, .slice none 0 0, .slice none 0 0, .slice none 0 0, .slice none 0 0, .slice none 0 0, .slice none 0 0, .slice none 0 0, .slice none 0 0, .slice none 0 0, .slice none 0 0, .slice none 0 0, .slice none 0 0, .slice none 0 0, .slice none 0 0] ty)) w.heap.size (.slice sa s.length sc) s (fun _ => none) := by
  have hh := (MapKept.heap_alloc w (.cells #[.slice sa s.length sc, .slice none 0 0, .slice none 0 0, .slice none 0 0, .slice none 0 0, .slice none 0 0, .slice none 0 0, .slice none 0 0, .slice none 0 0, .slice none 0 0, .slice none 0 0, .slice none 0 0, .slice none 0 0, .slice none 0 0, .slice none 0 0, .slice none 0 0, .slice none 0 0, .slice none 0 0, .slice none 0 0, .slice none 0 0, .slice none 0 0, .slice none 0 0, .slice none 0 0, .slice none 0 0, .slice none 0 0] ty)).1
  refine ⟨(cell_of_row _ _ 0 _ ty (0, 0) hh).trans rfl, ⟨_, ty, hh, fun i u hi => ?_, fun v hv => ⟨?_, fun _ _ h => by cases h⟩⟩, hs.below ((Below.refl _ _).alloc (Nat.le_refl _) _), fun _ _ => rfl⟩
  · have hm := Array.mem_of_getElem? hi
    simp at hm
    rcases hm with h | h <;> exact ⟨_, _, _, h⟩
  · match v, hv with
    | 0, _ => rfl
    | 1, _ => rfl
    | 2, _ => rfl
    | 3, _ => rfl
    | 4, _ => rfl
    | 5, _ => rfl
    | 6, _ => rfl
    | 7, _ => rfl
    | 8, _ => rfl
    | 9, _ => rfl
    | 10, _ => rfl
    | 11, _ => rfl
    | 12, _ => rfl
    | 13, _ => rfl
    | 14, _ => rfl
    | 15, _ => rfl
    | 16, _ => rfl
    | 17, _ => rfl
    | 18, _ => rfl
    | 19, _ => rfl
    | 20, _ => rfl
    | 21, _ => rfl
    | 22, _ => rfl
    | 23, _ => rfl
    | v + 24, h => omega
/-- the world with a new solver, and what the store of it does. -/
theorem sol_new (w : World) (s : Sg) (sa : Option Addr) (sc : Nat) (hs : SignAt w (.slice sa s.length sc) s) : ∃ W : World, ∃ cs : Array Value, #[Value.slice sa s.length sc, Value.slice none 0 0, Value.slice none 0 0, Value.slice none 0 0, Value.slice none 0 0, Value.slice none 0 0, Value.slice none 0 0, Value.slice none 0 0, Value.slice none 0 0, Value.slice none 0 0, Value.slice none 0 0, Value.slice none 0 0, Value.slice none 0 0, Value.slice none 0 0, Value.slice none 0 0, Value.slice none 0 0, Value.slice none 0 0, Value.slice none 0 0, Value.slice none 0 0, Value.slice none 0 0, Value.slice none 0 0, Value.slice none 0 0, Value.slice none 0 0, Value.slice none 0 0, Value.slice none 0 0] = cs ∧ RSol W w.heap.size (.slice sa s.length sc) s (fun _ => none) ∧ Below w.heap.size w W ∧
    (Instr.storeAt 117 (.pointer (some ⟨w.heap.size, 0, none⟩)) (.agg cs)).run Try.prog (w.alloc (.cells #[Value.slice none 0 0, Value.slice none 0 0, Value.slice none 0 0, Value.slice none 0 0, Value.slice none 0 0, Value.slice none 0 0, Value.slice none 0 0, Value.slice none 0 0, Value.slice none 0 0, Value.slice none 0 0, Value.slice none 0 0, Value.slice none 0 0, Value.slice none 0 0, Value.slice none 0 0, Value.slice none 0 0, Value.slice none 0 0, Value.slice none 0 0, Value.slice none 0 0, Value.slice none 0 0, Value.slice none 0 0, Value.slice none 0 0, Value.slice none 0 0, Value.slice none 0 0, Value.slice none 0 0, Value.slice none 0 0] 117)) = .ok () W ∧
    (storeVar 117 ⟨w.heap.size, 0, none⟩ (.agg cs)).run Try.prog (w.alloc (.cells #[Value.slice none 0 0, Value.slice none 0 0, Value.slice none 0 0, Value.slice none 0 0, Value.slice none 0 0, Value.slice none 0 0, Value.slice none 0 0, Value.slice none 0 0, Value.slice none 0 0, Value.slice none 0 0, Value.slice none 0 0, Value.slice none 0 0, Value.slice none 0 0, Value.slice none 0 0, Value.slice none 0 0, Value.slice none 0 0, Value.slice none 0 0, Value.slice none 0 0, Value.slice none 0 0, Value.slice none 0 0, Value.slice none 0 0, Value.slice none 0 0, Value.slice none 0 0, Value.slice none 0 0, Value.slice none 0 0] 117)) = .ok () W ∧
    (storeCells ⟨w.heap.size, 0, none⟩ cs.toList 0).run Try.prog (w.alloc (.cells #[Value.slice none 0 0, Value.slice none 0 0, Value.slice none 0 0, Value.slice none 0 0, Value.slice none 0 0, Value.slice none 0 0, Value.slice none 0 0, Value.slice none 0 0, Value.slice none 0 0, Value.slice none 0 0, Value.slice none 0 0, Value.slice none 0 0, Value.slice none 0 0, Value.slice none 0 0, Value.slice none 0 0, Value.slice none 0 0, Value.slice none 0 0, Value.slice none 0 0, Value.slice none 0 0, Value.slice none 0 0, Value.slice none 0 0, Value.slice none 0 0, Value.slice none 0 0, Value.slice none 0 0, Value.slice none 0 0] 117)) = .ok () W ∧ cs.size = 25 ∧ w.alloc (.cells #[Value.slice sa s.length sc, Value.slice none 0 0, Value.slice none 0 0, Value.slice none 0 0, Value.slice none 0 0, Value.slice none 0 0, Value.slice none 0 0, Value.slice none 0 0, Value.slice none 0 0, Value.slice none 0 0, Value.slice none 0 0, Value.slice none 0 0, Value.slice none 0 0, Value.slice none 0 0, Value.slice none 0 0, Value.slice none 0 0, Value.slice none 0 0, Value.slice none 0 0, Value.slice none 0 0, Value.slice none 0 0, Value.slice none 0 0, Value.slice none 0 0, Value.slice none 0 0, Value.slice none 0 0, Value.slice none 0 0] 117) = W := by
  refine ⟨w.alloc (.cells #[Value.slice sa s.length sc, Value.slice none 0 0, Value.slice none 0 0, Value.slice none 0 0, Value.slice none 0 0, Value.slice none 0 0, Value.slice none 0 0, Value.slice none 0 0, Value.slice none 0 0, Value.slice none 0 0, Value.slice none 0 0, Value.slice none 0 0, Value.slice none 0 0, Value.slice none 0 0, Value.slice none 0 0, Value.slice none 0 0, Value.slice none 0 0, Value.slice none 0 0, Value.slice none 0 0, Value.slice none 0 0, Value.slice none 0 0, Value.slice none 0 0, Value.slice none 0 0, Value.slice none 0 0, Value.slice none 0 0] 117), _, rfl, rsol_new w s sa sc _ hs, (Below.refl _ _).alloc (Nat.le_refl _) _, ?_, ?_, ?_, rfl, rfl⟩
  · exact run_storeAt_new w 117 #[Value.slice none 0 0, Value.slice none 0 0, Value.slice none 0 0, Value.slice none 0 0, Value.slice none 0 0, Value.slice none 0 0, Value.slice none 0 0, Value.slice none 0 0, Value.slice none 0 0, Value.slice none 0 0, Value.slice none 0 0, Value.slice none 0 0, Value.slice none 0 0, Value.slice none 0 0, Value.slice none 0 0, Value.slice none 0 0, Value.slice none 0 0, Value.slice none 0 0, Value.slice none 0 0, Value.slice none 0 0, Value.slice none 0 0, Value.slice none 0 0, Value.slice none 0 0, Value.slice none 0 0, Value.slice none 0 0] #[Value.slice sa s.length sc, Value.slice none 0 0, Value.slice none 0 0, Value.slice none 0 0, Value.slice none 0 0, Value.slice none 0 0, Value.slice none 0 0, Value.slice none 0 0, Value.slice none 0 0, Value.slice none 0 0, Value.slice none 0 0, Value.slice none 0 0, Value.slice none 0 0, Value.slice none 0 0, Value.slice none 0 0, Value.slice none 0 0, Value.slice none 0 0, Value.slice none 0 0, Value.slice none 0 0, Value.slice none 0 0, Value.slice none 0 0, Value.slice none 0 0, Value.slice none 0 0, Value.slice none 0 0, Value.slice none 0 0] (by kernel_rfl) rfl (by simp [Value.oneCell'])
  · exact run_storeVar_new w 117 #[Value.slice none 0 0, Value.slice none 0 0, Value.slice none 0 0, Value.slice none 0 0, Value.slice none 0 0, Value.slice none 0 0, Value.slice none 0 0, Value.slice none 0 0, Value.slice none 0 0, Value.slice none 0 0, Value.slice none 0 0, Value.slice none 0 0, Value.slice none 0 0, Value.slice none 0 0, Value.slice none 0 0, Value.slice none 0 0, Value.slice none 0 0, Value.slice none 0 0, Value.slice none 0 0, Value.slice none 0 0, Value.slice none 0 0, Value.slice none 0 0, Value.slice none 0 0, Value.slice none 0 0, Value.slice none 0 0] #[Value.slice sa s.length sc, Value.slice none 0 0, Value.slice none 0 0, Value.slice none 0 0, Value.slice none 0 0, Value.slice none 0 0, Value.slice none 0 0, Value.slice none 0 0, Value.slice none 0 0, Value.slice none 0 0, Value.slice none 0 0, Value.slice none 0 0, Value.slice none 0 0, Value.slice none 0 0, Value.slice none 0 0, Value.slice none 0 0, Value.slice none 0 0, Value.slice none 0 0, Value.slice none 0 0, Value.slice none 0 0, Value.slice none 0 0, Value.slice none 0 0, Value.slice none 0 0, Value.slice none 0 0, Value.slice none 0 0] (by kernel_rfl) rfl (by simp [Value.oneCell'])
  · exact run_storeCells_new w 117 #[Value.slice none 0 0, Value.slice none 0 0, Value.slice none 0 0, Value.slice none 0 0, Value.slice none 0 0, Value.slice none 0 0, Value.slice none 0 0, Value.slice none 0 0, Value.slice none 0 0, Value.slice none 0 0, Value.slice none 0 0, Value.slice none 0 0, Value.slice none 0 0, Value.slice none 0 0, Value.slice none 0 0, Value.slice none 0 0, Value.slice none 0 0, Value.slice none 0 0, Value.slice none 0 0, Value.slice none 0 0, Value.slice none 0 0, Value.slice none 0 0, Value.slice none 0 0, Value.slice none 0 0, Value.slice none 0 0] #[Value.slice sa s.length sc, Value.slice none 0 0, Value.slice none 0 0, Value.slice none 0 0, Value.slice none 0 0, Value.slice none 0 0, Value.slice none 0 0, Value.slice none 0 0, Value.slice none 0 0, Value.slice none 0 0, Value.slice none 0 0, Value.slice none 0 0, Value.slice none 0 0, Value.slice none 0 0, Value.slice none 0 0, Value.slice none 0 0, Value.slice none 0 0, Value.slice none 0 0, Value.slice none 0 0, Value.slice none 0 0, Value.slice none 0 0, Value.slice none 0 0, Value.slice none 0 0, Value.slice none 0 0, Value.slice none 0 0] (by kernel_rfl) rfl (by simp [Value.oneCell'])
set_option maxHeartbeats 4000000 in
set_option maxRecDepth 100000 in
theorem ref2_Meets (vs va vb : Value) (s : Sg) (a b : List Int) (w : World) (hs : SignAt w vs s) (ra : Ints w va a) (rb : Ints w vb b) :
    Calls Try.prog 97 #[vs, va, vb] w fun e w' => ∃ z, MeetsA s a b z ∧ e = .returned (.bool z) ∧ Below w.heap.size w w' := by
  obtain ⟨sa, sc, hse, -⟩ := hs.open
  subst hse
  obtain ⟨W, cs, hag, hS1, hb1, hst0, hst1, hst2, hsz, -⟩ := sol_new w s sa sc hs
  have hag2 : True → _ := fun _ => hag
  clear hag
  go_enter Try.func97, Try.ntmps97
  go_wp2_with fail
  clear hst0 hst1 hst2 hsz
  clear hag2
  have HS1 := hid hS1
  have ra1 := ra.below hb1
  have rb1 := rb.below hb1
  clear hs ra rb
  refine (ref1_Valid _ _ s a _ hS1.sgn ra1).mono ?_
  rintro e w2 ⟨rfl, n2, rfl⟩
  have hb2 := below_drewN hb1 n2
  have hB2 : Below W.heap.size W (W.drewN n2) := below_self_drewN W n2
  cases h1 : termB s a with
  | false =>
    have HR : Hid (MeetsA s a b false) := hid (by unfold MeetsA MeetsQ; rw [h1]; simp)
    clear hS1 ra1 rb1 hB2
    go_wp2
    go_ret
    exact ⟨_, HR.out, rfl, hb2⟩
  | true =>
    have H1 := hid h1
    clear h1
    go_wp2_with fail
    refine (ref1_Valid _ _ s b _ (hS1.sgn.below hB2) (rb1.below hB2)).mono ?_
    rintro e w3 ⟨rfl, n3, rfl⟩
    have hb3 := below_drewN hb2 n3
    have hB3 : Below W.heap.size W ((W.drewN n2).drewN n3) := below_drewN hB2 n3
    generalize (W.drewN n2).drewN n3 = W3 at *
    cases h2 : termB s b with
    | false =>
      have HR : Hid (MeetsA s a b false) := hid (by unfold MeetsA MeetsQ; rw [h2]; simp)
      clear hS1 ra1 rb1 hB2 hB3 hb2
      go_wp2
      go_ret
      exact ⟨_, HR.out, rfl, hb3⟩
    | true =>
      have HR : Hid (¬ NoU s a (aparL b) ↔ MeetsQ s a b) := hid (by unfold MeetsQ; rw [H1.out, h2]; simp)
      obtain ⟨f1, f2, f3, f4⟩ := termB_facts H1.out
      obtain ⟨_, _, _, f5⟩ := termB_facts h2
      have ta := termB_T H1.out
      have tb := termB_T h2
      have hb0 := tb.ne
      have TA := hid (ta.mono (m' := 24) (by omega))
      have TB := hid (aparL_T tb)
      have TS := hid (T_small12 tb f3)
      have LB := hid (aparL_len b)
      have HAP := hid (ref2_Apart vb b W3 (rb1.below hB3) hb0 (by omega) TS.out)
      have HSV := hid (fun (W4 : World) (ub : Value) (h : Below W.heap.size W W4) (r : Ints W4 ub (aparL b)) => ref2_Solve w.heap.size (.slice sa s.length sc) s f1 (meas1 (mR (fun _ => none)) a + 1) a (aparL b) va ub (fun _ => none) W4 (by omega) (HS1.out.below h) (by rw [mR_none']; exact MOK.empty s) TA.out TB.out f4 (by rw [LB.out]; exact f5) (ra1.below h) r)
      have HB3 := hid hB3
      have Hb3 := hid hb3
      clear h2 ta tb hS1 ra1 rb1 hB2 hb2 hB3 hb3
      go_wp2_with fail
      refine HAP.out.mono ?_
      rintro e w4 ⟨ub, rfl, hown, hb4⟩
      have rb4 := Ints.of_owns hown (by rw [LB.out]; omega)
      have hb4w := Hb3.out.trans (hb4.mono Hb3.out.size)
      have hB4 := HB3.out.trans (hb4.mono HB3.out.size)
      have HSV4 := hid (HSV.out w4 ub hB4 rb4)
      have HB4 := hid hb4w
      clear hown hb4 hb4w hB4 rb4
      go_wp2_with fail
      refine HSV4.out.mono ?_
      intro e w5 hpost
      obtain ⟨z, T', rfl, hS', hg, hok, hno⟩ := hpost.bool
      rw [mR_none'] at hok hno
      have HB5 : Hid (Below w.heap.size w w5) := hid (HB4.out.grown hg HB4.out.size (fun q hq => by cases hq; exact Nat.le_refl _))
      have HX : Hid (MeetsA s a b z) := hid (by
        unfold MeetsA
        rw [← HR.out]
        cases z with
        | true => simpa using fun h => (hok rfl).mgu.not_no h
        | false => simpa using (hno rfl).nou)
      clear hpost hS' hg hok hno
      go_wp2
      go_ret
      exact ⟨z, HX.out, rfl, HB5.out⟩
end Go.Proofs.Ytiacbdipagbblaa
