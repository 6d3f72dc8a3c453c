/-
  WHAT IT HOLDS: contract of Base of package find. Conditions: the arguments read as data; the shelf and the sign are small.
-/
import Derived.Test.YtiacbdipagbblaaZRFindBases32
import Derived.Test.YtiacbdipagbblaaZRFindBases37
namespace Go.Proofs.Ytiacbdipagbblaa
open Go Go.RowKit Go.Maps
theorem chosenL_pos : ∀ (bs : List Bool) (i : Nat), decide (0 < (chosenL i bs).length) = bs.any id
  | [], i => by simp [chosenL]
  | b :: r, i => by
    have ih := chosenL_pos r (i + 1)
    unfold chosenL
    cases b
    · simpa using ih
    · simp
set_option maxRecDepth 100000 in
theorem find_Base1 (q : Nat) (vs vl : Value) (ps pl : Nat) (s : Sg) (l : List (List Int)) (w : World) (hs : SignAt w vs s) (hv : Terms w vl l) (hs1 : s.length ≤ 1000) (hl1 : l.length ≤ 1000) (hq : q < l.length) (c1 : w.cell? ⟨ps, 0, none⟩ = some vs) (c2 : w.cell? ⟨pl, 0, none⟩ = some vl) :
    Calls Try.prog 87 #[.int .i64 q, .pointer (some ⟨ps, 0, none⟩), .pointer (some ⟨pl, 0, none⟩)] w fun e w' => e = .returned (.bool (upB s l q)) ∧ Below w.heap.size w w' := by
  obtain ⟨sa, scap, rfl, _⟩ := hs.open
  obtain ⟨la, lcap, rfl, _⟩ := hv.open
  have HO := hid (find_over _ _ s l q w hs hv hs1 hl1 hq)
  have hu : upB s l q = decide (0 < (chosenL 0 (overL s l l[q])).length) := by
    rw [chosenL_pos]; unfold upB; rw [Int.toNat_natCast]; simp [List.getD, hq]
  have hle := chosenL_le (overL s l l[q]) 0
  have hol : (overL s l l[q]).length = l.length := by simp [overL]
  obtain ⟨r, hr⟩ : ∃ r, chosenL 0 (overL s l l[q]) = r := ⟨_, rfl⟩
  rw [hr] at HO hu hle
  rw [hu]
  obtain ⟨n, hn⟩ : ∃ n, r.length = n := ⟨_, rfl⟩
  rw [hn] at HO hle ⊢
  clear hu hr hn hs hv
  go_enter Try.func87, Try.ntmps87
  go_wp2_with fail
  refine HO.out.mono ?_
  rintro e w1 ⟨u, rfl, ho, hb⟩
  have hush : ∃ a c, u = .slice a n c := by
    rcases ho.2 with ⟨z1, z2⟩ | ⟨g', c', cur, z1, _⟩
    · rw [z2]; exact ⟨none, 0, z1⟩
    · exact ⟨_, _, z1⟩
  obtain ⟨a, c, rfl⟩ := hush
  clear ho
  go_wp2
  go_ret
  exact ⟨ret_bool (by first | rfl | (rw [decide_eq_decide]; omega) | (rw [decide_eq_decide])), hb⟩
theorem firstsL_bd (l : List (List Int)) : ∀ x ∈ firstsL l, ∃ q : Nat, x = q ∧ q < l.length := by
  intro x hx
  unfold firstsL at hx
  obtain ⟨g, hg, rfl⟩ := List.mem_map.1 hx
  obtain ⟨j, hj, rfl⟩ := List.getElem_of_mem hg
  obtain ⟨_, k, h1, h2, _⟩ := grpL_first (by simp) hj
  refine ⟨k, ?_, h2⟩
  rw [List.headD_eq_head?_getD, h1]; try rfl
set_option maxHeartbeats 1000000 in
set_option maxRecDepth 100000 in
theorem find_Base (vs vl : Value) (s : Sg) (l : List (List Int)) (w : World) (hs : SignAt w vs s) (hv : Terms w vl l) (hs1 : s.length ≤ 1000) (hl1 : l.length ≤ 1000) :
    Calls Try.prog 32 #[vs, vl] w fun e w' => ∃ u, e = .returned (.tuple #[u, .int .i64 (basQ s l).2]) ∧ Ints w' u (basQ s l).1 ∧ Below w.heap.size w w' := by
  obtain ⟨sa, scap, hse, _⟩ := hs.open
  obtain ⟨la, lcap, hle, _⟩ := hv.open
  subst hse hle
  obtain ⟨k1, k2, k3⟩ := boxes2 w (.slice sa s.length scap) (.slice la l.length lcap) 23 24
  have HFS := hid (find_firsts (.slice sa s.length scap) (.slice la l.length lcap) s l _ (hs.below k3) (hv.below k3) hs1 hl1)
  have HDEL := hid (fun (W : World) (u : Value) (hb : Below ((w.alloc (.cells #[.slice sa s.length scap] 23)).alloc (.cells #[.slice la l.length lcap] 24)).heap.size ((w.alloc (.cells #[.slice sa s.length scap] 23)).alloc (.cells #[.slice la l.length lcap] 24)) W)
      (ho : W.ownsRow ((w.alloc (.cells #[.slice sa s.length scap] 23)).alloc (.cells #[.slice la l.length lcap] 24)).heap.size 3 1 u (firstsL l).length ((firstsL l).map (Value.int .i64))) =>
    sl_DeleteFunc 87 #[.pointer (some ⟨w.heap.size, 0, none⟩), .pointer (some ⟨w.heap.size + 1, 0, none⟩)] (enters_of Try.func87 (by kernel_rfl) rfl) _ _ u (firstsL l) (upB s l) W ho (by have := firstsL_len l; omega) hb hb.size (fun x hx X hX hXs => by
      obtain ⟨q, rfl, hq⟩ := firstsL_bd l x hx
      exact find_Base1 q _ _ w.heap.size (w.heap.size + 1) s l X ((hs.below k3).below hX) ((hv.below k3).below hX) hs1 hl1 hq
        (by rw [hX.cell (p := ⟨w.heap.size, 0, none⟩) (by simp; omega)]; exact k1) (by rw [hX.cell (p := ⟨w.heap.size + 1, 0, none⟩) (by simp)]; exact k2)))
  have K3 := hid k3
  clear hs hv k1 k2
  cases h1 : shelfB s l
  · have HA : Hid (basQ s l = ([], 1)) := hid (by unfold basQ; rw [h1]; rfl)
    simp only [h1] at HFS
    rw [HA.out]
    clear h1
    go_enter Try.func32, Try.ntmps32
    go_wp2_with fail
    refine HFS.out.mono ?_
    rintro e w1 ⟨hb, ⟨-, u, rfl⟩ | ⟨h, -⟩⟩
    · have HB := hid (k3.trans (hb.mono k3.size))
      go_wp2
      go_ret2
      exact ⟨_, rfl, ⟨by simp, none, 0, rfl, Nat.le_refl _, by simp, fun _ => rfl, by simp⟩, HB.out⟩
    · cases h
  · have HA : Hid (basQ s l = (chosenL 0 (basB s l), 0)) := hid (by unfold basQ; rw [h1]; rfl)
    simp only [h1] at HFS
    rw [HA.out]
    clear h1
    go_enter Try.func32, Try.ntmps32
    go_wp2_with fail
    refine HFS.out.mono ?_
    rintro e w1 ⟨hb, ⟨h, -⟩ | ⟨-, u, rfl, ho⟩⟩
    · cases h
    · have HD := hid (HDEL.out w1 u hb ho)
      clear ho
      go_wp2_with fail
      refine HD.out.mono ?_
      rintro e w2 ⟨u2, rfl, hi, hb2⟩
      rw [bas_all] at hi
      have HI := hid hi
      have HB := hid (k3.trans (hb2.mono k3.size))
      clear hi hb2
      go_wp2
      go_ret2
      exact ⟨_, rfl, HI.out, HB.out⟩
end Go.Proofs.Ytiacbdipagbblaa
