/-
  WHAT IT HOLDS: contracts of join and Common of package unify. Conditions: the arguments read as data; both are terms of at most 100 numbers; a sign of 1 to 12 symbols.
-/
import Derived.Test.YtidigpfiagjeiaaJoinb
namespace Go.Proofs.Ytidigpfiagjeiaa
open Go Go.RowKit Go.Maps
set_option maxHeartbeats 1000000 in
theorem unify_join (s : Sg) (vs va vb : Value) (a b : List Int) (w : World) (hsl : 1 ≤ s.length) (hsl2 : s.length ≤ 12) (ha : IsT s 12 a) (hb : IsT s 12 b) (hs : SignAt w vs s) (ra : Ints w va a) (rb : Ints w vb b) (hla : a.length ≤ 100) (hlb : b.length ≤ 100) :
    Calls Try.prog 63 #[vs, va, vb] w fun e w' => ∃ u, e = .returned u ∧ w'.ownsRow w.heap.size 3 1 u (comW s a b []).1.length ((comW s a b []).1.map (Value.int .i64)) ∧ Below w.heap.size w w' := by
  obtain ⟨sa, scap, hse, _⟩ := hs.open
  subst hse
  obtain ⟨aa, acap, hae, _⟩ := ra.open
  subst hae
  obtain ⟨ba, bcap, hbe, _⟩ := rb.open
  subst hbe
  have hmm := @run_makeMap Try.prog
  go_enter Try.func63, Try.ntmps63
  go_wp2_with fail
  clear hmm
  have k0 : ∀ o1 o2 o3, ((((w.alloc (.cells #[.slice sa s.length scap] 23)).alloc o1).alloc o2).alloc o3).cell? ⟨w.heap.size, 0, none⟩ = some (.slice sa s.length scap) := fun o1 o2 o3 => cell_alloc_keep _ (cell_alloc_keep _ (cell_alloc_keep _ (cell_new1 _ _ _)))
  have hbx : ∀ o0 o1 o2 o3, Below w.heap.size w ((((w.alloc o0).alloc o1).alloc o2).alloc o3) := fun o0 o1 o2 o3 => ((((Below.refl _ _).alloc (Nat.le_refl _) _).alloc (by simp) _).alloc (by simp; omega) _).alloc (by simp; omega) _
  have k1 := cell_new1 ((w.alloc (.cells #[.slice sa s.length scap] 23)).alloc (.map #[] 0)) (.map (some (w.heap.size + 1))) 109
  have k2 := cell_new1 (((w.alloc (.cells #[.slice sa s.length scap] 23)).alloc (.map #[] 0)).alloc (.cells #[.map (some (w.heap.size + 1))] 109)) (fnW (w.heap.size + 1 + 1) w.heap.size (w.heap.size + 1 + 1 + 1)) 110
  have km := MapK.made Try.prog 113 ek2 (Value.int .i64) (w.alloc (.cells #[.slice sa s.length scap] 23))
  simp only [World.size_alloc] at k1 k2 km
  have hj := unify_join1 s (.slice sa s.length scap) (w.heap.size + 1 + 1) w.heap.size (w.heap.size + 1 + 1 + 1) (w.heap.size + 1) hsl hsl2 ha b hb _ _ [] _ (hs.below (hbx _ _ _ _)) (ra.below (hbx _ _ _ _)) (rb.below (hbx _ _ _ _)) (cell_alloc_keep _ k1) (k0 _ _ _) k2 (by
    have h := (km.alloc (.cells #[.map (some (w.heap.size + 1))] 109)).alloc (.cells #[fnW (w.heap.size + 1 + 1) w.heap.size (w.heap.size + 1 + 1 + 1)] 110)
    unfold JMap
    rw [show mapK [] = fun _ => none from funext fun x => by simp [mapK]]
    exact h) hla hlb (by simp; omega)
  refine Calls.mono hj ?_
  rintro e w1 ⟨u, rfl, hown, _, hg⟩
  have hB := hbx (.cells #[.slice sa s.length scap] 23) (.map #[] 0) (.cells #[.map (some (w.heap.size + 1))] 109) (.cells #[fnW (w.heap.size + 1 + 1) w.heap.size (w.heap.size + 1 + 1 + 1)] 110)
  have hB2 : Below w.heap.size w w1 := hB.grown hg hB.size (fun q hq => by cases hq; omega)
  have hown2 := owns_base hown hB.size
  clear hj k0 hbx k1 k2 km hown hg hB
  go_wp2
  go_ret
  exact ⟨_, rfl, hown2, hB2⟩
end Go.Proofs.Ytidigpfiagjeiaa
