/-
  WHAT IT HOLDS: contracts of join and Common of package unify. Conditions: the arguments read as data; both are terms of at most 100 numbers; a sign of 1 to 12 symbols.
-/
import Derived.Test.YtiacbdipagbblaaZRFindPermuted25
namespace Go.Proofs.Ytiacbdipagbblaa
open Go Go.RowKit Go.Maps
set_option maxHeartbeats 1000000 in
theorem unify_join (s : Sg) (vs va vb : Value) (a b : List Int) (w : World) (hsl : 1 ≤ s.length) (hsl2 : s.length ≤ 12) (ha : IsT s 12 a) (hb : IsT s 12 b) (hs : SignAt w vs s) (ra : Ints w va a) (rb : Ints w vb b) (hla : a.length ≤ 100) (hlb : b.length ≤ 100) :
    Calls Try.prog 144 #[vs, va, vb] w fun e w' => ∃ u, e = .returned u ∧ w'.ownsRow w.heap.size 3 1 u (comW s a b []).1.length ((comW s a b []).1.map (Value.int .i64)) ∧ Below w.heap.size w w' := by
  obtain ⟨sa, scap, hse, _⟩ := hs.open
  subst hse
  obtain ⟨aa, acap, hae, _⟩ := ra.open
  subst hae
  obtain ⟨ba, bcap, hbe, _⟩ := rb.open
  subst hbe
  have hmm := @run_makeMap Try.prog
  go_enter Try.func144, Try.ntmps144
  go_wp2_with fail
  clear hmm
  have k0 : ∀ o1 o2 o3, ((((w.alloc (.cells #[.slice sa s.length scap] 23)).alloc o1).alloc o2).alloc o3).cell? ⟨w.heap.size, 0, none⟩ = some (.slice sa s.length scap) := fun o1 o2 o3 => cell_alloc_keep _ (cell_alloc_keep _ (cell_alloc_keep _ (cell_new1 _ _ _)))
  have hbx : ∀ o0 o1 o2 o3, Below w.heap.size w ((((w.alloc o0).alloc o1).alloc o2).alloc o3) := fun o0 o1 o2 o3 => ((((Below.refl _ _).alloc (Nat.le_refl _) _).alloc (by simp) _).alloc (by simp; omega) _).alloc (by simp; omega) _
  have k1 := cell_new1 ((w.alloc (.cells #[.slice sa s.length scap] 23)).alloc (.map #[] 0)) (.map (some (w.heap.size + 1))) 152
  have k2 := cell_new1 (((w.alloc (.cells #[.slice sa s.length scap] 23)).alloc (.map #[] 0)).alloc (.cells #[.map (some (w.heap.size + 1))] 152)) (fnW (w.heap.size + 1 + 1) w.heap.size (w.heap.size + 1 + 1 + 1)) 153
  have km := MapK.made Try.prog 155 ek2 (Value.int .i64) (w.alloc (.cells #[.slice sa s.length scap] 23))
  simp only [World.size_alloc] at k1 k2 km
  have hj := unify_join1 s (.slice sa s.length scap) (w.heap.size + 1 + 1) w.heap.size (w.heap.size + 1 + 1 + 1) (w.heap.size + 1) hsl hsl2 ha b hb _ _ [] _ (hs.below (hbx _ _ _ _)) (ra.below (hbx _ _ _ _)) (rb.below (hbx _ _ _ _)) (cell_alloc_keep _ k1) (k0 _ _ _) k2 (by
    have h := (km.alloc (.cells #[.map (some (w.heap.size + 1))] 152)).alloc (.cells #[fnW (w.heap.size + 1 + 1) w.heap.size (w.heap.size + 1 + 1 + 1)] 153)
    unfold JMap
    rw [show mapK [] = fun _ => none from funext fun x => by simp [mapK]]
    exact h) hla hlb (by simp; omega)
  refine Calls.mono hj ?_
  rintro e w1 ⟨u, rfl, hown, _, hg⟩
  have hB := hbx (.cells #[.slice sa s.length scap] 23) (.map #[] 0) (.cells #[.map (some (w.heap.size + 1))] 152) (.cells #[fnW (w.heap.size + 1 + 1) w.heap.size (w.heap.size + 1 + 1 + 1)] 153)
  have hB2 : Below w.heap.size w w1 := hB.grown hg hB.size (fun q hq => by cases hq; omega)
  have hown2 := owns_base hown hB.size
  clear hj k0 hbx k1 k2 km hown hg hB
  go_wp2
  go_ret
  exact ⟨_, rfl, hown2, hB2⟩
def symN (l : List Int) : Nat := (l.filter fun x => decide (0 ≤ x)).length
theorem symN_le (l : List Int) : symN l ≤ l.length := List.length_filter_le _ _
theorem symN_snoc (l : List Int) (x : Int) : symN (l ++ [x]) = symN l + if 0 ≤ x then 1 else 0 := by
  unfold symN
  rw [List.filter_append]
  by_cases h : 0 ≤ x <;> simp [h]
set_option maxHeartbeats 400000 in
theorem unify_Common (s : Sg) (vs va vb : Value) (a b : List Int) (w : World) (hsl : 1 ≤ s.length) (hsl2 : s.length ≤ 12) (ha : IsT s 12 a) (hb : IsT s 12 b) (hs : SignAt w vs s) (ra : Ints w va a) (rb : Ints w vb b) (hla : a.length ≤ 100) (hlb : b.length ≤ 100) :
    Calls Try.prog 111 #[vs, va, vb] w fun e w' => e = .returned (.int .i64 (symN (comW s a b []).1)) ∧ Below w.heap.size w w' := by
  have hcl := (comW_len s a b []).1
  have hj := unify_join s vs va vb a b w hsl hsl2 ha hb hs ra rb hla hlb
  obtain ⟨L, hL⟩ : ∃ L, (comW s a b []).1 = L := ⟨_, rfl⟩
  rw [hL] at hj hcl ⊢
  have HJ := hid hj
  clear hj hL
  go_enter Try.func111, Try.ntmps111
  go_wp2_with fail
  refine HJ.out.mono ?_
  rintro e w1 ⟨u, rfl, hown, hb1⟩
  obtain ⟨ua, ucap, hue, _, _, _, UC⟩ := (Ints.of_owns hown (by omega)).open
  subst hue
  have UC' := hid UC
  clear UC hown
  go_wp2
  go_loop [7, 15] (fun c i => ∃ k : Nat, k ≤ L.length ∧ i = .int .i64 k ∧ c = .int .i64 (symN (L.take k))) (fun _ i => L.length - (intOf i).toNat)
  case atStart => exact ⟨0, by omega, rfl, rfl⟩
  case round =>
    obtain ⟨k, hk, rfl, rfl⟩ := hrel
    have hsn := symN_le (L.take k)
    have htl : (L.take k).length ≤ k := List.length_take_le _ _
    by_cases hlt : k < L.length
    · obtain ⟨b', o', rfl, hcell⟩ := UC'.out k hlt
      have hst : symN (L.take (k + 1)) = symN (L.take k) + if 0 ≤ L[k] then 1 else 0 := by rw [List.take_succ_eq_append_getElem hlt, symN_snoc]
      by_cases hx : 0 ≤ L[k]
      · rw [if_pos hx] at hst
        have HST := hid hst
        clear hst
        go_wp2
        go_round
        case rel => exact ⟨k + 1, by omega, by go_num, by rw [HST.out]; go_num⟩
        case measure => simp [intOf]; omega
      · rw [if_neg hx] at hst
        have HST := hid hst
        clear hst
        go_wp2
        go_round
        case rel => exact ⟨k + 1, by omega, by go_num, by rw [HST.out]; go_num⟩
        case measure => simp [intOf]; omega
    · have hkl : L.take k = L := List.take_of_length_le (by omega)
      have HKL := hid hkl
      clear hkl
      go_wp2
      go_ret
      exact ⟨ret_int (by rw [HKL.out]), hb1⟩
end Go.Proofs.Ytiacbdipagbblaa
