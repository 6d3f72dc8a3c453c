/-
  WHAT IT HOLDS: contract of the inner function of Lattice of package find. Conditions: the map and the variables that it leads to read as data.
-/
import Derived.Test.YtiacbdipagbblaaLat
namespace Go.Proofs.Ytiacbdipagbblaa
open Go Go.RowKit Go.Maps
abbrev IMap (w : World) (b n : Nat) (M : Int → Option VT) : Prop := MapK Try.prog 3 eI eV w b n M
theorem zero_ints (w : World) : (zeroValue 25).run Try.prog w = .ok (.slice none 0 0) w := by kernel_rfl
set_option maxRecDepth 100000 in
theorem find_Lattice1 (k i j : Int) (pm pj pi bm n : Nat) (M : Int → Option VT) (vj vk : Value) (lj lk : List Int) (w : World) (cm : w.cell? ⟨pm, 0, none⟩ = some (.map (some bm))) (cj : w.cell? ⟨pj, 0, none⟩ = some (.int .i64 j)) (ci : w.cell? ⟨pi, 0, none⟩ = some (.int .i64 i))
    (hM : IMap w bm n M) (hj : M j = some (vj, lj)) (hk : M k = some (vk, lk)) (ij : Ints w vj lj) (ik : Ints w vk lk) (rj : -1000000 ≤ j ∧ j ≤ 1000000) (rk : -1000000 ≤ k ∧ k ≤ 1000000) :
    Calls Try.prog 83 #[.int .i64 k, .pointer (some ⟨pm, 0, none⟩), .pointer (some ⟨pj, 0, none⟩), .pointer (some ⟨pi, 0, none⟩)] w fun e w' => e = .returned (.bool (decide (k ∈ lj) && decide (i ∈ lk))) ∧ w = w' := by
  have HKJ := hid (int_key j (wf_small rj.1 rj.2))
  have HKK := hid (int_key k (wf_small rk.1 rk.2))
  have HJ := hid hj
  have HK := hid hk
  have CJ := hid (sl_Contains_ints vj lj k w ij)
  have CK := hid (sl_Contains_ints vk lk i w ik)
  clear hj hk
  cases h1 : decide (k ∈ lj)
  · rw [h1] at CJ
    go_enter Try.func83, Try.ntmps83
    go_wp2_with (first
      | (at_lookup; refine wpList_lookup_mapK rfl _ _ 75 false rfl (int_keyed Try.underlying3) eI_inj Try.underlying75 (zero_ints _) rfl hM j rfl HKJ.out vj (by rw [HJ.out]; rfl) ?_)
      | (go_at_call 82; refine CJ.out.mono ?_; rintro e w1 ⟨rfl, rfl⟩))
    go_ret
    exact ⟨rfl, rfl⟩
  · rw [h1] at CJ
    go_enter Try.func83, Try.ntmps83
    go_wp2_with (first
      | (at_lookup; refine wpList_lookup_mapK rfl _ _ 75 false rfl (int_keyed Try.underlying3) eI_inj Try.underlying75 (zero_ints _) rfl hM j rfl HKJ.out vj (by rw [HJ.out]; rfl) ?_)
      | (at_lookup; refine wpList_lookup_mapK rfl _ _ 75 false rfl (int_keyed Try.underlying3) eI_inj Try.underlying75 (zero_ints _) rfl hM k rfl HKK.out vk (by rw [HK.out]; rfl) ?_)
      | (go_at_call 82; with_reducible refine CJ.out.mono ?_; rintro e w1 ⟨rfl, rfl⟩)
      | (go_at_call 82; with_reducible refine CK.out.mono ?_; rintro e w1 ⟨rfl, rfl⟩))
    go_ret
    exact ⟨by simp, rfl⟩
end Go.Proofs.Ytiacbdipagbblaa
