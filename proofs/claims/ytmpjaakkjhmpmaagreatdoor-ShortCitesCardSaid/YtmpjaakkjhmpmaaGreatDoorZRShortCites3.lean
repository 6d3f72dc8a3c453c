/-
  WHAT IT HOLDS: contracts of generic functions of package slices at the types of this program: IndexFunc, ContainsFunc, Index, Contains. Conditions: the slice reads as data; a function value that is handed in says what p says and leaves what was there.
-/
import Derived.Shelf.Abstract
import Derived.Test.YtmpjaakkjhmpmaaGreatDoorZRShortCites2
import Derived.Test.YtmpjaakkjhmpmaaGreatDoorZRShortCites1
namespace Go.Proofs.YtmpjaakkjhmpmaaGreatDoor
open Go Go.RowKit Go.Maps
set_option maxHeartbeats 400000 in
theorem sl_IndexFunc_terms (g : Nat) (lb : Array Value) (eg : ∀ args w, (callFunc g args).run Tryz.prog w = .ok (.enter g args) w) (v : Value) (n : Nat) (xs : List Value) (w : World) (hv : RowK w v 1 n xs) (p : Nat → Bool)
    (hp : ∀ (i : Nat) (x : Value) (W : World), xs[i]? = some x → Below w.heap.size w W → Calls Tryz.prog g (#[x] ++ lb) W fun e w' => e = .returned (.bool (p i)) ∧ Below W.heap.size W w') :
    Calls Tryz.prog 181 #[v, .func (.func g) #[] lb] w fun e w' => ∃ r : Int, e = .returned (.int .i64 r) ∧ (0 ≤ r ↔ (List.range n).any p = true) ∧ Below w.heap.size w w' := by
  obtain ⟨hlen, a, cap, rfl, h1, h2, h3, HC⟩ := hv
  have HC' := hid HC
  have HP := hid hp
  have HL := hid hlen
  clear HC hp hlen h3
  go_enter Tryz.func181, Tryz.ntmps181
  go_wp2
  go_loopw [8] (fun i wr => ∃ k : Nat, k ≤ n ∧ i = .int .i64 k ∧ Below w.heap.size w wr ∧ ∀ j, j < k → p j = false) (fun i _ => n - (intOf i).toNat)
  case atStart => exact ⟨0, by omega, rfl, Below.refl _ _, by simp⟩
  case round =>
    obtain ⟨k, hk, rfl, hb, hrel⟩ := hrel
    have HR := hid hrel
    clear hrel
    by_cases hlt : k < n
    · obtain ⟨x, hx⟩ : ∃ x, xs[k]? = some x := ⟨xs[k]'(by have := HL.out; omega), by simp [HL.out, hlt]⟩
      obtain ⟨b, o, rfl, hcell0⟩ := HC'.out k x hx
      have hcell : wr.cell? ⟨b, o + k, none⟩ = some x := (hb.cell (World.block_lt_of_cell? _ _ hcell0)).trans hcell0
      have hc := HP.out k x wr hx hb
      have HX := hid hx
      clear hcell0 hx
      cases h4 : p k
      · rw [h4] at hc
        have HCC := hid hc
        clear hc
        go_wp2_with (go_at_fn g; refine HCC.out.mono ?_; rintro e w' ⟨rfl, hb1⟩)
        go_roundw
        case rel =>
          refine ⟨k + 1, by omega, by go_num, hb.trans (hb1.mono hb.size), fun j hj => ?_⟩
          by_cases hjk : j = k
          · rw [hjk]; exact h4
          · exact HR.out j (by omega)
        case measure => simp [intOf]; omega
      · rw [h4] at hc
        have HCC := hid hc
        clear hc
        go_wp2_with (go_at_fn g; refine HCC.out.mono ?_; rintro e w' ⟨rfl, hb1⟩)
        go_ret
        refine ⟨_, rfl, ?_, hb.trans (hb1.mono hb.size)⟩
        have : (List.range n).any p = true := by rw [List.any_eq_true]; exact ⟨k, by simp [hlt], h4⟩
        rw [this]
        simp
    · go_wp2
      go_ret
      refine ⟨_, rfl, ?_, hb⟩
      have : (List.range n).any p = false := by
        rw [List.any_eq_false]
        intro j hj
        have := HR.out j (by have := List.mem_range.1 hj; omega)
        simp [this]
      rw [this]
      simp
theorem sl_ContainsFunc_terms (g : Nat) (lb : Array Value) (eg : ∀ args w, (callFunc g args).run Tryz.prog w = .ok (.enter g args) w) (v : Value) (n : Nat) (xs : List Value) (w : World) (hv : RowK w v 1 n xs) (p : Nat → Bool)
    (hp : ∀ (i : Nat) (x : Value) (W : World), xs[i]? = some x → Below w.heap.size w W → Calls Tryz.prog g (#[x] ++ lb) W fun e w' => e = .returned (.bool (p i)) ∧ Below W.heap.size W w') :
    Calls Tryz.prog 147 #[v, .func (.func g) #[] lb] w fun e w' => e = .returned (.bool ((List.range n).any p)) ∧ Below w.heap.size w w' := by
  have HP := hid (sl_IndexFunc_terms g lb eg v n xs w hv p hp)
  clear hp
  obtain ⟨hlen, a, cap, rfl, h1, h2, h3, HC⟩ := hv
  clear HC hlen h3
  go_enter Tryz.func147, Tryz.ntmps147
  go_wp2_with (go_at_call 181; refine HP.out.mono ?_; rintro e w' ⟨r, rfl, hr, hb⟩; have HI := hid hr; clear hr)
  go_ret
  refine ⟨ret_bool ?_, by assumption⟩
  rw [Bool.eq_iff_iff]
  simp only [decide_eq_true_eq]
  exact HI.out
end Go.Proofs.YtmpjaakkjhmpmaaGreatDoor
