/-
  WHAT IT HOLDS: contracts of Closeness of package find, and of the laws' own helpers Small, Few, awake. Conditions: the arguments read as data.
-/
import Derived.Test.YtidigpfiagjeiaaFind
import Derived.Test.YtidigpfiagjeiaaJoinc
namespace Go.Proofs.Ytidigpfiagjeiaa
open Go Go.RowKit Go.Maps
theorem termB_facts {s : Sg} {t : List Int} (h : termB s t = true) : signB s = true ∧ 1 ≤ s.length ∧ s.length ≤ 12 ∧ t.length ≤ 60 := by
  have h' := h
  unfold termB at h'
  simp only [Bool.and_eq_true] at h'
  have h1 := signB_len h'.1.1
  have h2 := inB_true.1 h'.1.2
  exact ⟨h'.1.1, h1.1, h1.2, by omega⟩
def sCN : Sg := [(⟨#[67]⟩, 2), (⟨#[78]⟩, 1)]
theorem below_alloc3 (w : World) (a b c : Obj) : Below w.heap.size w (((w.alloc a).alloc b).alloc c) :=
  (((Below.refl _ _).alloc (Nat.le_refl _) _).alloc (by simp) _).alloc (by simp; omega) _
theorem law1_Small (vs vl : Value) (s : Sg) (l : List (List Int)) (w : World) (hs : SignAt w vs s) (hl : Terms w vl l) :
    Calls Try.prog 15 #[vs, vl] w fun e w' => e = .returned (.bool (smallB s l)) ∧ w = w' := by
  obtain ⟨sa, scap, rfl, _, hsl, _⟩ := hs.open
  obtain ⟨la, lcap, rfl, hl1, hl2, _, LC⟩ := hl.open
  have LC' := hid LC
  clear LC hs hl
  go_enter Try.func15, Try.ntmps15
  go_wp2
  go_loop [5] (fun i => ∃ k : Nat, k ≤ l.length ∧ i = .int .i64 k ∧ (l.take k).all (fun t => decide (t.length ≤ 200)) = true) (fun i => l.length - (intOf i).toNat)
  case atStart => exact ⟨0, by omega, rfl, by simp⟩
  case round =>
    obtain ⟨k, hk, rfl, hrel⟩ := hrel
    have HR := hid hrel
    clear hrel
    by_cases hlt : k < l.length
    · obtain ⟨b, o, u, rfl, hcell, hu⟩ := LC'.out k hlt
      obtain ⟨ua, ucap, rfl, _, hul, _⟩ := hu.open
      by_cases h2 : (200 : Int) < l[k].length
      · have HF : Hid (smallB s l = false) := hid (by
          unfold smallB
          have : l.all (fun t => decide (t.length ≤ 200)) = false := by
            rw [List.all_eq_false]; exact ⟨l[k], List.getElem_mem hlt, by simp; omega⟩
          rw [this]; rfl)
        go_wp2
        go_ret
        exact ⟨ret_bool HF.out.symm, rfl⟩
      · go_wp2
        go_round
        case rel =>
          refine ⟨k + 1, by omega, by go_num, ?_⟩
          rw [List.take_succ_eq_append_getElem hlt, List.all_append, HR.out]
          simp; omega
        case measure => simp [intOf]; omega
    · have HF : Hid (smallB s l = decide ((s.length : Int) ≤ 40)) := hid (by
        unfold smallB
        have := HR.out
        rw [List.take_of_length_le (by omega)] at this
        rw [this]
        simp; omega)
      go_wp2
      go_ret
      exact ⟨ret_bool HF.out.symm, rfl⟩
end Go.Proofs.Ytidigpfiagjeiaa
