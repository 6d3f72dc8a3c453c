/-
  WHAT IT HOLDS: contract of Groups of package find. Conditions: the arguments read as data; the shelf and the sign are small.
-/
import Derived.Test.YtiacbdipagbblaaZRFindPermuted40
namespace Go.Proofs.Ytiacbdipagbblaa
open Go Go.RowKit Go.Maps
theorem nodup_bound : ∀ (n : Nat) (l : List Int), l.Nodup → (∀ x ∈ l, -(n : Int) ≤ x ∧ x < 0) → l.length ≤ n := by
  intro n
  induction n with
  | zero => intro l _ h; cases l with
    | nil => simp
    | cons a l => have := h a (by simp); omega
  | succ n ih =>
    intro l hd h
    have h1 := ih (l.erase (-((n + 1 : Nat) : Int))) (hd.erase _) fun x hx => by
      have h2 := (List.Nodup.mem_erase_iff hd).1 hx
      have := h x h2.2
      have := h2.1
      omega
    have h3 := List.length_erase (a := (-((n + 1 : Nat) : Int))) (l := l)
    split at h3 <;> omega
theorem vars_le {s : Sg} {t : List Int} (h : IsT s 12 t) : (varsF [] t).length ≤ 12 :=
  nodup_bound 12 _ (varsF_nodup t [] (by simp)) fun x hx => by
    rcases (varsF_mem t [] x).1 hx with h1 | h1
    · simp at h1
    · have := h.vars x h1.1 h1.2
      omega
set_option maxRecDepth 100000 in
theorem find_Groups (vs vl : Value) (s : Sg) (l : List (List Int)) (w : World) (hs : SignAt w vs s) (hv : Terms w vl l) (hs1 : s.length ≤ 1000) (hl1 : l.length ≤ 1000) :
    Calls Try.prog 18 #[vs, vl] w fun e w' => Below w.heap.size w w' ∧ ((shelfB s l = false ∧ e = .returned (.tuple #[.slice none 0 0, .int .i64 1])) ∨
      (shelfB s l = true ∧ ∃ u vs', e = .returned (.tuple #[u, .int .i64 0]) ∧ NR w' w.heap.size 25 3 u vs' (grpL (l.map canonL) l.length))) := by
  have key := find_grouped 70 #[] (enters_of Try.func70 (by kernel_rfl) rfl) canonL vs vl s l w hs hv hs1 hl1 (fun h t ht => by
    obtain ⟨g1, g2, g3, g4, g5, g6⟩ := shelfB_facts h
    have hb : termB s t = true := by unfold allB at g4; exact List.all_eq_true.1 g4 t ht
    have hT := termB_T hb
    have hr := T_small hT (by omega)
    refine ⟨fun z hz => ?_, by rw [canonL_len]; exact hT.ne, by rw [canonL_len]; have := termB_facts hb; omega⟩
    obtain ⟨x, hx, rfl⟩ := List.mem_map.1 hz
    have := hr x hx
    unfold numV
    split
    · rename_i hx0
      have h2 := List.idxOf_lt_length_of_mem ((varsF_mem t [] x).2 (Or.inr ⟨hx, hx0⟩))
      have h3 : (varsF [] t).length ≤ 12 := vars_le hT
      omega
    · omega) (fun h t ht x W ix hsW => by
    obtain ⟨g1, g2, g3, g4, g5, g6⟩ := shelfB_facts h
    have hb : termB s t = true := by unfold allB at g4; exact List.all_eq_true.1 g4 t ht
    exact find_form vs x s t W hsW ix hs1 hb)
  have KEY := hid key
  clear key
  go_enter Try.func18, Try.ntmps18
  go_wp2_with fail
  refine KEY.out.mono ?_
  rintro e w1 ⟨hb, ⟨h1, rfl⟩ | ⟨h1, u, vs', rfl, hN⟩⟩
  · go_wp2
    go_ret2
    exact ⟨hb, Or.inl ⟨h1, rfl⟩⟩
  · have HN := hid hN
    clear hN
    go_wp2
    go_ret2
    exact ⟨hb, Or.inr ⟨h1, _, vs', rfl, HN.out⟩⟩
end Go.Proofs.Ytiacbdipagbblaa
