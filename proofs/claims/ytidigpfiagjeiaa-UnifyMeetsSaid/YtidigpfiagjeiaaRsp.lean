/-
  WHAT IT HOLDS: plain steps of the reference's solver: what it says that two terms were solved from binds (SolOK), or cannot be (SolNo). No program in sight.
-/
import Derived.Test.YtidigpfiagjeiaaUnis
namespace Go.Proofs.Ytidigpfiagjeiaa
def SolOK (s : Sg) (m : MM) (a b : List Int) (m' : MM) : Prop := MOK s m' ∧ (∀ σ, TS s σ → (Sol m' σ ↔ Sol m σ ∧ subL σ a = subL σ b)) ∧ (m' = m ∨ ub m' < ub m)
def SolNo (s : Sg) (m : MM) (a b : List Int) : Prop := ∀ σ, TS s σ → Sol m σ → subL σ a ≠ subL σ b
theorem SolOK.swap {s : Sg} {m m' : MM} {a b : List Int} (h : SolOK s m a b m') : SolOK s m b a m' :=
  ⟨h.1, fun σ hσ => (h.2.1 σ hσ).trans ⟨fun ⟨x, y⟩ => ⟨x, y.symm⟩, fun ⟨x, y⟩ => ⟨x, y.symm⟩⟩, h.2.2⟩
theorem SolNo.swap {s : Sg} {m : MM} {a b : List Int} (h : SolNo s m a b) : SolNo s m b a := fun σ h1 h2 e => h σ h1 h2 e.symm
theorem SolOK.looked {s : Sg} {m m' : MM} {a b p q : List Int} (hp : Lk s m a p) (hq : Lk s m b q) (h : SolOK s m p q m') : SolOK s m a b m' :=
  ⟨h.1, fun σ hσ => (h.2.1 σ hσ).trans ⟨fun ⟨x, y⟩ => ⟨x, by rw [hp.sub σ x, hq.sub σ x] at y; exact y⟩, fun ⟨x, y⟩ => ⟨x, by rw [hp.sub σ x, hq.sub σ x]; exact y⟩⟩, h.2.2⟩
theorem SolNo.looked {s : Sg} {m : MM} {a b p q : List Int} (hp : Lk s m a p) (hq : Lk s m b q) (h : SolNo s m p q) : SolNo s m a b := fun σ h1 h2 e => h σ h1 h2 (by rw [hp.sub σ h2, hq.sub σ h2]; exact e)
theorem SolOK.same {s : Sg} {m : MM} (h : MOK s m) (p : List Int) : SolOK s m p p m := ⟨h, fun σ _ => by simp, Or.inl rfl⟩
theorem SolOK.bind {s : Sg} {m : MM} (h : MOK s m) {v : Int} {q : List Int} (h1 : -24 ≤ v) (h2 : v < 0) (hm : m v = none) (hq : IsT s 24 q) (hl : q.length ≤ 60) (H : ¬ Reach m q v) : SolOK s m [v] q (updM m v q) :=
  ⟨h.bind h1 h2 hq hl H, fun σ _ => by rw [sol_upd hm, subL_one, if_pos h2], Or.inr (ub_upd hm h1 h2)⟩
theorem SolNo.occurs {s : Sg} {m : MM} (h : MOK s m) {v : Int} {q : List Int} (h2 : v < 0) (hm : m v = none) (hq : IsT s 24 q) (hqv : ∀ w, w < 0 → q.head? = some w → w ≠ v ∧ m w = none) (H : Reach m q v) : SolNo s m [v] q := by
  intro σ hσ hs e
  rw [subL_one, if_pos h2] at e
  cases q with
  | nil => exact absurd rfl hq.nonempty
  | cons c q =>
    by_cases hc : c < 0
    · obtain ⟨g1, g2⟩ := hqv c hc rfl
      obtain ⟨hr, _⟩ := hq.head_var hc
      subst hr
      cases H with
      | here _ _ k1 k2 => simp at k1; exact g1 k1.symm
      | step _ _ n p k1 k2 k3 k4 => simp at k1; subst k1; rw [g2] at k3; cases k3
    · exact occurs_no h hm (by omega) hq H hσ hs e
theorem SolNo.clash {s : Sg} {m : MM} {c c' : Int} {p q : List Int} (h1 : 0 ≤ c) (h2 : 0 ≤ c') (h : c ≠ c') : SolNo s m (c :: p) (c' :: q) := by
  intro σ _ _ e
  rw [subL_cons_app _ h1, subL_cons_app _ h2] at e
  exact h (List.cons.inj e).1
/-- after so many arguments. -/
def SolArgs (s : Sg) (m : MM) (xs ys : List (List Int)) (k : Nat) (m' : MM) : Prop := MOK s m' ∧ (∀ σ, TS s σ → (Sol m' σ ↔ Sol m σ ∧ ∀ r ∈ (xs.zip ys).take k, subL σ r.1 = subL σ r.2)) ∧ (m' = m ∨ ub m' < ub m)
theorem SolArgs.zero {s : Sg} {m : MM} (h : MOK s m) (xs ys : List (List Int)) : SolArgs s m xs ys 0 m := ⟨h, fun σ _ => by simp, Or.inl rfl⟩
theorem SolArgs.next {s : Sg} {m m1 m2 : MM} {xs ys : List (List Int)} {k : Nat} (h : SolArgs s m xs ys k m1) (hx : k < xs.length) (hy : k < ys.length) (g : SolOK s m1 xs[k] ys[k] m2) : SolArgs s m xs ys (k + 1) m2 := by
  have hk : k < (xs.zip ys).length := by simp; omega
  refine ⟨g.1, fun σ hσ => ?_, ?_⟩
  · rw [g.2.1 σ hσ, h.2.1 σ hσ, List.take_succ_eq_append_getElem hk]
    constructor
    · rintro ⟨⟨a, b⟩, c⟩
      refine ⟨a, fun r hr => ?_⟩
      rcases List.mem_append.1 hr with hr | hr
      · exact b r hr
      · simp at hr; subst hr; exact c
    · rintro ⟨a, b⟩
      exact ⟨⟨a, fun r hr => b r (by simp [hr])⟩, by simpa using b _ (List.mem_append.2 (Or.inr (List.mem_singleton.2 rfl)))⟩
  · rcases g.2.2 with rfl | h2
    · exact h.2.2
    · rcases h.2.2 with rfl | h3
      · exact Or.inr h2
      · exact Or.inr (by omega)
theorem SolArgs.no {s : Sg} {m m1 : MM} {c : Nat} {xs ys : List (List Int)} {k : Nat} (h : SolArgs s m xs ys k m1) (hl : xs.length = ys.length) (hx : ∀ a ∈ xs, IsT s 24 a) (hy : ∀ a ∈ ys, IsT s 24 a) (hkx : k < xs.length) (hky : k < ys.length) (g : SolNo s m1 xs[k] ys[k]) : SolNo s m ((c : Int) :: xs.flatten) ((c : Int) :: ys.flatten) := by
  intro σ hσ hs e
  obtain ⟨w, hw⟩ := id hσ
  rw [subL_node, subL_node] at e
  have e2 := app_unique (s := s) (m := w) (fun z hz => by obtain ⟨u, hu, rfl⟩ := List.mem_map.1 hz; exact subL_T hw (hx u hu)) (fun z hz => by obtain ⟨u, hu, rfl⟩ := List.mem_map.1 hz; exact subL_T hw (hy u hu)) (by simpa using hl) e
  have hall := (map_zip_eq (subL σ) (subL σ) xs ys hl).2 e2
  have hk : k < (xs.zip ys).length := by simp; omega
  refine g σ hσ ((h.2.1 σ hσ).2 ⟨hs, fun r hr => hall r (List.mem_of_mem_take hr)⟩) ?_
  have := hall _ (List.getElem_mem hk)
  simpa using this
theorem SolArgs.done {s : Sg} {m m1 : MM} {c : Nat} {xs ys : List (List Int)} (h : SolArgs s m xs ys xs.length m1) (hl : xs.length = ys.length) (hx : ∀ a ∈ xs, IsT s 24 a) (hy : ∀ a ∈ ys, IsT s 24 a) : SolOK s m ((c : Int) :: xs.flatten) ((c : Int) :: ys.flatten) m1 := by
  refine ⟨h.1, fun σ hσ => ?_, h.2.2⟩
  rw [h.2.1 σ hσ, subL_node, subL_node]
  obtain ⟨w, hw⟩ := hσ
  rw [List.take_of_length_le (by simp; omega), map_zip_eq (subL σ) (subL σ) xs ys hl]
  constructor
  · rintro ⟨a, b⟩; exact ⟨a, by rw [b]⟩
  · rintro ⟨a, b⟩
    exact ⟨a, app_unique (s := s) (m := w) (fun z hz => by obtain ⟨u, hu, rfl⟩ := List.mem_map.1 hz; exact subL_T hw (hx u hu)) (fun z hz => by obtain ⟨u, hu, rfl⟩ := List.mem_map.1 hz; exact subL_T hw (hy u hu)) (by simpa using hl) b⟩
theorem SolOK.mgu {s : Sg} {a b : List Int} {m : MM} (h : SolOK s noM a b m) : Mgu s a b m :=
  ⟨h.1, fun σ hσ => by rw [h.2.1 σ hσ]; simp [Sol, noM]⟩
theorem SolNo.nou {s : Sg} {a b : List Int} (h : SolNo s noM a b) : NoU s a b := fun σ hσ => h σ hσ (fun _ _ h => by cases h)
theorem fw_arg {m : MM} {c : Nat} {xs : List (List Int)} {k : Nat} (hk : k < xs.length) : (fw m xs[k]).length < (fw m ((c : Int) :: xs.flatten)).length := by
  rw [fw_app _ (by omega), List.length_cons]
  have : xs.flatten = (xs.take k).flatten ++ (xs[k] ++ (xs.drop (k + 1)).flatten) := by
    conv => lhs; rw [← List.take_append_drop k xs, List.flatten_append, List.drop_eq_getElem_cons hk, List.flatten_cons]
  rw [this, fw_append, fw_append, List.length_append, List.length_append]
  omega
def meas1 (m : MM) (a : List Int) : Nat := ub m * BIG + (fw m a).length
theorem meas1_arg {s : Sg} {m m1 : MM} {a : List Int} {c : Nat} {xs ys : List (List Int)} {k : Nat} (hp : Lk s m a ((c : Int) :: xs.flatten)) (h : SolArgs s m xs ys k m1) (hk : k < xs.length) (hl : xs[k].length ≤ 60) : meas1 m1 xs[k] < meas1 m a := by
  unfold meas1
  rcases h.2.2 with rfl | h2
  · rw [← hp.fwe]
    have := fw_arg (m := m1) (c := c) hk
    omega
  · have h3 := fw_len h.1 hl
    have h4 : (60 : Nat) ^ 26 < BIG := by decide
    have h5 : (ub m1 + 1) * BIG ≤ ub m * BIG := Nat.mul_le_mul_right _ h2
    rw [Nat.add_mul, Nat.one_mul] at h5
    omega
end Go.Proofs.Ytidigpfiagjeiaa
