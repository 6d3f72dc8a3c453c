/-
  WHAT IT HOLDS: the text that tells a statement (its numbers, with spaces between) tells it apart from all others. No program in sight.
-/
import Derived.Lib.ItoaNum
import Derived.Lib.ItoaLen
import Derived.Lib.Join
import Derived.Test.YtmpjaakkjhmpmaaGreatDoorZRShortCites1
namespace Go.Proofs.YtmpjaakkjhmpmaaGreatDoor
open Go
theorem dd_lt {u : Nat} (h : u < 10) : Lib.decDigits u = [UInt8.ofNat (48 + u)] := by rw [Lib.decDigits, dif_pos h]
theorem dd_ge {u : Nat} (h : ¬ u < 10) : Lib.decDigits u = Lib.decDigits (u / 10) ++ [UInt8.ofNat (48 + u % 10)] := by rw [Lib.decDigits, dif_neg h]
theorem dig_inj {a b : Nat} (ha : a < 10) (hb : b < 10) (h : UInt8.ofNat (48 + a) = UInt8.ofNat (48 + b)) : a = b := by
  have h1 := congrArg UInt8.toNat h
  simp only [UInt8.toNat_ofNat'] at h1
  omega
theorem dd_ne : ∀ u, Lib.decDigits u ≠ [] := fun u => by
  by_cases h : u < 10
  · rw [dd_lt h]; simp
  · rw [dd_ge h]; simp
theorem dd_mem {u : Nat} : ∀ c ∈ Lib.decDigits u, 48 ≤ c.toNat ∧ c.toNat ≤ 57 := by
  induction u using Nat.strongRecOn with
  | _ u ih =>
    intro c hc
    have key : ∀ a, a < 10 → 48 ≤ (UInt8.ofNat (48 + a)).toNat ∧ (UInt8.ofNat (48 + a)).toNat ≤ 57 := fun a ha => by
      simp only [UInt8.toNat_ofNat']; omega
    by_cases h : u < 10
    · rw [dd_lt h, List.mem_singleton] at hc
      subst hc; exact key _ h
    · rw [dd_ge h, List.mem_append, List.mem_singleton] at hc
      rcases hc with hc | rfl
      · exact ih _ (by omega) c hc
      · exact key _ (by omega)
theorem dd_inj : ∀ u v, Lib.decDigits u = Lib.decDigits v → u = v := by
  intro u
  induction u using Nat.strongRecOn with
  | _ u ih =>
    intro v h
    by_cases hu : u < 10 <;> by_cases hv : v < 10
    · rw [dd_lt hu, dd_lt hv] at h
      exact dig_inj hu hv (by simpa using h)
    · rw [dd_lt hu, dd_ge hv] at h
      have := congrArg List.length h
      have h2 := List.length_pos_iff.2 (dd_ne (v / 10))
      simp at this
      exact absurd this (dd_ne _)
    · rw [dd_ge hu, dd_lt hv] at h
      have := congrArg List.length h
      simp at this
      exact absurd this (dd_ne _)
    · rw [dd_ge hu, dd_ge hv] at h
      obtain ⟨h1, h2⟩ := List.append_inj' h rfl
      have e1 := ih (u / 10) (by omega) _ h1
      have e2 := dig_inj (a := u % 10) (b := v % 10) (by omega) (by omega) (by simpa using h2)
      omega
theorem itoa_ne (n : Int) : Lib.itoa n ≠ [] := by
  unfold Lib.itoa
  split
  · simp
  · exact dd_ne _
theorem itoa_sp (n : Int) : (32 : UInt8) ∉ Lib.itoa n := by
  unfold Lib.itoa
  have key : ∀ u, (32 : UInt8) ∉ Lib.decDigits u := fun u h => by have h1 := (dd_mem _ h).1; exact absurd h1 (by decide)
  split
  · intro h
    rcases List.mem_cons.1 h with h | h
    · exact absurd h (by decide)
    · exact key _ h
  · exact key _
theorem itoa_inj {m n : Int} (h : Lib.itoa m = Lib.itoa n) : m = n := by
  have no : ∀ u t, Lib.decDigits u ≠ 45 :: t := fun u t h => by
    have h1 := (dd_mem (u := u) 45 (by rw [h]; exact List.mem_cons_self)).1
    exact absurd h1 (by decide)
  unfold Lib.itoa at h
  split at h <;> split at h
  · have := dd_inj _ _ (List.cons.inj h).2; omega
  · exact absurd h.symm (no _ _)
  · exact absurd h (no _ _)
  · have := dd_inj _ _ h; omega
theorem cut32 : ∀ {x y A B : List UInt8}, (32 : UInt8) ∉ x → (32 : UInt8) ∉ y → (A = [] ∨ ∃ A', A = 32 :: A') → (B = [] ∨ ∃ B', B = 32 :: B') → x ++ A = y ++ B → x = y ∧ A = B
  | [], [], _, _, _, _, _, _, h => ⟨rfl, h⟩
  | [], c :: y, A, B, _, hy, hA, _, h => by
    exfalso
    rw [List.nil_append, List.cons_append] at h
    rcases hA with rfl | ⟨A', rfl⟩
    · cases h
    · exact hy (by rw [(List.cons.inj h).1]; exact List.mem_cons_self)
  | c :: x, [], A, B, hx, _, _, hB, h => by
    exfalso
    rw [List.nil_append, List.cons_append] at h
    rcases hB with rfl | ⟨B', rfl⟩
    · cases h
    · exact hx (by rw [← (List.cons.inj h).1]; exact List.mem_cons_self)
  | c :: x, d :: y, A, B, hx, hy, hA, hB, h => by
    rw [List.cons_append, List.cons_append] at h
    obtain ⟨h1, h2⟩ := List.cons.inj h
    obtain ⟨h3, h4⟩ := cut32 (fun m => hx (List.mem_cons_of_mem _ m)) (fun m => hy (List.mem_cons_of_mem _ m)) hA hB h2
    exact ⟨by rw [h1, h3], h4⟩
theorem jt_head (r : List (List UInt8)) : Lib.joinTail [32] r = [] ∨ ∃ A', Lib.joinTail [32] r = 32 :: A' := by
  cases r with
  | nil => exact Or.inl rfl
  | cons x r => exact Or.inr ⟨x ++ Lib.joinTail [32] r, by simp [Lib.joinTail]⟩
theorem jt_cons (x : List UInt8) (r : List (List UInt8)) : Lib.joinTail [32] (x :: r) = 32 :: (x ++ Lib.joinTail [32] r) := by simp [Lib.joinTail]
theorem jt_inj : ∀ {r q : List (List UInt8)}, (∀ x ∈ r, (32 : UInt8) ∉ x) → (∀ x ∈ q, (32 : UInt8) ∉ x) → Lib.joinTail [32] r = Lib.joinTail [32] q → r = q
  | [], [], _, _, _ => rfl
  | [], y :: q, _, _, h => by rw [jt_cons] at h; cases h
  | x :: r, [], _, _, h => by rw [jt_cons] at h; cases h
  | x :: r, y :: q, hr, hq, h => by
    rw [jt_cons, jt_cons] at h
    obtain ⟨h1, h2⟩ := cut32 (hr x List.mem_cons_self) (hq y List.mem_cons_self) (jt_head r) (jt_head q) (List.cons.inj h).2
    rw [h1, jt_inj (fun z hz => hr z (List.mem_cons_of_mem _ hz)) (fun z hz => hq z (List.mem_cons_of_mem _ hz)) h2]
/-- the text that tells a statement. -/
def shkL (t : List Int) : List UInt8 := Lib.join (t.map Lib.itoa) [32]
def shkB (t : List Int) : ByteArray := ⟨(shkL t).toArray⟩
theorem shkL_inj {t u : List Int} (h : shkL t = shkL u) : t = u := by
  have sp : ∀ (t : List Int), ∀ x ∈ t.map Lib.itoa, (32 : UInt8) ∉ x := fun t x hx => by
    obtain ⟨n, -, rfl⟩ := List.mem_map.1 hx
    exact itoa_sp n
  have mi : ∀ {t u : List Int}, t.map Lib.itoa = u.map Lib.itoa → t = u := fun {t u} h => (List.map_inj_right (fun _ _ h => itoa_inj h)).1 h
  unfold shkL at h
  cases t with
  | nil =>
    cases u with
    | nil => rfl
    | cons n u =>
      exfalso
      rw [List.map_cons, List.map_nil, Lib.join_cons, Lib.join_nil] at h
      have := congrArg List.length h
      have h2 := List.length_pos_iff.2 (itoa_ne n)
      simp only [List.length_nil, List.length_append] at this
      omega
  | cons m t =>
    cases u with
    | nil =>
      exfalso
      rw [List.map_cons, List.map_nil, Lib.join_cons, Lib.join_nil] at h
      have := congrArg List.length h
      have h2 := List.length_pos_iff.2 (itoa_ne m)
      simp only [List.length_nil, List.length_append] at this
      omega
    | cons n u =>
      rw [List.map_cons, List.map_cons, Lib.join_cons, Lib.join_cons] at h
      obtain ⟨h1, h2⟩ := cut32 (itoa_sp m) (itoa_sp n) (jt_head _) (jt_head _) h
      have h3 := mi (jt_inj (sp t) (sp u) h2)
      rw [itoa_inj h1, h3]
theorem shkB_inj {t u : List Int} (h : shkB t = shkB u) : t = u := by
  unfold shkB at h
  exact shkL_inj (by have := congrArg (fun x => x.data.toList) h; simpa using this)
end Go.Proofs.YtmpjaakkjhmpmaaGreatDoor
