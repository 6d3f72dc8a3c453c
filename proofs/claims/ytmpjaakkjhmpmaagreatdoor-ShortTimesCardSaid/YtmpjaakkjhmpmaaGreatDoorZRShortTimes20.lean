/-
  WHAT IT HOLDS: contracts of look and occurs of the reference's solver (layer 2). Conditions: the solver reads as data (RSol); the parts are terms.
  WHAT IT HOLDS: contract of Solve of the reference's solver (layer 2). Conditions: the solver reads as data; both are terms of at most 60 numbers; a valid sign.
-/
import Derived.WalkSpells
import Derived.Deep.RegionHeld3
import Derived.Test.YtmpjaakkjhmpmaaGreatDoorZRShortTimes18
import Derived.Test.YtmpjaakkjhmpmaaGreatDoorZRShortTimes13
import Derived.Test.YtmpjaakkjhmpmaaGreatDoorZRShortTimes9
import Derived.Test.YtmpjaakkjhmpmaaGreatDoorZRShortTimes11
namespace Go.Proofs.YtmpjaakkjhmpmaaGreatDoor
open Go Go.RowKit Go.Maps
/-- the reference's solver in memory: its sign in cell 0, then what 24 variables become. -/
structure RSol (w : World) (px : Nat) (vs : Value) (s : Sg) (T : TT) : Prop where
  c0 : w.cell? ⟨px, 0, none⟩ = some vs
  arr : ArrT w px 1 24 T
  sgn : SignAt w vs s
  out : ∀ v, 24 ≤ v → T v = none
theorem RSol.below {w w' : World} {px : Nat} {vs : Value} {s : Sg} {T : TT} (h : RSol w px vs s T) (hb : Below w.heap.size w w') : RSol w' px vs s T :=
  ⟨(hb.cell (World.block_lt_of_cell? _ _ h.c0)).trans h.c0, h.arr.below hb, h.sgn.below hb, h.out⟩
def MT (T : TT) : Int → Option VT := fun n => if n < 0 then T (-n - 1).toNat else none
theorem RSol.its {w : World} {px : Nat} {vs : Value} {s : Sg} {T : TT} (h : RSol w px vs s T) : ∀ x v l, MT T x = some (v, l) → Ints w v l := by
  intro x v l hx
  unfold MT at hx
  split at hx
  · by_cases h24 : (-x - 1).toNat < 24
    · exact (h.arr.ints h24 hx).2
    · rw [h.out _ (by omega)] at hx; cases hx
  · cases hx
/-- a block of n cells that the call owns whole. -/
def ArrV (w : World) (pd : Nat) (cs : Array Value) : Prop := ∃ ty, w.heap[pd]? = some (.cells cs ty (0, 0))
theorem ArrV.cell {w : World} {pd : Nat} {cs : Array Value} (h : ArrV w pd cs) (i : Nat) : w.cell? ⟨pd, i, none⟩ = cs[i]? := by
  obtain ⟨ty, h⟩ := h
  exact cell_of_row w pd i cs ty (0, 0) h
theorem ArrV.frozen {w : World} {pd : Nat} {cs : Array Value} (h : ArrV w pd cs) (i : Nat) : w.frozen? ⟨pd, i, none⟩ = false := by
  obtain ⟨ty, h⟩ := h
  exact frozen_of_row w pd i cs ty h
theorem ArrV.set {w : World} {pd : Nat} {cs : Array Value} (h : ArrV w pd cs) (i : Nat) (u : Value) : ArrV (w.setCell ⟨pd, i, none⟩ u) pd (cs.setIfInBounds i u) := by
  obtain ⟨ty, h⟩ := h
  exact ⟨ty, heap_setCell_same w pd i cs ty u h⟩
theorem ArrV.drewN {w : World} {pd : Nat} {cs : Array Value} (h : ArrV w pd cs) (n : Nat) : ArrV (w.drewN n) pd cs := h
theorem ArrV.below {w w' : World} {pd : Nat} {cs : Array Value} (h : ArrV w pd cs) (hb : Below w.heap.size w w') : ArrV w' pd cs := by
  obtain ⟨ty, h⟩ := h
  exact ⟨ty, by rw [hb.block pd (Array.getElem?_eq_some_iff.1 h).1]; exact h⟩
/-- which variables were looked into. -/
def Boo (cs : Array Value) (D : Nat → Bool) : Prop := cs.size = 24 ∧ ∀ v, v < 24 → cs[v]? = some (.bool (D v))
theorem Boo.set {cs : Array Value} {D : Nat → Bool} (h : Boo cs D) (v : Nat) : Boo (cs.setIfInBounds v (.bool true)) (fun x => if x = v then true else D x) := by
  refine ⟨by simpa using h.1, fun x hx => ?_⟩
  rw [Array.getElem?_setIfInBounds]
  by_cases e : v = x
  · subst e; simp [h.1, hx]
  · rw [if_neg e, h.2 x hx]
    show some (Value.bool (D x)) = some (Value.bool (if x = v then true else D x))
    rw [if_neg (Ne.symm e)]
def inD (D : Nat → Bool) (x : Int) : Prop := D (-x - 1).toNat = true
def DfsD (m : MM) (v : Int) (D : Nat → Bool) (t : List Int) (D' : Nat → Bool) : Prop := (∀ x, D x = true → D' x = true) ∧ v ∉ t ∧ (∀ x ∈ t, x < 0 → (m x).isSome = true → inD D' x) ∧ ∀ n : Int, n < 0 → inD D' n → ¬ inD D n → ∀ p, m n = some p → v ∉ p ∧ ∀ x ∈ p, x < 0 → (m x).isSome = true → inD D' x
theorem DfsD.nil (m : MM) (v : Int) (D : Nat → Bool) : DfsD m v D [] D := ⟨fun _ h => h, by simp, by simp, fun n _ h h' => absurd h h'⟩
theorem DfsD.skip {m : MM} {v : Int} {D D' : Nat → Bool} {t : List Int} {n : Int} (h : DfsD m v D t D') (h1 : n ≠ v) (h2 : n < 0 → (m n).isSome = true → inD D' n) : DfsD m v D (t ++ [n]) D' := by
  refine ⟨h.1, ?_, fun x hx hx0 hs => ?_, h.2.2.2⟩
  · simp only [List.mem_append, List.mem_singleton, not_or]; exact ⟨h.2.1, fun e => h1 e.symm⟩
  · rcases List.mem_append.1 hx with hx | hx
    · exact h.2.2.1 x hx hx0 hs
    · simp at hx; subst hx; exact h2 hx0 hs
theorem DfsD.into {m : MM} {v : Int} {D D' D2 : Nat → Bool} {t p : List Int} {n : Int} {a : Nat} (hn : n < 0) (ha : -n - 1 = a) (h : DfsD m v D t D') (h1 : n ≠ v) (h2 : m n = some p) (k : DfsD m v (fun x => if x = a then true else D' x) p D2) : DfsD m v D (t ++ [n]) D2 := by
  have hD : ∀ x, D' x = true → D2 x = true := fun x hx => k.1 x (by simp only; split <;> simp [hx])
  have hn2 : inD D2 n := by unfold inD; rw [ha, Int.toNat_natCast]; exact k.1 a (by simp)
  refine ⟨fun x hx => hD x (h.1 x hx), ?_, fun x hx hx0 hs => ?_, fun x hx0 hx hxS q hq => ?_⟩
  · simp only [List.mem_append, List.mem_singleton, not_or]; exact ⟨h.2.1, fun e => h1 e.symm⟩
  · rcases List.mem_append.1 hx with hx | hx
    · exact hD _ (h.2.2.1 x hx hx0 hs)
    · simp at hx; subst hx; exact hn2
  · by_cases e : x = n
    · subst e
      rw [h2] at hq
      cases hq
      exact ⟨k.2.1, k.2.2.1⟩
    · by_cases hx' : inD D' x
      · have := h.2.2.2 x hx0 hx' hxS q hq
        exact ⟨this.1, fun y hy hy0 hs => hD _ (this.2 y hy hy0 hs)⟩
      · refine k.2.2.2 x hx0 hx ?_ q hq
        unfold inD at hx' ⊢
        simp only [show ¬ (-x - 1).toNat = a by omega, if_false]; exact hx'
theorem DfsD.no {m : MM} {v : Int} {t : List Int} {D' : Nat → Bool} (h : DfsD m v (fun _ => false) t D') : ¬ Reach m t v := by
  intro H
  obtain ⟨_, h2, h3, h4⟩ := h
  induction H with
  | here t v g1 g2 => exact h2 g1
  | step t v n p g1 g2 g3 g4 ih =>
    have := h4 n g2 (h3 n g1 g2 (by rw [g3]; rfl)) (by unfold inD; simp) p g3
    exact ih this.1 this.2 h4
def SolOK (s : Sg) (m : MM) (a b : List Int) (m' : MM) : Prop := MOK s m' ∧ (∀ σ, TS s σ → (Sol m' σ ↔ Sol m σ ∧ subL σ a = subL σ b)) ∧ (m' = m ∨ ub m' < ub m)
def SolNo (s : Sg) (m : MM) (a b : List Int) : Prop := ∀ σ, TS s σ → Sol m σ → subL σ a ≠ subL σ b
theorem SolOK.swap {s : Sg} {m m' : MM} {a b : List Int} (h : SolOK s m a b m') : SolOK s m b a m' :=
  ⟨h.1, fun σ hσ => (h.2.1 σ hσ).trans ⟨fun ⟨x, y⟩ => ⟨x, y.symm⟩, fun ⟨x, y⟩ => ⟨x, y.symm⟩⟩, h.2.2⟩
theorem SolNo.swap {s : Sg} {m : MM} {a b : List Int} (h : SolNo s m a b) : SolNo s m b a := fun σ h1 h2 e => h σ h1 h2 e.symm
theorem SolOK.looked {s : Sg} {m m' : MM} {a b p q : List Int} (hp : Lk s m a p) (hq : Lk s m b q) (h : SolOK s m p q m') : SolOK s m a b m' :=
  ⟨h.1, fun σ hσ => (h.2.1 σ hσ).trans ⟨fun ⟨x, y⟩ => ⟨x, by rw [hp.sub σ x, hq.sub σ x] at y; exact y⟩, fun ⟨x, y⟩ => ⟨x, by rw [hp.sub σ x, hq.sub σ x]; exact y⟩⟩, h.2.2⟩
theorem SolNo.looked {s : Sg} {m : MM} {a b p q : List Int} (hp : Lk s m a p) (hq : Lk s m b q) (h : SolNo s m p q) : SolNo s m a b := fun σ h1 h2 e => h σ h1 h2 (by rw [hp.sub σ h2, hq.sub σ h2]; exact e)
theorem SolOK.same {s : Sg} {m : MM} (h : MOK s m) (p : List Int) : SolOK s m p p m := ⟨h, fun σ _ => by simp, Or.inl rfl⟩
theorem SolOK.bind {s : Sg} {m : MM} (h : MOK s m) {v : Int} {q : List Int} (h1 : -24 ≤ v) (h2 : v < 0) (hm : m v = none) (hq : IsT s 24 q) (hl : q.length ≤ 60) (H : ¬ Reach m q v) : SolOK s m [v] q (updM m v q) :=
  ⟨h.bind h1 h2 hq hl H, fun σ _ => by rw [sol_upd hm, subL_one, if_pos h2], Or.inr (ub_upd hm h1 h2)⟩
theorem SolNo.occurs {s : Sg} {m : MM} (h : MOK s m) {v : Int} {q : List Int} (h2 : v < 0) (hm : m v = none) (hq : IsT s 24 q) (hqv : ∀ w, w < 0 → q.head? = some w → w ≠ v ∧ m w = none) (H : Reach m q v) : SolNo s m [v] q := by
  intro σ hσ hs e
  rw [subL_one, if_pos h2] at e
  cases q with
  | nil => exact absurd rfl hq.nonempty
  | cons c q =>
    by_cases hc : c < 0
    · obtain ⟨g1, g2⟩ := hqv c hc rfl
      obtain ⟨hr, _⟩ := hq.head_var hc
      subst hr
      cases H with
      | here _ _ k1 k2 => simp at k1; exact g1 k1.symm
      | step _ _ n p k1 k2 k3 k4 => simp at k1; subst k1; rw [g2] at k3; cases k3
    · exact occurs_no h hm (by omega) hq H hσ hs e
theorem SolNo.clash {s : Sg} {m : MM} {c c' : Int} {p q : List Int} (h1 : 0 ≤ c) (h2 : 0 ≤ c') (h : c ≠ c') : SolNo s m (c :: p) (c' :: q) := by
  intro σ _ _ e
  rw [subL_cons_app _ h1, subL_cons_app _ h2] at e
  exact h (List.cons.inj e).1
/-- after so many arguments. -/
def SolArgs (s : Sg) (m : MM) (xs ys : List (List Int)) (k : Nat) (m' : MM) : Prop := MOK s m' ∧ (∀ σ, TS s σ → (Sol m' σ ↔ Sol m σ ∧ ∀ r ∈ (xs.zip ys).take k, subL σ r.1 = subL σ r.2)) ∧ (m' = m ∨ ub m' < ub m)
theorem SolArgs.zero {s : Sg} {m : MM} (h : MOK s m) (xs ys : List (List Int)) : SolArgs s m xs ys 0 m := ⟨h, fun σ _ => by simp, Or.inl rfl⟩
theorem SolArgs.next {s : Sg} {m m1 m2 : MM} {xs ys : List (List Int)} {k : Nat} (h : SolArgs s m xs ys k m1) (hx : k < xs.length) (hy : k < ys.length) (g : SolOK s m1 xs[k] ys[k] m2) : SolArgs s m xs ys (k + 1) m2 := by
  have hk : k < (xs.zip ys).length := by simp; omega
  refine ⟨g.1, fun σ hσ => ?_, ?_⟩
  · rw [g.2.1 σ hσ, h.2.1 σ hσ, List.take_succ_eq_append_getElem hk]
    constructor
    · rintro ⟨⟨a, b⟩, c⟩
      refine ⟨a, fun r hr => ?_⟩
      rcases List.mem_append.1 hr with hr | hr
      · exact b r hr
      · simp at hr; subst hr; exact c
    · rintro ⟨a, b⟩
      exact ⟨⟨a, fun r hr => b r (by simp [hr])⟩, by simpa using b _ (List.mem_append.2 (Or.inr (List.mem_singleton.2 rfl)))⟩
  · rcases g.2.2 with rfl | h2
    · exact h.2.2
    · rcases h.2.2 with rfl | h3
      · exact Or.inr h2
      · exact Or.inr (by omega)
theorem SolArgs.no {s : Sg} {m m1 : MM} {c : Nat} {xs ys : List (List Int)} {k : Nat} (h : SolArgs s m xs ys k m1) (hl : xs.length = ys.length) (hx : ∀ a ∈ xs, IsT s 24 a) (hy : ∀ a ∈ ys, IsT s 24 a) (hkx : k < xs.length) (hky : k < ys.length) (g : SolNo s m1 xs[k] ys[k]) : SolNo s m ((c : Int) :: xs.flatten) ((c : Int) :: ys.flatten) := by
  intro σ hσ hs e
  obtain ⟨w, hw⟩ := id hσ
  rw [subL_node, subL_node] at e
  have e2 := app_unique (s := s) (m := w) (fun z hz => by obtain ⟨u, hu, rfl⟩ := List.mem_map.1 hz; exact subL_T hw (hx u hu)) (fun z hz => by obtain ⟨u, hu, rfl⟩ := List.mem_map.1 hz; exact subL_T hw (hy u hu)) (by simpa using hl) e
  have hall := (map_zip_eq (subL σ) (subL σ) xs ys hl).2 e2
  have hk : k < (xs.zip ys).length := by simp; omega
  refine g σ hσ ((h.2.1 σ hσ).2 ⟨hs, fun r hr => hall r (List.mem_of_mem_take hr)⟩) ?_
  have := hall _ (List.getElem_mem hk)
  simpa using this
theorem SolArgs.done {s : Sg} {m m1 : MM} {c : Nat} {xs ys : List (List Int)} (h : SolArgs s m xs ys xs.length m1) (hl : xs.length = ys.length) (hx : ∀ a ∈ xs, IsT s 24 a) (hy : ∀ a ∈ ys, IsT s 24 a) : SolOK s m ((c : Int) :: xs.flatten) ((c : Int) :: ys.flatten) m1 := by
  refine ⟨h.1, fun σ hσ => ?_, h.2.2⟩
  rw [h.2.1 σ hσ, subL_node, subL_node]
  obtain ⟨w, hw⟩ := hσ
  rw [List.take_of_length_le (by simp; omega), map_zip_eq (subL σ) (subL σ) xs ys hl]
  constructor
  · rintro ⟨a, b⟩; exact ⟨a, by rw [b]⟩
  · rintro ⟨a, b⟩
    exact ⟨a, app_unique (s := s) (m := w) (fun z hz => by obtain ⟨u, hu, rfl⟩ := List.mem_map.1 hz; exact subL_T hw (hx u hu)) (fun z hz => by obtain ⟨u, hu, rfl⟩ := List.mem_map.1 hz; exact subL_T hw (hy u hu)) (by simpa using hl) b⟩
end Go.Proofs.YtmpjaakkjhmpmaaGreatDoor
namespace Go.Proofs.YtmpjaakkjhmpmaaGreatDoor
open Go Go.RowKit Go.Maps
theorem RSol.set {w : World} {px : Nat} {vs : Value} {s : Sg} {T : TT} (h : RSol w px vs s T) {v : Nat} (hv : v < 24) {x : Addr} {n c : Nat} {l : List Int} (hu : Ints w (.slice (some x) n c) l) :
    RSol (w.setCell ⟨px, 1 + v, none⟩ (.slice (some x) n c)) px vs s (fun y => if y = v then some (.slice (some x) n c, l) else T y) ∧ w.grownBy (w.setCell ⟨px, 1 + v, none⟩ (.slice (some x) n c)) (some px) := by
  have hset := h.arr.set hv hu
  refine ⟨⟨?_, hset.1, h.arr.keepSign rfl hset.2 h.sgn, fun y hy => ?_⟩, hset.2⟩
  · rw [World.cell?_setCell_other]
    · exact h.c0
    · intro e; simp at e
  · rw [if_neg (by omega)]; exact h.out y hy
def SolvePost (s : Sg) (px : Nat) (vs : Value) (T : TT) (a b : List Int) (w : World) (e : Ending) (w' : World) : Prop :=
  ∃ T', RSol w' px vs s T' ∧ w.grownBy w' (some px) ∧ ((e = .returned (.bool true) ∧ SolOK s (mR T) a b (mR T')) ∨ (e = .returned (.bool false) ∧ SolNo s (mR T) a b))
theorem SolvePost.bool {s : Sg} {px : Nat} {vs : Value} {T : TT} {a b : List Int} {w : World} {e : Ending} {w' : World} (h : SolvePost s px vs T a b w e w') : ∃ (z : Bool) (T' : TT), e = .returned (.bool z) ∧ RSol w' px vs s T' ∧ w.grownBy w' (some px) ∧ (z = true → SolOK s (mR T) a b (mR T')) ∧ (z = false → SolNo s (mR T) a b) := by
  obtain ⟨T', h1, h2, ⟨rfl, h4⟩ | ⟨rfl, h4⟩⟩ := h
  · exact ⟨true, T', rfl, h1, h2, fun _ => h4, fun h => by cases h⟩
  · exact ⟨false, T', rfl, h1, h2, fun h => (by cases h), fun _ => h4⟩
end Go.Proofs.YtmpjaakkjhmpmaaGreatDoor
