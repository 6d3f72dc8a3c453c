/-
  WHAT IT HOLDS: contracts of Instance of package unify, of Alike and Canonical of package term. Conditions: the arguments read as data; the sign is small.
  WHAT IT HOLDS: the parts of a term with their paths, in the order in which they stand, and where a question is had. No program. No condition.
  WHAT IT HOLDS: the paths to all parts of a term by where these begin, and how those of arguments come from those of their parts. No program. No condition.
-/
import Derived.Test.YtldgkidojepdlaaGreatZRTopCarriedShelves18
import Derived.Test.YtldgkidojepdlaaGreatZRTopCarriedShelves12
import Derived.Test.YtldgkidojepdlaaGreatZRTopCarriedShelves6
namespace Go.Proofs.YtldgkidojepdlaaGreat
open Go Go.RowKit Go.Maps
def instB (s : Sg) (a b : List Int) : Bool := termB s a && termB s b && (matL s a b noM).isSome
def alikeB (s : Sg) (a b : List Int) : Bool := termB s a && termB s b && decide (canonL a = canonL b)
theorem termB_wf {s : Sg} {t : List Int} (h : termB s t = true) : ∀ x ∈ t, -1000000 ≤ x ∧ x ≤ 1000000 := by
  have h1 := termB_facts h
  have h2 := T_small (termB_T h) (by omega)
  intro x hx
  have := h2 x hx
  omega
theorem instB_iff {s : Sg} {a b : List Int} : instB s a b = true ↔ termB s a = true ∧ termB s b = true ∧ Inst s 12 a b := by
  unfold instB
  simp only [Bool.and_eq_true]
  constructor
  · rintro ⟨⟨h1, h2⟩, h3⟩
    exact ⟨h1, h2, (inst_iff (termB_T h1) (termB_T h2)).1 h3⟩
  · rintro ⟨h1, h2, h3⟩
    exact ⟨⟨h1, h2⟩, (inst_iff (termB_T h1) (termB_T h2)).2 h3⟩
theorem alikeB_iff {s : Sg} {a b : List Int} : alikeB s a b = true ↔ instB s a b = true ∧ instB s b a = true := by
  rw [instB_iff, instB_iff]
  unfold alikeB
  simp only [Bool.and_eq_true, decide_eq_true_eq]
  constructor
  · rintro ⟨⟨h1, h2⟩, h3⟩
    have := (alike_iff (termB_T h1) (termB_T h2)).1 h3
    exact ⟨⟨h1, h2, this.1⟩, h2, h1, this.2⟩
  · rintro ⟨⟨h1, h2, h3⟩, _, _, h4⟩
    exact ⟨⟨h1, h2⟩, (alike_iff (termB_T h1) (termB_T h2)).2 ⟨h3, h4⟩⟩
theorem instB_refl {s : Sg} {a : List Int} : instB s a a = termB s a := by
  cases h : termB s a
  · unfold instB; rw [h]; rfl
  · exact instB_iff.2 ⟨h, h, Inst.refl (termB_T h)⟩
theorem instB_trans {s : Sg} {a b c : List Int} (h1 : instB s a b = true) (h2 : instB s b c = true) : instB s a c = true := by
  obtain ⟨a1, a2, a3⟩ := instB_iff.1 h1
  obtain ⟨b1, b2, b3⟩ := instB_iff.1 h2
  exact instB_iff.2 ⟨a1, b2, a3.trans b3⟩
set_option maxRecDepth 100000 in
theorem unify_Instance (vs va vb : Value) (s : Sg) (a b : List Int) (w : World) (hs : SignAt w vs s) (ra : Ints w va a) (rb : Ints w vb b) (hs1 : s.length ≤ 1000) :
    Calls Tryz.prog 44 #[vs, va, vb] w fun e w' => e = .returned (.bool (instB s a b)) ∧ Below w.heap.size w w' := by
  cases h1 : termB s a
  · have HF : Hid (instB s a b = false) := hid (by unfold instB; rw [h1]; rfl)
    go_enter Tryz.func44, Tryz.ntmps44
    go_wp2_with (first | (go_at_call 18; refine (term_Valid' _ _ _ _ _ hs ra hs1).mono ?_; rintro e w1 ⟨rfl, hb1⟩))
    go_ret
    exact ⟨by rw [HF.out]; rfl, hb1⟩
  · cases h2 : termB s b
    · have HF : Hid (instB s a b = false) := hid (by unfold instB; rw [h1, h2]; rfl)
      go_enter Tryz.func44, Tryz.ntmps44
      go_wp2_with fail
      refine (term_Valid' _ _ _ _ _ hs ra hs1).mono ?_
      rintro e w1 ⟨rfl, hb1⟩
      go_wp2_with fail
      refine (term_Valid' _ _ _ _ _ (hs.below hb1) (rb.below hb1) hs1).mono ?_
      rintro e w2 ⟨rfl, hb2⟩
      go_wp2
      go_ret
      exact ⟨by rw [HF.out]; rfl, hb1.trans (hb2.mono hb1.size)⟩
    · obtain ⟨f1, f2, f3, f4⟩ := termB_facts h1
      obtain ⟨_, _, _, f5⟩ := termB_facts h2
      have hT := termB_T h1
      have hQ := termB_T h2
      have HF : Hid (instB s a b = (matL s a b noM).isSome) := hid (by unfold instB; rw [h1, h2]; rfl)
      go_enter Tryz.func44, Tryz.ntmps44
      go_wp2_with fail
      refine (term_Valid' _ _ _ _ _ hs ra hs1).mono ?_
      rintro e w1 ⟨rfl, hb1⟩
      go_wp2_with fail
      refine (term_Valid' _ _ _ _ _ (hs.below hb1) (rb.below hb1) hs1).mono ?_
      rintro e w2 ⟨rfl, hb2⟩
      have hb3 := hb1.trans (hb2.mono hb1.size)
      have HC := hid (unify_match vs va vb s a b w2 f2 f3 hT hQ (hs.below hb3) (ra.below hb3) (rb.below hb3) (by omega) (by omega))
      clear hT hQ
      go_wp2_with fail
      refine HC.out.mono ?_
      rintro e w3 ⟨hb4, ⟨hm, rfl⟩ | ⟨M, n, hm, rfl, -, -⟩⟩
      · have HM := hid hm
        clear hm
        go_wp2
        go_ret
        exact ⟨by rw [HF.out, HM.out]; rfl, hb3.trans (hb4.mono hb3.size)⟩
      · have HM := hid hm
        clear hm
        go_wp2
        go_ret
        exact ⟨by rw [HF.out, HM.out]; rfl, hb3.trans (hb4.mono hb3.size)⟩
set_option maxRecDepth 100000 in
theorem term_Canonical (vs va : Value) (s : Sg) (a : List Int) (w : World) (hs : SignAt w vs s) (ra : Ints w va a) (hs1 : s.length ≤ 1000) :
    Calls Tryz.prog 84 #[vs, va] w fun e w' => Below w.heap.size w w' ∧ ((termB s a = false ∧ e = .returned (.tuple #[.slice none 0 0, .int .i64 1])) ∨
      (termB s a = true ∧ ∃ u, e = .returned (.tuple #[u, .int .i64 0]) ∧ w'.ownsRow w.heap.size 3 1 u (canonL a).length ((canonL a).map (Value.int .i64)))) := by
  cases h1 : termB s a
  · go_enter Tryz.func84, Tryz.ntmps84
    go_wp2_with (first | (go_at_call 18; refine (term_Valid' _ _ _ _ _ hs ra hs1).mono ?_; rintro e w1 ⟨rfl, hb1⟩))
    go_ret2
    exact ⟨hb1, Or.inl (by simp)⟩
  · have f4 := (termB_facts h1).2.2.2
    have HA := hid (termB_wf h1)
    have ha0 := (termB_T h1).ne
    go_enter Tryz.func84, Tryz.ntmps84
    go_wp2_with fail
    refine (term_Valid' _ _ _ _ _ hs ra hs1).mono ?_
    rintro e w1 ⟨rfl, hb1⟩
    go_wp2_with fail
    refine (term_canonical _ a _ (ra.below hb1) ha0 (by omega) HA.out).mono ?_
    rintro e w3 ⟨u3, rfl, o3, hb4⟩
    have o3' := owns_base o3 hb1.size
    go_wp2
    go_ret2
    exact ⟨hb1.trans (hb4.mono hb1.size), Or.inr ⟨trivial, _, rfl, o3'⟩⟩
end Go.Proofs.YtldgkidojepdlaaGreat
namespace Go.Proofs.YtldgkidojepdlaaGreat
open Go
def arN (s : Sg) (x : Int) : Nat := if x < 0 then 0 else (arOf s x).toNat
/-- the first n terms of a list of symbols. -/
def tk (s : Sg) : Nat → List Int → List Int
  | 0, _ => []
  | _ + 1, [] => []
  | n + 1, x :: t => x :: tk s (n + arN s x) t
/-- the paths of arguments. -/
def pushW (p : List Int) (n : Nat) : List (List Int) := (List.range n).map fun (k : Nat) => p ++ [(k : Int)]
/-- parts with paths; σ: the paths of the terms that are to come. -/
def prs (s : Sg) : List (List Int) → List Int → List (List Int × List Int)
  | p :: σ, x :: t => (p, tk s 1 (x :: t)) :: prs s (pushW p (arN s x) ++ σ) t
  | _, _ => []
/-- the paths at which a term has a question. -/
def whrL (s : Sg) (t q : List Int) : List (List Int) := ((prs s [[]] t).filter fun x => instB s q x.2).map Prod.fst
theorem tk_F {s : Sg} {r : List Int} : ∀ (zs : List (List Int)), (∀ a ∈ zs, ∀ n r, tk s (n + 1) (a ++ r) = a ++ tk s n r) → ∀ n, tk s (n + zs.length) (zs.flatten ++ r) = zs.flatten ++ tk s n r
  | [], _, n => by simp
  | z :: zs, h, n => by
    rw [List.flatten_cons, List.append_assoc, List.length_cons, ← Nat.add_assoc, h z (by simp) _ _, tk_F zs (fun a ha => h a (by simp [ha])) n, List.append_assoc]
theorem tk_T {s : Sg} {m : Int} {u : List Int} (h : IsT s m u) : ∀ (n : Nat) (r : List Int), tk s (n + 1) (u ++ r) = u ++ tk s n r := by
  induction h with
  | var x h1 h2 =>
    intro n r
    show x :: tk s (n + arN s x) r = _
    rw [arN, if_pos h2]; rfl
  | app c zs h1 h2 h3 ih =>
    intro n r
    show (c : Int) :: tk s (n + arN s c) (zs.flatten ++ r) = _
    have : arN s c = zs.length := by unfold arN; rw [if_neg (by omega), ← h2]; simp
    rw [this, tk_F zs ih n]; rfl
theorem tk_one {s : Sg} {m : Int} {u : List Int} (h : IsT s m u) (r : List Int) : tk s 1 (u ++ r) = u := by rw [tk_T h 0 r]; simp [tk]
theorem tk_self {s : Sg} {m : Int} {u : List Int} (h : IsT s m u) : tk s 1 u = u := by have := tk_one h []; rwa [List.append_nil] at this
theorem arN_app {s : Sg} {c : Nat} {zs : List (List Int)} (h : (zs.length : Int) = arOf s c) : arN s c = zs.length := by unfold arN; rw [if_neg (by omega), ← h]; simp
theorem prs_nil (s : Sg) (t : List Int) : prs s [] t = [] := by cases t <;> rfl
theorem prs_F {s : Sg} {σ : List (List Int)} {r : List Int} : ∀ (ps : List (List Int)) (zs : List (List Int)), ps.length = zs.length → (∀ a ∈ zs, ∀ p σ r, prs s (p :: σ) (a ++ r) = prs s [p] a ++ prs s σ r) → prs s (ps ++ σ) (zs.flatten ++ r) = prs s ps zs.flatten ++ prs s σ r
  | [], [], _, _ => by simp [prs_nil]
  | [], _ :: _, h, _ => by simp at h
  | _ :: _, [], h, _ => by simp at h
  | p :: ps, z :: zs, h, ih => by
    have h1 : ps.length = zs.length := by simpa using h
    rw [List.flatten_cons, List.cons_append, List.append_assoc, ih z (by simp), prs_F ps zs h1 (fun a ha => ih a (by simp [ha])), ih z (by simp) p ps, List.append_assoc]
theorem prs_T {s : Sg} {m : Int} {u : List Int} (h : IsT s m u) : ∀ (p : List Int) (σ : List (List Int)) (r : List Int), prs s (p :: σ) (u ++ r) = prs s [p] u ++ prs s σ r := by
  have key := h
  induction h with
  | var x h1 h2 =>
    intro p σ r
    show (p, tk s 1 ([x] ++ r)) :: prs s (pushW p (arN s x) ++ σ) r = (p, tk s 1 [x]) :: prs s (pushW p (arN s x) ++ []) [] ++ prs s σ r
    rw [tk_one key r, tk_self key]
    have : arN s x = 0 := by unfold arN; rw [if_pos h2]
    rw [this]
    simp [pushW, prs_nil]
  | app c zs h1 h2 h3 ih =>
    intro p σ r
    show (p, tk s 1 (((c : Int) :: zs.flatten) ++ r)) :: prs s (pushW p (arN s c) ++ σ) (zs.flatten ++ r) = (p, tk s 1 ((c : Int) :: zs.flatten)) :: prs s (pushW p (arN s c) ++ []) zs.flatten ++ prs s σ r
    rw [tk_one key r, tk_self key, arN_app h2, prs_F _ zs (by simp [pushW]) (fun a ha => ih a ha (h3 a ha)), List.append_nil]
    rfl
theorem prs_app {s : Sg} {m : Int} {c : Nat} {zs : List (List Int)} (h1 : c < s.length) (h2 : (zs.length : Int) = arOf s c) (h3 : ∀ a ∈ zs, IsT s m a) (p : List Int) :
    prs s [p] ((c : Int) :: zs.flatten) = (p, (c : Int) :: zs.flatten) :: prs s (pushW p zs.length) zs.flatten := by
  show (p, tk s 1 ((c : Int) :: zs.flatten)) :: prs s (pushW p (arN s c) ++ []) zs.flatten = _
  rw [tk_self (IsT.app c zs h1 h2 h3), arN_app h2, List.append_nil]
theorem prs_var {s : Sg} {x : Int} (hx : x < 0) (p : List Int) : prs s [p] [x] = [(p, [x])] := by
  show (p, tk s 1 [x]) :: prs s (pushW p (arN s x) ++ []) [] = _
  have : arN s x = 0 := by unfold arN; rw [if_pos hx]
  rw [this]
  simp [pushW, prs_nil, tk, this]
/-- the parts of the first k arguments. -/
theorem prs_args {s : Sg} {m : Int} {zs : List (List Int)} (h3 : ∀ a ∈ zs, IsT s m a) (p : List Int) {k : Nat} (h : k < zs.length) :
    prs s (pushW p (k + 1)) (zs.take (k + 1)).flatten = prs s (pushW p k) (zs.take k).flatten ++ prs s [p ++ [(k : Int)]] zs[k] := by
  have e1 : pushW p (k + 1) = pushW p k ++ [p ++ [(k : Int)]] := by unfold pushW; rw [List.range_succ, List.map_append]; rfl
  rw [e1, List.take_succ_eq_append_getElem h, List.flatten_append, prs_F (pushW p k) (zs.take k) (by simp [pushW]; omega) (fun a ha => prs_T (h3 a (List.mem_of_mem_take ha)))]
  simp
/-- the parts of argument k among those of all. -/
theorem prs_mid {s : Sg} {m : Int} {zs : List (List Int)} (h3 : ∀ a ∈ zs, IsT s m a) (p : List Int) {k : Nat} (h : k < zs.length) :
    ∃ r, prs s (pushW p zs.length) zs.flatten = prs s (pushW p k) (zs.take k).flatten ++ (prs s [p ++ [(k : Int)]] zs[k] ++ r) := by
  have e1 : pushW p zs.length = pushW p (k + 1) ++ (pushW p zs.length).drop (k + 1) := by
    conv => lhs; rw [← List.take_append_drop (k + 1) (pushW p zs.length)]
    congr 1
    unfold pushW
    rw [← List.map_take, List.take_range, Nat.min_eq_left (by omega)]
  have e2 : zs.flatten = (zs.take (k + 1)).flatten ++ (zs.drop (k + 1)).flatten := by rw [← List.flatten_append, List.take_append_drop]
  refine ⟨prs s ((pushW p zs.length).drop (k + 1)) (zs.drop (k + 1)).flatten, ?_⟩
  rw [e1, e2, prs_F (pushW p (k + 1)) (zs.take (k + 1)) (by simp [pushW]; omega) (fun a ha => prs_T (h3 a (List.mem_of_mem_take ha))), prs_args h3 p h, List.append_assoc, ← e1]
theorem prs_get {s : Sg} : ∀ (t : List Int) (σ : List (List Int)) (i : Nat) (h : i < (prs s σ t).length), (prs s σ t)[i].2 = tk s 1 (t.drop i)
  | [], σ, i, h => by cases σ <;> simp [prs] at h
  | x :: t, [], i, h => by simp [prs] at h
  | x :: t, p :: σ, 0, h => rfl
  | x :: t, p :: σ, i + 1, h => by
    have h' : i < (prs s (pushW p (arN s x) ++ σ) t).length := by simpa [prs] using h
    have := prs_get t (pushW p (arN s x) ++ σ) i h'
    simpa [prs] using this
theorem prs_len_F {s : Sg} : ∀ (ps : List (List Int)) (zs : List (List Int)), ps.length = zs.length → (∀ a ∈ zs, ∃ m, IsT s m a) → (∀ a ∈ zs, ∀ p, (prs s [p] a).length = a.length) → (prs s ps zs.flatten).length = zs.flatten.length
  | [], [], _, _, _ => by simp [prs_nil]
  | [], _ :: _, h, _, _ => by simp at h
  | _ :: _, [], h, _, _ => by simp at h
  | p :: ps, z :: zs, h, ht, ih => by
    obtain ⟨m, hz⟩ := ht z (by simp)
    rw [List.flatten_cons, prs_T hz, List.length_append, List.length_append, ih z (by simp), prs_len_F ps zs (by simpa using h) (fun a ha => ht a (by simp [ha])) (fun a ha => ih a (by simp [ha]))]
theorem prs_len {s : Sg} {m : Int} {u : List Int} (h : IsT s m u) : ∀ p, (prs s [p] u).length = u.length := by
  induction h with
  | var x h1 h2 => intro p; rw [prs_var h2]; rfl
  | app c zs h1 h2 h3 ih =>
    intro p
    rw [prs_app h1 h2 h3 p, List.length_cons, prs_len_F _ zs (by simp [pushW]) (fun a ha => ⟨m, h3 a ha⟩) ih]
    rfl
theorem prs_path {s : Sg} : ∀ (t : List Int) (σ : List (List Int)), (∀ p ∈ σ, p ≠ []) → ∀ x ∈ prs s σ t, x.1 ≠ []
  | [], σ, _, x, hx => by cases σ <;> simp [prs] at hx
  | y :: t, [], _, x, hx => by simp [prs] at hx
  | y :: t, p :: σ, h, x, hx => by
    simp only [prs, List.mem_cons] at hx
    rcases hx with rfl | hx
    · exact h p (by simp)
    · refine prs_path t _ (fun q hq => ?_) x hx
      rcases List.mem_append.1 hq with hq | hq
      · obtain ⟨k, _, rfl⟩ := List.mem_map.1 hq
        simp
      · exact h q (by simp [hq])
/-- an instance has the question at the empty path, and only an instance has it there first. -/
theorem whr_first {s : Sg} {m : Int} {t q : List Int} (h : IsT s m t) : (∃ r, whrL s t q = [] :: r) ↔ instB s q t = true := by
  obtain ⟨x, t', rfl⟩ : ∃ x t', t = x :: t' := by cases t with
    | nil => cases h
    | cons x t' => exact ⟨x, t', rfl⟩
  have e : prs s [[]] (x :: t') = ([], x :: t') :: prs s (pushW [] (arN s x)) t' := by
    show ([], tk s 1 (x :: t')) :: prs s (pushW [] (arN s x) ++ []) t' = _
    rw [tk_self h, List.append_nil]
  have hne : ∀ y ∈ prs s (pushW [] (arN s x)) t', y.1 ≠ [] := prs_path t' _ (fun p hp => by
    obtain ⟨k, _, rfl⟩ := List.mem_map.1 hp
    simp)
  unfold whrL
  rw [e]
  cases hi : instB s q (x :: t')
  · simp only [List.filter_cons, hi]
    constructor
    · rintro ⟨r, hr⟩
      have : ([] : List Int) ∈ (List.filter (fun x => instB s q x.2) (prs s (pushW [] (arN s x)) t')).map Prod.fst := by
        have h9 : (List.filter (fun x => instB s q x.2) (prs s (pushW [] (arN s x)) t')).map Prod.fst = [] :: r := hr
        rw [h9]; simp
      obtain ⟨y, hy, hy2⟩ := List.mem_map.1 this
      exact absurd hy2 (hne y (List.mem_filter.1 hy).1)
    · intro h; cases h
  · simp only [List.filter_cons, hi, if_true, List.map_cons]
    exact ⟨fun _ => (by first | rfl | trivial), fun _ => ⟨_, rfl⟩⟩
end Go.Proofs.YtldgkidojepdlaaGreat
namespace Go.Proofs.YtldgkidojepdlaaGreat
open Go
def wayL (s : Sg) (t : List Int) : List (List Int) := (prs s [[]] t).map Prod.fst
theorem flat_at : ∀ (zs : List (List Int)) (j : Nat), j < zs.flatten.length → ∃ (k o : Nat) (hk : k < zs.length), j = (zs.take k).flatten.length + o ∧ o < zs[k].length
  | [], j, h => by simp at h
  | z :: zs, j, h => by
    by_cases hj : j < z.length
    · exact ⟨0, j, by simp, by simp, by simpa using hj⟩
    · rw [List.flatten_cons, List.length_append] at h
      obtain ⟨k, o, hk, h1, h2⟩ := flat_at zs (j - z.length) (by omega)
      refine ⟨k + 1, o, by simpa using hk, ?_, by simpa using h2⟩
      rw [List.take_succ_cons, List.flatten_cons, List.length_append]
      omega
theorem flat_cut {zs : List (List Int)} {k : Nat} (hk : k < zs.length) : zs.flatten = (zs.take k).flatten ++ (zs[k] ++ (zs.drop (k + 1)).flatten) := by
  conv => lhs; rw [← List.take_append_drop k zs, List.flatten_append, List.drop_eq_getElem_cons hk, List.flatten_cons]
theorem flat_drop {zs : List (List Int)} {k o : Nat} (hk : k < zs.length) (ho : o ≤ zs[k].length) (r : List Int) : (zs.flatten ++ r).drop ((zs.take k).flatten.length + o) = zs[k].drop o ++ ((zs.drop (k + 1)).flatten ++ r) := by
  rw [flat_cut hk, List.append_assoc, List.append_assoc, ← List.drop_drop, List.drop_left, List.drop_append_of_le_length ho]
theorem part_at {s : Sg} {m : Int} {t : List Int} (h : IsT s m t) : ∀ i, i < t.length → ∃ v r, IsT s m v ∧ t.drop i = v ++ r := by
  induction h with
  | var x h1 h2 =>
    intro i hi
    obtain rfl : i = 0 := by simp at hi; omega
    exact ⟨[x], [], IsT.var x h1 h2, by simp⟩
  | app c zs h1 h2 h3 ih =>
    intro i hi
    cases i with
    | zero => exact ⟨_, [], IsT.app c zs h1 h2 h3, by simp⟩
    | succ j =>
      simp only [List.length_cons, Nat.add_lt_add_iff_right] at hi
      obtain ⟨k, o, hk, rfl, ho⟩ := flat_at zs j hi
      obtain ⟨v, r, hv, hd⟩ := ih _ (List.getElem_mem hk) o ho
      have := flat_drop hk (Nat.le_of_lt ho) []
      rw [List.append_nil] at this
      exact ⟨v, r ++ ((zs.drop (k + 1)).flatten ++ []), hv, by rw [List.drop_succ_cons, this, hd, List.append_assoc]⟩
/-- the part at a is a symbol with arguments zs. -/
def AppAt (s : Sg) (m : Int) (t : List Int) (a c : Nat) (zs : List (List Int)) (r : List Int) : Prop := t.drop a = (c : Int) :: zs.flatten ++ r ∧ c < s.length ∧ (zs.length : Int) = arOf s c ∧ ∀ z ∈ zs, IsT s m z
theorem parent {s : Sg} {m : Int} {t : List Int} (h : IsT s m t) : ∀ i, 0 < i → i < t.length → ∃ a k c zs r, a < i ∧ AppAt s m t a c zs r ∧ k < zs.length ∧ i = a + 1 + (zs.take k).flatten.length := by
  induction h with
  | var x h1 h2 =>
    intro i h0 hi
    simp at hi; omega
  | app c zs h1 h2 h3 ih =>
    intro i h0 hi
    obtain ⟨j, rfl⟩ : ∃ j, i = j + 1 := ⟨i - 1, by omega⟩
    simp only [List.length_cons, Nat.add_lt_add_iff_right] at hi
    obtain ⟨k, o, hk, rfl, ho⟩ := flat_at zs j hi
    cases o with
    | zero => exact ⟨0, k, c, zs, [], by omega, ⟨by simp, h1, h2, h3⟩, hk, by omega⟩
    | succ o =>
      obtain ⟨a, k', c', zs', r, ha, ⟨hd, b1, b2, b3⟩, hk', he⟩ := ih _ (List.getElem_mem hk) (o + 1) (by omega) ho
      have hal : a ≤ zs[k].length := by omega
      have := flat_drop hk hal []
      rw [List.append_nil] at this
      refine ⟨(zs.take k).flatten.length + a + 1, k', c', zs', r ++ ((zs.drop (k + 1)).flatten ++ []), by omega, ⟨?_, b1, b2, b3⟩, hk', by omega⟩
      rw [List.drop_succ_cons, this, hd, List.append_assoc]
theorem AppAt.uniq {s : Sg} {m : Int} {t : List Int} {a c c' : Nat} {zs zs' : List (List Int)} {r r' : List Int} (h : AppAt s m t a c zs r) (h' : AppAt s m t a c' zs' r') : c = c' ∧ zs = zs' := by
  obtain ⟨h1, h2, h3, h4⟩ := h
  obtain ⟨k1, k2, k3, k4⟩ := h'
  rw [h1] at k1
  obtain ⟨e1, e2⟩ := List.cons.inj k1
  have e1 : c = c' := by omega
  subst e1
  refine ⟨rfl, ?_⟩
  have key : ∀ (zs zs' : List (List Int)), zs.length = zs'.length → (∀ z ∈ zs, IsT s m z) → (∀ z ∈ zs', IsT s m z) → ∀ r r', zs.flatten ++ r = zs'.flatten ++ r' → zs = zs' := by
    intro zs
    induction zs with
    | nil => intro zs' hl _ _ _ _ _; simpa using hl.symm
    | cons z zs ih =>
      intro zs' hl hz hz' r r' he
      cases zs' with
      | nil => simp at hl
      | cons z' zs' =>
        rw [List.flatten_cons, List.flatten_cons, List.append_assoc, List.append_assoc] at he
        have e3 : z = z' := by
          have := congrArg (tk s 1) he
          rwa [tk_one (hz z (by simp)), tk_one (hz' z' (by simp))] at this
        subst e3
        rw [ih zs' (by simpa using hl) (fun y hy => hz y (by simp [hy])) (fun y hy => hz' y (by simp [hy])) r r' (List.append_cancel_left he)]
  exact key zs zs' (by omega) h4 k4 r r' e2
theorem prs_drop {s : Sg} : ∀ (t : List Int) (σ : List (List Int)) (a : Nat), ∃ σ', (prs s σ t).drop a = prs s σ' (t.drop a)
  | t, σ, 0 => ⟨σ, rfl⟩
  | [], σ, a + 1 => ⟨[], by cases σ <;> simp [prs]⟩
  | x :: t, [], a + 1 => ⟨[], by simp [prs, prs_nil]⟩
  | x :: t, p :: σ, a + 1 => by
    obtain ⟨σ', h⟩ := prs_drop t (pushW p (arN s x) ++ σ) a
    exact ⟨σ', by simpa [prs] using h⟩
theorem way_len {s : Sg} {m : Int} {t : List Int} (h : IsT s m t) : (wayL s t).length = t.length := by unfold wayL; rw [List.length_map, prs_len h]
theorem way_arg {s : Sg} {m : Int} {t : List Int} (h : IsT s m t) {a c : Nat} {zs : List (List Int)} {r : List Int} (hA : AppAt s m t a c zs r) : ∃ p, (wayL s t)[a]? = some p ∧ ∀ k, k < zs.length → (wayL s t)[a + 1 + (zs.take k).flatten.length]? = some (p ++ [(k : Int)]) := by
  obtain ⟨h1, h2, h3, h4⟩ := hA
  obtain ⟨σ, hσ⟩ := prs_drop (s := s) t [[]] a
  have hal : a < t.length := by
    have := congrArg List.length h1
    rw [List.length_drop, List.length_append, List.length_cons] at this; omega
  have hl := congrArg List.length hσ
  rw [List.length_drop, prs_len h, h1] at hl
  cases σ with
  | nil => rw [prs_nil] at hl; simp at hl; omega
  | cons p σ =>
    have hT : IsT s m ((c : Int) :: zs.flatten) := IsT.app c zs h2 h3 h4
    rw [h1, prs_T hT, prs_app h2 h3 h4] at hσ
    have get : ∀ i, (wayL s t)[a + i]? = ((prs s [[]] t).drop a)[i]?.map Prod.fst := fun i => by
      unfold wayL
      rw [List.getElem?_map, List.getElem?_drop]
    refine ⟨p, by have := get 0; rw [hσ] at this; simpa using this, fun k hk => ?_⟩
    have := get (1 + (zs.take k).flatten.length)
    rw [← Nat.add_assoc, hσ] at this
    rw [this]
    obtain ⟨r', hr'⟩ := prs_mid h4 p hk
    have hpl : (prs s (pushW p k) (zs.take k).flatten).length = (zs.take k).flatten.length := by
      refine prs_len_F _ _ (by simp [pushW]; omega) (fun z hz => ⟨m, h4 z (List.mem_of_mem_take hz)⟩) (fun z hz q => prs_len (h4 z (List.mem_of_mem_take hz)) q)
    rw [List.cons_append, Nat.add_comm 1, List.getElem?_cons_succ, hr', List.append_assoc, List.append_assoc, List.getElem?_append_right (by omega), hpl, Nat.sub_self]
    have hz := h4 _ (List.getElem_mem hk)
    cases hzk : zs[k] with
    | nil => have := hz.ne; rw [hzk] at this; simp at this
    | cons x z' => simp [prs]
theorem way_small {s : Sg} : ∀ (t : List Int) (σ : List (List Int)) (n : Nat), (∀ p ∈ σ, p.length ≤ n) → ∀ x ∈ prs s σ t, x.1.length ≤ n + t.length
  | [], σ, n, _, x, hx => by cases σ <;> simp [prs] at hx
  | y :: t, [], n, _, x, hx => by simp [prs] at hx
  | y :: t, p :: σ, n, h, x, hx => by
    simp only [prs, List.mem_cons] at hx
    rcases hx with rfl | hx
    · have := h p (by simp); simp; omega
    · have := way_small t (pushW p (arN s y) ++ σ) (n + 1) (fun q hq => by
        rcases List.mem_append.1 hq with hq | hq
        · obtain ⟨k, _, rfl⟩ := List.mem_map.1 hq
          have := h p (by simp)
          simp; omega
        · have := h q (by simp [hq]); omega) x hx
      simp; omega
theorem way_short {s : Sg} {t p : List Int} {i : Nat} (h : (wayL s t)[i]? = some p) : p.length ≤ t.length := by
  have := List.mem_of_getElem? h
  unfold wayL at this
  obtain ⟨x, hx, rfl⟩ := List.mem_map.1 this
  have := way_small t [[]] 0 (by simp) x hx
  omega
theorem way_zero {s : Sg} {m : Int} {t : List Int} (h : IsT s m t) : (wayL s t)[0]? = some [] := by
  cases t with
  | nil => cases h
  | cons x t => simp [wayL, prs]
/-- the paths that Ways has laid before the part at n, with the first k arguments of that. -/
def setAt (s : Sg) (t : List Int) (n i : Nat) : Prop := i = 0 ∨ ∃ a k c zs r, a < n ∧ AppAt s 12 t a c zs r ∧ k < zs.length ∧ i = a + 1 + (zs.take k).flatten.length
theorem set_self {s : Sg} {t : List Int} (h : IsT s 12 t) {i n : Nat} (hi : i < t.length) (hn : i ≤ n) : setAt s t n i := by
  by_cases h0 : i = 0
  · exact Or.inl h0
  · obtain ⟨a, k, c, zs, r, h1, h2, h3, h4⟩ := parent h i (by omega) hi
    exact Or.inr ⟨a, k, c, zs, r, by omega, h2, h3, h4⟩
theorem set_app {s : Sg} {t : List Int} {n c : Nat} {zs : List (List Int)} {r : List Int} (hA : AppAt s 12 t n c zs r) {i : Nat} (h : setAt s t (n + 1) i) : setAt s t n i ∨ ∃ k, k < zs.length ∧ i = n + 1 + (zs.take k).flatten.length := by
  rcases h with h | ⟨a, k, c', zs', r', h1, h2, h3, h4⟩
  · exact Or.inl (Or.inl h)
  · by_cases ha : a = n
    · subst ha
      obtain ⟨rfl, rfl⟩ := hA.uniq h2
      exact Or.inr ⟨k, h3, h4⟩
    · exact Or.inl (Or.inr ⟨a, k, c', zs', r', by omega, h2, h3, h4⟩)
theorem set_var {s : Sg} {t : List Int} {n : Nat} (hn : n < t.length) (hx : t[n] < 0) {i : Nat} (h : setAt s t (n + 1) i) : setAt s t n i := by
  rcases h with h | ⟨a, k, c', zs', r', h1, h2, h3, h4⟩
  · exact Or.inl h
  · by_cases ha : a = n
    · subst ha
      have := h2.1
      rw [List.drop_eq_getElem_cons hn] at this
      have := (List.cons.inj this).1
      omega
    · exact Or.inr ⟨a, k, c', zs', r', by omega, h2, h3, h4⟩
end Go.Proofs.YtldgkidojepdlaaGreat
