/-
  WHAT IT HOLDS: the contract of key of package unify: a list of small numbers as a text. Conditions: the argument reads as data; its numbers lie in -12 .. 200; it is not empty and has at most 1000 numbers.
  WHAT IT HOLDS: a plain function that says what the join of two terms computes (com), with the pairs that it has named so far; how it is put together over lists of terms. No program in sight. No condition.
-/
import Derived.Laws.IdiomStrings
import Derived.Test.YtldgkidojepdlaaZRFindRanks5
import Derived.Test.YtldgkidojepdlaaZRFindRanks0
namespace Go.Proofs.Ytldgkidojepdlaa
open Go Go.RowKit Go.Maps
def keyL (t : List Int) : List UInt8 := t.map fun n => UInt8.ofNat (n + 12).toNat
def keyB (t : List Int) : ByteArray := ⟨(keyL t).toArray⟩
theorem keyL_cells {t : List Int} (h : ∀ x ∈ t, -12 ≤ x ∧ x ≤ 200) : (keyL t).map (fun b => Value.int .u8 (b.toNat : Int)) = t.map (fun n => Value.int .u8 (n + 12)) := by
  unfold keyL
  rw [List.map_map]
  apply List.map_congr_left
  intro x hx
  have := h x hx
  obtain ⟨k, hk⟩ := Int.eq_ofNat_of_zero_le (show 0 ≤ x + 12 by omega)
  simp only [Function.comp]
  rw [hk, Int.toNat_natCast]
  have : (UInt8.ofNat k).toNat = k := by rw [UInt8.toNat_ofNat']; omega
  rw [this]
theorem keyB_inj {t u : List Int} (h : ∀ x ∈ t, -12 ≤ x ∧ x ≤ 200) (h' : ∀ x ∈ u, -12 ≤ x ∧ x ≤ 200) (he : keyB t = keyB u) : t = u := by
  have h1 : keyL t = keyL u := by
    unfold keyB at he
    simpa using he
  have h2 := keyL_cells h
  rw [h1, keyL_cells h'] at h2
  have := congrArg (List.map (fun v => (match v with | .int _ n => n - 12 | _ => 0 : Int))) h2
  rw [List.map_map, List.map_map] at this
  have e : ∀ l : List Int, List.map ((fun v => (match v with | Value.int _ n => n - 12 | _ => 0 : Int)) ∘ fun n => Value.int .u8 (n + 12)) l = l := by
    intro l
    conv => rhs; rw [← List.map_id l]
    apply List.map_congr_left
    intro x _
    simp
  rw [e, e] at this
  exact this.symm
theorem keyB_size (t : List Int) : (keyB t).size = t.length := by simp [keyB, keyL, ByteArray.size]
set_option maxHeartbeats 400000 in
theorem unify_key (vt : Value) (t : List Int) (w : World) (ht : Ints w vt t) (hr : ∀ x ∈ t, -12 ≤ x ∧ x ≤ 200) (h0 : 0 < t.length) (hl : t.length ≤ 1000) :
    Calls Try.prog 105 #[vt] w fun e w' => e = .returned (.string (keyB t)) ∧ Below w.heap.size w w' := by
  obtain ⟨ta, tcap, rfl, ht1, ht2, _, TC⟩ := ht.open
  have TC' := hid TC
  have HR := hid hr
  clear TC ht hr
  go_enter Try.func105, Try.ntmps105
  go_wp2
  go_loopw [3, 8] (fun u i wr => ∃ k : Nat, k ≤ t.length ∧ i = .int .i64 k ∧ wr.ownsRow w.heap.size 5 1 u k ((t.take k).map (fun n => Value.int .u8 (n + 12))) ∧ Below w.heap.size w wr) (fun _ i _ => t.length - (intOf i).toNat)
  case atStart => exact ⟨0, by omega, rfl, World.ownsRow_nil _ _ _ _, Below.refl _ _⟩
  case round =>
    obtain ⟨k, hk, rfl, hown, hb⟩ := hrel
    have hsz := hb.size
    by_cases hlt : k < t.length
    · obtain ⟨b, o, rfl, hcell0⟩ := TC'.out k hlt
      have hcell : wr.cell? ⟨b, o + k, none⟩ = some (.int .i64 t[k]) := (hb.cell (World.block_lt_of_cell? _ _ hcell0)).trans hcell0
      have hx := HR.out t[k] (List.getElem_mem hlt)
      clear hcell0
      go_wp2_with (at_builtin; refine wpList_append_row rfl _ _ 149 rfl w.heap.size 5 el_u8 Try.underlying149 rfl (by decide) _ _ _ rfl (hown.alloc _) _ 1 [.int .u8 (t[k] + 12)] rfl (row_one_new _ _ _) (oneCell_one rfl) (by omega) (by omega) (by simp; omega) ?_; intro v' w4 hown4 hgrow4 _)
      have hb4 : Below w.heap.size w w4 := (hb.alloc (by omega) _).grown hgrow4 (by simp; omega) (fun q hq => (hown.lt q hq).1)
      go_roundw
      case rel => exact ⟨k + 1, by omega, by go_num, by rw [List.take_succ_eq_append_getElem hlt, List.map_append]; exact hown4, hb4⟩
      case measure => simp [intOf]; omega
    · have hkt : k = t.length := by omega
      rw [hkt, List.take_of_length_le (Nat.le_refl _)] at hown
      have hshape : ∃ g cap, u3 = .slice (some ⟨g, 0, none⟩) t.length cap := by
        rcases hown.2 with ⟨_, h⟩ | ⟨g, cap, cur, h, _⟩
        · omega
        · exact ⟨g, cap, h⟩
      obtain ⟨g, cap, rfl⟩ := hshape
      have hkl : (keyL t).length = t.length := by simp [keyL]
      have kc : (convert 149 9 (.slice (some ⟨g, 0, none⟩) t.length cap)).run Try.prog wr = .ok (.string (keyB t)) wr := by
        have := run_convert_bytes_back (P := Try.prog) wr 149 9 5 ⟨g, 0, none⟩ cap (keyL t) Try.underlying149 Try.underlying5 Try.underlying9 (fun j hj => by
          have hadd : (⟨g, 0, none⟩ : Addr).add j = ⟨g, j, none⟩ := by unfold Addr.add; split <;> simp_all
          rw [hadd, hown.cellAt j (by omega), ← keyL_cells HR.out]
          simp [hj])
        rw [hkl] at this
        exact this
      clear hkl hown hkt
      go_wp2
      go_ret
      exact ⟨rfl, hb⟩
set_option maxHeartbeats 400000 in
theorem find_key (vt : Value) (t : List Int) (w : World) (ht : Ints w vt t) (hr : ∀ x ∈ t, -12 ≤ x ∧ x ≤ 200) (h0 : 0 < t.length) (hl : t.length ≤ 1000) :
    Calls Try.prog 121 #[vt] w fun e w' => e = .returned (.string (keyB t)) ∧ Below w.heap.size w w' := by
  obtain ⟨ta, tcap, rfl, ht1, ht2, _, TC⟩ := ht.open
  have TC' := hid TC
  have HR := hid hr
  clear TC ht hr
  go_enter Try.func121, Try.ntmps121
  go_wp2
  go_loopw [3, 8] (fun u i wr => ∃ k : Nat, k ≤ t.length ∧ i = .int .i64 k ∧ wr.ownsRow w.heap.size 5 1 u k ((t.take k).map (fun n => Value.int .u8 (n + 12))) ∧ Below w.heap.size w wr) (fun _ i _ => t.length - (intOf i).toNat)
  case atStart => exact ⟨0, by omega, rfl, World.ownsRow_nil _ _ _ _, Below.refl _ _⟩
  case round =>
    obtain ⟨k, hk, rfl, hown, hb⟩ := hrel
    have hsz := hb.size
    by_cases hlt : k < t.length
    · obtain ⟨b, o, rfl, hcell0⟩ := TC'.out k hlt
      have hcell : wr.cell? ⟨b, o + k, none⟩ = some (.int .i64 t[k]) := (hb.cell (World.block_lt_of_cell? _ _ hcell0)).trans hcell0
      have hx := HR.out t[k] (List.getElem_mem hlt)
      clear hcell0
      go_wp2_with (at_builtin; refine wpList_append_row rfl _ _ 149 rfl w.heap.size 5 el_u8 Try.underlying149 rfl (by decide) _ _ _ rfl (hown.alloc _) _ 1 [.int .u8 (t[k] + 12)] rfl (row_one_new _ _ _) (oneCell_one rfl) (by omega) (by omega) (by simp; omega) ?_; intro v' w4 hown4 hgrow4 _)
      have hb4 : Below w.heap.size w w4 := (hb.alloc (by omega) _).grown hgrow4 (by simp; omega) (fun q hq => (hown.lt q hq).1)
      go_roundw
      case rel => exact ⟨k + 1, by omega, by go_num, by rw [List.take_succ_eq_append_getElem hlt, List.map_append]; exact hown4, hb4⟩
      case measure => simp [intOf]; omega
    · have hkt : k = t.length := by omega
      rw [hkt, List.take_of_length_le (Nat.le_refl _)] at hown
      have hshape : ∃ g cap, u3 = .slice (some ⟨g, 0, none⟩) t.length cap := by
        rcases hown.2 with ⟨_, h⟩ | ⟨g, cap, cur, h, _⟩
        · omega
        · exact ⟨g, cap, h⟩
      obtain ⟨g, cap, rfl⟩ := hshape
      have hkl : (keyL t).length = t.length := by simp [keyL]
      have kc : (convert 149 9 (.slice (some ⟨g, 0, none⟩) t.length cap)).run Try.prog wr = .ok (.string (keyB t)) wr := by
        have := run_convert_bytes_back (P := Try.prog) wr 149 9 5 ⟨g, 0, none⟩ cap (keyL t) Try.underlying149 Try.underlying5 Try.underlying9 (fun j hj => by
          have hadd : (⟨g, 0, none⟩ : Addr).add j = ⟨g, j, none⟩ := by unfold Addr.add; split <;> simp_all
          rw [hadd, hown.cellAt j (by omega), ← keyL_cells HR.out]
          simp [hj])
        rw [hkl] at this
        exact this
      clear hkl hown hkt
      go_wp2
      go_ret
      exact ⟨rfl, hb⟩
end Go.Proofs.Ytldgkidojepdlaa
namespace Go.Proofs.Ytldgkidojepdlaa

abbrev KK := List UInt8 × List UInt8
def insK (σ : List KK) (k : KK) : List KK := if k ∈ σ then σ else σ ++ [k]
def numK (σ : List KK) (k : KK) : Int := -(σ.idxOf k : Int) - 1
def mapK (σ : List KK) : KK → Option Int := fun k => if k ∈ σ then some (numK σ k) else none

theorem pLen_pos (s : Sg) (x : Int) (a : List Int) : 1 ≤ pLen s (x :: a) 1 := by simp only [pLen]; omega
theorem pLen_le (s : Sg) : ∀ (l : List Int) (k : Nat), pLen s l k ≤ l.length := by
  intro l
  induction l with
  | nil => intro k; simp [pLen]
  | cons x r ih =>
    intro k
    cases k with
    | zero => simp [pLen]
    | succ k => simp only [pLen, List.length_cons]; have := ih (k + (arOf s x).toNat); omega

/-- the join of two lists of terms; numbers below 0 are the names of pairs. -/
def com (s : Sg) : Nat → List Int → List Int → List KK → List Int × List KK
  | 0, _, _, σ => ([], σ)
  | f + 1, x :: a, y :: b, σ =>
    if x = y ∧ 0 ≤ x then (x :: (com s f a b σ).1, (com s f a b σ).2)
    else
      (numK σ (keyL ((x :: a).take (pLen s (x :: a) 1)), keyL ((y :: b).take (pLen s (y :: b) 1))) ::
        (com s f ((x :: a).drop (pLen s (x :: a) 1)) ((y :: b).drop (pLen s (y :: b) 1)) (insK σ (keyL ((x :: a).take (pLen s (x :: a) 1)), keyL ((y :: b).take (pLen s (y :: b) 1))))).1,
       (com s f ((x :: a).drop (pLen s (x :: a) 1)) ((y :: b).drop (pLen s (y :: b) 1)) (insK σ (keyL ((x :: a).take (pLen s (x :: a) 1)), keyL ((y :: b).take (pLen s (y :: b) 1))))).2)
  | _ + 1, _, _, σ => ([], σ)

theorem com_nil (s : Sg) (f : Nat) (b : List Int) (σ : List KK) : com s f [] b σ = ([], σ) := by cases f <;> rfl
theorem com_nil2 (s : Sg) (f : Nat) (a : List Int) (σ : List KK) : com s f a [] σ = ([], σ) := by cases f <;> cases a <;> rfl
theorem com_fuel (s : Sg) : ∀ (f g : Nat) (a b : List Int) (σ : List KK), a.length ≤ f → a.length ≤ g → com s f a b σ = com s g a b σ := by
  intro f
  induction f with
  | zero =>
    intro g a b σ h _
    have : a = [] := by cases a with
      | nil => rfl
      | cons => simp at h
    subst this
    rw [com_nil, com_nil]
  | succ f ih =>
    intro g a b σ h h'
    cases a with
    | nil => rw [com_nil, com_nil]
    | cons x a =>
      cases b with
      | nil => rw [com_nil2, com_nil2]
      | cons y b =>
        obtain ⟨g, rfl⟩ : ∃ q, g = q + 1 := ⟨g - 1, by simp at h'; omega⟩
        simp only [List.length_cons, Nat.add_le_add_iff_right] at h h'
        have hp := pLen_pos s x a
        have hd : ((x :: a).drop (pLen s (x :: a) 1)).length ≤ a.length := by rw [List.length_drop, List.length_cons]; omega
        simp only [com]
        rw [ih g a b σ h h', ih g ((x :: a).drop (pLen s (x :: a) 1)) _ _ (by omega) (by omega)]

/-- with fuel enough. -/
def comW (s : Sg) (a b : List Int) (σ : List KK) : List Int × List KK := com s a.length a b σ
theorem comW_nil (s : Sg) (b : List Int) (σ : List KK) : comW s [] b σ = ([], σ) := com_nil _ _ _ _
theorem comW_same {s : Sg} {x y : Int} {a b : List Int} {σ : List KK} (h : x = y ∧ 0 ≤ x) : comW s (x :: a) (y :: b) σ = (x :: (comW s a b σ).1, (comW s a b σ).2) := by
  unfold comW
  simp only [List.length_cons, com, if_pos h]
theorem comW_diff {s : Sg} {m m' : Int} {x y : Int} {p q a b : List Int} {σ : List KK} (hp : IsT s m p) (hq : IsT s m' q) (hx : p.head? = some x) (hy : q.head? = some y) (h : ¬ (x = y ∧ 0 ≤ x)) :
    comW s (p ++ a) (q ++ b) σ = (numK σ (keyL p, keyL q) :: (comW s a b (insK σ (keyL p, keyL q))).1, (comW s a b (insK σ (keyL p, keyL q))).2) := by
  cases p with
  | nil => simp at hx
  | cons x' p =>
    cases q with
    | nil => simp at hy
    | cons y' q =>
      simp at hx hy
      subst hx; subst hy
      have e1 := pLen_T1 hp a
      have e2 := pLen_T1 hq b
      unfold comW
      simp only [List.cons_append] at e1 e2
      simp only [List.cons_append, List.length_cons, com, if_neg h]
      rw [e1, e2]
      have t1 : List.take (x' :: p).length (x' :: (p ++ a)) = x' :: p := by rw [← List.cons_append, List.take_left]
      have t2 : List.take (y' :: q).length (y' :: (q ++ b)) = y' :: q := by rw [← List.cons_append, List.take_left]
      have d1 : List.drop (x' :: p).length (x' :: (p ++ a)) = a := by rw [← List.cons_append, List.drop_left]
      have d2 : List.drop (y' :: q).length (y' :: (q ++ b)) = b := by rw [← List.cons_append, List.drop_left]
      rw [t1, t2, d1, d2, com_fuel s _ a.length a b _ (by simp) (Nat.le_refl _)]

theorem comW_append {s : Sg} {m : Int} {p : List Int} (hp : IsT s m p) : ∀ {m' : Int} {q : List Int}, IsT s m' q → ∀ (a b : List Int) (σ : List KK),
    comW s (p ++ a) (q ++ b) σ = ((comW s p q σ).1 ++ (comW s a b (comW s p q σ).2).1, (comW s a b (comW s p q σ).2).2) := by
  induction hp with
  | var n h1 h2 =>
    intro m' q hq a b σ
    obtain ⟨y, hy⟩ : ∃ y, q.head? = some y := by cases hq <;> simp
    have hd : ¬ (n = y ∧ 0 ≤ n) := by omega
    have e1 := comW_diff (a := a) (b := b) (σ := σ) (.var (s := s) (m := m) n h1 h2) hq (by simp) hy hd
    have e2 := comW_diff (a := []) (b := []) (σ := σ) (.var (s := s) (m := m) n h1 h2) hq (by simp) hy hd
    rw [comW_nil] at e2
    simp only [List.append_nil] at e2
    rw [e1, e2]
    simp
  | app c zs h1 h2 h3 ih =>
    intro m' q hq a b σ
    have hP : IsT s m ((c : Int) :: zs.flatten) := .app c zs h1 h2 h3
    cases hq with
    | var n k1 k2 =>
      have hd : ¬ ((c : Int) = n ∧ 0 ≤ (c : Int)) := by omega
      have e1 := comW_diff (a := a) (b := b) (σ := σ) hP (.var (s := s) (m := m') n k1 k2) (by simp) (by simp) hd
      have e2 := comW_diff (a := []) (b := []) (σ := σ) hP (.var (s := s) (m := m') n k1 k2) (by simp) (by simp) hd
      rw [comW_nil] at e2
      simp only [List.append_nil] at e2
      rw [e1, e2]
      simp
    | app d ws k1 k2 k3 =>
      have hQ : IsT s m' ((d : Int) :: ws.flatten) := .app d ws k1 k2 k3
      by_cases hcd : c = d
      · subst hcd
        have hl : zs.length = ws.length := by have := h2.trans k2.symm; omega
        have key : ∀ (us vs : List (List Int)), (∀ u ∈ us, u ∈ zs) → (∀ v ∈ vs, IsT s m' v) → us.length = vs.length → ∀ (a b : List Int) (σ : List KK),
            comW s (us.flatten ++ a) (vs.flatten ++ b) σ = ((comW s us.flatten vs.flatten σ).1 ++ (comW s a b (comW s us.flatten vs.flatten σ).2).1, (comW s a b (comW s us.flatten vs.flatten σ).2).2) := by
          intro us
          induction us with
          | nil =>
            intro vs _ _ hl a b σ
            have : vs = [] := by cases vs with
              | nil => rfl
              | cons => simp at hl
            subst this
            simp [comW_nil]
          | cons u us ihu =>
            intro vs hu hv hl a b σ
            cases vs with
            | nil => simp at hl
            | cons v vs =>
              simp only [List.flatten_cons, List.append_assoc]
              have q1 := ih u (hu u (by simp)) (hv v (by simp)) (us.flatten ++ a) (vs.flatten ++ b) σ
              have q2 := ih u (hu u (by simp)) (hv v (by simp)) us.flatten vs.flatten σ
              have q3 := ihu vs (fun x hx => hu x (by simp [hx])) (fun x hx => hv x (by simp [hx])) (by simpa using hl) a b (comW s u v σ).2
              rw [q1, q2, q3]
              simp
        have e := key zs ws (fun _ h => h) k3 hl a b σ
        simp only [List.cons_append]
        rw [comW_same ⟨rfl, by omega⟩, comW_same ⟨rfl, by omega⟩, e]
        simp
      · have hd : ¬ ((c : Int) = (d : Int) ∧ 0 ≤ (c : Int)) := by omega
        have e1 := comW_diff (a := a) (b := b) (σ := σ) hP hQ (by simp) (by simp) hd
        have e2 := comW_diff (a := []) (b := []) (σ := σ) hP hQ (by simp) (by simp) hd
        rw [comW_nil] at e2
        simp only [List.append_nil] at e2
        rw [e1, e2]
        simp

theorem comW_flat {s : Sg} {m m' : Int} : ∀ (us vs : List (List Int)), (∀ u ∈ us, IsT s m u) → (∀ v ∈ vs, IsT s m' v) → us.length = vs.length → ∀ (a b : List Int) (σ : List KK),
    comW s (us.flatten ++ a) (vs.flatten ++ b) σ = ((comW s us.flatten vs.flatten σ).1 ++ (comW s a b (comW s us.flatten vs.flatten σ).2).1, (comW s a b (comW s us.flatten vs.flatten σ).2).2) := by
  intro us
  induction us with
  | nil =>
    intro vs _ _ hl a b σ
    have : vs = [] := by cases vs with
      | nil => rfl
      | cons => simp at hl
    subst this
    simp [comW_nil]
  | cons u us ihu =>
    intro vs hu hv hl a b σ
    cases vs with
    | nil => simp at hl
    | cons v vs =>
      simp only [List.flatten_cons, List.append_assoc]
      have q1 := comW_append (hu u (by simp)) (hv v (by simp)) (us.flatten ++ a) (vs.flatten ++ b) σ
      have q2 := comW_append (hu u (by simp)) (hv v (by simp)) us.flatten vs.flatten σ
      have q3 := ihu vs (fun x hx => hu x (by simp [hx])) (fun x hx => hv x (by simp [hx])) (by simpa using hl) a b (comW s u v σ).2
      rw [q1, q2, q3]
      simp

/-- bounds. -/
theorem insK_len (σ : List KK) (k : KK) : (insK σ k).length ≤ σ.length + 1 := by unfold insK; split <;> simp
theorem com_len (s : Sg) : ∀ (f : Nat) (a b : List Int) (σ : List KK), (com s f a b σ).1.length ≤ a.length ∧ (com s f a b σ).2.length ≤ σ.length + a.length ∧ σ.length ≤ (com s f a b σ).2.length := by
  intro f
  induction f with
  | zero => intro a b σ; simp [com]
  | succ f ih =>
    intro a b σ
    cases a with
    | nil => rw [com_nil]; simp
    | cons x a =>
      cases b with
      | nil => rw [com_nil2]; simp
      | cons y b =>
        simp only [com]
        have hp := pLen_pos s x a
        have hd : ((x :: a).drop (pLen s (x :: a) 1)).length ≤ a.length := by rw [List.length_drop, List.length_cons]; omega
        split
        · have := ih a b σ
          simp only [List.length_cons]
          omega
        · have h1 := ih ((x :: a).drop (pLen s (x :: a) 1)) ((y :: b).drop (pLen s (y :: b) 1)) (insK σ (keyL ((x :: a).take (pLen s (x :: a) 1)), keyL ((y :: b).take (pLen s (y :: b) 1))))
          have h2 := insK_len σ (keyL ((x :: a).take (pLen s (x :: a) 1)), keyL ((y :: b).take (pLen s (y :: b) 1)))
          have h3 : σ.length ≤ (insK σ (keyL ((x :: a).take (pLen s (x :: a) 1)), keyL ((y :: b).take (pLen s (y :: b) 1)))).length := by unfold insK; split <;> simp
          simp only [List.length_cons]
          omega
theorem comW_len (s : Sg) (a b : List Int) (σ : List KK) : (comW s a b σ).1.length ≤ a.length ∧ (comW s a b σ).2.length ≤ σ.length + a.length ∧ σ.length ≤ (comW s a b σ).2.length := com_len s _ a b σ

theorem mapK_ins {σ : List KK} {k : KK} (h : k ∉ σ) : (fun y => if y = k then some (numK σ k) else mapK σ y) = mapK (insK σ k) := by
  funext y
  unfold mapK insK
  rw [if_neg h]
  by_cases hy : y = k
  · subst hy
    simp only [if_true]
    rw [if_pos (by simp)]
    unfold numK
    rw [List.idxOf_append]
    simp [h, List.idxOf_eq_length h]
  · rw [if_neg hy]
    by_cases hm : y ∈ σ
    · rw [if_pos hm, if_pos (by simp [hm])]
      unfold numK
      rw [List.idxOf_append, if_pos hm]
    · rw [if_neg hm, if_neg (by simp [hm, hy])]

end Go.Proofs.Ytldgkidojepdlaa
