/-
  WHAT IT HOLDS: contracts of table, put, fits, ValidBinds and Apply of package unify. Conditions: the arguments read as data; small signs.
  WHAT IT HOLDS: contract of ValidBinds of package unify. Conditions: the arguments read as data; a small sign.
  WHAT IT HOLDS: contracts of Variable, Match and Instance of the reference of layer 2. Conditions: the arguments read as data.
  WHAT IT HOLDS: contracts of binds, Match, Apply, Occurs of package unify, and of Match of the reference. Conditions: the arguments read as data; small signs.
  WHAT IT HOLDS: contracts of Apply, Occurs, Match, Unifies, Solved of package unify. Conditions: the arguments read as data; small signs.
  WHAT IT HOLDS: contract of the iterator that all of package unify hands back, and of table again. Conditions: the arguments read as data; valid binds.
  WHAT IT HOLDS: contract of Compose of package unify. Conditions: the arguments read as data; small signs.
-/
import Derived.Deep.RegionHeld3
import Derived.WalkSpells
import Derived.Test.YtpflkjldapmgdaaGreatZRCarryConverse0
import Derived.Test.YtpflkjldapmgdaaGreatZRCarryConverse18
import Derived.Test.YtpflkjldapmgdaaGreatZRCarryConverse44
import Derived.Test.YtpflkjldapmgdaaGreatZRCarryConverse15
import Derived.Test.YtpflkjldapmgdaaGreatZRCarryConverse5
import Derived.Test.YtpflkjldapmgdaaGreatZRCarryConverse6
namespace Go.Proofs.YtpflkjldapmgdaaGreat
open Go Go.RowKit Go.Maps
theorem mOf_none : mOf (fun _ => none) = noM := rfl
theorem TMap_upd {w w' : World} {b n : Nat} {M : Int → Option VT} (h : MapK Tryz.prog 3 eI eV w b n M) (hg : w.grownBy w' (some b)) (hi : ∀ x u p, M x = some (u, p) → Ints w u p) {x0 : Int} {u0 : Value} {p0 : List Int} (h0 : Ints w u0 p0) : ∀ x u p, (fun y => if y = x0 then some ((u0, p0) : VT) else M y) x = some (u, p) → Ints w' u p := by
  intro x u p hx
  by_cases e : x = x0
  · simp [e] at hx
    obtain ⟨rfl, rfl⟩ := hx
    exact h.ints rfl hg h0
  · simp only [if_neg e] at hx
    exact h.ints rfl hg (hi x u p hx)
theorem putL_len {m : MM} (hm : ∀ x p, m x = some p → p.length ≤ 60) : ∀ (t : List Int), (putL m t).length ≤ t.length * 60
  | [] => by simp [putL]
  | x :: t => by
    have ih := putL_len hm t
    have e : putL m (x :: t) = (m x).getD [x] ++ putL m t := by simp [putL]
    rw [e, List.length_append, List.length_cons, Nat.add_mul]
    cases hx : m x with
    | none => simp; omega
    | some p => have := hm x p hx; simp; omega
end Go.Proofs.YtpflkjldapmgdaaGreat
namespace Go.Proofs.YtpflkjldapmgdaaGreat
open Go Go.RowKit Go.Maps
theorem ints_lit1 (w : World) (x : Int) (T : TypeId) : Ints (w.alloc (.cells #[.int .i64 x] T)) (.slice (some ⟨w.heap.size, 0, none⟩) 1 1) [x] := row_one_new w (.int .i64 x) T
theorem bnds_false {s : Sg} {l : BL} {k : Nat} (h : k < l.length) (hf : bndB s l k = false) : bndsB s l = false := by
  unfold bndsB
  have : (List.range l.length).all (bndB s l) = false := by
    rw [List.all_eq_false]
    exact ⟨k, by simpa using h, by simp [hf]⟩
  rw [this, Bool.and_false]
theorem bnd_no {s : Sg} {l : BL} {k : Nat} (h : k < l.length) (hn : ¬ ((0 ≤ l[k].1 ∧ l[k].1 ≤ 11) ∧ (∀ h0 : 0 < k, l[k - 1].1 < l[k].1) ∧ termB s l[k].2 = true ∧ l[k].2 ≠ [-l[k].1 - 1])) : bndB s l k = false := by
  rw [Bool.eq_false_iff]
  intro hh
  exact hn ((bndB_at h).1 hh)
end Go.Proofs.YtpflkjldapmgdaaGreat
namespace Go.Proofs.YtpflkjldapmgdaaGreat
open Go Go.RowKit Go.Maps
/-- the binds that a match tells. -/
def bindL (m : MM) (k : Nat) : List (Nat × List Int) := (List.range k).filterMap fun (v : Nat) => match m (-(v : Int) - 1) with | some l => if l = [-(v : Int) - 1] then none else some (v, l) | none => none
theorem bindL_succ (m : MM) (k : Nat) : bindL m (k + 1) = bindL m k ++ match m (-(k : Int) - 1) with | some l => if l = [-(k : Int) - 1] then [] else [(k, l)] | none => [] := by
  unfold bindL
  rw [List.range_succ, List.filterMap_append]
  congr 1
  cases h : m (-(k : Int) - 1) with
  | none => simp [h]
  | some l =>
    simp only [List.filterMap_cons, List.filterMap_nil, h]
    by_cases e : l = [-(k : Int) - 1] <;> simp [e]
theorem bindL_len (m : MM) (k : Nat) : (bindL m k).length ≤ k := by
  unfold bindL
  exact Nat.le_trans (List.length_filterMap_le _ _) (by simp)
abbrev BT := Nat × Value × List Int
def bCells (bs : List BT) : List Value := bs.flatMap fun b => [.int .i64 b.1, b.2.1]
def bPure (bs : List BT) : List (Nat × List Int) := bs.map fun b => (b.1, b.2.2)
theorem row_two_new (w : World) (x y : Value) (t : TypeId) : RowK (w.alloc (.cells #[x, y] t)) (.slice (some ⟨w.heap.size, 0, none⟩) 1 1) 2 1 [x, y] := by
  refine ⟨rfl, _, _, rfl, Nat.le_refl _, by omega, (fun h => by cases h), fun j u hj => ⟨_, _, rfl, ?_⟩⟩
  rw [World.cell?_alloc_new]
  match j, hj with
  | 0, hj => simpa using hj
  | 1, hj => simpa using hj
  | j + 2, hj => simp at hj
theorem arr12 (w : World) (ty : TypeId) : ArrT (w.alloc (.cells #[.slice none 0 0, .slice none 0 0, .slice none 0 0, .slice none 0 0, .slice none 0 0, .slice none 0 0, .slice none 0 0, .slice none 0 0, .slice none 0 0, .slice none 0 0, .slice none 0 0, .slice none 0 0] ty)) w.heap.size 0 12 (fun _ => none) := by
  refine ⟨_, ty, (MapKept.heap_alloc w _).1, fun i u hi => ?_, fun v hv => ⟨?_, fun _ _ h => by cases h⟩⟩
  · have hm := Array.mem_of_getElem? hi
    simp at hm
    exact ⟨_, _, _, hm⟩
  · match v, hv with
    | 0, _ => rfl
    | 1, _ => rfl
    | 2, _ => rfl
    | 3, _ => rfl
    | 4, _ => rfl
    | 5, _ => rfl
    | 6, _ => rfl
    | 7, _ => rfl
    | 8, _ => rfl
    | 9, _ => rfl
    | 10, _ => rfl
    | 11, _ => rfl
    | v + 12, h => omega
theorem mR_none : mR (fun _ => none) = noM := by
  funext x
  unfold mR noM
  split <;> rfl
end Go.Proofs.YtpflkjldapmgdaaGreat
namespace Go.Proofs.YtpflkjldapmgdaaGreat
open Go Go.RowKit Go.Maps
def bRow (e : TypeId) (u : Value) (bs : List BV) : Rw := ⟨e, 2, u, bs.length, biC bs⟩
def bTos (T : TypeId) (bs : List BV) : List Rw := bs.map fun b => rwT T b.2.1 b.2.2
/-- binds of the call's own memory, rows apart. -/
def BSep (E T : TypeId) (w : World) (base : Nat) (u : Value) (bs : List BV) : Prop := Sep w base (bRow E u bs :: bTos T bs)
theorem BSep.nil (E T : TypeId) (w : World) (base : Nat) : BSep E T w base (.slice none 0 0) [] := (Sep.nil w base).consNil E 2
theorem BSep.below {E T : TypeId} {w w' : World} {base : Nat} {u : Value} {bs : List BV} (h : BSep E T w base u bs) (hb : Below w.heap.size w w') : BSep E T w' base u bs := Sep.below h hb
theorem BSep.row {E T : TypeId} {w : World} {base : Nat} {u : Value} {bs : List BV} (h : BSep E T w base u bs) : w.ownsRow base E 2 u bs.length (biC bs) := h.1 (bRow E u bs) (by simp)
theorem BSep.push {E T : TypeId} {w0 w w1 : World} {base base' : Nat} {u : Value} {bs : List BV} (h : BSep E T w0 base u bs) (hb : Below w0.heap.size w0 w) (hB : w0.heap.size ≤ base') (hbb : base ≤ base') {x : Int} {v : Value} {p : List Int}
    (hv : w.ownsRow base' T 1 v p.length (p.map (Value.int .i64))) {g cap n : Nat} (hn : bs.length = n) (hown : w1.ownsRow base E 2 (.slice (some ⟨g, 0, none⟩) (n + 1) cap) (n + 1) (biC bs ++ [.int .i64 x, v])) (hg : w.grownBy w1 u.ownBlock) {H : Nat} (hH : w.heap.size = H) (hat : u.ownBlock = some g ∨ g = H) :
    BSep E T w1 base (.slice (some ⟨g, 0, none⟩) (n + 1) cap) (bs ++ [(x, v, p)]) := by
  subst hn
  have h1 : Sep w base (rwT T v p :: bRow E u bs :: bTos T bs) := Sep.cons h hb hB hbb hv
  have h2 : Sep w base (bRow E u bs :: rwT T v p :: bTos T bs) := h1.perm (List.Perm.swap _ _ _)
  have h3 := h2.app hg hown hH hat
  have e : (⟨E, 2, .slice (some ⟨g, 0, none⟩) (bs.length + 1) cap, bs.length + 1, biC bs ++ [.int .i64 x, v]⟩ : Rw) = bRow E (.slice (some ⟨g, 0, none⟩) (bs.length + 1) cap) (bs ++ [(x, v, p)]) := by
    unfold bRow; rw [biC_snoc, List.length_append]; rfl
  rw [e] at h3
  refine h3.perm (List.Perm.cons _ ?_)
  unfold bTos
  rw [List.map_append]
  exact (List.perm_append_comm (l₁ := [rwT T v p]) (l₂ := bs.map fun b => rwT T b.2.1 b.2.2))
theorem BSep.at {E T : TypeId} {w : World} {base : Nat} {u : Value} {bs : List BV} (h : BSep E T w base u bs) {l : BL} (hl : biP bs = l) (hn : bs.length ≤ 140737488355328) (hp : ∀ b ∈ l, b.2.length ≤ 140737488355328) : BindsAt w u l := by
  subst hl
  refine BindsAt.of_owns h.row hn fun x hx => ?_
  exact Sep.ints h (List.mem_cons_of_mem _ (List.mem_map.2 ⟨x, hx, rfl⟩)) (hp (x.1, x.2.2) (List.mem_map.2 ⟨x, hx, rfl⟩))
end Go.Proofs.YtpflkjldapmgdaaGreat
namespace Go.Proofs.YtpflkjldapmgdaaGreat
open Go Go.RowKit Go.Maps
theorem ints_nil (w : World) : Ints w (.slice none 0 0) [] := ⟨by simp, none, 0, rfl, Nat.le_refl _, by simp, fun _ => rfl, by simp⟩
theorem binds_nil (w : World) : BindsAt w (.slice none 0 0) [] := ⟨[], ⟨⟨by simp [biC], none, 0, rfl, Nat.le_refl _, by simp, fun _ => rfl, by simp [biC]⟩, by simp⟩, rfl⟩
theorem bnds_range {s : Sg} {l : BL} (h : bndsB s l = true) : ∀ b ∈ l, -1000 ≤ b.1 ∧ b.1 ≤ 1000 := fun b hb => by
  have := ((bndsB_iff.1 h).2.1 b hb).1
  omega
theorem tab_short {s : Sg} {l : BL} (h : bndsB s l = true) : ∀ x p, tabP l x = some p → p.length ≤ 60 := fun x p hp => (termB_facts (tabP_range h hp).2.1).2.2.2
theorem T_mil {s : Sg} {t : List Int} (h : termB s t = true) : ∀ x ∈ t, -1000000 ≤ x ∧ x ≤ 1000000 := fun x hx => by
  have h1 := T_small (termB_T h) (by have := (termB_facts h).2.2.1; omega) x hx
  omega
theorem bndsB_tabP {s : Sg} {l : BL} (h : bndsB s l = true) : tabP l = tabP l := rfl
def mtR (s : Sg) (a b : List Int) : BL × Int := if termB s a && termB s b then (match matL s a b noM with | none => ([], 8) | some m => (bndL m 12, 0)) else ([], 1)
theorem subL_piece_len {σ : Int → List Int} : ∀ {a : List Int} {n : Int}, n ∈ a → n < 0 → (σ n).length ≤ (subL σ a).length
  | x :: a, n, h, h0 => by
    by_cases hx : x < 0
    · rw [subL_cons_var σ hx, List.length_append]
      rcases List.mem_cons.1 h with rfl | h
      · omega
      · have := subL_piece_len (σ := σ) h h0; omega
    · rw [subL_cons_app σ (by omega), List.length_cons]
      rcases List.mem_cons.1 h with rfl | h
      · omega
      · have := subL_piece_len (σ := σ) h h0; omega
theorem matL_terms {s : Sg} {a b : List Int} (ha : termB s a = true) (hb : termB s b = true) {m : MM} (h : matL s a b noM = some m) :
    (∀ x p, m x = some p → x ∈ a ∧ x < 0 ∧ termB s p = true) ∧ (∀ n ∈ a, n < 0 → ∃ p, m n = some p) ∧ subL (fun n => (m n).getD []) a = b := by
  obtain ⟨_, h2, h3, h4⟩ := matL_sound a 1 b noM m (termB_T ha).fo (termB_T hb).fo h
  refine ⟨fun x p hx => ?_, h2, h3⟩
  rcases h4 x p hx with h5 | ⟨h5, h6, h7⟩
  · cases h5
  · refine ⟨h5, h6, T_termB (termB_facts ha).1 h7 ?_⟩
    have := subL_piece_len (σ := fun n => (m n).getD []) h5 h6
    rw [h3, hx] at this
    have := (termB_facts hb).2.2.2
    simp at *; omega
theorem matL_sizes {s : Sg} {a b : List Int} (ha : termB s a = true) (hb : termB s b = true) {m : MM} (h : matL s a b noM = some m) : ∀ x p, m x = some p → 0 < p.length ∧ p.length ≤ 1000 := fun x p hp => by
  have h1 := ((matL_terms ha hb h).1 x p hp).2.2
  have h2 := (termB_facts h1).2.2.2
  have h3 := (termB_T h1).ne
  omega
def unifB (s : Sg) (l : BL) (a b : List Int) : Bool := bndsB s l && termB s a && termB s b && decide (subL (ofN l) a = subL (ofN l) b)
end Go.Proofs.YtpflkjldapmgdaaGreat
namespace Go.Proofs.YtpflkjldapmgdaaGreat
open Go Go.RowKit Go.Maps Go.Shelf
attribute [local go_sem] Oper.semAt_some
theorem updI {wb : World} {M : Int → Option VT} (h : ∀ x u p, M x = some (u, p) → Ints wb u p) (x0 : Int) {u0 : Value} {p0 : List Int} (h0 : Ints wb u0 p0) : ∀ x u p, (fun y => if y = x0 then some ((u0, p0) : VT) else M y) x = some (u, p) → Ints wb u p := by
  intro x u p hx
  by_cases e : x = x0
  · simp [e] at hx
    obtain ⟨rfl, rfl⟩ := hx
    exact h0
  · simp only [if_neg e] at hx
    exact h x u p hx
abbrev AE := Nat × Value × List Int
def allE (l : BL) (pre : List AE) (x : AE) (W : World) : Prop := x.1 = pre.length ∧ x.1 < 12 ∧ x.2.2 = ofN l (-(x.1 : Int) - 1) ∧ Ints W x.2.1 x.2.2
def allX (x : AE) : Array Value := #[.int .i64 x.1, x.2.1]
end Go.Proofs.YtpflkjldapmgdaaGreat
namespace Go.Proofs.YtpflkjldapmgdaaGreat
open Go Go.RowKit Go.Maps Go.Shelf
attribute [local go_sem] Oper.semAt_some
theorem ownsRow_slice {w : World} {b : Nat} {e : TypeId} {k : Nat} {v : Value} {n : Nat} {xs : List Value} (h : w.ownsRow b e k v n xs) : ∃ a c, v = .slice a n c := by
  obtain ⟨h1, h2⟩ := h
  rcases h2 with h2 | ⟨g, cap, cur, r1, r2, r3, r4⟩
  · exact ⟨none, 0, by simp_all⟩
  · exact ⟨_, _, r1⟩
theorem ownsRow_frm {w w' : World} {b : Nat} {e : TypeId} {k : Nat} {v : Value} {n : Nat} {xs : List Value} (h : w.ownsRow b e k v n xs) (hs : ∀ q, v.ownBlock = some q → w'.heap[q]? = w.heap[q]?) : w'.ownsRow b e k v n xs := by
  obtain ⟨h1, h2⟩ := h
  refine ⟨h1, ?_⟩
  rcases h2 with h2 | ⟨g, cap, cur, r1, r2, r3, r4⟩
  · exact .inl h2
  · exact .inr ⟨g, cap, cur, r1, r2, by rw [hs g (by rw [r1]; rfl)]; exact r3, r4⟩
theorem Sep.frm {w w' : World} {base : Nat} {rs : List Rw} (h : Sep w base rs) (hs : ∀ r ∈ rs, ∀ q, r.v.ownBlock = some q → w'.heap[q]? = w.heap[q]?) : Sep w' base rs :=
  ⟨fun r hr => ownsRow_frm (h.1 r hr) (hs r hr), h.2⟩
theorem Sep.blk {w : World} {base : Nat} {rs : List Rw} (h : Sep w base rs) {r : Rw} (hr : r ∈ rs) {q : Nat} (hq : r.v.ownBlock = some q) : base ≤ q ∧ q < w.heap.size := (h.1 r hr).lt q hq
def bRows (E T : TypeId) (u : Value) (bs : List BV) : List Rw := bRow E u bs :: bTos T bs
theorem BSep.iff {E T : TypeId} {w : World} {base : Nat} {u : Value} {bs : List BV} : BSep E T w base u bs ↔ Sep w base (bRows E T u bs) := Iff.rfl
/-- where the function is left from a round. -/
structure CmpX (s : Sg) (l m : BL) (wb : World) (b6 b7 : Nat) (c : Code) (W : World) : Prop where
  ret : c = .ret
  ans : comR s l m = ([], 4)
  c6 : W.cell? ⟨b6, 0, none⟩ = some (.slice none 0 0)
  c7 : W.cell? ⟨b7, 0, none⟩ = some (.int .i64 4)
  bel : Below wb.heap.size wb W
theorem cell_same {W W' : World} {p : Addr} {v : Value} (h : W.cell? p = some v) (hs : W'.heap[p.block]? = W.heap[p.block]?) : W'.cell? p = some v := (World.cell?_of_block hs).trans h
theorem CmpX.frm {s : Sg} {l m : BL} {wb : World} {B b6 b7 : Nat} (hB : wb.heap.size ≤ B) (h2 : b6 < B) (h3 : b7 < B) (c : Code) : Frm B (fun _ => CmpX s l m wb b6 b7 c) := by
  rintro M W W' ⟨a1, a2, a3, a4, a5⟩ hk
  exact ⟨a1, a2, cell_same a3 (hk.same _ (World.block_lt_of_cell? _ _ a3) (fun h => by have h' : B ≤ b6 := h.1; omega)), cell_same a4 (hk.same _ (World.block_lt_of_cell? _ _ a4) (fun h => by have h' : B ≤ b7 := h.1; omega)), a5.trans (hk.below a5.size (fun k h => by omega))⟩
theorem comR_long {s : Sg} {l m : BL} (h1 : bndsB s l = true) (h2 : bndsB s m = true) {v : Nat} (hv : v < 12) (h : comLe l m v = false) : comR s l m = ([], 4) := by
  unfold comR
  rw [h1, h2, if_pos (by rfl), if_neg]
  rw [List.all_eq_true]
  intro hh
  have := hh v (List.mem_range.2 hv)
  rw [h] at this; cases this
theorem comR_full {s : Sg} {l m : BL} (h1 : bndsB s l = true) (h2 : bndsB s m = true) (h : ∀ i, i < 12 → comLe l m i = true) : comR s l m = (bndL (comM l m) 12, 0) := by
  unfold comR
  rw [h1, h2, if_pos (by rfl), if_pos]
  rw [List.all_eq_true]
  exact fun i hi => h i (List.mem_range.1 hi)
theorem comM_succ {l m : BL} {k : Nat} {r : List Int} (hr : subL (ofN m) (ofN l (-(k : Int) - 1)) = r) : bndL (comM l m) (k + 1) = bndL (comM l m) k ++ (if r = [-(k : Int) - 1] then [] else [((k : Int), r)]) := by
  rw [bndL_succ]
  simp only [comM, hr]
theorem boxes2F (w : World) (x y : Value) (tx ty : TypeId) (W : World) (hb : Below ((w.alloc (.cells #[x] tx)).alloc (.cells #[y] ty)).heap.size ((w.alloc (.cells #[x] tx)).alloc (.cells #[y] ty)) W) :
    (W.cell? ⟨w.heap.size, 0, none⟩ = some x ∧ W.frozen? ⟨w.heap.size, 0, none⟩ = false) ∧ (W.cell? ⟨w.heap.size + 1, 0, none⟩ = some y ∧ W.frozen? ⟨w.heap.size + 1, 0, none⟩ = false) := by
  obtain ⟨k1, k2, k3⟩ := boxes2 w x y tx ty
  have l1 := World.block_lt_of_cell? _ _ k1
  have l2 := World.block_lt_of_cell? _ _ k2
  refine ⟨⟨(hb.cell l1).trans k1, ?_⟩, ⟨(hb.cell l2).trans k2, ?_⟩⟩
  · rw [hb.frozen (p := ⟨w.heap.size, 0, none⟩) l1]; exact ((Boxed.new w tx x).alloc _).frozen
  · rw [hb.frozen (p := ⟨w.heap.size + 1, 0, none⟩) l2]
    have := (Boxed.new (w.alloc (.cells #[x] tx)) ty y).frozen
    rwa [World.size_alloc] at this
/-- the two results are stored. -/
theorem store2 {W : World} {b : Nat} {x y u z : Value} (h6 : W.cell? ⟨b, 0, none⟩ = some x) (h7 : W.cell? ⟨b + 1, 0, none⟩ = some y) :
    ((W.setCell ⟨b, 0, none⟩ u).setCell ⟨b + 1, 0, none⟩ z).cell? ⟨b, 0, none⟩ = some u ∧ ((W.setCell ⟨b, 0, none⟩ u).setCell ⟨b + 1, 0, none⟩ z).cell? ⟨b + 1, 0, none⟩ = some z := by
  refine ⟨?_, ?_⟩
  · rw [World.cell?_setCell_other _ _ _ _ (by simp)]
    exact World.cell?_setCell_same' _ _ _ (by rw [h6]; rfl)
  · refine World.cell?_setCell_same' _ _ _ ?_
    rw [World.cell?_setCell_other _ _ _ _ (by simp), h7]; rfl
end Go.Proofs.YtpflkjldapmgdaaGreat
