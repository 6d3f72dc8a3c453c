/-
  WHAT IT HOLDS: contracts of Variable, Match and Instance of the reference of layer 2. Conditions: the arguments read as data.
  WHAT IT HOLDS: contracts of over and Over of package find, of alike, under and Over of the reference of layer 5. Conditions: the arguments read as data; the shelf and the sign are small.
  WHAT IT HOLDS: contracts of canonical, grouped of the reference of layer 5, of form and grouped of package find. Conditions: the arguments read as data; the terms are valid.
  WHAT IT HOLDS: contract of grouped of the reference of layer 5. Conditions: the argument reads as data.
  WHAT IT HOLDS: contracts of form, grouped, Groups of package find. Conditions: the arguments read as data; the shelf and the sign are small.
  WHAT IT HOLDS: contract of Groups of package find. Conditions: the arguments read as data; the shelf and the sign are small.
  WHAT IT HOLDS: contracts of table, put, fits, ValidBinds and Apply of package unify. Conditions: the arguments read as data; small signs.
  WHAT IT HOLDS: contract of ValidBinds of package unify. Conditions: the arguments read as data; a small sign.
  WHAT IT HOLDS: contracts of binds, Match, Apply, Occurs of package unify, and of Match of the reference. Conditions: the arguments read as data; small signs.
  WHAT IT HOLDS: contracts of Apply, Occurs, Match, Unifies, Solved of package unify. Conditions: the arguments read as data; small signs.
  WHAT IT HOLDS: contract of the iterator that all of package unify hands back, and of table again. Conditions: the arguments read as data; valid binds.
  WHAT IT HOLDS: contract of Compose of package unify. Conditions: the arguments read as data; small signs.
-/
import Derived.WalkSpells
import Derived.Deep.RegionLaw
import Derived.Laws.EntriesVeiled
import Derived.Shelf.Abstract
import Derived.Deep.RegionHeld3
import Derived.Test.YtpflkjldapmgdaaGreatZRCarryDerives40
import Derived.Test.YtpflkjldapmgdaaGreatZRCarryDerives17
import Derived.Test.YtpflkjldapmgdaaGreatZRCarryDerives2
import Derived.Test.YtpflkjldapmgdaaGreatZRCarryDerives14
import Derived.Test.YtpflkjldapmgdaaGreatZRCarryDerives3
import Derived.Test.YtpflkjldapmgdaaGreatZRCarryDerives5
import Derived.Test.YtpflkjldapmgdaaGreatZRCarryDerives12
import Derived.Test.YtpflkjldapmgdaaGreatZRCarryDerives0
import Derived.Test.YtpflkjldapmgdaaGreatZRCarryDerives6
namespace Go.Proofs.YtpflkjldapmgdaaGreat
open Go Go.RowKit Go.Maps
end Go.Proofs.YtpflkjldapmgdaaGreat
namespace Go.Proofs.YtpflkjldapmgdaaGreat
open Go Go.RowKit Go.Maps
end Go.Proofs.YtpflkjldapmgdaaGreat
namespace Go.Proofs.YtpflkjldapmgdaaGreat
open Go Go.RowKit Go.Maps
theorem Terms.at {w : World} {a : Option Addr} {n cap : Nat} {l : List (List Int)} (h : Terms w (.slice a n cap) l) {k : Nat} (hk : k < l.length) : ∃ b o u, a = some ⟨b, o, none⟩ ∧ w.cell? ⟨b, o + k, none⟩ = some u ∧ Ints w u l[k] := by
  obtain ⟨a', cap', h1, _, _, _, h2⟩ := h.open
  simp only [Value.slice.injEq] at h1
  obtain ⟨rfl, _, rfl⟩ := h1
  exact h2 k hk
end Go.Proofs.YtpflkjldapmgdaaGreat
namespace Go.Proofs.YtpflkjldapmgdaaGreat
open Go Go.RowKit Go.Maps
end Go.Proofs.YtpflkjldapmgdaaGreat
namespace Go.Proofs.YtpflkjldapmgdaaGreat
open Go Go.RowKit Go.Maps
end Go.Proofs.YtpflkjldapmgdaaGreat
namespace Go.Proofs.YtpflkjldapmgdaaGreat
open Go Go.RowKit Go.Maps
end Go.Proofs.YtpflkjldapmgdaaGreat
namespace Go.Proofs.YtpflkjldapmgdaaGreat
open Go Go.RowKit Go.Maps
end Go.Proofs.YtpflkjldapmgdaaGreat
namespace Go.Proofs.YtpflkjldapmgdaaGreat
open Go Go.RowKit Go.Maps
end Go.Proofs.YtpflkjldapmgdaaGreat
namespace Go.Proofs.YtpflkjldapmgdaaGreat
open Go Go.RowKit Go.Maps
def bRow (e : TypeId) (u : Value) (bs : List BV) : Rw := ⟨e, 2, u, bs.length, biC bs⟩
def bTos (T : TypeId) (bs : List BV) : List Rw := bs.map fun b => rwT T b.2.1 b.2.2
/-- binds of the call's own memory, rows apart. -/
def BSep (E T : TypeId) (w : World) (base : Nat) (u : Value) (bs : List BV) : Prop := Sep w base (bRow E u bs :: bTos T bs)
theorem BSep.nil (E T : TypeId) (w : World) (base : Nat) : BSep E T w base (.slice none 0 0) [] := (Sep.nil w base).consNil E 2
theorem BSep.below {E T : TypeId} {w w' : World} {base : Nat} {u : Value} {bs : List BV} (h : BSep E T w base u bs) (hb : Below w.heap.size w w') : BSep E T w' base u bs := Sep.below h hb
theorem BSep.row {E T : TypeId} {w : World} {base : Nat} {u : Value} {bs : List BV} (h : BSep E T w base u bs) : w.ownsRow base E 2 u bs.length (biC bs) := h.1 (bRow E u bs) (by simp)
theorem BSep.push {E T : TypeId} {w0 w w1 : World} {base base' : Nat} {u : Value} {bs : List BV} (h : BSep E T w0 base u bs) (hb : Below w0.heap.size w0 w) (hB : w0.heap.size ≤ base') (hbb : base ≤ base') {x : Int} {v : Value} {p : List Int}
    (hv : w.ownsRow base' T 1 v p.length (p.map (Value.int .i64))) {g cap n : Nat} (hn : bs.length = n) (hown : w1.ownsRow base E 2 (.slice (some ⟨g, 0, none⟩) (n + 1) cap) (n + 1) (biC bs ++ [.int .i64 x, v])) (hg : w.grownBy w1 u.ownBlock) {H : Nat} (hH : w.heap.size = H) (hat : u.ownBlock = some g ∨ g = H) :
    BSep E T w1 base (.slice (some ⟨g, 0, none⟩) (n + 1) cap) (bs ++ [(x, v, p)]) := by
  subst hn
  have h1 : Sep w base (rwT T v p :: bRow E u bs :: bTos T bs) := Sep.cons h hb hB hbb hv
  have h2 : Sep w base (bRow E u bs :: rwT T v p :: bTos T bs) := h1.perm (List.Perm.swap _ _ _)
  have h3 := h2.app hg hown hH hat
  have e : (⟨E, 2, .slice (some ⟨g, 0, none⟩) (bs.length + 1) cap, bs.length + 1, biC bs ++ [.int .i64 x, v]⟩ : Rw) = bRow E (.slice (some ⟨g, 0, none⟩) (bs.length + 1) cap) (bs ++ [(x, v, p)]) := by
    unfold bRow; rw [biC_snoc, List.length_append]; rfl
  rw [e] at h3
  refine h3.perm (List.Perm.cons _ ?_)
  unfold bTos
  rw [List.map_append]
  exact (List.perm_append_comm (l₁ := [rwT T v p]) (l₂ := bs.map fun b => rwT T b.2.1 b.2.2))
theorem BSep.at {E T : TypeId} {w : World} {base : Nat} {u : Value} {bs : List BV} (h : BSep E T w base u bs) {l : BL} (hl : biP bs = l) (hn : bs.length ≤ 140737488355328) (hp : ∀ b ∈ l, b.2.length ≤ 140737488355328) : BindsAt w u l := by
  subst hl
  refine BindsAt.of_owns h.row hn fun x hx => ?_
  exact Sep.ints h (List.mem_cons_of_mem _ (List.mem_map.2 ⟨x, hx, rfl⟩)) (hp (x.1, x.2.2) (List.mem_map.2 ⟨x, hx, rfl⟩))
end Go.Proofs.YtpflkjldapmgdaaGreat
namespace Go.Proofs.YtpflkjldapmgdaaGreat
open Go Go.RowKit Go.Maps
end Go.Proofs.YtpflkjldapmgdaaGreat
namespace Go.Proofs.YtpflkjldapmgdaaGreat
open Go Go.RowKit Go.Maps Go.Shelf
attribute [local go_sem] Oper.semAt_some
end Go.Proofs.YtpflkjldapmgdaaGreat
namespace Go.Proofs.YtpflkjldapmgdaaGreat
open Go Go.RowKit Go.Maps Go.Shelf
attribute [local go_sem] Oper.semAt_some
theorem ownsRow_frm {w w' : World} {b : Nat} {e : TypeId} {k : Nat} {v : Value} {n : Nat} {xs : List Value} (h : w.ownsRow b e k v n xs) (hs : ∀ q, v.ownBlock = some q → w'.heap[q]? = w.heap[q]?) : w'.ownsRow b e k v n xs := by
  obtain ⟨h1, h2⟩ := h
  refine ⟨h1, ?_⟩
  rcases h2 with h2 | ⟨g, cap, cur, r1, r2, r3, r4⟩
  · exact .inl h2
  · exact .inr ⟨g, cap, cur, r1, r2, by rw [hs g (by rw [r1]; rfl)]; exact r3, r4⟩
theorem cell_same {W W' : World} {p : Addr} {v : Value} (h : W.cell? p = some v) (hs : W'.heap[p.block]? = W.heap[p.block]?) : W'.cell? p = some v := (World.cell?_of_block hs).trans h
end Go.Proofs.YtpflkjldapmgdaaGreat
