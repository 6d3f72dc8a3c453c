/-
  WHAT IT HOLDS: contracts of Variable, Match and Instance of the reference of layer 2. Conditions: the arguments read as data.
  WHAT IT HOLDS: contracts of over and Over of package find, of alike, under and Over of the reference of layer 5. Conditions: the arguments read as data; the shelf and the sign are small.
  WHAT IT HOLDS: contracts of canonical, grouped of the reference of layer 5, of form and grouped of package find. Conditions: the arguments read as data; the terms are valid.
  WHAT IT HOLDS: contract of grouped of the reference of layer 5. Conditions: the argument reads as data.
  WHAT IT HOLDS: contracts of form, grouped, Groups of package find. Conditions: the arguments read as data; the shelf and the sign are small.
  WHAT IT HOLDS: contract of Groups of package find. Conditions: the arguments read as data; the shelf and the sign are small.
  WHAT IT HOLDS: contract of firsts of package find. Conditions: the arguments read as data; the shelf and the sign are small.
  WHAT IT HOLDS: the plain law of bases (FindBases): what Base and IsBase answer, that the base is one, least, and alike what each other base has. No program in sight. No condition.
  WHAT IT HOLDS: contracts of binds, Match, Apply, Occurs of package unify, and of Match of the reference. Conditions: the arguments read as data; small signs.
  WHAT IT HOLDS: contracts of Apply, Occurs, Match, Unifies, Solved of package unify. Conditions: the arguments read as data; small signs.
  WHAT IT HOLDS: contract of the iterator that all of package unify hands back, and of table again. Conditions: the arguments read as data; valid binds.
  WHAT IT HOLDS: contract of Compose of package unify. Conditions: the arguments read as data; small signs.
-/
import Derived.WalkSpells
import Derived.Deep.RegionLaw
import Derived.Laws.EntriesVeiled
import Derived.Shelf.Abstract
import Derived.Test.YtmpjaakkjhmpmaaGreatDoorZRShortTrims31
import Derived.Test.YtmpjaakkjhmpmaaGreatDoorZRShortTrims16
import Derived.Test.YtmpjaakkjhmpmaaGreatDoorZRShortTrims2
import Derived.Test.YtmpjaakkjhmpmaaGreatDoorZRShortTrims12
import Derived.Test.YtmpjaakkjhmpmaaGreatDoorZRShortTrims1
import Derived.Test.YtmpjaakkjhmpmaaGreatDoorZRShortTrims14
import Derived.Test.YtmpjaakkjhmpmaaGreatDoorZRShortTrims7
import Derived.Test.YtmpjaakkjhmpmaaGreatDoorZRShortTrims32
import Derived.Test.YtmpjaakkjhmpmaaGreatDoorZRShortTrims15
namespace Go.Proofs.YtmpjaakkjhmpmaaGreatDoor
open Go Go.RowKit Go.Maps
end Go.Proofs.YtmpjaakkjhmpmaaGreatDoor
namespace Go.Proofs.YtmpjaakkjhmpmaaGreatDoor
open Go Go.RowKit Go.Maps
end Go.Proofs.YtmpjaakkjhmpmaaGreatDoor
namespace Go.Proofs.YtmpjaakkjhmpmaaGreatDoor
open Go Go.RowKit Go.Maps
theorem Terms.at {w : World} {a : Option Addr} {n cap : Nat} {l : List (List Int)} (h : Terms w (.slice a n cap) l) {k : Nat} (hk : k < l.length) : ∃ b o u, a = some ⟨b, o, none⟩ ∧ w.cell? ⟨b, o + k, none⟩ = some u ∧ Ints w u l[k] := by
  obtain ⟨a', cap', h1, _, _, _, h2⟩ := h.open
  simp only [Value.slice.injEq] at h1
  obtain ⟨rfl, _, rfl⟩ := h1
  exact h2 k hk
end Go.Proofs.YtmpjaakkjhmpmaaGreatDoor
namespace Go.Proofs.YtmpjaakkjhmpmaaGreatDoor
open Go Go.RowKit Go.Maps
end Go.Proofs.YtmpjaakkjhmpmaaGreatDoor
namespace Go.Proofs.YtmpjaakkjhmpmaaGreatDoor
open Go Go.RowKit Go.Maps
end Go.Proofs.YtmpjaakkjhmpmaaGreatDoor
namespace Go.Proofs.YtmpjaakkjhmpmaaGreatDoor
open Go Go.RowKit Go.Maps
end Go.Proofs.YtmpjaakkjhmpmaaGreatDoor
namespace Go.Proofs.YtmpjaakkjhmpmaaGreatDoor
open Go Go.RowKit Go.Maps
end Go.Proofs.YtmpjaakkjhmpmaaGreatDoor
namespace Go.Proofs.YtmpjaakkjhmpmaaGreatDoor
open Go Go.RowKit Go.Maps
end Go.Proofs.YtmpjaakkjhmpmaaGreatDoor
namespace Go.Proofs.YtmpjaakkjhmpmaaGreatDoor
open Go Go.RowKit Go.Maps
def bRow (e : TypeId) (u : Value) (bs : List BV) : Rw := ⟨e, 2, u, bs.length, biC bs⟩
def bTos (T : TypeId) (bs : List BV) : List Rw := bs.map fun b => rwT T b.2.1 b.2.2
/-- binds of the call's own memory, rows apart. -/
def BSep (E T : TypeId) (w : World) (base : Nat) (u : Value) (bs : List BV) : Prop := Sep w base (bRow E u bs :: bTos T bs)
theorem BSep.nil (E T : TypeId) (w : World) (base : Nat) : BSep E T w base (.slice none 0 0) [] := (Sep.nil w base).consNil E 2
theorem BSep.below {E T : TypeId} {w w' : World} {base : Nat} {u : Value} {bs : List BV} (h : BSep E T w base u bs) (hb : Below w.heap.size w w') : BSep E T w' base u bs := Sep.below h hb
theorem BSep.row {E T : TypeId} {w : World} {base : Nat} {u : Value} {bs : List BV} (h : BSep E T w base u bs) : w.ownsRow base E 2 u bs.length (biC bs) := h.1 (bRow E u bs) (by simp)
theorem BSep.push {E T : TypeId} {w0 w w1 : World} {base base' : Nat} {u : Value} {bs : List BV} (h : BSep E T w0 base u bs) (hb : Below w0.heap.size w0 w) (hB : w0.heap.size ≤ base') (hbb : base ≤ base') {x : Int} {v : Value} {p : List Int}
    (hv : w.ownsRow base' T 1 v p.length (p.map (Value.int .i64))) {g cap n : Nat} (hn : bs.length = n) (hown : w1.ownsRow base E 2 (.slice (some ⟨g, 0, none⟩) (n + 1) cap) (n + 1) (biC bs ++ [.int .i64 x, v])) (hg : w.grownBy w1 u.ownBlock) {H : Nat} (hH : w.heap.size = H) (hat : u.ownBlock = some g ∨ g = H) :
    BSep E T w1 base (.slice (some ⟨g, 0, none⟩) (n + 1) cap) (bs ++ [(x, v, p)]) := by
  subst hn
  have h1 : Sep w base (rwT T v p :: bRow E u bs :: bTos T bs) := Sep.cons h hb hB hbb hv
  have h2 : Sep w base (bRow E u bs :: rwT T v p :: bTos T bs) := h1.perm (List.Perm.swap _ _ _)
  have h3 := h2.app hg hown hH hat
  have e : (⟨E, 2, .slice (some ⟨g, 0, none⟩) (bs.length + 1) cap, bs.length + 1, biC bs ++ [.int .i64 x, v]⟩ : Rw) = bRow E (.slice (some ⟨g, 0, none⟩) (bs.length + 1) cap) (bs ++ [(x, v, p)]) := by
    unfold bRow; rw [biC_snoc, List.length_append]; rfl
  rw [e] at h3
  refine h3.perm (List.Perm.cons _ ?_)
  unfold bTos
  rw [List.map_append]
  exact (List.perm_append_comm (l₁ := [rwT T v p]) (l₂ := bs.map fun b => rwT T b.2.1 b.2.2))
theorem BSep.at {E T : TypeId} {w : World} {base : Nat} {u : Value} {bs : List BV} (h : BSep E T w base u bs) {l : BL} (hl : biP bs = l) (hn : bs.length ≤ 140737488355328) (hp : ∀ b ∈ l, b.2.length ≤ 140737488355328) : BindsAt w u l := by
  subst hl
  refine BindsAt.of_owns h.row hn fun x hx => ?_
  exact Sep.ints h (List.mem_cons_of_mem _ (List.mem_map.2 ⟨x, hx, rfl⟩)) (hp (x.1, x.2.2) (List.mem_map.2 ⟨x, hx, rfl⟩))
end Go.Proofs.YtmpjaakkjhmpmaaGreatDoor
namespace Go.Proofs.YtmpjaakkjhmpmaaGreatDoor
open Go Go.RowKit Go.Maps
end Go.Proofs.YtmpjaakkjhmpmaaGreatDoor
namespace Go.Proofs.YtmpjaakkjhmpmaaGreatDoor
open Go Go.RowKit Go.Maps Go.Shelf
attribute [local go_sem] Oper.semAt_some
end Go.Proofs.YtmpjaakkjhmpmaaGreatDoor
namespace Go.Proofs.YtmpjaakkjhmpmaaGreatDoor
open Go Go.RowKit Go.Maps Go.Shelf
attribute [local go_sem] Oper.semAt_some
theorem ownsRow_frm {w w' : World} {b : Nat} {e : TypeId} {k : Nat} {v : Value} {n : Nat} {xs : List Value} (h : w.ownsRow b e k v n xs) (hs : ∀ q, v.ownBlock = some q → w'.heap[q]? = w.heap[q]?) : w'.ownsRow b e k v n xs := by
  obtain ⟨h1, h2⟩ := h
  refine ⟨h1, ?_⟩
  rcases h2 with h2 | ⟨g, cap, cur, r1, r2, r3, r4⟩
  · exact .inl h2
  · exact .inr ⟨g, cap, cur, r1, r2, by rw [hs g (by rw [r1]; rfl)]; exact r3, r4⟩
theorem Sep.frm {w w' : World} {base : Nat} {rs : List Rw} (h : Sep w base rs) (hs : ∀ r ∈ rs, ∀ q, r.v.ownBlock = some q → w'.heap[q]? = w.heap[q]?) : Sep w' base rs :=
  ⟨fun r hr => ownsRow_frm (h.1 r hr) (hs r hr), h.2⟩
theorem Sep.blk {w : World} {base : Nat} {rs : List Rw} (h : Sep w base rs) {r : Rw} (hr : r ∈ rs) {q : Nat} (hq : r.v.ownBlock = some q) : base ≤ q ∧ q < w.heap.size := (h.1 r hr).lt q hq
def bRows (E T : TypeId) (u : Value) (bs : List BV) : List Rw := bRow E u bs :: bTos T bs
/-- the binds that are put together, in blocks of the call's own. -/
structure CmpI (l m : BL) (wb : World) (B bo b6 b7 bt bm nM : Nat) (Mp : Int → Option VT) (k : Nat) (M : Nat → Prop) (W : World) : Prop where
  le : ∀ i, i < k → comLe l m i = true
  out : ∃ uo bs, W.cell? ⟨bo, 0, none⟩ = some uo ∧ BSep 142 3 W B uo bs ∧ biP bs = bndL (comM l m) k ∧ ∀ r ∈ bRows 142 3 uo bs, ∀ q, r.v.ownBlock = some q → M q
  free : W.frozen? ⟨bo, 0, none⟩ = false
  c6 : W.cell? ⟨b6, 0, none⟩ = some (.slice none 0 0) ∧ W.frozen? ⟨b6, 0, none⟩ = false
  c7 : W.cell? ⟨b7, 0, none⟩ = some (.int .i64 0) ∧ W.frozen? ⟨b7, 0, none⟩ = false
  ct : W.cell? ⟨bt, 0, none⟩ = some (.map (some bm))
  tm : TMap W bm nM Mp
  bel : Below wb.heap.size wb W
  mem : M bo ∧ M b6 ∧ M b7
/-- where the function is left from a round. -/
structure CmpX (s : Sg) (l m : BL) (wb : World) (b6 b7 : Nat) (c : Code) (W : World) : Prop where
  ret : c = .ret
  ans : comR s l m = ([], 4)
  c6 : W.cell? ⟨b6, 0, none⟩ = some (.slice none 0 0)
  c7 : W.cell? ⟨b7, 0, none⟩ = some (.int .i64 4)
  bel : Below wb.heap.size wb W
theorem cell_same {W W' : World} {p : Addr} {v : Value} (h : W.cell? p = some v) (hs : W'.heap[p.block]? = W.heap[p.block]?) : W'.cell? p = some v := (World.cell?_of_block hs).trans h
theorem CmpI.kb {l m : BL} {wb : World} {B bo b6 b7 bt bm nM : Nat} {Mp : Int → Option VT} {k : Nat} {M T : Nat → Prop} {W W' : World} (h : CmpI l m wb B bo b6 b7 bt bm nM Mp k M W) (hk : Kb T W W')
    (ho : ¬ T bo) (h6 : ¬ T b6) (h7 : ¬ T b7) (ht : ¬ T bt) (hm : ¬ T bm) (hr : ∀ q, M q → B ≤ q → ¬ T q) (hw : ∀ q, q < wb.heap.size → ¬ T q) : CmpI l m wb B bo b6 b7 bt bm nM Mp k M W' := by
  obtain ⟨a1, ⟨uo, bs, a2, a3, a4, a5⟩, a6, a7, a8, a9, a10, a11, a12⟩ := h
  have e1 := hk.same _ (World.block_lt_of_cell? _ _ a2) ho
  have e2 := hk.same _ (World.block_lt_of_cell? _ _ a7.1) h6
  have e3 := hk.same _ (World.block_lt_of_cell? _ _ a8.1) h7
  have e4 := hk.same _ (World.block_lt_of_cell? _ _ a9) ht
  have e5 := hk.same _ a10.lt hm
  refine ⟨a1, ⟨uo, bs, cell_same a2 e1, Sep.frm a3 (fun r hr' q hq => hk.same _ (Sep.blk a3 hr' hq).2 (hr q (a5 r hr' q hq) (Sep.blk a3 hr' hq).1)), a4, a5⟩, (World.frozen?_of_block e1).trans a6,
    ⟨cell_same a7.1 e2, (World.frozen?_of_block e2).trans a7.2⟩, ⟨cell_same a8.1 e3, (World.frozen?_of_block e3).trans a8.2⟩, cell_same a9 e4, a10.of_block e5, a11.trans ⟨hk.os, hk.tape, hk.output, hk.size, fun q hq => hk.same q (Nat.lt_of_lt_of_le hq a11.size) (hw q hq)⟩, a12⟩
theorem CmpI.frm {l m : BL} {wb : World} {B bo b6 b7 bt bm nM : Nat} {Mp : Int → Option VT} (hB : wb.heap.size ≤ B) (h1 : bo < B) (h2 : b6 < B) (h3 : b7 < B) (h4 : bt < B) (h5 : bm < B) (k : Nat) : Frm B (CmpI l m wb B bo b6 b7 bt bm nM Mp k) :=
  fun M W W' h hk => h.kb hk (fun h => by omega) (fun h => by omega) (fun h => by omega) (fun h => by omega) (fun h => by omega) (fun q hq _ h => h.2 hq) (fun q hq h => by omega)
theorem CmpI.below {l m : BL} {wb : World} {B bo b6 b7 bt bm nM : Nat} {Mp : Int → Option VT} {k : Nat} {M : Nat → Prop} {W W' : World} (h : CmpI l m wb B bo b6 b7 bt bm nM Mp k M W) (hb : Below W.heap.size W W') : CmpI l m wb B bo b6 b7 bt bm nM Mp k M W' :=
  h.kb (T := fun _ => False) (Kb.of_below hb) (fun h => h) (fun h => h) (fun h => h) (fun h => h) (fun h => h) (fun _ _ _ h => h) (fun _ _ h => h)
theorem CmpX.frm {s : Sg} {l m : BL} {wb : World} {B b6 b7 : Nat} (hB : wb.heap.size ≤ B) (h2 : b6 < B) (h3 : b7 < B) (c : Code) : Frm B (fun _ => CmpX s l m wb b6 b7 c) := by
  rintro M W W' ⟨a1, a2, a3, a4, a5⟩ hk
  exact ⟨a1, a2, cell_same a3 (hk.same _ (World.block_lt_of_cell? _ _ a3) (fun h => by have h' : B ≤ b6 := h.1; omega)), cell_same a4 (hk.same _ (World.block_lt_of_cell? _ _ a4) (fun h => by have h' : B ≤ b7 := h.1; omega)), a5.trans (hk.below a5.size (fun k h => by omega))⟩
theorem CmpI.skip {l m : BL} {wb : World} {B bo b6 b7 bt bm nM : Nat} {Mp : Int → Option VT} {k : Nat} {M : Nat → Prop} {W : World} (h : CmpI l m wb B bo b6 b7 bt bm nM Mp k M W) (hl : comLe l m k = true) (hs : bndL (comM l m) (k + 1) = bndL (comM l m) k) : CmpI l m wb B bo b6 b7 bt bm nM Mp (k + 1) M W := by
  obtain ⟨a1, ⟨uo, bs, a2, a3, a4, a5⟩, a6, a7, a8, a9, a10, a11, a12⟩ := h
  refine ⟨fun i hi => ?_, ⟨uo, bs, a2, a3, a4.trans hs.symm, a5⟩, a6, a7, a8, a9, a10, a11, a12⟩
  rcases Nat.lt_succ_iff_lt_or_eq.1 hi with h1 | rfl
  · exact a1 i h1
  · exact hl
/-- one more bind. -/
theorem CmpI.push {l m : BL} {wb : World} {B bo b6 b7 bt bm nM : Nat} {Mp : Int → Option VT} {k : Nat} {M : Nat → Prop} {W W6 W7 : World} {uo : Value} {bs : List BV} (h : CmpI l m wb B bo b6 b7 bt bm nM Mp k M W)
    (hB : wb.heap.size ≤ B) (h1 : bo < B) (h2 : b6 < B) (h3 : b7 < B) (h4 : bt < B) (h5 : bm < B) (hBW : B ≤ W.heap.size) (h6 : b6 ≠ bo ∧ b7 ≠ bo ∧ bt ≠ bo ∧ bm ≠ bo) (hwo : wb.heap.size ≤ bo)
    (c0 : W.cell? ⟨bo, 0, none⟩ = some uo) (hS : BSep 142 3 W B uo bs) (hbp : biP bs = bndL (comM l m) k) (hM : ∀ r ∈ bRows 142 3 uo bs, ∀ q, r.v.ownBlock = some q → M q)
    (hMl : ∀ q, M q → q < W.heap.size) (hle : comLe l m k = true) {v : Value} {p : List Int} (hs : bndL (comM l m) (k + 1) = bndL (comM l m) k ++ [((k : Int), p)]) (hb : Below W.heap.size W W6)
    (hv : W6.ownsRow W.heap.size 3 1 v p.length (p.map (Value.int .i64))) {g cap n : Nat} (hn : bs.length = n)
    (hown : W7.ownsRow B 142 2 (.slice (some ⟨g, 0, none⟩) (n + 1) cap) (n + 1) (biC bs ++ [.int .i64 k, v])) (hg : W6.grownBy W7 uo.ownBlock) (hat : uo.ownBlock = some g ∨ g = W6.heap.size) (hlt : g < W7.heap.size) :
    ∃ M' : Nat → Prop, (∀ q, M' q → (M q ∨ W.heap.size ≤ q) ∧ q < (W7.setCell ⟨bo, 0, none⟩ (.slice (some ⟨g, 0, none⟩) (n + 1) cap)).heap.size) ∧
      Kb (fun q => M q ∨ W.heap.size ≤ q) W (W7.setCell ⟨bo, 0, none⟩ (.slice (some ⟨g, 0, none⟩) (n + 1) cap)) ∧
      CmpI l m wb B bo b6 b7 bt bm nM Mp (k + 1) M' (W7.setCell ⟨bo, 0, none⟩ (.slice (some ⟨g, 0, none⟩) (n + 1) cap)) := by
  have hpush := hS.push (x := (k : Int)) hb (Nat.le_refl _) hBW hv hn hown hg rfl hat
  have hrow : ∀ q, uo.ownBlock = some q → M q ∧ B ≤ q := fun q hq => ⟨hM (bRow 142 uo bs) (by simp [bRows]) q hq, (Sep.blk hS (r := bRow 142 uo bs) (by simp) hq).1⟩
  have hs67 := hg.size
  have hs06 := hb.size
  have k7 : Kb (fun q => (M q ∧ B ≤ q) ∨ W.heap.size ≤ q) W W7 := (Kb.of_below hb).trans (Kb.grown (M := fun q => (M q ∧ B ≤ q) ∨ W.heap.size ≤ q) hg (fun q hq => Or.inl (Or.inl (hrow q hq)))) (fun q hq => by rcases hq with hq | hq; exact Or.inl (Or.inl hq); exact Or.inl (Or.inr hq))
  have kf : Kb (fun q => q = bo ∨ (M q ∧ B ≤ q) ∨ W.heap.size ≤ q) W (W7.setCell ⟨bo, 0, none⟩ (.slice (some ⟨g, 0, none⟩) (n + 1) cap)) :=
    (k7.mono (M' := fun q => q = bo ∨ (M q ∧ B ≤ q) ∨ W.heap.size ≤ q) (fun q _ hq => Or.inr hq)).trans (Kb.setCell (M := fun q => q = bo) _ rfl) (fun q hq => Or.inl (Or.inl hq))
  have hbol : bo < W.heap.size := by omega
  have e0 : W7.heap[bo]? = W.heap[bo]? := k7.same _ hbol (fun h => by omega)
  have c7 : W7.cell? ⟨bo, 0, none⟩ = some uo := cell_same c0 e0
  obtain ⟨a1, -, a6, a7, a8, a9, a10, a11, a12⟩ := h
  have e2 := kf.same _ (World.block_lt_of_cell? _ _ a7.1) (fun h => by have h' : b6 = bo ∨ (M b6 ∧ B ≤ b6) ∨ W.heap.size ≤ b6 := h; omega)
  have e3 := kf.same _ (World.block_lt_of_cell? _ _ a8.1) (fun h => by have h' : b7 = bo ∨ (M b7 ∧ B ≤ b7) ∨ W.heap.size ≤ b7 := h; omega)
  have e4 := kf.same _ (World.block_lt_of_cell? _ _ a9) (fun h => by have h' : bt = bo ∨ (M bt ∧ B ≤ bt) ∨ W.heap.size ≤ bt := h; omega)
  have e5 := kf.same _ a10.lt (fun h => by omega)
  have hsz : (W7.setCell ⟨bo, 0, none⟩ (.slice (some ⟨g, 0, none⟩) (n + 1) cap)).heap.size = W7.heap.size := by simp [World.setCell]
  refine ⟨fun q => M q ∨ (W.heap.size ≤ q ∧ q < W7.heap.size), fun q hq => ?_, kf.mono fun q _ hq => ?_, fun i hi => ?_, ?_, (World.frozen?_setCell _ _ _ _).trans ((World.frozen?_of_block e0).trans a6),
    ⟨cell_same a7.1 e2, (World.frozen?_of_block e2).trans a7.2⟩, ⟨cell_same a8.1 e3, (World.frozen?_of_block e3).trans a8.2⟩, cell_same a9 e4, a10.of_block e5,
    a11.trans ⟨kf.os, kf.tape, kf.output, kf.size, fun q hq => kf.same q (Nat.lt_of_lt_of_le hq a11.size) (fun h => by omega)⟩, Or.inl a12.1, Or.inl a12.2.1, Or.inl a12.2.2⟩
  · rw [hsz]
    rcases hq with hq | hq
    · exact ⟨Or.inl hq, by have := hMl q hq; omega⟩
    · exact ⟨Or.inr hq.1, hq.2⟩
  · rcases hq with rfl | hq | hq
    · exact Or.inl a12.1
    · exact Or.inl hq.1
    · exact Or.inr hq
  · rcases Nat.lt_succ_iff_lt_or_eq.1 hi with h1 | rfl
    · exact a1 i h1
    · exact hle
  · refine ⟨_, _, World.cell?_setCell_same' _ _ _ (by rw [c7]; rfl), Sep.frm hpush (fun r hr q hq => Below.heap_setCell _ _ _ _ (fun e => ?_)), by rw [biP_snoc, hbp, hs], fun r hr q hq => ?_⟩
    · have h8 : q = bo := e
      have := (Sep.blk hpush hr hq).1
      omega
    · have hlt' := (Sep.blk hpush hr hq).2
      by_cases hw : W.heap.size ≤ q
      · exact Or.inr ⟨hw, hlt'⟩
      · left
        simp only [bRows, List.mem_cons, bTos, List.map_append, List.mem_append, List.map_cons, List.map_nil, List.not_mem_nil, or_false] at hr
        rcases hr with rfl | hr | rfl
        · rcases hat with hat | hat
          · cases hq
            exact (hrow g hat).1
          · cases hq
            simp only at hw
            omega
        · exact hM r (List.mem_cons_of_mem _ hr) q hq
        · exact absurd (hv.lt q hq).1 hw
end Go.Proofs.YtmpjaakkjhmpmaaGreatDoor
