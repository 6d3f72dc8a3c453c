/-
  WHAT IT HOLDS: contract of Compose of package unify. Conditions: the arguments read as data; small signs.
-/
import Derived.Test.YtidigpfiagjeiaaZRUnifyUnifies39
namespace Go.Proofs.Ytidigpfiagjeiaa
open Go Go.RowKit Go.Maps Go.Shelf
attribute [local go_sem] Oper.semAt_some
theorem ownsRow_slice {w : World} {b : Nat} {e : TypeId} {k : Nat} {v : Value} {n : Nat} {xs : List Value} (h : w.ownsRow b e k v n xs) : ∃ a c, v = .slice a n c := by
  obtain ⟨h1, h2⟩ := h
  rcases h2 with h2 | ⟨g, cap, cur, r1, r2, r3, r4⟩
  · exact ⟨none, 0, by simp_all⟩
  · exact ⟨_, _, r1⟩
theorem ownsRow_frm {w w' : World} {b : Nat} {e : TypeId} {k : Nat} {v : Value} {n : Nat} {xs : List Value} (h : w.ownsRow b e k v n xs) (hs : ∀ q, v.ownBlock = some q → w'.heap[q]? = w.heap[q]?) : w'.ownsRow b e k v n xs := by
  obtain ⟨h1, h2⟩ := h
  refine ⟨h1, ?_⟩
  rcases h2 with h2 | ⟨g, cap, cur, r1, r2, r3, r4⟩
  · exact .inl h2
  · exact .inr ⟨g, cap, cur, r1, r2, by rw [hs g (by rw [r1]; rfl)]; exact r3, r4⟩
theorem Sep.frm {w w' : World} {base : Nat} {rs : List Rw} (h : Sep w base rs) (hs : ∀ r ∈ rs, ∀ q, r.v.ownBlock = some q → w'.heap[q]? = w.heap[q]?) : Sep w' base rs :=
  ⟨fun r hr => ownsRow_frm (h.1 r hr) (hs r hr), h.2⟩
theorem Sep.blk {w : World} {base : Nat} {rs : List Rw} (h : Sep w base rs) {r : Rw} (hr : r ∈ rs) {q : Nat} (hq : r.v.ownBlock = some q) : base ≤ q ∧ q < w.heap.size := (h.1 r hr).lt q hq
def bRows (E T : TypeId) (u : Value) (bs : List BV) : List Rw := bRow E u bs :: bTos T bs
theorem BSep.iff {E T : TypeId} {w : World} {base : Nat} {u : Value} {bs : List BV} : BSep E T w base u bs ↔ Sep w base (bRows E T u bs) := Iff.rfl
/-- the binds that are put together, in blocks of the call's own. -/
structure CmpI (l m : BL) (wb : World) (B bo b6 b7 bt bm nM : Nat) (Mp : Int → Option VT) (k : Nat) (M : Nat → Prop) (W : World) : Prop where
  le : ∀ i, i < k → comLe l m i = true
  out : ∃ uo bs, W.cell? ⟨bo, 0, none⟩ = some uo ∧ BSep 61 3 W B uo bs ∧ biP bs = bndL (comM l m) k ∧ ∀ r ∈ bRows 61 3 uo bs, ∀ q, r.v.ownBlock = some q → M q
  free : W.frozen? ⟨bo, 0, none⟩ = false
  c6 : W.cell? ⟨b6, 0, none⟩ = some (.slice none 0 0) ∧ W.frozen? ⟨b6, 0, none⟩ = false
  c7 : W.cell? ⟨b7, 0, none⟩ = some (.int .i64 0) ∧ W.frozen? ⟨b7, 0, none⟩ = false
  ct : W.cell? ⟨bt, 0, none⟩ = some (.map (some bm))
  tm : TMap W bm nM Mp
  bel : Below wb.heap.size wb W
  mem : M bo ∧ M b6 ∧ M b7
/-- where the function is left from a round. -/
structure CmpX (s : Sg) (l m : BL) (wb : World) (b6 b7 : Nat) (c : Code) (W : World) : Prop where
  ret : c = .ret
  ans : comR s l m = ([], 4)
  c6 : W.cell? ⟨b6, 0, none⟩ = some (.slice none 0 0)
  c7 : W.cell? ⟨b7, 0, none⟩ = some (.int .i64 4)
  bel : Below wb.heap.size wb W
theorem cell_same {W W' : World} {p : Addr} {v : Value} (h : W.cell? p = some v) (hs : W'.heap[p.block]? = W.heap[p.block]?) : W'.cell? p = some v := (World.cell?_of_block hs).trans h
theorem CmpI.kb {l m : BL} {wb : World} {B bo b6 b7 bt bm nM : Nat} {Mp : Int → Option VT} {k : Nat} {M T : Nat → Prop} {W W' : World} (h : CmpI l m wb B bo b6 b7 bt bm nM Mp k M W) (hk : Kb T W W')
    (ho : ¬ T bo) (h6 : ¬ T b6) (h7 : ¬ T b7) (ht : ¬ T bt) (hm : ¬ T bm) (hr : ∀ q, M q → B ≤ q → ¬ T q) (hw : ∀ q, q < wb.heap.size → ¬ T q) : CmpI l m wb B bo b6 b7 bt bm nM Mp k M W' := by
  obtain ⟨a1, ⟨uo, bs, a2, a3, a4, a5⟩, a6, a7, a8, a9, a10, a11, a12⟩ := h
  have e1 := hk.same _ (World.block_lt_of_cell? _ _ a2) ho
  have e2 := hk.same _ (World.block_lt_of_cell? _ _ a7.1) h6
  have e3 := hk.same _ (World.block_lt_of_cell? _ _ a8.1) h7
  have e4 := hk.same _ (World.block_lt_of_cell? _ _ a9) ht
  have e5 := hk.same _ a10.lt hm
  refine ⟨a1, ⟨uo, bs, cell_same a2 e1, Sep.frm a3 (fun r hr' q hq => hk.same _ (Sep.blk a3 hr' hq).2 (hr q (a5 r hr' q hq) (Sep.blk a3 hr' hq).1)), a4, a5⟩, (World.frozen?_of_block e1).trans a6,
    ⟨cell_same a7.1 e2, (World.frozen?_of_block e2).trans a7.2⟩, ⟨cell_same a8.1 e3, (World.frozen?_of_block e3).trans a8.2⟩, cell_same a9 e4, a10.of_block e5, a11.trans ⟨hk.os, hk.tape, hk.output, hk.size, fun q hq => hk.same q (Nat.lt_of_lt_of_le hq a11.size) (hw q hq)⟩, a12⟩
theorem CmpI.frm {l m : BL} {wb : World} {B bo b6 b7 bt bm nM : Nat} {Mp : Int → Option VT} (hB : wb.heap.size ≤ B) (h1 : bo < B) (h2 : b6 < B) (h3 : b7 < B) (h4 : bt < B) (h5 : bm < B) (k : Nat) : Frm B (CmpI l m wb B bo b6 b7 bt bm nM Mp k) :=
  fun M W W' h hk => h.kb hk (fun h => by omega) (fun h => by omega) (fun h => by omega) (fun h => by omega) (fun h => by omega) (fun q hq _ h => h.2 hq) (fun q hq h => by omega)
theorem CmpI.below {l m : BL} {wb : World} {B bo b6 b7 bt bm nM : Nat} {Mp : Int → Option VT} {k : Nat} {M : Nat → Prop} {W W' : World} (h : CmpI l m wb B bo b6 b7 bt bm nM Mp k M W) (hb : Below W.heap.size W W') : CmpI l m wb B bo b6 b7 bt bm nM Mp k M W' :=
  h.kb (T := fun _ => False) (Kb.of_below hb) (fun h => h) (fun h => h) (fun h => h) (fun h => h) (fun h => h) (fun _ _ _ h => h) (fun _ _ h => h)
theorem CmpX.frm {s : Sg} {l m : BL} {wb : World} {B b6 b7 : Nat} (hB : wb.heap.size ≤ B) (h2 : b6 < B) (h3 : b7 < B) (c : Code) : Frm B (fun _ => CmpX s l m wb b6 b7 c) := by
  rintro M W W' ⟨a1, a2, a3, a4, a5⟩ hk
  exact ⟨a1, a2, cell_same a3 (hk.same _ (World.block_lt_of_cell? _ _ a3) (fun h => by have h' : B ≤ b6 := h.1; omega)), cell_same a4 (hk.same _ (World.block_lt_of_cell? _ _ a4) (fun h => by have h' : B ≤ b7 := h.1; omega)), a5.trans (hk.below a5.size (fun k h => by omega))⟩
theorem CmpI.skip {l m : BL} {wb : World} {B bo b6 b7 bt bm nM : Nat} {Mp : Int → Option VT} {k : Nat} {M : Nat → Prop} {W : World} (h : CmpI l m wb B bo b6 b7 bt bm nM Mp k M W) (hl : comLe l m k = true) (hs : bndL (comM l m) (k + 1) = bndL (comM l m) k) : CmpI l m wb B bo b6 b7 bt bm nM Mp (k + 1) M W := by
  obtain ⟨a1, ⟨uo, bs, a2, a3, a4, a5⟩, a6, a7, a8, a9, a10, a11, a12⟩ := h
  refine ⟨fun i hi => ?_, ⟨uo, bs, a2, a3, a4.trans hs.symm, a5⟩, a6, a7, a8, a9, a10, a11, a12⟩
  rcases Nat.lt_succ_iff_lt_or_eq.1 hi with h1 | rfl
  · exact a1 i h1
  · exact hl
/-- one more bind. -/
theorem CmpI.push {l m : BL} {wb : World} {B bo b6 b7 bt bm nM : Nat} {Mp : Int → Option VT} {k : Nat} {M : Nat → Prop} {W W6 W7 : World} {uo : Value} {bs : List BV} (h : CmpI l m wb B bo b6 b7 bt bm nM Mp k M W)
    (hB : wb.heap.size ≤ B) (h1 : bo < B) (h2 : b6 < B) (h3 : b7 < B) (h4 : bt < B) (h5 : bm < B) (hBW : B ≤ W.heap.size) (h6 : b6 ≠ bo ∧ b7 ≠ bo ∧ bt ≠ bo ∧ bm ≠ bo) (hwo : wb.heap.size ≤ bo)
    (c0 : W.cell? ⟨bo, 0, none⟩ = some uo) (hS : BSep 61 3 W B uo bs) (hbp : biP bs = bndL (comM l m) k) (hM : ∀ r ∈ bRows 61 3 uo bs, ∀ q, r.v.ownBlock = some q → M q)
    (hMl : ∀ q, M q → q < W.heap.size) (hle : comLe l m k = true) {v : Value} {p : List Int} (hs : bndL (comM l m) (k + 1) = bndL (comM l m) k ++ [((k : Int), p)]) (hb : Below W.heap.size W W6)
    (hv : W6.ownsRow W.heap.size 3 1 v p.length (p.map (Value.int .i64))) {g cap n : Nat} (hn : bs.length = n)
    (hown : W7.ownsRow B 61 2 (.slice (some ⟨g, 0, none⟩) (n + 1) cap) (n + 1) (biC bs ++ [.int .i64 k, v])) (hg : W6.grownBy W7 uo.ownBlock) (hat : uo.ownBlock = some g ∨ g = W6.heap.size) (hlt : g < W7.heap.size) :
    ∃ M' : Nat → Prop, (∀ q, M' q → (M q ∨ W.heap.size ≤ q) ∧ q < (W7.setCell ⟨bo, 0, none⟩ (.slice (some ⟨g, 0, none⟩) (n + 1) cap)).heap.size) ∧
      Kb (fun q => M q ∨ W.heap.size ≤ q) W (W7.setCell ⟨bo, 0, none⟩ (.slice (some ⟨g, 0, none⟩) (n + 1) cap)) ∧
      CmpI l m wb B bo b6 b7 bt bm nM Mp (k + 1) M' (W7.setCell ⟨bo, 0, none⟩ (.slice (some ⟨g, 0, none⟩) (n + 1) cap)) := by
  have hpush := hS.push (x := (k : Int)) hb (Nat.le_refl _) hBW hv hn hown hg rfl hat
  have hrow : ∀ q, uo.ownBlock = some q → M q ∧ B ≤ q := fun q hq => ⟨hM (bRow 61 uo bs) (by simp [bRows]) q hq, (Sep.blk hS (r := bRow 61 uo bs) (by simp) hq).1⟩
  have hs67 := hg.size
  have hs06 := hb.size
  have k7 : Kb (fun q => (M q ∧ B ≤ q) ∨ W.heap.size ≤ q) W W7 := (Kb.of_below hb).trans (Kb.grown (M := fun q => (M q ∧ B ≤ q) ∨ W.heap.size ≤ q) hg (fun q hq => Or.inl (Or.inl (hrow q hq)))) (fun q hq => by rcases hq with hq | hq; exact Or.inl (Or.inl hq); exact Or.inl (Or.inr hq))
  have kf : Kb (fun q => q = bo ∨ (M q ∧ B ≤ q) ∨ W.heap.size ≤ q) W (W7.setCell ⟨bo, 0, none⟩ (.slice (some ⟨g, 0, none⟩) (n + 1) cap)) :=
    (k7.mono (M' := fun q => q = bo ∨ (M q ∧ B ≤ q) ∨ W.heap.size ≤ q) (fun q _ hq => Or.inr hq)).trans (Kb.setCell (M := fun q => q = bo) _ rfl) (fun q hq => Or.inl (Or.inl hq))
  have hbol : bo < W.heap.size := by omega
  have e0 : W7.heap[bo]? = W.heap[bo]? := k7.same _ hbol (fun h => by omega)
  have c7 : W7.cell? ⟨bo, 0, none⟩ = some uo := cell_same c0 e0
  obtain ⟨a1, -, a6, a7, a8, a9, a10, a11, a12⟩ := h
  have e2 := kf.same _ (World.block_lt_of_cell? _ _ a7.1) (fun h => by have h' : b6 = bo ∨ (M b6 ∧ B ≤ b6) ∨ W.heap.size ≤ b6 := h; omega)
  have e3 := kf.same _ (World.block_lt_of_cell? _ _ a8.1) (fun h => by have h' : b7 = bo ∨ (M b7 ∧ B ≤ b7) ∨ W.heap.size ≤ b7 := h; omega)
  have e4 := kf.same _ (World.block_lt_of_cell? _ _ a9) (fun h => by have h' : bt = bo ∨ (M bt ∧ B ≤ bt) ∨ W.heap.size ≤ bt := h; omega)
  have e5 := kf.same _ a10.lt (fun h => by omega)
  have hsz : (W7.setCell ⟨bo, 0, none⟩ (.slice (some ⟨g, 0, none⟩) (n + 1) cap)).heap.size = W7.heap.size := by simp [World.setCell]
  refine ⟨fun q => M q ∨ (W.heap.size ≤ q ∧ q < W7.heap.size), fun q hq => ?_, kf.mono fun q _ hq => ?_, fun i hi => ?_, ?_, (World.frozen?_setCell _ _ _ _).trans ((World.frozen?_of_block e0).trans a6),
    ⟨cell_same a7.1 e2, (World.frozen?_of_block e2).trans a7.2⟩, ⟨cell_same a8.1 e3, (World.frozen?_of_block e3).trans a8.2⟩, cell_same a9 e4, a10.of_block e5,
    a11.trans ⟨kf.os, kf.tape, kf.output, kf.size, fun q hq => kf.same q (Nat.lt_of_lt_of_le hq a11.size) (fun h => by omega)⟩, Or.inl a12.1, Or.inl a12.2.1, Or.inl a12.2.2⟩
  · rw [hsz]
    rcases hq with hq | hq
    · exact ⟨Or.inl hq, by have := hMl q hq; omega⟩
    · exact ⟨Or.inr hq.1, hq.2⟩
  · rcases hq with rfl | hq | hq
    · exact Or.inl a12.1
    · exact Or.inl hq.1
    · exact Or.inr hq
  · rcases Nat.lt_succ_iff_lt_or_eq.1 hi with h1 | rfl
    · exact a1 i h1
    · exact hle
  · refine ⟨_, _, World.cell?_setCell_same' _ _ _ (by rw [c7]; rfl), Sep.frm hpush (fun r hr q hq => Below.heap_setCell _ _ _ _ (fun e => ?_)), by rw [biP_snoc, hbp, hs], fun r hr q hq => ?_⟩
    · have h8 : q = bo := e
      have := (Sep.blk hpush hr hq).1
      omega
    · have hlt' := (Sep.blk hpush hr hq).2
      by_cases hw : W.heap.size ≤ q
      · exact Or.inr ⟨hw, hlt'⟩
      · left
        simp only [bRows, List.mem_cons, bTos, List.map_append, List.mem_append, List.map_cons, List.map_nil, List.not_mem_nil, or_false] at hr
        rcases hr with rfl | hr | rfl
        · rcases hat with hat | hat
          · cases hq
            exact (hrow g hat).1
          · cases hq
            simp only at hw
            omega
        · exact hM r (List.mem_cons_of_mem _ hr) q hq
        · exact absurd (hv.lt q hq).1 hw
theorem comR_long {s : Sg} {l m : BL} (h1 : bndsB s l = true) (h2 : bndsB s m = true) {v : Nat} (hv : v < 12) (h : comLe l m v = false) : comR s l m = ([], 4) := by
  unfold comR
  rw [h1, h2, if_pos (by rfl), if_neg]
  rw [List.all_eq_true]
  intro hh
  have := hh v (List.mem_range.2 hv)
  rw [h] at this; cases this
theorem comR_full {s : Sg} {l m : BL} (h1 : bndsB s l = true) (h2 : bndsB s m = true) (h : ∀ i, i < 12 → comLe l m i = true) : comR s l m = (bndL (comM l m) 12, 0) := by
  unfold comR
  rw [h1, h2, if_pos (by rfl), if_pos]
  rw [List.all_eq_true]
  exact fun i hi => h i (List.mem_range.1 hi)
theorem comM_succ {l m : BL} {k : Nat} {r : List Int} (hr : subL (ofN m) (ofN l (-(k : Int) - 1)) = r) : bndL (comM l m) (k + 1) = bndL (comM l m) k ++ (if r = [-(k : Int) - 1] then [] else [((k : Int), r)]) := by
  rw [bndL_succ]
  simp only [comM, hr]
theorem boxes2F (w : World) (x y : Value) (tx ty : TypeId) (W : World) (hb : Below ((w.alloc (.cells #[x] tx)).alloc (.cells #[y] ty)).heap.size ((w.alloc (.cells #[x] tx)).alloc (.cells #[y] ty)) W) :
    (W.cell? ⟨w.heap.size, 0, none⟩ = some x ∧ W.frozen? ⟨w.heap.size, 0, none⟩ = false) ∧ (W.cell? ⟨w.heap.size + 1, 0, none⟩ = some y ∧ W.frozen? ⟨w.heap.size + 1, 0, none⟩ = false) := by
  obtain ⟨k1, k2, k3⟩ := boxes2 w x y tx ty
  have l1 := World.block_lt_of_cell? _ _ k1
  have l2 := World.block_lt_of_cell? _ _ k2
  refine ⟨⟨(hb.cell l1).trans k1, ?_⟩, ⟨(hb.cell l2).trans k2, ?_⟩⟩
  · rw [hb.frozen (p := ⟨w.heap.size, 0, none⟩) l1]; exact ((Boxed.new w tx x).alloc _).frozen
  · rw [hb.frozen (p := ⟨w.heap.size + 1, 0, none⟩) l2]
    have := (Boxed.new (w.alloc (.cells #[x] tx)) ty y).frozen
    rwa [World.size_alloc] at this
/-- the two results are stored. -/
theorem store2 {W : World} {b : Nat} {x y u z : Value} (h6 : W.cell? ⟨b, 0, none⟩ = some x) (h7 : W.cell? ⟨b + 1, 0, none⟩ = some y) :
    ((W.setCell ⟨b, 0, none⟩ u).setCell ⟨b + 1, 0, none⟩ z).cell? ⟨b, 0, none⟩ = some u ∧ ((W.setCell ⟨b, 0, none⟩ u).setCell ⟨b + 1, 0, none⟩ z).cell? ⟨b + 1, 0, none⟩ = some z := by
  refine ⟨?_, ?_⟩
  · rw [World.cell?_setCell_other _ _ _ _ (by simp)]
    exact World.cell?_setCell_same' _ _ _ (by rw [h6]; rfl)
  · refine World.cell?_setCell_same' _ _ _ ?_
    rw [World.cell?_setCell_other _ _ _ _ (by simp), h7]; rfl
set_option maxHeartbeats 4000000 in
set_option maxRecDepth 100000 in
theorem unify_Compose (vs v1 v2 : Value) (s : Sg) (l m : BL) (w : World) (hs : SignAt w vs s) (hv : BindsAt w v1 l) (hm : BindsAt w v2 m) (hs1 : s.length ≤ 1000) :
    Calls Try.prog 36 #[vs, v1, v2] w fun e w' => ∃ u, e = .returned (.tuple #[u, .int .i64 (comR s l m).2]) ∧ BindsAt w' u (comR s l m).1 ∧ Below w.heap.size w w' := by
  have HVL := hid (fun (X : World) (hX : Below w.heap.size w X) => unify_ValidBinds vs v1 s l X (hs.below hX) (hv.below hX) hs1)
  have HVM := hid (fun (X : World) (hX : Below w.heap.size w X) => unify_ValidBinds vs v2 s m X (hs.below hX) (hm.below hX) hs1)
  have hbx : Below w.heap.size w ((w.alloc (.cells #[.slice none 0 0] 39)).alloc (.cells #[.int .i64 0] 30)) := ((Below.refl _ _).alloc (Nat.le_refl _) _).alloc (by simp) _
  have HBX := hid hbx
  have HV := hid hv
  have HM := hid hm
  obtain ⟨a1, k1, he1, -⟩ := hv.open
  obtain ⟨a2, k2, he2, -⟩ := hm.open
  subst he1 he2
  clear hs hv hm hbx
  refine calls_marks Try.func36 rfl ?_
  simp only [Try.ntmps36, List.size_toArray, List.length_cons, List.length_nil, Nat.reduceAdd, Nat.reduceSub, Array.replicate_succ, Array.replicate_zero, List.push_toArray, List.append_toArray, List.nil_append, List.cons_append]
  cases h1 : bndsB s l
  · have HA : Hid (comR s l m = ([], 1)) := hid (by unfold comR; rw [h1]; rfl)
    simp only [h1] at HVL
    clear h1
    go_wp2_with fail
    refine (HVL.out _ HBX.out).mono ?_
    rintro e w1 ⟨rfl, hb1⟩
    obtain ⟨⟨c6, f6⟩, c7, f7⟩ := boxes2F w _ _ _ _ w1 hb1
    have HB1 := hid (HBX.out.trans (hb1.mono HBX.out.size))
    have HS2 := hid (fun u z => store2 (u := u) (z := z) c6 c7)
    clear hb1
    go_wp2
    obtain ⟨d6, d7⟩ := HS2.out (.slice none 0 0) (.int .i64 1)
    have HBZ := hid ((HB1.out.setCell (p := ⟨w.heap.size, 0, none⟩) (Nat.le_refl _) (.slice none 0 0)).setCell (p := ⟨w.heap.size + 1, 0, none⟩) (Nat.le_succ _) (.int .i64 1))
    generalize (w1.setCell ⟨w.heap.size, 0, none⟩ (.slice none 0 0)).setCell ⟨w.heap.size + 1, 0, none⟩ (.int .i64 1) = WZ at *
    refine leave_none (v := .tuple #[.slice none 0 0, .int .i64 1]) (by simp [results, Try.results36, go_sem, d6, d7]) ?_
    rw [HA.out]
    exact ⟨_, rfl, binds_nil _, HBZ.out⟩
  · simp only [h1] at HVL
    cases h2 : bndsB s m
    · have HA : Hid (comR s l m = ([], 1)) := hid (by unfold comR; rw [h1, h2]; rfl)
      simp only [h2] at HVM
      clear h1 h2
      go_wp2_with fail
      refine (HVL.out _ HBX.out).mono ?_
      rintro e w1 ⟨rfl, hb1⟩
      have HB1 := hid (HBX.out.trans (hb1.mono HBX.out.size))
      go_wp2_with fail
      refine (HVM.out _ HB1.out).mono ?_
      rintro e w2 ⟨rfl, hb2⟩
      have hb12 := hb1.trans (hb2.mono hb1.size)
      obtain ⟨⟨c6, f6⟩, c7, f7⟩ := boxes2F w _ _ _ _ w2 hb12
      have HB2 := hid (HB1.out.trans (hb2.mono HB1.out.size))
      have HS2 := hid (fun u z => store2 (u := u) (z := z) c6 c7)
      clear hb1 hb2 hb12
      go_wp2
      obtain ⟨d6, d7⟩ := HS2.out (.slice none 0 0) (.int .i64 1)
      have HBZ := hid ((HB2.out.setCell (p := ⟨w.heap.size, 0, none⟩) (Nat.le_refl _) (.slice none 0 0)).setCell (p := ⟨w.heap.size + 1, 0, none⟩) (Nat.le_succ _) (.int .i64 1))
      generalize (w2.setCell ⟨w.heap.size, 0, none⟩ (.slice none 0 0)).setCell ⟨w.heap.size + 1, 0, none⟩ (.int .i64 1) = WZ at *
      refine leave_none (v := .tuple #[.slice none 0 0, .int .i64 1]) (by simp [results, Try.results36, go_sem, d6, d7]) ?_
      rw [HA.out]
      exact ⟨_, rfl, binds_nil _, HBZ.out⟩
    · have HAL := hid (unify_tableW (.slice a2 m.length k2) m w)
      have HBR := hid (bnds_range h2)
      have HH1 := hid h1
      have HH2 := hid h2
      simp only [h2] at HVM
      clear h1 h2
      go_wp2_with fail
      refine (HVL.out _ HBX.out).mono ?_
      rintro e w1 ⟨rfl, hb1⟩
      have HB1 := hid (HBX.out.trans (hb1.mono HBX.out.size))
      go_wp2_with fail
      refine (HVM.out _ HB1.out).mono ?_
      rintro e w2 ⟨rfl, hb2⟩
      have hb12 := hb1.trans (hb2.mono hb1.size)
      have HC2 := hid hb12
      have HB2 := hid (HB1.out.trans (hb2.mono HB1.out.size))
      clear hb1 hb2 hb12
      go_wp2_with fail
      refine (HAL.out w2 HB2.out HM.out HBR.out).mono ?_
      rintro e w3 ⟨hb3, Mp, nM, rfl, hTM, hmo, hmi⟩
      have HTM := hid hTM
      have HMO := hid hmo
      have HMI := hid hmi
      have HC3 := hid (HC2.out.trans (hb3.mono HC2.out.size))
      have HB3 := hid (HB2.out.trans (hb3.mono HB2.out.size))
      clear hTM hmo hmi hb3
      go_wp2_with (go_at_call 85; refine (unify_all _ _ _ _).mono ?_; rintro e w4 ⟨rfl, rfl⟩)
      obtain ⟨W0, hW0⟩ : ∃ W0, (((w3.alloc (.cells #[.map (some w2.heap.size)] 65)).alloc (.cells #[.slice none 0 0] 39)).alloc (.cells #[.slice a1 l.length k1] 39)) = W0 := ⟨_, rfl⟩
      simp only [hW0]
      have hbA := ((Below.refl w3.heap.size w3).alloc (Nat.le_refl _) (.cells #[.map (some w2.heap.size)] 65))
      have hbB := hbA.alloc (by simp) (.cells #[.slice none 0 0] 39)
      have hbC := hbB.alloc (by simp; omega) (.cells #[.slice a1 l.length k1] 39)
      rw [hW0] at hbC
      have hsz : w3.heap.size + 3 ≤ W0.heap.size := by rw [← hW0]; simp
      obtain ⟨⟨t8, -⟩, t9, f9⟩ := boxes2F w3 (.map (some w2.heap.size)) (.slice none 0 0) 65 39 W0 (by rw [← hW0]; exact (Below.refl _ _).alloc (Nat.le_refl _) _)
      have tl : W0.cell? ⟨w3.heap.size + 1 + 1, 0, none⟩ = some (.slice a1 l.length k1) := by
        have := cell_new1 ((w3.alloc (.cells #[.map (some w2.heap.size)] 65)).alloc (.cells #[.slice none 0 0] 39)) (.slice a1 l.length k1) 39
        simp only [World.size_alloc] at this
        rw [← hW0]; exact this
      obtain ⟨⟨d6, g6⟩, d7, g7⟩ := boxes2F w _ _ _ _ W0 (HC3.out.trans (hbC.mono HC3.out.size))
      have hbw0 := HB3.out.trans (hbC.mono HB3.out.size)
      have htm0 : TMap W0 w2.heap.size nM Mp := HTM.out.belowS hbC
      have hl3 := HTM.out.lt
      have hs12 := HB3.out.size
      have hC2s := HC2.out.size
      simp only [World.size_alloc] at hC2s
      have HST : Hid (CmpI l m w W0.heap.size (w3.heap.size + 1) w.heap.size (w.heap.size + 1) w3.heap.size w2.heap.size nM Mp 0 (fun k => k = w3.heap.size + 1 ∨ k = w.heap.size ∨ k = w.heap.size + 1) W0) :=
        hid ⟨fun i hi => by omega, ⟨_, [], t9, BSep.nil _ _ _ _, rfl, fun r hr q hq => by simp [bRows, bRow, bTos] at hr; subst hr; cases hq⟩, f9, ⟨d6, g6⟩, ⟨d7, g7⟩, t8, htm0, hbw0, Or.inl rfl, Or.inr (Or.inl rfl), Or.inr (Or.inr rfl)⟩
      clear t8 t9 f9 d6 g6 d7 g7 htm0 hbA hbB hbC hW0
      have HBW0 := hid hbw0
      clear hbw0
      go_outline
      refine wpIn_wide.1 (wpIn_range (gf := 114) (lb := #[.pointer (some ⟨w3.heap.size + 1 + 1, 0, none⟩)]) rfl (enters_of Try.func114 rfl rfl) (encs := allX) (E := allE l) (S := fun xs => xs.length = 12) (N := fun k => k < w.heap.size) (w0 := W0)
        (all_seq (w3.heap.size + 1 + 1) s (.slice a1 l.length k1) l w W0 HH1.out HV.out HBW0.out tl) (Below.refl _ _) (fun _ => rfl) ?_ ?_ ?_
        (fun pre => CmpI l m w W0.heap.size (w3.heap.size + 1) w.heap.size (w.heap.size + 1) w3.heap.size w2.heap.size nM Mp pre.length) (fun c pre _ W => CmpX s l m w w.heap.size (w.heap.size + 1) c W)
        (fun k => k = w3.heap.size + 1 ∨ k = w.heap.size ∨ k = w.heap.size + 1) ?_ (fun pre => CmpI.frm (by omega) (by omega) (by omega) (by omega) (by omega) (by omega) _) (fun c pre => CmpX.frm (by omega) (by omega) (by omega) c) HST.out ?_ ?_ ?_)
      case refine_1 =>
        rintro pre ⟨k, uv, t⟩ W q o o' ⟨h1, h2, h3, h4⟩ ho hc
        exact ⟨h1, h2, h3, putObj_ints ho hc h4⟩
      case refine_2 =>
        rintro pre ⟨k, uv, t⟩ A B ⟨h1, h2, h3, h4⟩ hb
        exact ⟨h1, h2, h3, h4.below hb⟩
      case refine_3 => intro k hk; omega
      case refine_4 => intro k hk; omega
      case refine_5 =>
        clear HST
        rintro l' pre ⟨k, uv, t⟩ M W hsW hM hturn
        simp only [allX]
        gi_wp2
        refine ⟨Below.refl _ _, fun W2 hT => ?_⟩
        obtain ⟨hI2, ⟨e1, e2, e3, e4⟩, hs2⟩ := hturn W W2 (Below.refl _ _) hT
        try dsimp only at e1 e2 e3 e4
        subst e1
        have HM2 := hid hM
        clear hturn hT hM
        have HPUT := hid (unify_put w2.heap.size nM Mp uv t W2 hI2.tm (fun x u p h => (HMI.out x u p h).below hI2.bel) (fun x p h => tab_short HH2.out x p (by rw [← HMO.out]; exact h)) e4 (by rw [e3]; have := (ofN_T HH1.out (n := -(pre.length : Int) - 1) (by omega) (by omega)).2; omega)
          (fun x hx => by rw [e3] at hx; rcases (ofN_T HH1.out (n := -(pre.length : Int) - 1) (by omega) (by omega)).1.range x hx with h | h <;> omega))
        obtain ⟨r, hr⟩ : ∃ r, subL (ofN m) (ofN l (-(pre.length : Int) - 1)) = r := ⟨_, rfl⟩
        have hrl : r.length ≤ 3600 := by
          have h1 := (ofN_T HH1.out (n := -(pre.length : Int) - 1) (by omega) (by omega))
          have h2 := sub_le HH2.out h1.1
          rw [hr] at h2; omega
        have hpr : putL (mOf Mp) t = r := by rw [HMO.out, e3, putL_sub HH2.out, hr]
        rw [hpr] at HPUT
        have HSUC := hid (comM_succ hr)
        have HLE : Hid (comLe l m pre.length = decide (r.length ≤ 60)) := hid (by unfold comLe; rw [hr])
        have HE4 := hid e4
        clear hpr hr e3 e4
        have HI2 := hid hI2
        have cT := hI2.ct
        clear hI2
        gi_wp2_with fail
        refine ⟨trivial, (callsIn_wide.2 HPUT.out).mono ?_⟩
        rintro e W3 ⟨u, rfl, hou, hb3⟩
        have HOU := hid hou
        have HB3' := hid hb3
        have hI3 := HI2.out.below hb3
        have hs3 := hb3.size
        have hIu := Ints.of_owns hou (by omega)
        have HIU := hid hIu
        have HFIT := hid (unify_fits u r W3 hIu (by omega))
        obtain ⟨d6, g6⟩ := hI3.c6
        obtain ⟨d7, g7⟩ := hI3.c7
        have HI3 := hid hI3
        clear hou hb3 hI3 hIu
        by_cases h60 : r.length ≤ 60
        · simp only [if_pos h60] at HFIT
          gi_wp2_with fail
          refine ⟨trivial, (callsIn_wide.2 HFIT.out).mono ?_⟩
          rintro e w4 ⟨rfl, rfl⟩
          have HCO := hid (unify_code (pre.length : Int) W3 (by omega) (by omega))
          have hle : comLe l m pre.length = true := by rw [HLE.out]; simp [h60]
          have HLT := hid hle
          clear hle
          gi_wp2_with (refine ⟨trivial, ?_⟩; gi_at_call 83; refine (callsIn_wide.2 HCO.out).mono ?_; rintro e w4 ⟨rfl, rfl⟩)
          have HLIT := hid (ints_lit1 W3 (-(pre.length : Int) - 1) 3)
          have HBA := hid ((Below.refl _ W3).alloc (Nat.le_refl _) (.cells #[.int .i64 (-(pre.length : Int) - 1)] 3))
          refine ⟨trivial, (callsIn_wide.2 (sl_EqualT _ _ r [-(pre.length : Int) - 1] _ (HIU.out.below HBA.out) HLIT.out)).mono ?_⟩
          rintro e w5 ⟨rfl, nq, rfl⟩
          have HB5 := hid (below_drewN HBA.out nq)
          obtain ⟨w5, hw5⟩ : ∃ w5, (W3.alloc (.cells #[.int .i64 (-(pre.length : Int) - 1)] 3)).drewN nq = w5 := ⟨_, rfl⟩
          rw [hw5] at HB5 ⊢
          clear HBA HLIT hw5
          have HB25 := hid (HB3'.out.trans (HB5.out.mono hs3))
          have hs5 := HB25.out.size
          by_cases heq : r = [-(pre.length : Int) - 1]
          · have HD : Hid (decide (r = [-(pre.length : Int) - 1]) = true) := hid (by simp [heq])
            have HSU : Hid (bndL (comM l m) (pre.length + 1) = bndL (comM l m) pre.length) := hid (by rw [HSUC.out, if_pos heq]; simp)
            clear heq
            rw [HD.out]
            gi_wp2
            refine ⟨M, fun k hk => ⟨Or.inl hk, by have := (HM2.out k hk).2.2.1; omega⟩, Kb.of_below HB25.out, ?_⟩
            simp only [List.length_append, List.length_singleton]
            exact (HI2.out.below HB25.out).skip HLT.out HSU.out
          · have HD : Hid (decide (r = [-(pre.length : Int) - 1]) = false) := hid (by simp [heq])
            have HSU : Hid (bndL (comM l m) (pre.length + 1) = bndL (comM l m) pre.length ++ [((pre.length : Int), r)]) := hid (by rw [HSUC.out, if_neg heq])
            clear heq
            rw [HD.out]
            have hI2 := HI2.out
            obtain ⟨-, ⟨uo, bs, b2, b3, b4, b5⟩, bf, -⟩ := hI2
            have hlbs : bs.length ≤ 12 := by
              have := bndL_len (comM l m) pre.length
              rw [← b4, biP_len] at this
              omega
            obtain ⟨ua, uc, rfl, -⟩ := HIU.out.open
            have hbx : Below w5.heap.size w5 (w5.alloc (.cells #[.int .i64 pre.length, .slice ua r.length uc] 61)) := (Below.refl _ _).alloc (Nat.le_refl _) _
            have hbxx := HB25.out.trans (hbx.mono hs5)
            have c9 := (HB25.out.cell (World.block_lt_of_cell? _ _ b2)).trans b2
            have f9 := (hbxx.frozen (p := ⟨w3.heap.size + 1, 0, none⟩) (World.block_lt_of_cell? _ _ b2)).trans bf
            have HOV := hid (owns_below HOU.out (HB5.out.trans (hbx.mono HB5.out.size)))
            have HRW := hid (BSep.row b3)
            have HRA := hid (owns_below (BSep.row b3) hbxx)
            have hsrc : RowK (w5.alloc (.cells #[.int .i64 pre.length, .slice ua r.length uc] 61)) (.slice (some ⟨w5.heap.size, 0, none⟩) 1 1) 2 1 [.int .i64 pre.length, .slice ua r.length uc] := row_two_new _ _ _ _
            have HSRC := hid hsrc
            have HBX6 := hid hbxx
            have HXS := hid (hbxx.size)
            have C96 := hid ((hbxx.cell (World.block_lt_of_cell? _ _ b2)).trans b2)
            have F96 := hid f9
            have HRN : Hid (∀ q, uo.ownBlock = some q → W0.heap.size ≤ q) := hid (fun q hq => (Sep.blk b3 (r := bRow 61 uo bs) (by simp) hq).1)
            have HC9 := hid b2
            have HS9 := hid b3
            have HP9 := hid b4
            have HM9 := hid b5
            clear hbx hbxx hsrc b2 b3 b4 b5 bf f9
            gi_wp2_with (gi_at_builtin; refine wpListIn_append_lie rfl _ _ 39 rfl W0.heap.size 61 el_bind Try.underlying39 rfl (by decide) _ _ _ rfl HRA.out _ 1 [.int .i64 pre.length, .slice ua r.length uc] rfl HSRC.out (by simp; exact ⟨rfl, rfl⟩) (by decide) (by omega) (by omega) (by have := HXS.out; omega) _ rfl ?_; intro g1 c1 w7 hown7 hgrow7 hat7 hlt7; have e97 := hgrow7.block (w3.heap.size + 1) (World.block_lt_of_cell? _ _ C96.out) (fun e => by have := HRN.out _ e.symm; omega); have c97 := cell_same C96.out e97; have f97 := (World.frozen?_of_block e97).trans F96.out)
            have := CmpI.push HI2.out (by omega) (by omega) (by omega) (by omega) (by omega) (by omega) (by omega) ⟨by omega, by omega, by omega, by omega⟩ (by omega) HC9.out HS9.out HP9.out HM9.out (fun q hq => by have := (HM2.out q hq).2.2.1; omega) HLT.out HSU.out HBX6.out HOV.out rfl hown7 hgrow7 hat7 hlt7
            obtain ⟨M', h1, h2, h3⟩ := this
            exact ⟨M', fun q hq => ⟨(h1 q hq).1.imp id (fun h => by omega), (h1 q hq).2⟩, h2.mono (fun q _ hq => hq.imp id (fun h => by omega)), by simp only [List.length_append, List.length_singleton]; exact h3⟩
        · simp only [if_neg h60] at HFIT
          have HS2 := hid (fun u z => store2 (u := u) (z := z) d6 d7)
          gi_wp2_with fail
          refine ⟨trivial, (callsIn_wide.2 HFIT.out).mono ?_⟩
          rintro e w4 ⟨rfl, rfl⟩
          gi_wp2
          obtain ⟨d6', d7'⟩ := HS2.out (.slice none 0 0) (.int .i64 4)
          have hM6 := HI2.out.mem
          have hs2' : W.heap.size ≤ W2.heap.size := by omega
          have hsz' : ((W3.setCell ⟨w.heap.size, 0, none⟩ (.slice none 0 0)).setCell ⟨w.heap.size + 1, 0, none⟩ (.int .i64 4)).heap.size = W3.heap.size := by simp [World.setCell]
          refine ⟨M, fun k hk => ⟨Or.inl hk, by have := (HM2.out k hk).2.2.1; omega⟩, ?_, ⟨rfl, comR_long HH1.out HH2.out e2 (by rw [HLE.out]; simp [h60]), d6', d7', ?_⟩⟩
          · exact ((Kb.of_below (M := fun k => M k ∨ W.heap.size ≤ k) HB3'.out).trans (Kb.setCell (M := M) _ hM6.2.1) (fun q hq => Or.inl (Or.inl hq))).trans (Kb.setCell (M := M) _ hM6.2.2) (fun q hq => Or.inl (Or.inl hq))
          · exact ((HI3.out.bel).setCell (Nat.le_refl _) _).setCell (Nat.le_succ _) _
      case refine_6 =>
        rintro xs M W hxs hI hD hMD
        rw [hxs] at hI
        obtain ⟨b1, ⟨uo, bs, b2, b3, b4, b5⟩, bf, ⟨b6, g6⟩, ⟨b7, g7⟩, -, -, bb, -⟩ := hI
        have HR := hid (comR_full HH1.out HH2.out b1)
        have HLE := hid b1
        have hrow := BSep.row b3
        obtain ⟨ao, co, rfl⟩ := ownsRow_slice hrow
        clear hrow
        have HS2 := hid (fun u z => store2 (u := u) (z := z) b6 b7)
        have hk : Kb (fun k => k = w.heap.size ∨ k = w.heap.size + 1 ∨ k = W0.heap.size) W (((W.setCell ⟨w.heap.size, 0, none⟩ (.slice ao bs.length co)).setCell ⟨w.heap.size + 1, 0, none⟩ (.int .i64 0)).putObj W0.heap.size (.deferred none)) :=
          ((Kb.setCell _ (Or.inl rfl)).trans (Kb.setCell (M := fun k => k = w.heap.size ∨ k = w.heap.size + 1 ∨ k = W0.heap.size) _ (Or.inr (Or.inl rfl))) (fun q hq => Or.inl hq)).trans (Kb.put (M := fun k => k = w.heap.size ∨ k = w.heap.size + 1 ∨ k = W0.heap.size) _ (Or.inr (Or.inr rfl))) (fun q hq => Or.inl hq)
        have HK := hid hk
        have HB := hid bb
        have HBS := hid b3
        have HB5 := hid b5
        have HBP := hid b4
        have HDD : Hid (((W.setCell ⟨w.heap.size, 0, none⟩ (.slice ao bs.length co)).setCell ⟨w.heap.size + 1, 0, none⟩ (.int .i64 0)).heap[W0.heap.size]? = some (.deferred (some []))) := hid (by
          rw [Below.heap_setCell _ _ _ _ (by simp; omega), Below.heap_setCell _ _ _ _ (by simp; omega)]; exact hD)
        clear b1 b3 b4 b5 hk bb
        go_wp2
        obtain ⟨d6, d7⟩ := HS2.out (.slice ao bs.length co) (.int .i64 0)
        have d6' := putObj_cell (o' := .deferred none) HDD.out rfl d6
        have d7' := putObj_cell (o' := .deferred none) HDD.out rfl d7
        have hbs := Sep.frm HBS.out (fun r hr q hq => HK.out.same q (Sep.blk HBS.out hr hq).2 (fun h => by
          have h1 := (Sep.blk HBS.out hr hq).1
          rcases h with h | h | h
          · omega
          · omega
          · exact hMD q (HB5.out r hr q hq) h))
        have hl12 := bndL_len (comM l m) 12
        rw [← HBP.out, biP_len] at hl12
        refine leave_mark (v := .tuple #[.slice ao bs.length co, .int .i64 0]) HDD.out (by simp [results, Try.results36, go_sem, d6', d7']) ?_
        rw [HR.out]
        refine ⟨_, rfl, BSep.at hbs HBP.out (by omega) (fun b hb => ?_), HB.out.trans (HK.out.below HB.out.size (fun k h => by omega))⟩
        have hb' : b ∈ bndL (comM l m) 12 := hb
        obtain ⟨v, h1, h2, h3, h4⟩ := bndL_mem hb'
        have h5 := HLE.out v h1
        have h6 : subL (ofN m) (ofN l (-(v : Int) - 1)) = b.2 := Option.some.inj h3
        unfold comLe at h5
        rw [h6] at h5
        have := of_decide_eq_true h5
        omega
      case refine_7 =>
        rintro c pre M W hX hD hMD
        obtain ⟨rfl, hA, b6, b7, bb⟩ := hX
        have HA := hid hA
        have HB := hid bb
        clear hA bb
        gi_wp2
        have d6' := putObj_cell (o' := .deferred none) hD rfl b6
        have d7' := putObj_cell (o' := .deferred none) hD rfl b7
        refine leave_mark (v := .tuple #[.slice none 0 0, .int .i64 4]) hD (by simp [results, Try.results36, go_sem, d6', d7']) ?_
        rw [HA.out]
        exact ⟨_, rfl, binds_nil _, putObj_below _ HB.out (by omega)⟩
end Go.Proofs.Ytidigpfiagjeiaa
