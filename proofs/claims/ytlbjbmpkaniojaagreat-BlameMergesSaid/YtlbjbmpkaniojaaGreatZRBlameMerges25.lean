/-
  WHAT IT HOLDS: contracts of says, Along and There of package carry. Conditions: the arguments read as data; small signs, small libraries.
  WHAT IT HOLDS: contracts of slices.Clone at strings and at steps, of proof, cite, detach, used, fresh of package carry. Conditions: the arguments read as data; small signs, small libraries.
  WHAT IT HOLDS: the contract of Moved of package carry. Conditions: the arguments read as data; small signs, small libraries.
  WHAT IT HOLDS: the contract of Valid of the reference of layer 6. Conditions: the arguments read as data; small signs, small libraries.
  WHAT IT HOLDS: contracts of named, says, Along and There of the reference of layer 8. Conditions: the arguments read as data; small signs, small libraries.
  WHAT IT HOLDS: the contract of Moved of the reference of layer 8. Conditions: the arguments read as data; small signs, small libraries.
  WHAT IT HOLDS: the contract of copied of package carry. Conditions: the argument reads as data; it is small.
  WHAT IT HOLDS: the contract of Moved of package carry once more: its entry lies in memory of the call's own. Conditions: the arguments read as data; small signs, small libraries, short names.
-/
import Derived.Lib.SliceRun
import Derived.Deep.RegionHeld3
import Derived.Test.YtlbjbmpkaniojaaGreatZRBlameMerges23
import Derived.Test.YtlbjbmpkaniojaaGreatZRBlameMerges22
import Derived.Test.YtlbjbmpkaniojaaGreatZRBlameMerges24
import Derived.Test.YtlbjbmpkaniojaaGreatZRBlameMerges18
namespace Go.Proofs.YtlbjbmpkaniojaaGreat
open Go Go.RowKit Go.Maps
/-- what says answers. -/
def SaysR (s : Sg) (l : List En) (ns : List Nm) (ts : List (List Int)) (e : Int) : Prop := (libB s l = false ∧ ts = [] ∧ e = 1) ∨ (libB s l = true ∧ ((givL l ns = none ∧ ts = [] ∧ e = 5) ∨ (givL l ns = some ts ∧ e = 0)))
/-- the error of a library and of names that must be there. -/
def nmdI (s : Sg) (l : List En) (ns : List Nm) : Int := if libB s l then (if (givL l ns).isNone then 5 else 0) else 1
theorem SaysR.named {s : Sg} {l : List En} {ns : List Nm} {ts : List (List Int)} {e : Int} (h : SaysR s l ns ts e) : e = nmdI s l ns ∧ (e = 0 → libB s l = true ∧ givL l ns = some ts) := by
  unfold nmdI
  rcases h with ⟨h1, rfl, rfl⟩ | ⟨h1, ⟨h2, rfl, rfl⟩ | ⟨h2, rfl⟩⟩
  · rw [h1]; exact ⟨rfl, fun h => by cases h⟩
  · rw [h1, h2]; exact ⟨rfl, fun h => by cases h⟩
  · rw [h1, h2]; exact ⟨rfl, fun _ => ⟨rfl, rfl⟩⟩
end Go.Proofs.YtlbjbmpkaniojaaGreat
namespace Go.Proofs.YtlbjbmpkaniojaaGreat
open Go Go.RowKit Go.Maps
set_option maxRecDepth 100000 in
theorem sl_Clone_strs (v : Value) (n : Nat) (xs : List Value) (w : World) (hv : RowK w v 1 n xs) (h1 : ∀ u ∈ xs, u.oneCell' = true) (hn : n ≤ 1000) :
    Calls Tryz.prog 131 #[v] w fun e w' => ∃ u, e = .returned u ∧ w'.ownsRow w.heap.size 9 1 u n xs ∧ Below w.heap.size w w' := by
  have HV := hid hv
  obtain ⟨hl, a, cap, rfl, hc, hm, hnone, -⟩ := hv
  have q37 := fun (w : World) (a : Option Addr) (n c n' c' : Nat) => Lib.run_eql_slice_nil (P := Tryz.prog) w _ _ a n c n' c' Tryz.underlying38
  cases a with
  | none =>
    have hc0 := hnone rfl
    have hn0 : n = 0 := by omega
    subst hn0
    have hx : xs = [] := by simpa using hl
    subst hx
    clear HV
    go_enter Tryz.func131, Tryz.ntmps131
    go_wp2
    go_ret
    exact ⟨_, rfl, World.ownsRow_nil _ _ _ _, Below.refl _ _⟩
  | some ad =>
    have hb0 : Below w.heap.size w (w.alloc (.cells #[] 9)) := (Below.refl _ _).alloc (Nat.le_refl _) _
    have HR := hid (HV.out.below hb0)
    have HOWN := hid (World.ownsRow_lit (base := w.heap.size) (e := 9) (size := 1) w #[] 0 (Nat.le_refl _) (by simp [maxLen]) rfl)
    have HB0 := hid hb0
    clear HV hb0
    go_enter Tryz.func131, Tryz.ntmps131
    go_wp2_with (at_builtin; refine wpList_append_row rfl _ _ 38 rfl w.heap.size 9 el_str Tryz.underlying38 rfl (by decide) _ _ _ rfl HOWN.out _ n xs rfl HR.out h1 (by omega) (by omega) (by simp) ?_; intro v' w4 hown4 hgrow4 _)
    go_ret
    exact ⟨_, rfl, by simpa using hown4, HB0.out.grown hgrow4 (by simp) (fun q hq => by cases hq; exact Nat.le_refl _)⟩
set_option maxRecDepth 100000 in
theorem sl_Clone_steps (v : Value) (n : Nat) (xs : List Value) (w : World) (hv : RowK w v 3 n xs) (h1 : ∀ u ∈ xs, u.oneCell' = true) (hn : n ≤ 1000) :
    Calls Tryz.prog 132 #[v] w fun e w' => ∃ u, e = .returned u ∧ w'.ownsRow w.heap.size 105 3 u n xs ∧ Below w.heap.size w w' := by
  have HV := hid hv
  obtain ⟨hl, a, cap, rfl, hc, hm, hnone, -⟩ := hv
  have q37 := fun (w : World) (a : Option Addr) (n c n' c' : Nat) => Lib.run_eql_slice_nil (P := Tryz.prog) w _ _ a n c n' c' Tryz.underlying39
  cases a with
  | none =>
    have hc0 := hnone rfl
    have hn0 : n = 0 := by omega
    subst hn0
    have hx : xs = [] := by simpa using hl
    subst hx
    clear HV
    go_enter Tryz.func132, Tryz.ntmps132
    go_wp2
    go_ret
    exact ⟨_, rfl, World.ownsRow_nil _ _ _ _, Below.refl _ _⟩
  | some ad =>
    have hb0 : Below w.heap.size w (w.alloc (.cells #[] 105)) := (Below.refl _ _).alloc (Nat.le_refl _) _
    have HR := hid (HV.out.below hb0)
    have HOWN := hid (World.ownsRow_lit (base := w.heap.size) (e := 105) (size := 3) w #[] 0 (Nat.le_refl _) (by simp [maxLen]) rfl)
    have HB0 := hid hb0
    clear HV hb0
    go_enter Tryz.func132, Tryz.ntmps132
    go_wp2_with (at_builtin; refine wpList_append_row rfl _ _ 39 rfl w.heap.size 105 el_step Tryz.underlying39 rfl (by decide) _ _ _ rfl HOWN.out _ n xs rfl HR.out h1 (by omega) (by omega) (by simp) ?_; intro v' w4 hown4 hgrow4 _)
    go_ret
    exact ⟨_, rfl, by simpa using hown4, HB0.out.grown hgrow4 (by simp) (fun q hq => by cases hq; exact Nat.le_refl _)⟩
theorem stC_one (l : List St) : ∀ u ∈ stC l, u.oneCell' = true := by
  intro u hu
  unfold stC at hu
  obtain ⟨x, -, hx⟩ := List.mem_flatMap.1 hu
  simp [stV] at hx
  rcases hx with rfl | rfl | rfl <;> rfl
end Go.Proofs.YtlbjbmpkaniojaaGreat
namespace Go.Proofs.YtlbjbmpkaniojaaGreat
open Go Go.RowKit Go.Maps
def en0 : En := ⟨⟨#[]⟩, ⟨#[]⟩, [], [], []⟩
theorem StepsAt.nil (w : World) : StepsAt w (.slice none 0 0) [] := ⟨rfl, none, 0, rfl, Nat.le_refl _, by simp, fun _ => rfl, fun j u hj => by simp [stC] at hj⟩
theorem EntAt.zero (w : World) : EntAt w (.slice none 0 0) (.slice none 0 0) (.slice none 0 0) en0 := ⟨Ints.nil w, TxtsAt.nil w, StepsAt.nil w, by simp [en0, ByteArray.size], by simp [en0, ByteArray.size]⟩
/-- a cell of five of the call's own: it can be read and written. -/
structure C5 (w : World) (b : Nat) (x0 x1 x2 x3 x4 : Value) : Prop where
  c0 : w.cell? ⟨b, 0, none⟩ = some x0
  c1 : w.cell? ⟨b, 1, none⟩ = some x1
  c2 : w.cell? ⟨b, 2, none⟩ = some x2
  c3 : w.cell? ⟨b, 3, none⟩ = some x3
  c4 : w.cell? ⟨b, 4, none⟩ = some x4
  z0 : w.frozen? ⟨b, 0, none⟩ = false
  z1 : w.frozen? ⟨b, 1, none⟩ = false
  z2 : w.frozen? ⟨b, 2, none⟩ = false
  z3 : w.frozen? ⟨b, 3, none⟩ = false
  z4 : w.frozen? ⟨b, 4, none⟩ = false
theorem C5.block {w w' : World} {b : Nat} {x0 x1 x2 x3 x4 : Value} (h : C5 w b x0 x1 x2 x3 x4) (hb : w'.heap[b]? = w.heap[b]?) : C5 w' b x0 x1 x2 x3 x4 := by
  have k : ∀ j, w'.cell? ⟨b, j, none⟩ = w.cell? ⟨b, j, none⟩ := fun j => World.cell?_of_block hb
  have f : ∀ j, w'.frozen? ⟨b, j, none⟩ = w.frozen? ⟨b, j, none⟩ := fun j => World.frozen?_of_block hb
  exact ⟨(k 0).trans h.c0, (k 1).trans h.c1, (k 2).trans h.c2, (k 3).trans h.c3, (k 4).trans h.c4, (f 0).trans h.z0, (f 1).trans h.z1, (f 2).trans h.z2, (f 3).trans h.z3, (f 4).trans h.z4⟩
theorem C5.below {w w' : World} {b : Nat} {x0 x1 x2 x3 x4 : Value} (h : C5 w b x0 x1 x2 x3 x4) (hb : Below w.heap.size w w') : C5 w' b x0 x1 x2 x3 x4 :=
  h.block (hb.block b (World.block_lt_of_cell? _ _ h.c0))
theorem C5.new (w : World) (x0 x1 x2 x3 x4 : Value) (t : TypeId) : C5 (w.alloc (.cells #[x0, x1, x2, x3, x4] t)) w.heap.size x0 x1 x2 x3 x4 := by
  obtain ⟨h0, h1, h2, h3, h4, -⟩ := box5e w x0 x1 x2 x3 x4 t
  exact ⟨h0, h1, h2, h3, h4, World.frozen?_alloc_new _ _ _ _, World.frozen?_alloc_new _ _ _ _, World.frozen?_alloc_new _ _ _ _, World.frozen?_alloc_new _ _ _ _, World.frozen?_alloc_new _ _ _ _⟩
/-- the five cells written. -/
def set5 (w : World) (b : Nat) (y0 y1 y2 y3 y4 : Value) : World := ((((w.setCell ⟨b, 0, none⟩ y0).setCell ⟨b, 1, none⟩ y1).setCell ⟨b, 2, none⟩ y2).setCell ⟨b, 3, none⟩ y3).setCell ⟨b, 4, none⟩ y4
theorem C5.store {w : World} {b : Nat} {x0 x1 x2 x3 x4 : Value} (h : C5 w b x0 x1 x2 x3 x4) (y0 y1 y2 y3 y4 : Value) : C5 (set5 w b y0 y1 y2 y3 y4) b y0 y1 y2 y3 y4 := by
  have e : set5 w b y0 y1 y2 y3 y4 = w.setCells b 0 [y0, y1, y2, y3, y4] := rfl
  have hin := World.cell?_setCells_in b [y0, y1, y2, y3, y4] 0 w (by
    intro j hj
    rw [Nat.zero_add]
    match j, hj with
    | 0, _ => rw [h.c0]; rfl
    | 1, _ => rw [h.c1]; rfl
    | 2, _ => rw [h.c2]; rfl
    | 3, _ => rw [h.c3]; rfl
    | 4, _ => rw [h.c4]; rfl)
  have hf := fun j => World.frozen?_setCells b [y0, y1, y2, y3, y4] 0 w ⟨b, j, none⟩
  rw [e]
  exact ⟨hin 0 (by simp), hin 1 (by simp), hin 2 (by simp), hin 3 (by simp), hin 4 (by simp), (hf 0).trans h.z0, (hf 1).trans h.z1, (hf 2).trans h.z2, (hf 3).trans h.z3, (hf 4).trans h.z4⟩
theorem set5_below {B : Nat} {a w : World} {b : Nat} (h : Below B a w) (hB : B ≤ b) (y0 y1 y2 y3 y4 : Value) : Below B a (set5 w b y0 y1 y2 y3 y4) := by
  unfold set5
  exact ((((h.setCell (p := ⟨b, 0, none⟩) hB _).setCell (p := ⟨b, 1, none⟩) hB _).setCell (p := ⟨b, 2, none⟩) hB _).setCell (p := ⟨b, 3, none⟩) hB _).setCell (p := ⟨b, 4, none⟩) hB _
theorem heap_set5 (w : World) (b : Nat) (y0 y1 y2 y3 y4 : Value) {k : Nat} (h : k ≠ b) : (set5 w b y0 y1 y2 y3 y4).heap[k]? = w.heap[k]? := by
  unfold set5
  rw [Below.heap_setCell _ _ _ _ h, Below.heap_setCell _ _ _ _ h, Below.heap_setCell _ _ _ _ h, Below.heap_setCell _ _ _ _ h, Below.heap_setCell _ _ _ _ h]
theorem owns_blocks {w W' : World} {b : Nat} {e : TypeId} {k : Nat} {v : Value} {n : Nat} {xs : List Value} (h : w.ownsRow b e k v n xs) (hs : ∀ q, b ≤ q → q < w.heap.size → v.ownBlock = some q → W'.heap[q]? = w.heap[q]?) : W'.ownsRow b e k v n xs := by
  have hlt := h.lt
  obtain ⟨h1, h2⟩ := h
  refine ⟨h1, ?_⟩
  rcases h2 with h2 | ⟨g, cap, cur, rfl, r2, r3, r4⟩
  · exact .inl h2
  · exact .inr ⟨g, cap, cur, rfl, r2, by rw [hs g (hlt g rfl).1 (hlt g rfl).2 rfl]; exact r3, r4⟩
def EntQ (R : En → Int → Prop) (w : World) (e : Ending) (w' : World) : Prop := ∃ x vS vU vP er, R x er ∧ e = .returned (.tuple #[.agg #[.string x.name, .string x.who, vS, vU, vP], .int .i64 er]) ∧ EntAt w' vS vU vP x ∧ Below w.heap.size w w'
theorem EntQ.mk {R : En → Int → Prop} {w : World} {e : Ending} {w' : World} (x : En) (vS vU vP : Value) (er : Int) (h1 : R x er) (h2 : e = .returned (.tuple #[.agg #[.string x.name, .string x.who, vS, vU, vP], .int .i64 er])) (h3 : EntAt w' vS vU vP x) (h4 : Below w.heap.size w w') : EntQ R w e w' := ⟨x, vS, vU, vP, er, h1, h2, h3, h4⟩
theorem EntQ.zero {R : En → Int → Prop} {w w' : World} {er : Int} (h1 : R en0 er) (h4 : Below w.heap.size w w') : EntQ R w (.returned (.tuple #[.agg #[.string ⟨#[]⟩, .string ⟨#[]⟩, .slice none 0 0, .slice none 0 0, .slice none 0 0], .int .i64 er])) w' := ⟨en0, _, _, _, er, h1, rfl, EntAt.zero _, h4⟩
theorem C5.set4 {w : World} {b : Nat} {x0 x1 x2 x3 x4 : Value} (h : C5 w b x0 x1 x2 x3 x4) (y : Value) : C5 (w.setCell ⟨b, 4, none⟩ y) b x0 x1 x2 x3 y := by
  refine ⟨?_, ?_, ?_, ?_, World.cell?_setCell_same _ _ _ h.c4, ?_, ?_, ?_, ?_, ?_⟩
  · rw [World.cell?_setCell_other _ _ _ _ (by simp)]; exact h.c0
  · rw [World.cell?_setCell_other _ _ _ _ (by simp)]; exact h.c1
  · rw [World.cell?_setCell_other _ _ _ _ (by simp)]; exact h.c2
  · rw [World.cell?_setCell_other _ _ _ _ (by simp)]; exact h.c3
  · rw [World.frozen?_setCell]; exact h.z0
  · rw [World.frozen?_setCell]; exact h.z1
  · rw [World.frozen?_setCell]; exact h.z2
  · rw [World.frozen?_setCell]; exact h.z3
  · rw [World.frozen?_setCell]; exact h.z4
theorem owns_slice {w : World} {b : Nat} {e : TypeId} {k : Nat} {v : Value} {n : Nat} {xs : List Value} (h : w.ownsRow b e k v n xs) : ∃ a c, v = .slice a n c := by
  obtain ⟨a, c, h1, -⟩ := owns_open h
  exact ⟨a, c, h1⟩
end Go.Proofs.YtlbjbmpkaniojaaGreat
namespace Go.Proofs.YtlbjbmpkaniojaaGreat
open Go Go.RowKit Go.Maps
theorem idxI_neg {l : List En} {n : Nm} (h : idxI l n < 0) : ∀ x ∈ l, x.name ≠ n := by
  unfold idxI at h
  cases e : idxN l n with
  | none => exact idxN_none e
  | some i => rw [e] at h; simp only at h; omega
theorem idxI_pos {l : List En} {n : Nm} (h : 0 ≤ idxI l n) : ∃ i, ∃ hi : i < l.length, l[i].name = n ∧ idxI l n = i ∧ idxN l n = some i := by
  unfold idxI at h ⊢
  cases e : idxN l n with
  | none => rw [e] at h; simp at h
  | some i => obtain ⟨h1, h2⟩ := idxN_some e; exact ⟨i, h1, h2, rfl, rfl⟩
theorem idxI_ge (l : List En) (n : Nm) : -1 ≤ idxI l n ∧ idxI l n < l.length ∨ idxI l n = -1 := by
  by_cases h : 0 ≤ idxI l n
  · obtain ⟨i, hi, -, e, -⟩ := idxI_pos h; exact Or.inl (by omega)
  · unfold idxI at h ⊢
    cases e : idxN l n with
    | none => exact Or.inr rfl
    | some i => rw [e] at h; simp at h
theorem names_nd {l : List En} (h : ∀ j (hj : j < l.length), idxI (l.take j) l[j].name < 0) : (l.map En.name).Nodup := by
  rw [List.Nodup, List.pairwise_iff_getElem]
  intro i j hi hj hij
  simp only [List.length_map] at hi hj
  have h1 := idxI_neg (h j hj) l[i] (List.mem_take_iff_getElem.2 ⟨i, by omega, rfl⟩)
  simpa using h1
theorem names_dup {l : List En} {j : Nat} (hj : j < l.length) (h : 0 ≤ idxI (l.take j) l[j].name) : ¬ (l.map En.name).Nodup := by
  intro hn
  obtain ⟨i, hi, e, -⟩ := idxI_pos h
  have hi' : i < j := by rw [List.length_take] at hi; omega
  have := List.pairwise_iff_getElem.1 hn i j (by simp; omega) (by simpa using hj) hi'
  rw [List.getElem_take] at e
  exact this (by simpa using e)
set_option maxHeartbeats 4000000 in
set_option maxRecDepth 100000 in
theorem ref6_Valid (vs vl : Value) (s : Sg) (l : List En) (w : World) (hs : SignAt w vs s) (hl : EntsAt w vl l) (hs1 : s.length ≤ 1000) (hl1 : l.length ≤ 1000) :
    Calls Tryz.prog 68 #[vs, vl] w fun e w' => e = .returned (.bool (libB s l)) ∧ Below w.heap.size w w' := by
  have HLL := hid hl
  obtain ⟨la, lc, rfl, lcap, ll, -, HC⟩ := hl.open
  have HC' := hid HC
  have HSG := hid hs
  clear HC hl hs
  cases g1 : signB s
  · have HF : Hid (libB s l = false) := hid (by unfold libB; rw [g1]; rfl)
    have G1 := hid g1
    clear g1
    go_enter Tryz.func68, Tryz.ntmps68
    go_wp2_with fail
    refine (ref1_ValidSign _ _ _ HSG.out).mono ?_
    rintro e w1 ⟨rfl, n, rfl⟩
    rw [G1.out]
    go_wp2
    go_ret
    exact ⟨ret_bool HF.out.symm, below_self_drewN _ _⟩
  by_cases g2 : ¬ l.length ≤ 60
  · have HF : Hid (libB s l = false) := hid (by unfold libB; rw [decide_eq_false g2]; simp)
    have g2' : (l.length : Int) > 60 := by omega
    have G1 := hid g1
    clear g1 g2
    go_enter Tryz.func68, Tryz.ntmps68
    go_wp2_with fail
    refine (ref1_ValidSign _ _ _ HSG.out).mono ?_
    rintro e w1 ⟨rfl, n, rfl⟩
    rw [G1.out]
    go_wp2
    go_ret
    exact ⟨ret_bool HF.out.symm, below_self_drewN _ _⟩
  have g2' : ¬ ((l.length : Int) > 60) := by omega
  have HLB : Hid (libB s l = (l.all (entryB s) && decide (l.map En.name).Nodup)) := hid (by unfold libB; rw [g1, decide_eq_true (Classical.not_not.1 g2)]; rfl)
  have G1 := hid g1
  clear g1 g2
  go_enter Tryz.func68, Tryz.ntmps68
  go_wp2_with fail
  refine (ref1_ValidSign _ _ _ HSG.out).mono ?_
  rintro e w1 ⟨rfl, n, hw1⟩
  have hb1 : Below w.heap.size w w1 := hw1 ▸ below_self_drewN w n
  rw [G1.out]
  clear hw1
  go_wp2
  go_loopw [5] (fun kv wr => ∃ k : Nat, k ≤ l.length ∧ kv = .int .i64 k ∧ Below w.heap.size w wr ∧ (∀ j (hj : j < l.length), j < k → entryB s l[j] = true) ∧ ∀ j (hj : j < l.length), j < k → idxI (l.take j) l[j].name < 0) (fun kv _ => l.length - (intOf kv).toNat)
  case atStart => exact ⟨0, by omega, rfl, hb1, by simp, by simp⟩
  case round =>
    clear hb1
    obtain ⟨k, hk, rfl, hb, hn, hh⟩ := hrel
    have HN := hid hn
    have HH := hid hh
    have hsz := hb.size
    clear hn hh
    by_cases hlt : k < l.length
    · obtain ⟨b, o, vS, vu, vp, rfl, c0, c1, c2, c3, c4, he⟩ := HC'.out k hlt
      have he' := he.below hb
      obtain ⟨sa, sc, rfl, -⟩ := he'.s.open
      obtain ⟨ua, uc, rfl, -⟩ := he'.u.open
      obtain ⟨pa, pc, rfl, -⟩ := he'.p.open
      have d0 := (hb.cell (World.block_lt_of_cell? _ _ c0)).trans c0
      have d1 := (hb.cell (World.block_lt_of_cell? _ _ c1)).trans c1
      have d2 := (hb.cell (World.block_lt_of_cell? _ _ c2)).trans c2
      have d3 := (hb.cell (World.block_lt_of_cell? _ _ c3)).trans c3
      have d4 := (hb.cell (World.block_lt_of_cell? _ _ c4)).trans c4
      have HNO := hid (fun h => libB_no (s := s) (List.getElem_mem hlt) h)
      have HDUP := hid (fun h => names_dup hlt h)
      have HIG := hid (idxI_ge (l.take k) l[k].name)
      have HIXC : ∀ X, Below wr.heap.size wr X → Calls Tryz.prog 51 #[.slice (some ⟨b, o, none⟩) k lc, .string l[k].name] X fun e w' => e = .returned (.int .i64 (idxI (l.take k) l[k].name)) ∧ X = w' := fun X hX => ref6_Index _ _ _ X (((HLL.out.below hb).below hX).take k (by omega))
      obtain ⟨x, hx⟩ : ∃ x, l[k] = x := ⟨_, rfl⟩
      have HX := hid hx
      rw [hx] at d0 d1 he' HNO d2 d3 d4 HDUP HIXC HIG
      have HVE := hid (fun (X : World) (hX : Below wr.heap.size wr X) => (ref6_ValidEntry vs (.slice sa x.says.length sc) (.slice ua x.uses.length uc) (.slice pa x.proof.length pc) s x X ((HSG.out.below hb).below hX) (he'.below hX) hs1).mono (fun _ _ h => ⟨h.1, hX.trans (h.2.mono hX.size)⟩ : ∀ e w', _ → e = .returned (.bool (entryB s x)) ∧ Below wr.heap.size wr w'))
      have HIXC := hid HIXC
      have HB := hid hb
      have y1 : k ≤ lc := by omega
      have y2 : (k : Int) ≤ (lc : Int) := by omega
      have y3 : (0 : Int) ≤ (k : Int) := by omega
      clear c0 c1 c2 c3 c4 he hx he' hb
      cases g : entryB s x
      · have HF : Hid (libB s l = false) := hid (HNO.out g)
        simp only [g] at HVE
        clear g
        go_wp2
        have hbZ : Below wr.heap.size wr wr := Below.refl _ _
        refine wp_region_held_drew (S := fun w' => w'.cell? ⟨b, o + k * 5, none⟩ = some (.string x.name) ∧ w'.cell? ⟨b, o + k * 5 + 1, none⟩ = some (.string x.who) ∧ w'.cell? ⟨b, o + k * 5 + 2, none⟩ = some (.slice sa x.says.length sc) ∧ w'.cell? ⟨b, o + k * 5 + 3, none⟩ = some (.slice ua x.uses.length uc) ∧ w'.cell? ⟨b, o + k * 5 + 4, none⟩ = some (.slice pa x.proof.length pc)) (by kernel_rfl) ?_ (fun hHeld => ?_)
        · exact ⟨d0, d1, d2, d3, d4⟩
        refine wpAnyH_take (i := 0) (oi := { dst := some 20, op := Op.move (Operand.tmp 0), type := 23, pos := _, after := _, guard := none }) (v := ?_) rfl (by kernel_rfl) (by kernel_rfl) (by kernel_rfl) (fun _ _ _ h => h) (Or.inl ⟨by rfl, ?_⟩) hHeld ?_
        rotate_left
        · (intro w hSw; (try dsimp only at hSw); go_simp; (try with_reducible rfl))
        (try simp only [Act.put, List.setIfInBounds_toArray, List.set_cons_zero, List.set_cons_succ])
        refine wpAnyH_take (i := 1) (oi := { dst := some 21, op := Op.move (Operand.tmp 1), type := 24, pos := _, after := _, guard := none }) (v := ?_) rfl (by kernel_rfl) (by kernel_rfl) (by kernel_rfl) (fun _ _ _ h => h) (Or.inl ⟨by rfl, ?_⟩) hHeld ?_
        rotate_left
        · (intro w hSw; (try dsimp only at hSw); go_simp; (try with_reducible rfl))
        (try simp only [Act.put, List.setIfInBounds_toArray, List.set_cons_zero, List.set_cons_succ])
        refine wpAnyH_take (i := 2) (oi := { dst := some 22, op := Op.move (Operand.tmp 5), type := 3, pos := _, after := _, guard := none }) (v := ?_) rfl (by kernel_rfl) (by kernel_rfl) (by kernel_rfl) (fun _ _ _ h => h) (Or.inl ⟨by rfl, ?_⟩) hHeld ?_
        rotate_left
        · (intro w hSw; (try dsimp only at hSw); go_simp; (try with_reducible rfl))
        (try simp only [Act.put, List.setIfInBounds_toArray, List.set_cons_zero, List.set_cons_succ])
        refine wpAnyH_take (i := 3) (oi := { dst := some 23, op := Op.indexAddr 24 (Operand.tmp 21) (Operand.tmp 22), type := 0, pos := _, after := _, guard := none }) (v := ?_) rfl (by kernel_rfl) (by kernel_rfl) (by kernel_rfl) (fun _ _ _ h => h) (Or.inl ⟨by rfl, ?_⟩) hHeld ?_
        rotate_left
        · (intro w hSw; (try dsimp only at hSw); go_simp; (try with_reducible rfl))
        (try simp only [Act.put, List.setIfInBounds_toArray, List.set_cons_zero, List.set_cons_succ])
        refine wpAnyH_take (i := 4) (oi := { dst := some 24, op := Op.load 41 (Operand.tmp 23), type := 41, pos := _, after := _, guard := none }) (v := ?_) rfl (by kernel_rfl) (by kernel_rfl) (by kernel_rfl) (fun _ _ _ h => h) (Or.inl ⟨by rfl, ?_⟩) hHeld ?_
        rotate_left
        · (intro w hSw; (try dsimp only at hSw); go_simp; (try with_reducible rfl))
        (try simp only [Act.put, List.setIfInBounds_toArray, List.set_cons_zero, List.set_cons_succ])
        refine wpAnyH_ready (rs := [5]) (by kernel_rfl) (by simp) ?_
        refine AllReadyH.cons (o := { dst := some 25, op := Op.call { callee := Callee.value (Operand.func 75), args := #[Operand.tmp 20, Operand.tmp 24], argTypes := #[23, 41] }, type := 4, pos := _, after := _, guard := none }) rfl (fun K hK => ?_) AllReadyH.nil
        (try go_simp)
        (refine (HVE.out _ (by first | exact hbZ | exact hbZ.drew | exact below_drewN hbZ _)).mono ?_; rintro e wz ⟨rfl, hbZ⟩; have d0 := (hbZ.cell (World.block_lt_of_cell? _ _ d0)).trans d0; have d1 := (hbZ.cell (World.block_lt_of_cell? _ _ d1)).trans d1; have d2 := (hbZ.cell (World.block_lt_of_cell? _ _ d2)).trans d2; have d3 := (hbZ.cell (World.block_lt_of_cell? _ _ d3)).trans d3; have d4 := (hbZ.cell (World.block_lt_of_cell? _ _ d4)).trans d4)
        refine hK.out _ _ ?_ (fun hHeld => ?_)
        · exact ⟨d0, d1, d2, d3, d4⟩
        clear hK K
        (try simp only [Act.put, List.setIfInBounds_toArray, List.set_cons_zero, List.set_cons_succ])
        refine wpAnyH_take (i := 6) (oi := { dst := some 26, op := Op.unOp UnOp.not 4 (Operand.tmp 25), type := 4, pos := _, after := _, guard := none }) (v := ?_) rfl (by kernel_rfl) (by kernel_rfl) (by kernel_rfl) (fun _ _ _ h => h) (Or.inl ⟨by rfl, ?_⟩) hHeld ?_
        rotate_left
        · (intro w hSw; (try dsimp only at hSw); go_simp; (try with_reducible rfl))
        (try simp only [Act.put, List.setIfInBounds_toArray, List.set_cons_zero, List.set_cons_succ])
        refine wpAnyH_take (i := 7) (oi := { dst := some 27, op := Op.move (Operand.tmp 26), type := 4, pos := _, after := _, guard := none }) (v := ?_) rfl (by kernel_rfl) (by kernel_rfl) (by kernel_rfl) (fun _ _ _ h => h) (Or.inl ⟨by rfl, ?_⟩) hHeld ?_
        rotate_left
        · (intro w hSw; (try dsimp only at hSw); go_simp; (try with_reducible rfl))
        (try simp only [Act.put, List.setIfInBounds_toArray, List.set_cons_zero, List.set_cons_succ])
        refine wpAnyH_take (i := 8) (oi := { dst := some 28, op := Op.move (Operand.tmp 1), type := 24, pos := _, after := _, guard := some (7, false) }) (v := undef) rfl (by kernel_rfl) (by kernel_rfl) (by kernel_rfl) (fun _ _ _ h => h) (Or.inr ⟨by rfl, rfl⟩) hHeld ?_
        (try simp only [Act.put, List.setIfInBounds_toArray, List.set_cons_zero, List.set_cons_succ])
        refine wpAnyH_take (i := 9) (oi := { dst := some 29, op := Op.move (Operand.tmp 5), type := 3, pos := _, after := _, guard := some (7, false) }) (v := undef) rfl (by kernel_rfl) (by kernel_rfl) (by kernel_rfl) (fun _ _ _ h => h) (Or.inr ⟨by rfl, rfl⟩) hHeld ?_
        (try simp only [Act.put, List.setIfInBounds_toArray, List.set_cons_zero, List.set_cons_succ])
        refine wpAnyH_take (i := 10) (oi := { dst := some 30, op := Op.slice 24 (Operand.tmp 28) none (some (Operand.tmp 29)) none, type := 24, pos := _, after := _, guard := some (7, false) }) (v := undef) rfl (by kernel_rfl) (by kernel_rfl) (by kernel_rfl) (fun _ _ _ h => h) (Or.inr ⟨by rfl, rfl⟩) hHeld ?_
        (try simp only [Act.put, List.setIfInBounds_toArray, List.set_cons_zero, List.set_cons_succ])
        refine wpAnyH_take (i := 11) (oi := { dst := some 31, op := Op.move (Operand.tmp 1), type := 24, pos := _, after := _, guard := some (7, false) }) (v := undef) rfl (by kernel_rfl) (by kernel_rfl) (by kernel_rfl) (fun _ _ _ h => h) (Or.inr ⟨by rfl, rfl⟩) hHeld ?_
        (try simp only [Act.put, List.setIfInBounds_toArray, List.set_cons_zero, List.set_cons_succ])
        refine wpAnyH_take (i := 12) (oi := { dst := some 32, op := Op.move (Operand.tmp 5), type := 3, pos := _, after := _, guard := some (7, false) }) (v := undef) rfl (by kernel_rfl) (by kernel_rfl) (by kernel_rfl) (fun _ _ _ h => h) (Or.inr ⟨by rfl, rfl⟩) hHeld ?_
        (try simp only [Act.put, List.setIfInBounds_toArray, List.set_cons_zero, List.set_cons_succ])
        refine wpAnyH_take (i := 13) (oi := { dst := some 33, op := Op.indexAddr 24 (Operand.tmp 31) (Operand.tmp 32), type := 0, pos := _, after := _, guard := some (7, false) }) (v := undef) rfl (by kernel_rfl) (by kernel_rfl) (by kernel_rfl) (fun _ _ _ h => h) (Or.inr ⟨by rfl, rfl⟩) hHeld ?_
        (try simp only [Act.put, List.setIfInBounds_toArray, List.set_cons_zero, List.set_cons_succ])
        refine wpAnyH_take (i := 14) (oi := { dst := some 34, op := Op.fieldAddr 41 (Operand.tmp 33) 0, type := 0, pos := _, after := _, guard := some (7, false) }) (v := undef) rfl (by kernel_rfl) (by kernel_rfl) (by kernel_rfl) (fun _ _ _ h => h) (Or.inr ⟨by rfl, rfl⟩) hHeld ?_
        (try simp only [Act.put, List.setIfInBounds_toArray, List.set_cons_zero, List.set_cons_succ])
        refine wpAnyH_take (i := 15) (oi := { dst := some 35, op := Op.load 9 (Operand.tmp 34), type := 9, pos := _, after := _, guard := some (7, false) }) (v := undef) rfl (by kernel_rfl) (by kernel_rfl) (by kernel_rfl) (fun _ _ _ h => h) (Or.inr ⟨by rfl, rfl⟩) hHeld ?_
        (try simp only [Act.put, List.setIfInBounds_toArray, List.set_cons_zero, List.set_cons_succ])
        refine wpAnyH_take (i := 16) (oi := { dst := some 36, op := Op.call { callee := Callee.value (Operand.func 51), args := #[Operand.tmp 30, Operand.tmp 35], argTypes := #[24, 9] }, type := 3, pos := _, after := _, guard := some (7, false) }) (v := undef) rfl (by kernel_rfl) (by kernel_rfl) (by kernel_rfl) (fun _ _ _ h => h) (Or.inr ⟨by rfl, rfl⟩) hHeld ?_
        (try simp only [Act.put, List.setIfInBounds_toArray, List.set_cons_zero, List.set_cons_succ])
        refine wpAnyH_take (i := 17) (oi := { dst := some 37, op := Op.binOp BinOp.geq 3 (Operand.tmp 36) (Operand.const (Value.int IntKind.i64 0)) 3, type := 4, pos := _, after := _, guard := some (7, false) }) (v := undef) rfl (by kernel_rfl) (by kernel_rfl) (by kernel_rfl) (fun _ _ _ h => h) (Or.inr ⟨by rfl, rfl⟩) hHeld ?_
        (try simp only [Act.put, List.setIfInBounds_toArray, List.set_cons_zero, List.set_cons_succ])
        refine wpAnyH_take (i := 18) (oi := { dst := some 38, op := Op.pick (Operand.tmp 27) (Operand.const (Value.bool true)) (Operand.tmp 37), type := 4, pos := _, after := _, guard := none }) (v := ?_) rfl (by kernel_rfl) (by kernel_rfl) (by kernel_rfl) (fun _ _ _ h => h) (Or.inl ⟨by rfl, ?_⟩) hHeld ?_
        rotate_left
        · (intro w hSw; (try dsimp only at hSw); go_simp; (try with_reducible rfl))
        (try simp only [Act.put, List.setIfInBounds_toArray, List.set_cons_zero, List.set_cons_succ])
        refine wpAnyH_done (by kernel_rfl) ?_ _
        go_wp2
        go_ret
        exact ⟨ret_bool HF.out.symm, by first | exact HB.out.trans (hbZ.mono hsz) | exact below_drewN (HB.out.trans (hbZ.mono hsz)) _⟩
      · simp only [g] at HVE
        have G := hid g
        clear g
        by_cases gi : 0 ≤ idxI (l.take k) x.name
        · have HF : Hid (libB s l = false) := hid (by rw [HLB.out, decide_eq_false (HDUP.out gi), Bool.and_false])
          generalize idxI (l.take k) x.name = ix at HIXC gi HIG
          have hdi : decide (0 ≤ ix) = true := by simpa using gi
          clear HDUP
          go_wp2
          have hbZ : Below wr.heap.size wr wr := Below.refl _ _
          refine wp_region_held_drew (S := fun w' => w'.cell? ⟨b, o + k * 5, none⟩ = some (.string x.name) ∧ w'.cell? ⟨b, o + k * 5 + 1, none⟩ = some (.string x.who) ∧ w'.cell? ⟨b, o + k * 5 + 2, none⟩ = some (.slice sa x.says.length sc) ∧ w'.cell? ⟨b, o + k * 5 + 3, none⟩ = some (.slice ua x.uses.length uc) ∧ w'.cell? ⟨b, o + k * 5 + 4, none⟩ = some (.slice pa x.proof.length pc)) (by kernel_rfl) ?_ (fun hHeld => ?_)
          · exact ⟨d0, d1, d2, d3, d4⟩
          refine wpAnyH_take (i := 0) (oi := { dst := some 20, op := Op.move (Operand.tmp 0), type := 23, pos := _, after := _, guard := none }) (v := ?_) rfl (by kernel_rfl) (by kernel_rfl) (by kernel_rfl) (fun _ _ _ h => h) (Or.inl ⟨by rfl, ?_⟩) hHeld ?_
          rotate_left
          · (intro w hSw; (try dsimp only at hSw); go_simp; (try with_reducible rfl))
          (try simp only [Act.put, List.setIfInBounds_toArray, List.set_cons_zero, List.set_cons_succ])
          refine wpAnyH_take (i := 1) (oi := { dst := some 21, op := Op.move (Operand.tmp 1), type := 24, pos := _, after := _, guard := none }) (v := ?_) rfl (by kernel_rfl) (by kernel_rfl) (by kernel_rfl) (fun _ _ _ h => h) (Or.inl ⟨by rfl, ?_⟩) hHeld ?_
          rotate_left
          · (intro w hSw; (try dsimp only at hSw); go_simp; (try with_reducible rfl))
          (try simp only [Act.put, List.setIfInBounds_toArray, List.set_cons_zero, List.set_cons_succ])
          refine wpAnyH_take (i := 2) (oi := { dst := some 22, op := Op.move (Operand.tmp 5), type := 3, pos := _, after := _, guard := none }) (v := ?_) rfl (by kernel_rfl) (by kernel_rfl) (by kernel_rfl) (fun _ _ _ h => h) (Or.inl ⟨by rfl, ?_⟩) hHeld ?_
          rotate_left
          · (intro w hSw; (try dsimp only at hSw); go_simp; (try with_reducible rfl))
          (try simp only [Act.put, List.setIfInBounds_toArray, List.set_cons_zero, List.set_cons_succ])
          refine wpAnyH_take (i := 3) (oi := { dst := some 23, op := Op.indexAddr 24 (Operand.tmp 21) (Operand.tmp 22), type := 0, pos := _, after := _, guard := none }) (v := ?_) rfl (by kernel_rfl) (by kernel_rfl) (by kernel_rfl) (fun _ _ _ h => h) (Or.inl ⟨by rfl, ?_⟩) hHeld ?_
          rotate_left
          · (intro w hSw; (try dsimp only at hSw); go_simp; (try with_reducible rfl))
          (try simp only [Act.put, List.setIfInBounds_toArray, List.set_cons_zero, List.set_cons_succ])
          refine wpAnyH_take (i := 4) (oi := { dst := some 24, op := Op.load 41 (Operand.tmp 23), type := 41, pos := _, after := _, guard := none }) (v := ?_) rfl (by kernel_rfl) (by kernel_rfl) (by kernel_rfl) (fun _ _ _ h => h) (Or.inl ⟨by rfl, ?_⟩) hHeld ?_
          rotate_left
          · (intro w hSw; (try dsimp only at hSw); go_simp; (try with_reducible rfl))
          (try simp only [Act.put, List.setIfInBounds_toArray, List.set_cons_zero, List.set_cons_succ])
          refine wpAnyH_ready (rs := [5]) (by kernel_rfl) (by simp) ?_
          refine AllReadyH.cons (o := { dst := some 25, op := Op.call { callee := Callee.value (Operand.func 75), args := #[Operand.tmp 20, Operand.tmp 24], argTypes := #[23, 41] }, type := 4, pos := _, after := _, guard := none }) rfl (fun K hK => ?_) AllReadyH.nil
          (try go_simp)
          (refine (HVE.out _ (by first | exact hbZ | exact hbZ.drew | exact below_drewN hbZ _)).mono ?_; rintro e wz ⟨rfl, hbZ⟩; have d0 := (hbZ.cell (World.block_lt_of_cell? _ _ d0)).trans d0; have d1 := (hbZ.cell (World.block_lt_of_cell? _ _ d1)).trans d1; have d2 := (hbZ.cell (World.block_lt_of_cell? _ _ d2)).trans d2; have d3 := (hbZ.cell (World.block_lt_of_cell? _ _ d3)).trans d3; have d4 := (hbZ.cell (World.block_lt_of_cell? _ _ d4)).trans d4)
          refine hK.out _ _ ?_ (fun hHeld => ?_)
          · exact ⟨d0, d1, d2, d3, d4⟩
          clear hK K
          (try simp only [Act.put, List.setIfInBounds_toArray, List.set_cons_zero, List.set_cons_succ])
          refine wpAnyH_take (i := 6) (oi := { dst := some 26, op := Op.unOp UnOp.not 4 (Operand.tmp 25), type := 4, pos := _, after := _, guard := none }) (v := ?_) rfl (by kernel_rfl) (by kernel_rfl) (by kernel_rfl) (fun _ _ _ h => h) (Or.inl ⟨by rfl, ?_⟩) hHeld ?_
          rotate_left
          · (intro w hSw; (try dsimp only at hSw); go_simp; (try with_reducible rfl))
          (try simp only [Act.put, List.setIfInBounds_toArray, List.set_cons_zero, List.set_cons_succ])
          refine wpAnyH_take (i := 7) (oi := { dst := some 27, op := Op.move (Operand.tmp 26), type := 4, pos := _, after := _, guard := none }) (v := ?_) rfl (by kernel_rfl) (by kernel_rfl) (by kernel_rfl) (fun _ _ _ h => h) (Or.inl ⟨by rfl, ?_⟩) hHeld ?_
          rotate_left
          · (intro w hSw; (try dsimp only at hSw); go_simp; (try with_reducible rfl))
          (try simp only [Act.put, List.setIfInBounds_toArray, List.set_cons_zero, List.set_cons_succ])
          refine wpAnyH_take (i := 8) (oi := { dst := some 28, op := Op.move (Operand.tmp 1), type := 24, pos := _, after := _, guard := some (7, false) }) (v := ?_) rfl (by kernel_rfl) (by kernel_rfl) (by kernel_rfl) (fun _ _ _ h => h) (Or.inl ⟨by rfl, ?_⟩) hHeld ?_
          rotate_left
          · (intro w hSw; (try dsimp only at hSw); go_simp; (try with_reducible rfl))
          (try simp only [Act.put, List.setIfInBounds_toArray, List.set_cons_zero, List.set_cons_succ])
          refine wpAnyH_take (i := 9) (oi := { dst := some 29, op := Op.move (Operand.tmp 5), type := 3, pos := _, after := _, guard := some (7, false) }) (v := ?_) rfl (by kernel_rfl) (by kernel_rfl) (by kernel_rfl) (fun _ _ _ h => h) (Or.inl ⟨by rfl, ?_⟩) hHeld ?_
          rotate_left
          · (intro w hSw; (try dsimp only at hSw); go_simp; (try with_reducible rfl))
          (try simp only [Act.put, List.setIfInBounds_toArray, List.set_cons_zero, List.set_cons_succ])
          refine wpAnyH_take (i := 10) (oi := { dst := some 30, op := Op.slice 24 (Operand.tmp 28) none (some (Operand.tmp 29)) none, type := 24, pos := _, after := _, guard := some (7, false) }) (v := ?_) rfl (by kernel_rfl) (by kernel_rfl) (by kernel_rfl) (fun _ _ _ h => h) (Or.inl ⟨by rfl, ?_⟩) hHeld ?_
          rotate_left
          · (intro w hSw; (try dsimp only at hSw); go_simp; (try with_reducible rfl))
          (try simp only [Act.put, List.setIfInBounds_toArray, List.set_cons_zero, List.set_cons_succ])
          refine wpAnyH_take (i := 11) (oi := { dst := some 31, op := Op.move (Operand.tmp 1), type := 24, pos := _, after := _, guard := some (7, false) }) (v := ?_) rfl (by kernel_rfl) (by kernel_rfl) (by kernel_rfl) (fun _ _ _ h => h) (Or.inl ⟨by rfl, ?_⟩) hHeld ?_
          rotate_left
          · (intro w hSw; (try dsimp only at hSw); go_simp; (try with_reducible rfl))
          (try simp only [Act.put, List.setIfInBounds_toArray, List.set_cons_zero, List.set_cons_succ])
          refine wpAnyH_take (i := 12) (oi := { dst := some 32, op := Op.move (Operand.tmp 5), type := 3, pos := _, after := _, guard := some (7, false) }) (v := ?_) rfl (by kernel_rfl) (by kernel_rfl) (by kernel_rfl) (fun _ _ _ h => h) (Or.inl ⟨by rfl, ?_⟩) hHeld ?_
          rotate_left
          · (intro w hSw; (try dsimp only at hSw); go_simp; (try with_reducible rfl))
          (try simp only [Act.put, List.setIfInBounds_toArray, List.set_cons_zero, List.set_cons_succ])
          refine wpAnyH_take (i := 13) (oi := { dst := some 33, op := Op.indexAddr 24 (Operand.tmp 31) (Operand.tmp 32), type := 0, pos := _, after := _, guard := some (7, false) }) (v := ?_) rfl (by kernel_rfl) (by kernel_rfl) (by kernel_rfl) (fun _ _ _ h => h) (Or.inl ⟨by rfl, ?_⟩) hHeld ?_
          rotate_left
          · (intro w hSw; (try dsimp only at hSw); go_simp; (try with_reducible rfl))
          (try simp only [Act.put, List.setIfInBounds_toArray, List.set_cons_zero, List.set_cons_succ])
          refine wpAnyH_take (i := 14) (oi := { dst := some 34, op := Op.fieldAddr 41 (Operand.tmp 33) 0, type := 0, pos := _, after := _, guard := some (7, false) }) (v := ?_) rfl (by kernel_rfl) (by kernel_rfl) (by kernel_rfl) (fun _ _ _ h => h) (Or.inl ⟨by rfl, ?_⟩) hHeld ?_
          rotate_left
          · (intro w hSw; (try dsimp only at hSw); go_simp; (try with_reducible rfl))
          (try simp only [Act.put, List.setIfInBounds_toArray, List.set_cons_zero, List.set_cons_succ])
          refine wpAnyH_take (i := 15) (oi := { dst := some 35, op := Op.load 9 (Operand.tmp 34), type := 9, pos := _, after := _, guard := some (7, false) }) (v := ?_) rfl (by kernel_rfl) (by kernel_rfl) (by kernel_rfl) (fun _ _ _ h => h) (Or.inl ⟨by rfl, ?_⟩) hHeld ?_
          rotate_left
          · (intro w hSw; (try dsimp only at hSw); go_simp; (try with_reducible rfl))
          (try simp only [Act.put, List.setIfInBounds_toArray, List.set_cons_zero, List.set_cons_succ])
          refine wpAnyH_ready (rs := [16]) (by kernel_rfl) (by simp) ?_
          refine AllReadyH.cons (o := { dst := some 36, op := Op.call { callee := Callee.value (Operand.func 51), args := #[Operand.tmp 30, Operand.tmp 35], argTypes := #[24, 9] }, type := 3, pos := _, after := _, guard := some (7, false) }) rfl (fun K hK => ?_) AllReadyH.nil
          (try go_simp)
          (refine (HIXC.out _ (by first | exact hbZ | exact hbZ.drew | exact below_drewN hbZ _)).mono ?_; rintro e wz ⟨rfl, rfl⟩)
          refine hK.out _ _ ?_ (fun hHeld => ?_)
          · exact ⟨d0, d1, d2, d3, d4⟩
          clear hK K
          (try simp only [Act.put, List.setIfInBounds_toArray, List.set_cons_zero, List.set_cons_succ])
          refine wpAnyH_take (i := 17) (oi := { dst := some 37, op := Op.binOp BinOp.geq 3 (Operand.tmp 36) (Operand.const (Value.int IntKind.i64 0)) 3, type := 4, pos := _, after := _, guard := some (7, false) }) (v := ?_) rfl (by kernel_rfl) (by kernel_rfl) (by kernel_rfl) (fun _ _ _ h => h) (Or.inl ⟨by rfl, ?_⟩) hHeld ?_
          rotate_left
          · (intro w hSw; (try dsimp only at hSw); go_simp; (try with_reducible rfl))
          (try simp only [Act.put, List.setIfInBounds_toArray, List.set_cons_zero, List.set_cons_succ])
          refine wpAnyH_take (i := 18) (oi := { dst := some 38, op := Op.pick (Operand.tmp 27) (Operand.const (Value.bool true)) (Operand.tmp 37), type := 4, pos := _, after := _, guard := none }) (v := ?_) rfl (by kernel_rfl) (by kernel_rfl) (by kernel_rfl) (fun _ _ _ h => h) (Or.inl ⟨by rfl, ?_⟩) hHeld ?_
          rotate_left
          · (intro w hSw; (try dsimp only at hSw); go_simp; (try with_reducible rfl))
          (try simp only [Act.put, List.setIfInBounds_toArray, List.set_cons_zero, List.set_cons_succ])
          refine wpAnyH_done (by kernel_rfl) ?_ _
          go_wp2
          go_ret
          exact ⟨ret_bool HF.out.symm, by first | exact HB.out.trans (hbZ.mono hsz) | exact below_drewN (HB.out.trans (hbZ.mono hsz)) _⟩
        · have GI := hid gi
          generalize hix : idxI (l.take k) x.name = ix at HIXC gi HIG
          have HIX := hid hix
          have hdi : decide (0 ≤ ix) = false := by simpa using gi
          clear HDUP hix
          go_wp2
          have hbZ : Below wr.heap.size wr wr := Below.refl _ _
          refine wp_region_held_drew (S := fun w' => w'.cell? ⟨b, o + k * 5, none⟩ = some (.string x.name) ∧ w'.cell? ⟨b, o + k * 5 + 1, none⟩ = some (.string x.who) ∧ w'.cell? ⟨b, o + k * 5 + 2, none⟩ = some (.slice sa x.says.length sc) ∧ w'.cell? ⟨b, o + k * 5 + 3, none⟩ = some (.slice ua x.uses.length uc) ∧ w'.cell? ⟨b, o + k * 5 + 4, none⟩ = some (.slice pa x.proof.length pc)) (by kernel_rfl) ?_ (fun hHeld => ?_)
          · exact ⟨d0, d1, d2, d3, d4⟩
          refine wpAnyH_take (i := 0) (oi := { dst := some 20, op := Op.move (Operand.tmp 0), type := 23, pos := _, after := _, guard := none }) (v := ?_) rfl (by kernel_rfl) (by kernel_rfl) (by kernel_rfl) (fun _ _ _ h => h) (Or.inl ⟨by rfl, ?_⟩) hHeld ?_
          rotate_left
          · (intro w hSw; (try dsimp only at hSw); go_simp; (try with_reducible rfl))
          (try simp only [Act.put, List.setIfInBounds_toArray, List.set_cons_zero, List.set_cons_succ])
          refine wpAnyH_take (i := 1) (oi := { dst := some 21, op := Op.move (Operand.tmp 1), type := 24, pos := _, after := _, guard := none }) (v := ?_) rfl (by kernel_rfl) (by kernel_rfl) (by kernel_rfl) (fun _ _ _ h => h) (Or.inl ⟨by rfl, ?_⟩) hHeld ?_
          rotate_left
          · (intro w hSw; (try dsimp only at hSw); go_simp; (try with_reducible rfl))
          (try simp only [Act.put, List.setIfInBounds_toArray, List.set_cons_zero, List.set_cons_succ])
          refine wpAnyH_take (i := 2) (oi := { dst := some 22, op := Op.move (Operand.tmp 5), type := 3, pos := _, after := _, guard := none }) (v := ?_) rfl (by kernel_rfl) (by kernel_rfl) (by kernel_rfl) (fun _ _ _ h => h) (Or.inl ⟨by rfl, ?_⟩) hHeld ?_
          rotate_left
          · (intro w hSw; (try dsimp only at hSw); go_simp; (try with_reducible rfl))
          (try simp only [Act.put, List.setIfInBounds_toArray, List.set_cons_zero, List.set_cons_succ])
          refine wpAnyH_take (i := 3) (oi := { dst := some 23, op := Op.indexAddr 24 (Operand.tmp 21) (Operand.tmp 22), type := 0, pos := _, after := _, guard := none }) (v := ?_) rfl (by kernel_rfl) (by kernel_rfl) (by kernel_rfl) (fun _ _ _ h => h) (Or.inl ⟨by rfl, ?_⟩) hHeld ?_
          rotate_left
          · (intro w hSw; (try dsimp only at hSw); go_simp; (try with_reducible rfl))
          (try simp only [Act.put, List.setIfInBounds_toArray, List.set_cons_zero, List.set_cons_succ])
          refine wpAnyH_take (i := 4) (oi := { dst := some 24, op := Op.load 41 (Operand.tmp 23), type := 41, pos := _, after := _, guard := none }) (v := ?_) rfl (by kernel_rfl) (by kernel_rfl) (by kernel_rfl) (fun _ _ _ h => h) (Or.inl ⟨by rfl, ?_⟩) hHeld ?_
          rotate_left
          · (intro w hSw; (try dsimp only at hSw); go_simp; (try with_reducible rfl))
          (try simp only [Act.put, List.setIfInBounds_toArray, List.set_cons_zero, List.set_cons_succ])
          refine wpAnyH_ready (rs := [5]) (by kernel_rfl) (by simp) ?_
          refine AllReadyH.cons (o := { dst := some 25, op := Op.call { callee := Callee.value (Operand.func 75), args := #[Operand.tmp 20, Operand.tmp 24], argTypes := #[23, 41] }, type := 4, pos := _, after := _, guard := none }) rfl (fun K hK => ?_) AllReadyH.nil
          (try go_simp)
          (refine (HVE.out _ (by first | exact hbZ | exact hbZ.drew | exact below_drewN hbZ _)).mono ?_; rintro e wz ⟨rfl, hbZ⟩; have d0 := (hbZ.cell (World.block_lt_of_cell? _ _ d0)).trans d0; have d1 := (hbZ.cell (World.block_lt_of_cell? _ _ d1)).trans d1; have d2 := (hbZ.cell (World.block_lt_of_cell? _ _ d2)).trans d2; have d3 := (hbZ.cell (World.block_lt_of_cell? _ _ d3)).trans d3; have d4 := (hbZ.cell (World.block_lt_of_cell? _ _ d4)).trans d4)
          refine hK.out _ _ ?_ (fun hHeld => ?_)
          · exact ⟨d0, d1, d2, d3, d4⟩
          clear hK K
          (try simp only [Act.put, List.setIfInBounds_toArray, List.set_cons_zero, List.set_cons_succ])
          refine wpAnyH_take (i := 6) (oi := { dst := some 26, op := Op.unOp UnOp.not 4 (Operand.tmp 25), type := 4, pos := _, after := _, guard := none }) (v := ?_) rfl (by kernel_rfl) (by kernel_rfl) (by kernel_rfl) (fun _ _ _ h => h) (Or.inl ⟨by rfl, ?_⟩) hHeld ?_
          rotate_left
          · (intro w hSw; (try dsimp only at hSw); go_simp; (try with_reducible rfl))
          (try simp only [Act.put, List.setIfInBounds_toArray, List.set_cons_zero, List.set_cons_succ])
          refine wpAnyH_take (i := 7) (oi := { dst := some 27, op := Op.move (Operand.tmp 26), type := 4, pos := _, after := _, guard := none }) (v := ?_) rfl (by kernel_rfl) (by kernel_rfl) (by kernel_rfl) (fun _ _ _ h => h) (Or.inl ⟨by rfl, ?_⟩) hHeld ?_
          rotate_left
          · (intro w hSw; (try dsimp only at hSw); go_simp; (try with_reducible rfl))
          (try simp only [Act.put, List.setIfInBounds_toArray, List.set_cons_zero, List.set_cons_succ])
          refine wpAnyH_take (i := 8) (oi := { dst := some 28, op := Op.move (Operand.tmp 1), type := 24, pos := _, after := _, guard := some (7, false) }) (v := ?_) rfl (by kernel_rfl) (by kernel_rfl) (by kernel_rfl) (fun _ _ _ h => h) (Or.inl ⟨by rfl, ?_⟩) hHeld ?_
          rotate_left
          · (intro w hSw; (try dsimp only at hSw); go_simp; (try with_reducible rfl))
          (try simp only [Act.put, List.setIfInBounds_toArray, List.set_cons_zero, List.set_cons_succ])
          refine wpAnyH_take (i := 9) (oi := { dst := some 29, op := Op.move (Operand.tmp 5), type := 3, pos := _, after := _, guard := some (7, false) }) (v := ?_) rfl (by kernel_rfl) (by kernel_rfl) (by kernel_rfl) (fun _ _ _ h => h) (Or.inl ⟨by rfl, ?_⟩) hHeld ?_
          rotate_left
          · (intro w hSw; (try dsimp only at hSw); go_simp; (try with_reducible rfl))
          (try simp only [Act.put, List.setIfInBounds_toArray, List.set_cons_zero, List.set_cons_succ])
          refine wpAnyH_take (i := 10) (oi := { dst := some 30, op := Op.slice 24 (Operand.tmp 28) none (some (Operand.tmp 29)) none, type := 24, pos := _, after := _, guard := some (7, false) }) (v := ?_) rfl (by kernel_rfl) (by kernel_rfl) (by kernel_rfl) (fun _ _ _ h => h) (Or.inl ⟨by rfl, ?_⟩) hHeld ?_
          rotate_left
          · (intro w hSw; (try dsimp only at hSw); go_simp; (try with_reducible rfl))
          (try simp only [Act.put, List.setIfInBounds_toArray, List.set_cons_zero, List.set_cons_succ])
          refine wpAnyH_take (i := 11) (oi := { dst := some 31, op := Op.move (Operand.tmp 1), type := 24, pos := _, after := _, guard := some (7, false) }) (v := ?_) rfl (by kernel_rfl) (by kernel_rfl) (by kernel_rfl) (fun _ _ _ h => h) (Or.inl ⟨by rfl, ?_⟩) hHeld ?_
          rotate_left
          · (intro w hSw; (try dsimp only at hSw); go_simp; (try with_reducible rfl))
          (try simp only [Act.put, List.setIfInBounds_toArray, List.set_cons_zero, List.set_cons_succ])
          refine wpAnyH_take (i := 12) (oi := { dst := some 32, op := Op.move (Operand.tmp 5), type := 3, pos := _, after := _, guard := some (7, false) }) (v := ?_) rfl (by kernel_rfl) (by kernel_rfl) (by kernel_rfl) (fun _ _ _ h => h) (Or.inl ⟨by rfl, ?_⟩) hHeld ?_
          rotate_left
          · (intro w hSw; (try dsimp only at hSw); go_simp; (try with_reducible rfl))
          (try simp only [Act.put, List.setIfInBounds_toArray, List.set_cons_zero, List.set_cons_succ])
          refine wpAnyH_take (i := 13) (oi := { dst := some 33, op := Op.indexAddr 24 (Operand.tmp 31) (Operand.tmp 32), type := 0, pos := _, after := _, guard := some (7, false) }) (v := ?_) rfl (by kernel_rfl) (by kernel_rfl) (by kernel_rfl) (fun _ _ _ h => h) (Or.inl ⟨by rfl, ?_⟩) hHeld ?_
          rotate_left
          · (intro w hSw; (try dsimp only at hSw); go_simp; (try with_reducible rfl))
          (try simp only [Act.put, List.setIfInBounds_toArray, List.set_cons_zero, List.set_cons_succ])
          refine wpAnyH_take (i := 14) (oi := { dst := some 34, op := Op.fieldAddr 41 (Operand.tmp 33) 0, type := 0, pos := _, after := _, guard := some (7, false) }) (v := ?_) rfl (by kernel_rfl) (by kernel_rfl) (by kernel_rfl) (fun _ _ _ h => h) (Or.inl ⟨by rfl, ?_⟩) hHeld ?_
          rotate_left
          · (intro w hSw; (try dsimp only at hSw); go_simp; (try with_reducible rfl))
          (try simp only [Act.put, List.setIfInBounds_toArray, List.set_cons_zero, List.set_cons_succ])
          refine wpAnyH_take (i := 15) (oi := { dst := some 35, op := Op.load 9 (Operand.tmp 34), type := 9, pos := _, after := _, guard := some (7, false) }) (v := ?_) rfl (by kernel_rfl) (by kernel_rfl) (by kernel_rfl) (fun _ _ _ h => h) (Or.inl ⟨by rfl, ?_⟩) hHeld ?_
          rotate_left
          · (intro w hSw; (try dsimp only at hSw); go_simp; (try with_reducible rfl))
          (try simp only [Act.put, List.setIfInBounds_toArray, List.set_cons_zero, List.set_cons_succ])
          refine wpAnyH_ready (rs := [16]) (by kernel_rfl) (by simp) ?_
          refine AllReadyH.cons (o := { dst := some 36, op := Op.call { callee := Callee.value (Operand.func 51), args := #[Operand.tmp 30, Operand.tmp 35], argTypes := #[24, 9] }, type := 3, pos := _, after := _, guard := some (7, false) }) rfl (fun K hK => ?_) AllReadyH.nil
          (try go_simp)
          (refine (HIXC.out _ (by first | exact hbZ | exact hbZ.drew | exact below_drewN hbZ _)).mono ?_; rintro e wz ⟨rfl, rfl⟩)
          refine hK.out _ _ ?_ (fun hHeld => ?_)
          · exact ⟨d0, d1, d2, d3, d4⟩
          clear hK K
          (try simp only [Act.put, List.setIfInBounds_toArray, List.set_cons_zero, List.set_cons_succ])
          refine wpAnyH_take (i := 17) (oi := { dst := some 37, op := Op.binOp BinOp.geq 3 (Operand.tmp 36) (Operand.const (Value.int IntKind.i64 0)) 3, type := 4, pos := _, after := _, guard := some (7, false) }) (v := ?_) rfl (by kernel_rfl) (by kernel_rfl) (by kernel_rfl) (fun _ _ _ h => h) (Or.inl ⟨by rfl, ?_⟩) hHeld ?_
          rotate_left
          · (intro w hSw; (try dsimp only at hSw); go_simp; (try with_reducible rfl))
          (try simp only [Act.put, List.setIfInBounds_toArray, List.set_cons_zero, List.set_cons_succ])
          refine wpAnyH_take (i := 18) (oi := { dst := some 38, op := Op.pick (Operand.tmp 27) (Operand.const (Value.bool true)) (Operand.tmp 37), type := 4, pos := _, after := _, guard := none }) (v := ?_) rfl (by kernel_rfl) (by kernel_rfl) (by kernel_rfl) (fun _ _ _ h => h) (Or.inl ⟨by rfl, ?_⟩) hHeld ?_
          rotate_left
          · (intro w hSw; (try dsimp only at hSw); go_simp; (try with_reducible rfl))
          (try simp only [Act.put, List.setIfInBounds_toArray, List.set_cons_zero, List.set_cons_succ])
          refine wpAnyH_done (by kernel_rfl) ?_ _
          go_wp2
          go_roundw
          case rel =>
            refine ⟨k + 1, by omega, by go_num, by first | exact HB.out.trans (hbZ.mono hsz) | exact below_drewN (HB.out.trans (hbZ.mono hsz)) _, fun j hj hjk => ?_, fun j hj hjk => ?_⟩
            · by_cases e : j = k
              · subst e; rw [HX.out]; exact G.out
              · exact HN.out j hj (by omega)
            · by_cases e : j = k
              · subst e; rw [HX.out]; have := GI.out; omega
              · exact HH.out j hj (by omega)
          case measure => simp [intOf]; omega
    · have hkl : k = l.length := by omega
      have HF : Hid (libB s l = true) := hid (by
        have e1 := names_nd fun j hj => HH.out j hj (by omega)
        have e2 : l.all (entryB s) = true := by
          rw [List.all_eq_true]
          intro y hy
          obtain ⟨j, hj, rfl⟩ := List.getElem_of_mem hy
          exact HN.out j hj (by omega)
        rw [HLB.out, decide_eq_true e1, e2]; rfl)
      go_wp2
      go_ret
      exact ⟨ret_bool HF.out.symm, hb⟩
end Go.Proofs.YtlbjbmpkaniojaaGreat
namespace Go.Proofs.YtlbjbmpkaniojaaGreat
open Go Go.RowKit Go.Maps
end Go.Proofs.YtlbjbmpkaniojaaGreat
namespace Go.Proofs.YtlbjbmpkaniojaaGreat
open Go Go.RowKit Go.Maps
end Go.Proofs.YtlbjbmpkaniojaaGreat
namespace Go.Proofs.YtlbjbmpkaniojaaGreat
open Go Go.RowKit Go.Maps
/-- an entry of the call's own memory: its slices lie in blocks from 'base' on. -/
structure EntO (w : World) (base : Nat) (vS vU vP : Value) (x : En) : Prop where
  s : w.ownsRow base 3 1 vS x.says.length (x.says.map (Value.int .i64))
  u : w.ownsRow base 9 1 vU x.uses.length (x.uses.map Value.string)
  p : w.ownsRow base 105 3 vP x.proof.length (stC x.proof)
  ls : x.says.length ≤ 1000
  lu : x.uses.length ≤ 1000
  lp : x.proof.length ≤ 1000
  nu : ∀ n ∈ x.uses, n.size ≤ 140737488355328
  n1 : x.name.size ≤ 140737488355328
  n2 : x.who.size ≤ 140737488355328
theorem EntO.ent {w : World} {base : Nat} {vS vU vP : Value} {x : En} (h : EntO w base vS vU vP x) : EntAt w vS vU vP x :=
  ⟨Ints.of_owns h.s (by have := h.ls; omega), ⟨RowK.of_owns h.u (by have := h.lu; omega), h.nu⟩, RowK.of_owns h.p (by have := h.lp; omega), h.n1, h.n2⟩
theorem EntO.blocks {w W' : World} {base base' : Nat} {vS vU vP : Value} {x : En} (h : EntO w base vS vU vP x) (hb : base' ≤ base) (hs : ∀ q, base ≤ q → q < w.heap.size → W'.heap[q]? = w.heap[q]?) : EntO W' base' vS vU vP x :=
  ⟨owns_base (owns_blocks h.s fun q h1 h2 _ => hs q h1 h2) hb, owns_base (owns_blocks h.u fun q h1 h2 _ => hs q h1 h2) hb, owns_base (owns_blocks h.p fun q h1 h2 _ => hs q h1 h2) hb, h.ls, h.lu, h.lp, h.nu, h.n1, h.n2⟩
/-- the value of an entry of the call's own. -/
def EnO (w : World) (base : Nat) (v : Value) (x : En) : Prop := ∃ vS vU vP, v = .agg #[.string x.name, .string x.who, vS, vU, vP] ∧ EntO w base vS vU vP x
theorem C5.set3 {w : World} {b : Nat} {x0 x1 x2 x3 x4 : Value} (h : C5 w b x0 x1 x2 x3 x4) (y2 y3 y4 : Value) : C5 (((w.setCell ⟨b, 2, none⟩ y2).setCell ⟨b, 3, none⟩ y3).setCell ⟨b, 4, none⟩ y4) b x0 x1 y2 y3 y4 := by
  have e : ((w.setCell ⟨b, 2, none⟩ y2).setCell ⟨b, 3, none⟩ y3).setCell ⟨b, 4, none⟩ y4 = w.setCells b 2 [y2, y3, y4] := rfl
  have hin := World.cell?_setCells_in b [y2, y3, y4] 2 w (by
    intro j hj
    match j, hj with
    | 0, _ => show (w.cell? ⟨b, 2, none⟩).isSome = true; rw [h.c2]; rfl
    | 1, _ => show (w.cell? ⟨b, 3, none⟩).isSome = true; rw [h.c3]; rfl
    | 2, _ => show (w.cell? ⟨b, 4, none⟩).isSome = true; rw [h.c4]; rfl)
  have hout := fun (o : Nat) (ho : o < 2) => World.cell?_setCells_out b [y2, y3, y4] 2 w ⟨b, o, none⟩ (fun _ _ => Or.inl ho)
  have hf := fun j => World.frozen?_setCells b [y2, y3, y4] 2 w ⟨b, j, none⟩
  rw [e]
  exact ⟨(hout 0 (by omega)).trans h.c0, (hout 1 (by omega)).trans h.c1, hin 0 (by simp), hin 1 (by simp), hin 2 (by simp), (hf 0).trans h.z0, (hf 1).trans h.z1, (hf 2).trans h.z2, (hf 3).trans h.z3, (hf 4).trans h.z4⟩
end Go.Proofs.YtlbjbmpkaniojaaGreat
namespace Go.Proofs.YtlbjbmpkaniojaaGreat
open Go Go.RowKit Go.Maps
def EntQO (R : En → Int → Prop) (w : World) (e : Ending) (w' : World) : Prop := ∃ x vS vU vP er, R x er ∧ e = .returned (.tuple #[.agg #[.string x.name, .string x.who, vS, vU, vP], .int .i64 er]) ∧ EntO w' w.heap.size vS vU vP x ∧ Below w.heap.size w w'
theorem EntQO.mk {R : En → Int → Prop} {w : World} {e : Ending} {w' : World} (x : En) (vS vU vP : Value) (er : Int) (h1 : R x er) (h2 : e = .returned (.tuple #[.agg #[.string x.name, .string x.who, vS, vU, vP], .int .i64 er])) (h3 : EntO w' w.heap.size vS vU vP x) (h4 : Below w.heap.size w w') : EntQO R w e w' := ⟨x, vS, vU, vP, er, h1, h2, h3, h4⟩
theorem EntO.zero (w : World) (base : Nat) : EntO w base (.slice none 0 0) (.slice none 0 0) (.slice none 0 0) en0 :=
  ⟨World.ownsRow_nil _ _ _ _, World.ownsRow_nil _ _ _ _, World.ownsRow_nil _ _ _ _, by simp [en0], by simp [en0], by simp [en0], by simp [en0], by simp [en0, ByteArray.size], by simp [en0, ByteArray.size]⟩
theorem EntQO.zero {R : En → Int → Prop} {w w' : World} {er : Int} (h1 : R en0 er) (h4 : Below w.heap.size w w') : EntQO R w (.returned (.tuple #[.agg #[.string ⟨#[]⟩, .string ⟨#[]⟩, .slice none 0 0, .slice none 0 0, .slice none 0 0], .int .i64 er])) w' := ⟨en0, _, _, _, er, h1, rfl, EntO.zero _ _, h4⟩
end Go.Proofs.YtlbjbmpkaniojaaGreat
