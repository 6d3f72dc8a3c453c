/-
  WHAT IT HOLDS: contracts of says, Along and There of package carry. Conditions: the arguments read as data; small signs, small libraries.
  WHAT IT HOLDS: contracts of slices.Clone at strings and at steps, of proof, cite, detach, used, fresh of package carry. Conditions: the arguments read as data; small signs, small libraries.
  WHAT IT HOLDS: the contract of Moved of package carry. Conditions: the arguments read as data; small signs, small libraries.
  WHAT IT HOLDS: contracts of named, says, Along and There of the reference of layer 8. Conditions: the arguments read as data; small signs, small libraries.
  WHAT IT HOLDS: the contract of Moved of the reference of layer 8. Conditions: the arguments read as data; small signs, small libraries.
  WHAT IT HOLDS: the contract of copied of package carry. Conditions: the argument reads as data; it is small.
  WHAT IT HOLDS: the contract of copied of the reference of layer 8. Conditions: the argument reads as data; it is small.
  WHAT IT HOLDS: how a library of the call's own memory lies while it grows; contracts of each of package carry. Conditions: the arguments read as data; small signs, small libraries; the function value that is handed in does what f says to an entry of the call's own.
  WHAT IT HOLDS: the contracts of copied of package blame and of its reference. Conditions: the argument reads as data; it is small.
  WHAT IT HOLDS: the contract of Moved of package carry once more: its entry lies in memory of the call's own. Conditions: the arguments read as data; small signs, small libraries, short names.
-/
import Derived.Lib.SliceRun
import Derived.Deep.RegionHeld3
import Derived.Test.YtlbjbmpkaniojaaGreatZRBlameDiffers23
import Derived.Test.YtlbjbmpkaniojaaGreatZRBlameDiffers22
import Derived.Test.YtlbjbmpkaniojaaGreatZRBlameDiffers24
import Derived.Test.YtlbjbmpkaniojaaGreatZRBlameDiffers26
import Derived.Test.YtlbjbmpkaniojaaGreatZRBlameDiffers25
import Derived.Test.YtlbjbmpkaniojaaGreatZRBlameDiffers14
namespace Go.Proofs.YtlbjbmpkaniojaaGreat
open Go Go.RowKit Go.Maps
/-- what says answers. -/
def SaysR (s : Sg) (l : List En) (ns : List Nm) (ts : List (List Int)) (e : Int) : Prop := (libB s l = false ∧ ts = [] ∧ e = 1) ∨ (libB s l = true ∧ ((givL l ns = none ∧ ts = [] ∧ e = 5) ∨ (givL l ns = some ts ∧ e = 0)))
/-- the error of a library and of names that must be there. -/
def nmdI (s : Sg) (l : List En) (ns : List Nm) : Int := if libB s l then (if (givL l ns).isNone then 5 else 0) else 1
theorem SaysR.named {s : Sg} {l : List En} {ns : List Nm} {ts : List (List Int)} {e : Int} (h : SaysR s l ns ts e) : e = nmdI s l ns ∧ (e = 0 → libB s l = true ∧ givL l ns = some ts) := by
  unfold nmdI
  rcases h with ⟨h1, rfl, rfl⟩ | ⟨h1, ⟨h2, rfl, rfl⟩ | ⟨h2, rfl⟩⟩
  · rw [h1]; exact ⟨rfl, fun h => by cases h⟩
  · rw [h1, h2]; exact ⟨rfl, fun h => by cases h⟩
  · rw [h1, h2]; exact ⟨rfl, fun _ => ⟨rfl, rfl⟩⟩
end Go.Proofs.YtlbjbmpkaniojaaGreat
namespace Go.Proofs.YtlbjbmpkaniojaaGreat
open Go Go.RowKit Go.Maps
set_option maxRecDepth 100000 in
theorem sl_Clone_strs (v : Value) (n : Nat) (xs : List Value) (w : World) (hv : RowK w v 1 n xs) (h1 : ∀ u ∈ xs, u.oneCell' = true) (hn : n ≤ 1000) :
    Calls Tryz.prog 131 #[v] w fun e w' => ∃ u, e = .returned u ∧ w'.ownsRow w.heap.size 9 1 u n xs ∧ Below w.heap.size w w' := by
  have HV := hid hv
  obtain ⟨hl, a, cap, rfl, hc, hm, hnone, -⟩ := hv
  have q37 := fun (w : World) (a : Option Addr) (n c n' c' : Nat) => Lib.run_eql_slice_nil (P := Tryz.prog) w _ _ a n c n' c' Tryz.underlying38
  cases a with
  | none =>
    have hc0 := hnone rfl
    have hn0 : n = 0 := by omega
    subst hn0
    have hx : xs = [] := by simpa using hl
    subst hx
    clear HV
    go_enter Tryz.func131, Tryz.ntmps131
    go_wp2
    go_ret
    exact ⟨_, rfl, World.ownsRow_nil _ _ _ _, Below.refl _ _⟩
  | some ad =>
    have hb0 : Below w.heap.size w (w.alloc (.cells #[] 9)) := (Below.refl _ _).alloc (Nat.le_refl _) _
    have HR := hid (HV.out.below hb0)
    have HOWN := hid (World.ownsRow_lit (base := w.heap.size) (e := 9) (size := 1) w #[] 0 (Nat.le_refl _) (by simp [maxLen]) rfl)
    have HB0 := hid hb0
    clear HV hb0
    go_enter Tryz.func131, Tryz.ntmps131
    go_wp2_with (at_builtin; refine wpList_append_row rfl _ _ 38 rfl w.heap.size 9 el_str Tryz.underlying38 rfl (by decide) _ _ _ rfl HOWN.out _ n xs rfl HR.out h1 (by omega) (by omega) (by simp) ?_; intro v' w4 hown4 hgrow4 _)
    go_ret
    exact ⟨_, rfl, by simpa using hown4, HB0.out.grown hgrow4 (by simp) (fun q hq => by cases hq; exact Nat.le_refl _)⟩
set_option maxRecDepth 100000 in
theorem sl_Clone_steps (v : Value) (n : Nat) (xs : List Value) (w : World) (hv : RowK w v 3 n xs) (h1 : ∀ u ∈ xs, u.oneCell' = true) (hn : n ≤ 1000) :
    Calls Tryz.prog 132 #[v] w fun e w' => ∃ u, e = .returned u ∧ w'.ownsRow w.heap.size 105 3 u n xs ∧ Below w.heap.size w w' := by
  have HV := hid hv
  obtain ⟨hl, a, cap, rfl, hc, hm, hnone, -⟩ := hv
  have q37 := fun (w : World) (a : Option Addr) (n c n' c' : Nat) => Lib.run_eql_slice_nil (P := Tryz.prog) w _ _ a n c n' c' Tryz.underlying39
  cases a with
  | none =>
    have hc0 := hnone rfl
    have hn0 : n = 0 := by omega
    subst hn0
    have hx : xs = [] := by simpa using hl
    subst hx
    clear HV
    go_enter Tryz.func132, Tryz.ntmps132
    go_wp2
    go_ret
    exact ⟨_, rfl, World.ownsRow_nil _ _ _ _, Below.refl _ _⟩
  | some ad =>
    have hb0 : Below w.heap.size w (w.alloc (.cells #[] 105)) := (Below.refl _ _).alloc (Nat.le_refl _) _
    have HR := hid (HV.out.below hb0)
    have HOWN := hid (World.ownsRow_lit (base := w.heap.size) (e := 105) (size := 3) w #[] 0 (Nat.le_refl _) (by simp [maxLen]) rfl)
    have HB0 := hid hb0
    clear HV hb0
    go_enter Tryz.func132, Tryz.ntmps132
    go_wp2_with (at_builtin; refine wpList_append_row rfl _ _ 39 rfl w.heap.size 105 el_step Tryz.underlying39 rfl (by decide) _ _ _ rfl HOWN.out _ n xs rfl HR.out h1 (by omega) (by omega) (by simp) ?_; intro v' w4 hown4 hgrow4 _)
    go_ret
    exact ⟨_, rfl, by simpa using hown4, HB0.out.grown hgrow4 (by simp) (fun q hq => by cases hq; exact Nat.le_refl _)⟩
theorem stC_one (l : List St) : ∀ u ∈ stC l, u.oneCell' = true := by
  intro u hu
  unfold stC at hu
  obtain ⟨x, -, hx⟩ := List.mem_flatMap.1 hu
  simp [stV] at hx
  rcases hx with rfl | rfl | rfl <;> rfl
end Go.Proofs.YtlbjbmpkaniojaaGreat
namespace Go.Proofs.YtlbjbmpkaniojaaGreat
open Go Go.RowKit Go.Maps
def en0 : En := ⟨⟨#[]⟩, ⟨#[]⟩, [], [], []⟩
theorem StepsAt.nil (w : World) : StepsAt w (.slice none 0 0) [] := ⟨rfl, none, 0, rfl, Nat.le_refl _, by simp, fun _ => rfl, fun j u hj => by simp [stC] at hj⟩
theorem EntAt.zero (w : World) : EntAt w (.slice none 0 0) (.slice none 0 0) (.slice none 0 0) en0 := ⟨Ints.nil w, TxtsAt.nil w, StepsAt.nil w, by simp [en0, ByteArray.size], by simp [en0, ByteArray.size]⟩
/-- a cell of five of the call's own: it can be read and written. -/
structure C5 (w : World) (b : Nat) (x0 x1 x2 x3 x4 : Value) : Prop where
  c0 : w.cell? ⟨b, 0, none⟩ = some x0
  c1 : w.cell? ⟨b, 1, none⟩ = some x1
  c2 : w.cell? ⟨b, 2, none⟩ = some x2
  c3 : w.cell? ⟨b, 3, none⟩ = some x3
  c4 : w.cell? ⟨b, 4, none⟩ = some x4
  z0 : w.frozen? ⟨b, 0, none⟩ = false
  z1 : w.frozen? ⟨b, 1, none⟩ = false
  z2 : w.frozen? ⟨b, 2, none⟩ = false
  z3 : w.frozen? ⟨b, 3, none⟩ = false
  z4 : w.frozen? ⟨b, 4, none⟩ = false
theorem C5.block {w w' : World} {b : Nat} {x0 x1 x2 x3 x4 : Value} (h : C5 w b x0 x1 x2 x3 x4) (hb : w'.heap[b]? = w.heap[b]?) : C5 w' b x0 x1 x2 x3 x4 := by
  have k : ∀ j, w'.cell? ⟨b, j, none⟩ = w.cell? ⟨b, j, none⟩ := fun j => World.cell?_of_block hb
  have f : ∀ j, w'.frozen? ⟨b, j, none⟩ = w.frozen? ⟨b, j, none⟩ := fun j => World.frozen?_of_block hb
  exact ⟨(k 0).trans h.c0, (k 1).trans h.c1, (k 2).trans h.c2, (k 3).trans h.c3, (k 4).trans h.c4, (f 0).trans h.z0, (f 1).trans h.z1, (f 2).trans h.z2, (f 3).trans h.z3, (f 4).trans h.z4⟩
theorem C5.below {w w' : World} {b : Nat} {x0 x1 x2 x3 x4 : Value} (h : C5 w b x0 x1 x2 x3 x4) (hb : Below w.heap.size w w') : C5 w' b x0 x1 x2 x3 x4 :=
  h.block (hb.block b (World.block_lt_of_cell? _ _ h.c0))
theorem C5.new (w : World) (x0 x1 x2 x3 x4 : Value) (t : TypeId) : C5 (w.alloc (.cells #[x0, x1, x2, x3, x4] t)) w.heap.size x0 x1 x2 x3 x4 := by
  obtain ⟨h0, h1, h2, h3, h4, -⟩ := box5e w x0 x1 x2 x3 x4 t
  exact ⟨h0, h1, h2, h3, h4, World.frozen?_alloc_new _ _ _ _, World.frozen?_alloc_new _ _ _ _, World.frozen?_alloc_new _ _ _ _, World.frozen?_alloc_new _ _ _ _, World.frozen?_alloc_new _ _ _ _⟩
/-- the five cells written. -/
def set5 (w : World) (b : Nat) (y0 y1 y2 y3 y4 : Value) : World := ((((w.setCell ⟨b, 0, none⟩ y0).setCell ⟨b, 1, none⟩ y1).setCell ⟨b, 2, none⟩ y2).setCell ⟨b, 3, none⟩ y3).setCell ⟨b, 4, none⟩ y4
theorem C5.store {w : World} {b : Nat} {x0 x1 x2 x3 x4 : Value} (h : C5 w b x0 x1 x2 x3 x4) (y0 y1 y2 y3 y4 : Value) : C5 (set5 w b y0 y1 y2 y3 y4) b y0 y1 y2 y3 y4 := by
  have e : set5 w b y0 y1 y2 y3 y4 = w.setCells b 0 [y0, y1, y2, y3, y4] := rfl
  have hin := World.cell?_setCells_in b [y0, y1, y2, y3, y4] 0 w (by
    intro j hj
    rw [Nat.zero_add]
    match j, hj with
    | 0, _ => rw [h.c0]; rfl
    | 1, _ => rw [h.c1]; rfl
    | 2, _ => rw [h.c2]; rfl
    | 3, _ => rw [h.c3]; rfl
    | 4, _ => rw [h.c4]; rfl)
  have hf := fun j => World.frozen?_setCells b [y0, y1, y2, y3, y4] 0 w ⟨b, j, none⟩
  rw [e]
  exact ⟨hin 0 (by simp), hin 1 (by simp), hin 2 (by simp), hin 3 (by simp), hin 4 (by simp), (hf 0).trans h.z0, (hf 1).trans h.z1, (hf 2).trans h.z2, (hf 3).trans h.z3, (hf 4).trans h.z4⟩
theorem set5_below {B : Nat} {a w : World} {b : Nat} (h : Below B a w) (hB : B ≤ b) (y0 y1 y2 y3 y4 : Value) : Below B a (set5 w b y0 y1 y2 y3 y4) := by
  unfold set5
  exact ((((h.setCell (p := ⟨b, 0, none⟩) hB _).setCell (p := ⟨b, 1, none⟩) hB _).setCell (p := ⟨b, 2, none⟩) hB _).setCell (p := ⟨b, 3, none⟩) hB _).setCell (p := ⟨b, 4, none⟩) hB _
theorem heap_set5 (w : World) (b : Nat) (y0 y1 y2 y3 y4 : Value) {k : Nat} (h : k ≠ b) : (set5 w b y0 y1 y2 y3 y4).heap[k]? = w.heap[k]? := by
  unfold set5
  rw [Below.heap_setCell _ _ _ _ h, Below.heap_setCell _ _ _ _ h, Below.heap_setCell _ _ _ _ h, Below.heap_setCell _ _ _ _ h, Below.heap_setCell _ _ _ _ h]
theorem owns_blocks {w W' : World} {b : Nat} {e : TypeId} {k : Nat} {v : Value} {n : Nat} {xs : List Value} (h : w.ownsRow b e k v n xs) (hs : ∀ q, b ≤ q → q < w.heap.size → v.ownBlock = some q → W'.heap[q]? = w.heap[q]?) : W'.ownsRow b e k v n xs := by
  have hlt := h.lt
  obtain ⟨h1, h2⟩ := h
  refine ⟨h1, ?_⟩
  rcases h2 with h2 | ⟨g, cap, cur, rfl, r2, r3, r4⟩
  · exact .inl h2
  · exact .inr ⟨g, cap, cur, rfl, r2, by rw [hs g (hlt g rfl).1 (hlt g rfl).2 rfl]; exact r3, r4⟩
def EntQ (R : En → Int → Prop) (w : World) (e : Ending) (w' : World) : Prop := ∃ x vS vU vP er, R x er ∧ e = .returned (.tuple #[.agg #[.string x.name, .string x.who, vS, vU, vP], .int .i64 er]) ∧ EntAt w' vS vU vP x ∧ Below w.heap.size w w'
theorem EntQ.mk {R : En → Int → Prop} {w : World} {e : Ending} {w' : World} (x : En) (vS vU vP : Value) (er : Int) (h1 : R x er) (h2 : e = .returned (.tuple #[.agg #[.string x.name, .string x.who, vS, vU, vP], .int .i64 er])) (h3 : EntAt w' vS vU vP x) (h4 : Below w.heap.size w w') : EntQ R w e w' := ⟨x, vS, vU, vP, er, h1, h2, h3, h4⟩
theorem EntQ.zero {R : En → Int → Prop} {w w' : World} {er : Int} (h1 : R en0 er) (h4 : Below w.heap.size w w') : EntQ R w (.returned (.tuple #[.agg #[.string ⟨#[]⟩, .string ⟨#[]⟩, .slice none 0 0, .slice none 0 0, .slice none 0 0], .int .i64 er])) w' := ⟨en0, _, _, _, er, h1, rfl, EntAt.zero _, h4⟩
theorem C5.set4 {w : World} {b : Nat} {x0 x1 x2 x3 x4 : Value} (h : C5 w b x0 x1 x2 x3 x4) (y : Value) : C5 (w.setCell ⟨b, 4, none⟩ y) b x0 x1 x2 x3 y := by
  refine ⟨?_, ?_, ?_, ?_, World.cell?_setCell_same _ _ _ h.c4, ?_, ?_, ?_, ?_, ?_⟩
  · rw [World.cell?_setCell_other _ _ _ _ (by simp)]; exact h.c0
  · rw [World.cell?_setCell_other _ _ _ _ (by simp)]; exact h.c1
  · rw [World.cell?_setCell_other _ _ _ _ (by simp)]; exact h.c2
  · rw [World.cell?_setCell_other _ _ _ _ (by simp)]; exact h.c3
  · rw [World.frozen?_setCell]; exact h.z0
  · rw [World.frozen?_setCell]; exact h.z1
  · rw [World.frozen?_setCell]; exact h.z2
  · rw [World.frozen?_setCell]; exact h.z3
  · rw [World.frozen?_setCell]; exact h.z4
theorem owns_slice {w : World} {b : Nat} {e : TypeId} {k : Nat} {v : Value} {n : Nat} {xs : List Value} (h : w.ownsRow b e k v n xs) : ∃ a c, v = .slice a n c := by
  obtain ⟨a, c, h1, -⟩ := owns_open h
  exact ⟨a, c, h1⟩
end Go.Proofs.YtlbjbmpkaniojaaGreat
namespace Go.Proofs.YtlbjbmpkaniojaaGreat
open Go Go.RowKit Go.Maps
end Go.Proofs.YtlbjbmpkaniojaaGreat
namespace Go.Proofs.YtlbjbmpkaniojaaGreat
open Go Go.RowKit Go.Maps
end Go.Proofs.YtlbjbmpkaniojaaGreat
namespace Go.Proofs.YtlbjbmpkaniojaaGreat
open Go Go.RowKit Go.Maps
/-- an entry of the call's own memory: its slices lie in blocks from 'base' on. -/
structure EntO (w : World) (base : Nat) (vS vU vP : Value) (x : En) : Prop where
  s : w.ownsRow base 3 1 vS x.says.length (x.says.map (Value.int .i64))
  u : w.ownsRow base 9 1 vU x.uses.length (x.uses.map Value.string)
  p : w.ownsRow base 105 3 vP x.proof.length (stC x.proof)
  ls : x.says.length ≤ 1000
  lu : x.uses.length ≤ 1000
  lp : x.proof.length ≤ 1000
  nu : ∀ n ∈ x.uses, n.size ≤ 140737488355328
  n1 : x.name.size ≤ 140737488355328
  n2 : x.who.size ≤ 140737488355328
theorem EntO.ent {w : World} {base : Nat} {vS vU vP : Value} {x : En} (h : EntO w base vS vU vP x) : EntAt w vS vU vP x :=
  ⟨Ints.of_owns h.s (by have := h.ls; omega), ⟨RowK.of_owns h.u (by have := h.lu; omega), h.nu⟩, RowK.of_owns h.p (by have := h.lp; omega), h.n1, h.n2⟩
theorem EntO.blocks {w W' : World} {base base' : Nat} {vS vU vP : Value} {x : En} (h : EntO w base vS vU vP x) (hb : base' ≤ base) (hs : ∀ q, base ≤ q → q < w.heap.size → W'.heap[q]? = w.heap[q]?) : EntO W' base' vS vU vP x :=
  ⟨owns_base (owns_blocks h.s fun q h1 h2 _ => hs q h1 h2) hb, owns_base (owns_blocks h.u fun q h1 h2 _ => hs q h1 h2) hb, owns_base (owns_blocks h.p fun q h1 h2 _ => hs q h1 h2) hb, h.ls, h.lu, h.lp, h.nu, h.n1, h.n2⟩
/-- the value of an entry of the call's own. -/
def EnO (w : World) (base : Nat) (v : Value) (x : En) : Prop := ∃ vS vU vP, v = .agg #[.string x.name, .string x.who, vS, vU, vP] ∧ EntO w base vS vU vP x
theorem C5.set3 {w : World} {b : Nat} {x0 x1 x2 x3 x4 : Value} (h : C5 w b x0 x1 x2 x3 x4) (y2 y3 y4 : Value) : C5 (((w.setCell ⟨b, 2, none⟩ y2).setCell ⟨b, 3, none⟩ y3).setCell ⟨b, 4, none⟩ y4) b x0 x1 y2 y3 y4 := by
  have e : ((w.setCell ⟨b, 2, none⟩ y2).setCell ⟨b, 3, none⟩ y3).setCell ⟨b, 4, none⟩ y4 = w.setCells b 2 [y2, y3, y4] := rfl
  have hin := World.cell?_setCells_in b [y2, y3, y4] 2 w (by
    intro j hj
    match j, hj with
    | 0, _ => show (w.cell? ⟨b, 2, none⟩).isSome = true; rw [h.c2]; rfl
    | 1, _ => show (w.cell? ⟨b, 3, none⟩).isSome = true; rw [h.c3]; rfl
    | 2, _ => show (w.cell? ⟨b, 4, none⟩).isSome = true; rw [h.c4]; rfl)
  have hout := fun (o : Nat) (ho : o < 2) => World.cell?_setCells_out b [y2, y3, y4] 2 w ⟨b, o, none⟩ (fun _ _ => Or.inl ho)
  have hf := fun j => World.frozen?_setCells b [y2, y3, y4] 2 w ⟨b, j, none⟩
  rw [e]
  exact ⟨(hout 0 (by omega)).trans h.c0, (hout 1 (by omega)).trans h.c1, hin 0 (by simp), hin 1 (by simp), hin 2 (by simp), (hf 0).trans h.z0, (hf 1).trans h.z1, (hf 2).trans h.z2, (hf 3).trans h.z3, (hf 4).trans h.z4⟩
end Go.Proofs.YtlbjbmpkaniojaaGreat
namespace Go.Proofs.YtlbjbmpkaniojaaGreat
open Go Go.RowKit Go.Maps
theorem C5.set_2 {w : World} {b : Nat} {x0 x1 x2 x3 x4 : Value} (h : C5 w b x0 x1 x2 x3 x4) (y : Value) : C5 (w.setCell ⟨b, 2, none⟩ y) b x0 x1 y x3 x4 := by
  refine ⟨?_, ?_, World.cell?_setCell_same _ _ _ h.c2, ?_, ?_, ?_, ?_, ?_, ?_, ?_⟩
  · rw [World.cell?_setCell_other _ _ _ _ (by simp)]; exact h.c0
  · rw [World.cell?_setCell_other _ _ _ _ (by simp)]; exact h.c1
  · rw [World.cell?_setCell_other _ _ _ _ (by simp)]; exact h.c3
  · rw [World.cell?_setCell_other _ _ _ _ (by simp)]; exact h.c4
  · rw [World.frozen?_setCell]; exact h.z0
  · rw [World.frozen?_setCell]; exact h.z1
  · rw [World.frozen?_setCell]; exact h.z2
  · rw [World.frozen?_setCell]; exact h.z3
  · rw [World.frozen?_setCell]; exact h.z4
theorem C5.set_3 {w : World} {b : Nat} {x0 x1 x2 x3 x4 : Value} (h : C5 w b x0 x1 x2 x3 x4) (y : Value) : C5 (w.setCell ⟨b, 3, none⟩ y) b x0 x1 x2 y x4 := by
  refine ⟨?_, ?_, ?_, World.cell?_setCell_same _ _ _ h.c3, ?_, ?_, ?_, ?_, ?_, ?_⟩
  · rw [World.cell?_setCell_other _ _ _ _ (by simp)]; exact h.c0
  · rw [World.cell?_setCell_other _ _ _ _ (by simp)]; exact h.c1
  · rw [World.cell?_setCell_other _ _ _ _ (by simp)]; exact h.c2
  · rw [World.cell?_setCell_other _ _ _ _ (by simp)]; exact h.c4
  · rw [World.frozen?_setCell]; exact h.z0
  · rw [World.frozen?_setCell]; exact h.z1
  · rw [World.frozen?_setCell]; exact h.z2
  · rw [World.frozen?_setCell]; exact h.z3
  · rw [World.frozen?_setCell]; exact h.z4
theorem lit_own {w : World} {base : Nat} {e : TypeId} (size : Nat) (h : base ≤ w.heap.size) : (w.alloc (.cells #[] e)).ownsRow base e size (.slice (some ⟨w.heap.size, 0, none⟩) 0 0) 0 [] := by
  have := World.ownsRow_lit (base := base) (e := e) (size := size) w #[] 0 h (by simp [maxLen]) (by simp)
  simpa using this
end Go.Proofs.YtlbjbmpkaniojaaGreat
namespace Go.Proofs.YtlbjbmpkaniojaaGreat
open Go Go.RowKit Go.Maps
/-- a row of entries of the call's own; what the entries hold does not lie in the row's own block. -/
structure EnS (w : World) (base : Nat) (u : Value) (vs : List V3) (l : List En) : Prop where
  top : w.ownsRow base 41 5 u l.length (ensC l vs)
  len : vs.length = l.length
  rd : ∀ W' : World, (∀ q, q < w.heap.size → some q ≠ u.ownBlock → W'.heap[q]? = w.heap[q]?) → ∀ (j : Nat) (h : j < l.length) (h' : j < vs.length), EntAt W' vs[j].1 vs[j].2.1 vs[j].2.2 l[j]
theorem EnS.nil (w : World) (base : Nat) : EnS w base (.slice none 0 0) [] [] := ⟨World.ownsRow_nil _ _ _ _, rfl, fun _ _ j h => by simp at h⟩
theorem EnS.below {w w' : World} {base : Nat} {u : Value} {vs : List V3} {l : List En} (h : EnS w base u vs l) (hb : Below w.heap.size w w') : EnS w' base u vs l :=
  ⟨owns_below h.top hb, h.len, fun W' hW => h.rd W' fun q hq hne => (hW q (Nat.lt_of_lt_of_le hq hb.size) hne).trans (hb.block q hq)⟩
theorem EnS.ents {w : World} {base : Nat} {u : Value} {vs : List V3} {l : List En} (h : EnS w base u vs l) (hl : l.length ≤ 1000) : EntsV w u vs l :=
  ⟨RowK.of_owns h.top (by omega), h.len, h.rd w fun _ _ _ => rfl⟩
theorem ensC_snoc (l : List En) (x : En) (vs : List V3) (v : V3) (h : vs.length = l.length) : ensC (l ++ [x]) (vs ++ [v]) = ensC l vs ++ enC x v := by
  rw [ensC_append l [x] vs [v] h]
  simp [ensC]
theorem EnS.push {w w1 w2 : World} {base : Nat} {u : Value} {vs : List V3} {l : List En} (h : EnS w base u vs l) (hb : Below w.heap.size w w1) {x : En} {v : V3}
    (hx : ∀ W' : World, (∀ q, q < w1.heap.size → some q ≠ u.ownBlock → W'.heap[q]? = w1.heap[q]?) → EntAt W' v.1 v.2.1 v.2.2 x)
    {g cap n : Nat} (hn : n = l.length) (hown : w2.ownsRow base 41 5 (.slice (some ⟨g, 0, none⟩) (n + 1) cap) (n + 1) (ensC l vs ++ enC x v)) (hg : w1.grownBy w2 u.ownBlock) {H : Nat} (hH : H = w1.heap.size) (hat : u.ownBlock = some g ∨ g = H) :
    EnS w2 base (.slice (some ⟨g, 0, none⟩) (n + 1) cap) (vs ++ [v]) (l ++ [x]) := by
  subst hn
  have hb1 := h.below hb
  have key : ∀ W' : World, (∀ q, q < w2.heap.size → some q ≠ (Value.slice (some ⟨g, 0, none⟩) (l.length + 1) cap).ownBlock → W'.heap[q]? = w2.heap[q]?) → ∀ q, q < w1.heap.size → some q ≠ u.ownBlock → W'.heap[q]? = w1.heap[q]? := by
    intro W' hW q hq hne
    rw [hW q (Nat.lt_of_lt_of_le hq hg.size) ?_, hg.block q hq hne]
    intro e
    have e : q = g := Option.some.inj e
    rcases hat with ha | ha
    · exact hne (by rw [ha, e])
    · omega
  refine ⟨by rw [ensC_snoc _ _ _ _ h.len]; simpa using hown, by simp [h.len], fun W' hW j hj hj' => ?_⟩
  have k1 := key W' hW
  by_cases hlt : j < l.length
  · have hv : j < vs.length := by rw [h.len]; exact hlt
    rw [List.getElem_append_left hlt, List.getElem_append_left hv]
    exact hb1.rd W' k1 j hlt hv
  · have e : j = l.length := by simp at hj; omega
    subst e
    have e1 : (l ++ [x])[l.length] = x := by simp
    have e2 : (vs ++ [v])[l.length] = v := by rw [List.getElem_append_right (by rw [h.len]; exact Nat.le_refl _)]; simp [h.len]
    rw [e1, e2]
    exact hx W' k1
theorem EnS.slice {w : World} {base : Nat} {u : Value} {vs : List V3} {l : List En} (h : EnS w base u vs l) : ∃ a c, u = .slice a l.length c := owns_slice h.top
/-- the one entry that an append is handed. -/
theorem row_one_ent (w : World) (x0 x1 x2 x3 x4 : Value) (t : TypeId) : RowK (w.alloc (.cells #[x0, x1, x2, x3, x4] t)) (.slice (some ⟨w.heap.size, 0, none⟩) 1 1) 5 1 [x0, x1, x2, x3, x4] := by
  refine ⟨rfl, _, _, rfl, Nat.le_refl _, by omega, (fun h => by cases h), fun j u hj => ⟨_, _, rfl, ?_⟩⟩
  rw [World.cell?_alloc_new, Nat.zero_add]
  simpa using hj
theorem enC_one (x : En) (a b c : Option Addr) (n m k n' m' k' : Nat) : ∀ u ∈ enC x (.slice a n n', .slice b m m', .slice c k k'), u.oneCell' = true := by
  intro u hu
  simp [enC] at hu
  rcases hu with rfl | rfl | rfl | rfl | rfl <;> rfl
/-- what an entry is asked to be, to be copied. -/
def EnSm (x : En) : Prop := 0 < x.says.length ∧ x.says.length ≤ 1000 ∧ x.uses.length ≤ 1000 ∧ x.proof.length ≤ 1000
end Go.Proofs.YtlbjbmpkaniojaaGreat
namespace Go.Proofs.YtlbjbmpkaniojaaGreat
open Go Go.RowKit Go.Maps
set_option maxHeartbeats 2000000 in
set_option maxRecDepth 100000 in
theorem blame_copied (vS vU vP : Value) (x : En) (w : World) (he : EntAt w vS vU vP x) (h0 : 0 < x.says.length) (ls : x.says.length ≤ 1000) (lu : x.uses.length ≤ 1000) (lp : x.proof.length ≤ 1000) :
    Calls Tryz.prog 79 #[.agg #[.string x.name, .string x.who, vS, vU, vP]] w fun e w' => ∃ v, e = .returned v ∧ EnO w' w.heap.size v x ∧ Below w.heap.size w w' := by
  obtain ⟨sa, sc, rfl, -⟩ := he.s.open
  obtain ⟨ua, uc, rfl, -⟩ := he.u.open
  obtain ⟨pa, pc, rfl, -⟩ := he.p.open
  have hC5 := C5.new w (.string x.name) (.string x.who) (.slice sa x.says.length sc) (.slice ua x.uses.length uc) (.slice pa x.proof.length pc) 41
  have hbV : Below w.heap.size w (w.alloc (.cells #[.string x.name, .string x.who, .slice sa x.says.length sc, .slice ua x.uses.length uc, .slice pa x.proof.length pc] 41)) := (Below.refl _ _).alloc (Nat.le_refl _) _
  obtain ⟨V, hV⟩ : ∃ V, w.alloc (.cells #[.string x.name, .string x.who, .slice sa x.says.length sc, .slice ua x.uses.length uc, .slice pa x.proof.length pc] 41) = V := ⟨_, rfl⟩
  have hVz : V.heap.size = w.heap.size + 1 := by rw [← hV]; simp
  rw [hV] at hC5 hbV
  have hR5 := C5.new V (.string ⟨#[]⟩) (.string ⟨#[]⟩) (.slice none 0 0) (.slice none 0 0) (.slice none 0 0) 41
  have hbX : Below V.heap.size V (V.alloc (.cells #[.string ⟨#[]⟩, .string ⟨#[]⟩, .slice none 0 0, .slice none 0 0, .slice none 0 0] 41)) := (Below.refl _ _).alloc (Nat.le_refl _) _
  obtain ⟨X, hX⟩ : ∃ X, V.alloc (.cells #[.string ⟨#[]⟩, .string ⟨#[]⟩, .slice none 0 0, .slice none 0 0, .slice none 0 0] 41) = X := ⟨_, rfl⟩
  have hXz : X.heap.size = w.heap.size + 1 + 1 := by rw [← hX, World.size_alloc, hVz]
  rw [hX] at hR5 hbX
  rw [hVz] at hR5
  have C1 := hC5.below hbX
  have C2 := hR5
  have hb := hbV.trans (hbX.mono hbV.size)
  have HE := hid (he.below hb)
  have hXe : (w.alloc (.cells #[.string x.name, .string x.who, .slice sa x.says.length sc, .slice ua x.uses.length uc, .slice pa x.proof.length pc] 41)).alloc (.cells #[.string ⟨#[]⟩, .string ⟨#[]⟩, .slice none 0 0, .slice none 0 0, .slice none 0 0] 41) = X := by rw [hV, hX]
  have HXE := hid hXe
  have HB := hid hb
  have HXZ := hid hXz
  have HC1 := hid C1
  have HC2 := hid C2
  have HN := hid he.n1
  have HN2 := hid he.n2
  have HNU := hid he.u.2
  have HSC := hid (fun (W : World) (hW : Below X.heap.size X W) => sl_CloneT _ _ W (HE.out.s.below hW) h0 ls)
  have HUC := hid (fun (W : World) (hW : Below X.heap.size X W) => sl_Clone_strs _ _ _ W (HE.out.u.1.below hW) (strs_one x.uses) lu)
  have HPC := hid (fun (W : World) (hW : Below X.heap.size X W) => sl_Clone_steps _ _ _ W (HE.out.p.below hW) (stC_one x.proof) lp)
  clear hC5 hbV hV hVz hbX hX hXz hR5 hb he hXe C1 C2
  go_enter Tryz.func79, Tryz.ntmps79
  go_wp2_with fail
  rw [HXE.out]
  have hbZ : Below X.heap.size X X := Below.refl _ _
  obtain ⟨-, -, c2, c3, c4, -, -, -, -, -⟩ := HC1.out
  refine anyK.beginS (S := fun w' => w'.cell? ⟨w.heap.size, 2, none⟩ = some (.slice sa x.says.length sc) ∧ w'.cell? ⟨w.heap.size, 3, none⟩ = some (.slice ua x.uses.length uc) ∧ w'.cell? ⟨w.heap.size, 4, none⟩ = some (.slice pa x.proof.length pc)) (k := 10) (by kernel_rfl) ?_ (fun hHeld => ?_)
  · exact ⟨c2, c3, c4⟩
  refine anyK.take (i := 0) (oi := { dst := some 3, op := Op.fieldAddr 41 (Operand.tmp 1) 2, type := 0, pos := _, after := _, guard := none }) (v := ?_) rfl (by kernel_rfl) (by kernel_rfl) (by kernel_rfl) (by kernel_rfl) (by kernel_rfl) (by decide) (fun _ _ _ h => h) (Or.inl ⟨by rfl, ?_⟩) hHeld ?_
  rotate_left
  · (intro w hSw; (try dsimp only at hSw); go_simp; (try with_reducible rfl))
  (try simp only [Act.put, List.setIfInBounds_toArray, List.set_cons_zero, List.set_cons_succ])
  refine anyK.take (i := 1) (oi := { dst := some 4, op := Op.load 37 (Operand.tmp 3), type := 37, pos := _, after := _, guard := none }) (v := ?_) rfl (by kernel_rfl) (by kernel_rfl) (by kernel_rfl) (by kernel_rfl) (by kernel_rfl) (by decide) (fun _ _ _ h => h) (Or.inl ⟨by rfl, ?_⟩) hHeld ?_
  rotate_left
  · (intro w hSw; (try dsimp only at hSw); go_simp; (try with_reducible rfl))
  (try simp only [Act.put, List.setIfInBounds_toArray, List.set_cons_zero, List.set_cons_succ])
  refine anyK.take (i := 3) (oi := { dst := some 6, op := Op.fieldAddr 41 (Operand.tmp 1) 3, type := 0, pos := _, after := _, guard := none }) (v := ?_) rfl (by kernel_rfl) (by kernel_rfl) (by kernel_rfl) (by kernel_rfl) (by kernel_rfl) (by decide) (fun _ _ _ h => h) (Or.inl ⟨by rfl, ?_⟩) hHeld ?_
  rotate_left
  · (intro w hSw; (try dsimp only at hSw); go_simp; (try with_reducible rfl))
  (try simp only [Act.put, List.setIfInBounds_toArray, List.set_cons_zero, List.set_cons_succ])
  refine anyK.take (i := 4) (oi := { dst := some 7, op := Op.load 38 (Operand.tmp 6), type := 38, pos := _, after := _, guard := none }) (v := ?_) rfl (by kernel_rfl) (by kernel_rfl) (by kernel_rfl) (by kernel_rfl) (by kernel_rfl) (by decide) (fun _ _ _ h => h) (Or.inl ⟨by rfl, ?_⟩) hHeld ?_
  rotate_left
  · (intro w hSw; (try dsimp only at hSw); go_simp; (try with_reducible rfl))
  (try simp only [Act.put, List.setIfInBounds_toArray, List.set_cons_zero, List.set_cons_succ])
  refine anyK.take (i := 6) (oi := { dst := some 9, op := Op.fieldAddr 41 (Operand.tmp 1) 4, type := 0, pos := _, after := _, guard := none }) (v := ?_) rfl (by kernel_rfl) (by kernel_rfl) (by kernel_rfl) (by kernel_rfl) (by kernel_rfl) (by decide) (fun _ _ _ h => h) (Or.inl ⟨by rfl, ?_⟩) hHeld ?_
  rotate_left
  · (intro w hSw; (try dsimp only at hSw); go_simp; (try with_reducible rfl))
  (try simp only [Act.put, List.setIfInBounds_toArray, List.set_cons_zero, List.set_cons_succ])
  refine anyK.take (i := 7) (oi := { dst := some 10, op := Op.load 39 (Operand.tmp 9), type := 39, pos := _, after := _, guard := none }) (v := ?_) rfl (by kernel_rfl) (by kernel_rfl) (by kernel_rfl) (by kernel_rfl) (by kernel_rfl) (by decide) (fun _ _ _ h => h) (Or.inl ⟨by rfl, ?_⟩) hHeld ?_
  rotate_left
  · (intro w hSw; (try dsimp only at hSw); go_simp; (try with_reducible rfl))
  (try simp only [Act.put, List.setIfInBounds_toArray, List.set_cons_zero, List.set_cons_succ])
  refine anyK.one (i := 2) (o := { dst := some 5, op := Op.call { callee := Callee.value (Operand.func 130), args := #[Operand.tmp 4], argTypes := #[37] }, type := 37, pos := _, after := _, guard := none }) (by kernel_rfl) rfl (fun K hK => ?_)
  (try go_simp)
  (go_at_call 130; refine (HSC.out _ (by first | exact hbZ | exact hbZ.drew | exact below_drewN hbZ _)).mono ?_; rintro e wz ⟨u1, rfl, o1, hb1⟩; have o1 := owns_base (b' := X.heap.size) o1 (by first | exact hbZ.size | (simp; done) | exact Nat.le_refl _); obtain ⟨a1, k1, rfl⟩ := owns_slice o1; have hbZ := Below.trans (show Below X.heap.size X _ from (by first | exact hbZ | exact hbZ.drew | exact below_drewN hbZ _)) (hb1.mono (by first | exact hbZ.size | (simp; exact hbZ.size))); obtain ⟨_, _, c2, c3, c4, _, _, z2, z3, z4⟩ := HC1.out.below hbZ)
  refine hK.out _ _ (fun _ => ?_) ?_
  · exact ⟨c2, c3, c4⟩
  clear hHeld
  have hHeld := (by exact ⟨c2, c3, c4⟩ : (fun w' => w'.cell? ⟨w.heap.size, 2, none⟩ = some (.slice sa x.says.length sc) ∧ w'.cell? ⟨w.heap.size, 3, none⟩ = some (.slice ua x.uses.length uc) ∧ w'.cell? ⟨w.heap.size, 4, none⟩ = some (.slice pa x.proof.length pc)) wz)
  clear hK K
  (try simp only [Act.put, List.setIfInBounds_toArray, List.set_cons_zero, List.set_cons_succ])
  refine anyK.take (i := 9) (oi := { dst := some 12, op := Op.fieldAddr 41 (Operand.tmp 1) 2, type := 0, pos := _, after := _, guard := none }) (v := ?_) rfl (by kernel_rfl) (by kernel_rfl) (by kernel_rfl) (by kernel_rfl) (by kernel_rfl) (by decide) (fun _ _ _ h => h) (Or.inl ⟨by rfl, ?_⟩) hHeld ?_
  rotate_left
  · (intro w hSw; (try dsimp only at hSw); go_simp; (try with_reducible rfl))
  (try simp only [Act.put, List.setIfInBounds_toArray, List.set_cons_zero, List.set_cons_succ])
  refine anyK.one (i := 5) (o := { dst := some 8, op := Op.call { callee := Callee.value (Operand.func 131), args := #[Operand.tmp 7], argTypes := #[38] }, type := 38, pos := _, after := _, guard := none }) (by kernel_rfl) rfl (fun K hK => ?_)
  (try go_simp)
  (go_at_call 131; refine (HUC.out _ (by first | exact hbZ | exact hbZ.drew | exact below_drewN hbZ _)).mono ?_; rintro e wz ⟨u2, rfl, o2, hb1⟩; have o2 := owns_base (b' := X.heap.size) o2 (by first | exact hbZ.size | (simp; done) | exact Nat.le_refl _); obtain ⟨a2, k2, rfl⟩ := owns_slice o2; have o1 := owns_below o1 hb1; have hbZ := Below.trans (show Below X.heap.size X _ from (by first | exact hbZ | exact hbZ.drew | exact below_drewN hbZ _)) (hb1.mono (by first | exact hbZ.size | (simp; exact hbZ.size))); obtain ⟨_, _, c2, c3, c4, _, _, z2, z3, z4⟩ := HC1.out.below hbZ)
  refine hK.out _ _ (fun _ => ?_) ?_
  · exact ⟨c2, c3, c4⟩
  clear hHeld
  have hHeld := (by exact ⟨c2, c3, c4⟩ : (fun w' => w'.cell? ⟨w.heap.size, 2, none⟩ = some (.slice sa x.says.length sc) ∧ w'.cell? ⟨w.heap.size, 3, none⟩ = some (.slice ua x.uses.length uc) ∧ w'.cell? ⟨w.heap.size, 4, none⟩ = some (.slice pa x.proof.length pc)) wz)
  clear hK K
  (try simp only [Act.put, List.setIfInBounds_toArray, List.set_cons_zero, List.set_cons_succ])
  refine anyK.one (i := 8) (o := { dst := some 11, op := Op.call { callee := Callee.value (Operand.func 132), args := #[Operand.tmp 10], argTypes := #[39] }, type := 39, pos := _, after := _, guard := none }) (by kernel_rfl) rfl (fun K hK => ?_)
  (try go_simp)
  (go_at_call 132; refine (HPC.out _ (by first | exact hbZ | exact hbZ.drew | exact below_drewN hbZ _)).mono ?_; rintro e wz ⟨u3, rfl, o3, hb1⟩; have o3 := owns_base (b' := X.heap.size) o3 (by first | exact hbZ.size | (simp; done) | exact Nat.le_refl _); obtain ⟨a3, k3, rfl⟩ := owns_slice o3; have o1 := owns_below o1 hb1; have o2 := owns_below o2 hb1; have hbZ := Below.trans (show Below X.heap.size X _ from (by first | exact hbZ | exact hbZ.drew | exact below_drewN hbZ _)) (hb1.mono (by first | exact hbZ.size | (simp; exact hbZ.size))); obtain ⟨_, _, c2, c3, c4, _, _, z2, z3, z4⟩ := HC1.out.below hbZ)
  refine hK.out _ _ (fun _ => ?_) ?_
  · exact ⟨c2, c3, c4⟩
  clear hHeld
  have hHeld := (by exact ⟨c2, c3, c4⟩ : (fun w' => w'.cell? ⟨w.heap.size, 2, none⟩ = some (.slice sa x.says.length sc) ∧ w'.cell? ⟨w.heap.size, 3, none⟩ = some (.slice ua x.uses.length uc) ∧ w'.cell? ⟨w.heap.size, 4, none⟩ = some (.slice pa x.proof.length pc)) wz)
  clear hK K
  (try simp only [Act.put, List.setIfInBounds_toArray, List.set_cons_zero, List.set_cons_succ])
  refine anyK.one (i := 10) (o := { dst := none, op := Op.store 37 (Operand.tmp 12) (Operand.tmp 5), type := 0, pos := _, after := _, guard := none }) (by kernel_rfl) rfl (fun K hK => ?_)
  (try go_simp)
  refine hK.out _ _ (fun h => absurd h (by decide)) ?_
  clear hK K
  (try simp only [Act.put, List.setIfInBounds_toArray, List.set_cons_zero, List.set_cons_succ])
  refine anyK.one (i := 11) (o := { dst := some 13, op := Op.fieldAddr 41 (Operand.tmp 1) 3, type := 0, pos := _, after := _, guard := none }) (by kernel_rfl) rfl (fun K hK => ?_)
  (try go_simp)
  refine hK.out _ _ (fun h => absurd h (by decide)) ?_
  clear hK K
  (try simp only [Act.put, List.setIfInBounds_toArray, List.set_cons_zero, List.set_cons_succ])
  refine anyK.one (i := 12) (o := { dst := none, op := Op.store 38 (Operand.tmp 13) (Operand.tmp 8), type := 0, pos := _, after := _, guard := none }) (by kernel_rfl) rfl (fun K hK => ?_)
  (try go_simp)
  refine hK.out _ _ (fun h => absurd h (by decide)) ?_
  clear hK K
  (try simp only [Act.put, List.setIfInBounds_toArray, List.set_cons_zero, List.set_cons_succ])
  refine anyK.one (i := 13) (o := { dst := some 14, op := Op.fieldAddr 41 (Operand.tmp 1) 4, type := 0, pos := _, after := _, guard := none }) (by kernel_rfl) rfl (fun K hK => ?_)
  (try go_simp)
  refine hK.out _ _ (fun h => absurd h (by decide)) ?_
  clear hK K
  (try simp only [Act.put, List.setIfInBounds_toArray, List.set_cons_zero, List.set_cons_succ])
  refine anyK.one (i := 14) (o := { dst := none, op := Op.store 39 (Operand.tmp 14) (Operand.tmp 11), type := 0, pos := _, after := _, guard := none }) (by kernel_rfl) rfl (fun K hK => ?_)
  (try go_simp)
  refine hK.out _ _ (fun h => absurd h (by decide)) ?_
  clear hK K
  (try simp only [Act.put, List.setIfInBounds_toArray, List.set_cons_zero, List.set_cons_succ])
  refine anyK.done (by kernel_rfl) ?_ _
  have hXw := HXZ.out
  have hzz := hbZ.size
  have C1z := HC1.out.below hbZ
  have C2z := HC2.out.below hbZ
  have D1 := hid (C1z.set3 (.slice a1 x.says.length k1) (.slice a2 x.uses.length k2) (.slice a3 x.proof.length k3))
  obtain ⟨W3, hW3⟩ : ∃ W3, ((wz.setCell ⟨w.heap.size, 2, none⟩ (.slice a1 x.says.length k1)).setCell ⟨w.heap.size, 3, none⟩ (.slice a2 x.uses.length k2)).setCell ⟨w.heap.size, 4, none⟩ (.slice a3 x.proof.length k3) = W3 := ⟨_, rfl⟩
  have hg3 : ∀ k, k ≠ w.heap.size → W3.heap[k]? = wz.heap[k]? := fun k hk => by
    rw [← hW3, Below.heap_setCell _ _ _ _ hk, Below.heap_setCell _ _ _ _ hk, Below.heap_setCell _ _ _ _ hk]
  have hb3 : Below w.heap.size w W3 := hW3 ▸ ((((HB.out.trans (hbZ.mono HB.out.size)).setCell (p := ⟨w.heap.size, 2, none⟩) (Nat.le_refl _) _).setCell (p := ⟨w.heap.size, 3, none⟩) (Nat.le_refl _) _).setCell (p := ⟨w.heap.size, 4, none⟩) (Nat.le_refl _) _)
  have D2 := hid (C2z.block (hg3 (w.heap.size + 1) (by omega)))
  rw [hW3] at D1 ⊢
  obtain ⟨c0, c1, c2, c3, c4, z0, z1, z2, z3, z4⟩ := D1.out
  obtain ⟨d0, d1, d2, d3, d4, y0, y1, y2, y3, y4⟩ := D2.out
  have HG3 := hid hg3
  have HB3 := hid hb3
  clear hg3 hb3 hW3 C1z C2z hHeld
  go_wp2
  (try simp only [Exit.inBlock, Exit.then])
  clear c0 c1 c2 c3 c4 z0 z1 z2 z3 z4 d0 d1 d2 d3 d4 y0 y1 y2 y3 y4
  obtain ⟨c0, c1, c2, c3, c4, -, -, -, -, -⟩ := D2.out.store (.string x.name) (.string x.who) (.slice a1 x.says.length k1) (.slice a2 x.uses.length k2) (.slice a3 x.proof.length k3)
  have hall : ∀ q, X.heap.size ≤ q → (set5 W3 (w.heap.size + 1) (.string x.name) (.string x.who) (.slice a1 x.says.length k1) (.slice a2 x.uses.length k2) (.slice a3 x.proof.length k3)).heap[q]? = wz.heap[q]? := fun q hq => by rw [heap_set5 _ _ _ _ _ _ _ (by omega), HG3.out q (by omega)]
  have hO : EntO wz X.heap.size (.slice a1 x.says.length k1) (.slice a2 x.uses.length k2) (.slice a3 x.proof.length k3) x := ⟨o1, o2, o3, ls, lu, lp, HNU.out, HN.out, HN2.out⟩
  have hF := hO.blocks (base' := w.heap.size) (by omega) fun q hq _ => hall q hq
  refine bodyPost_ret (v := .agg #[.string x.name, .string x.who, .slice a1 x.says.length k1, .slice a2 x.uses.length k2, .slice a3 x.proof.length k3]) ?_ rfl ⟨_, rfl, ⟨_, _, _, rfl, hF⟩, set5_below HB3.out (by omega) _ _ _ _ _⟩
  unfold set5 at c0 c1 c2 c3 c4
  clear hall hO hF
  simp only [results, Tryz.results79]
  go_simp
set_option maxHeartbeats 2000000 in
set_option maxRecDepth 100000 in
theorem ref9_copied (vS vU vP : Value) (x : En) (w : World) (he : EntAt w vS vU vP x) (ls : x.says.length ≤ 1000) (lu : x.uses.length ≤ 1000) (lp : x.proof.length ≤ 1000) :
    Calls Tryz.prog 82 #[.agg #[.string x.name, .string x.who, vS, vU, vP]] w fun e w' => ∃ v, e = .returned v ∧ EnO w' w.heap.size v x ∧ Below w.heap.size w w' := by
  obtain ⟨sa, sc, rfl, -⟩ := he.s.open
  obtain ⟨ua, uc, rfl, -⟩ := he.u.open
  obtain ⟨pa, pc, rfl, -⟩ := he.p.open
  have hC5 := C5.new w (.string x.name) (.string x.who) (.slice sa x.says.length sc) (.slice ua x.uses.length uc) (.slice pa x.proof.length pc) 41
  have hbV : Below w.heap.size w (w.alloc (.cells #[.string x.name, .string x.who, .slice sa x.says.length sc, .slice ua x.uses.length uc, .slice pa x.proof.length pc] 41)) := (Below.refl _ _).alloc (Nat.le_refl _) _
  obtain ⟨V, hV⟩ : ∃ V, w.alloc (.cells #[.string x.name, .string x.who, .slice sa x.says.length sc, .slice ua x.uses.length uc, .slice pa x.proof.length pc] 41) = V := ⟨_, rfl⟩
  have hVz : V.heap.size = w.heap.size + 1 := by rw [← hV]; simp
  rw [hV] at hC5 hbV
  have hR5 := C5.new V (.string ⟨#[]⟩) (.string ⟨#[]⟩) (.slice none 0 0) (.slice none 0 0) (.slice none 0 0) 41
  have hbX : Below V.heap.size V (V.alloc (.cells #[.string ⟨#[]⟩, .string ⟨#[]⟩, .slice none 0 0, .slice none 0 0, .slice none 0 0] 41)) := (Below.refl _ _).alloc (Nat.le_refl _) _
  obtain ⟨X, hX⟩ : ∃ X, V.alloc (.cells #[.string ⟨#[]⟩, .string ⟨#[]⟩, .slice none 0 0, .slice none 0 0, .slice none 0 0] 41) = X := ⟨_, rfl⟩
  have hXz : X.heap.size = w.heap.size + 2 := by rw [← hX, World.size_alloc, hVz]
  rw [hX] at hR5 hbX
  rw [hVz] at hR5
  have C1 := hC5.below hbX
  have hb := hbV.trans (hbX.mono hbV.size)
  have hXe : (w.alloc (.cells #[.string x.name, .string x.who, .slice sa x.says.length sc, .slice ua x.uses.length uc, .slice pa x.proof.length pc] 41)).alloc (.cells #[.string ⟨#[]⟩, .string ⟨#[]⟩, .slice none 0 0, .slice none 0 0, .slice none 0 0] 41) = X := by rw [hV, hX]
  -- the first copy
  have hb1a : Below w.heap.size w (X.alloc (.cells #[] 3)) := hb.alloc (by omega) _
  have hO1 := lit_own (w := X) (base := X.heap.size) (e := 3) 1 (Nat.le_refl _)
  have hR1 : RowK (X.alloc (.cells #[] 3)) _ 1 _ _ := he.s.below hb1a
  have hCa := C1.below (show Below X.heap.size X (X.alloc (.cells #[] 3)) from (Below.refl _ _).alloc (Nat.le_refl _) _)
  have hDa := hR5.below (show Below X.heap.size X (X.alloc (.cells #[] 3)) from (Below.refl _ _).alloc (Nat.le_refl _) _)
  have hza : (X.alloc (.cells #[] 3)).heap.size = w.heap.size + 3 := by rw [World.size_alloc, hXz]
  have hXz' : X.heap.size = w.heap.size + 1 + 1 := by omega
  rw [hXz'] at hO1
  have HE := hid he
  have HN := hid he.n1
  have HN2 := hid he.n2
  have HNU := hid he.u.2
  have HXA : Hid (((w.alloc (.cells #[.string x.name, .string x.who, .slice sa x.says.length sc, .slice ua x.uses.length uc, .slice pa x.proof.length pc] 41)).alloc (.cells #[.string ⟨#[]⟩, .string ⟨#[]⟩, .slice none 0 0, .slice none 0 0, .slice none 0 0] 41)).alloc (.cells #[] 3) = X.alloc (.cells #[] 3)) := hid (by rw [hXe])
  obtain ⟨XA, hXA⟩ : ∃ XA, X.alloc (.cells #[] 3) = XA := ⟨_, rfl⟩
  rw [hXA] at HXA hO1 hR1 hCa hDa hza hb1a
  have HO1 := hid hO1
  have HR1 := hid hR1
  have HCA := hid hCa
  have HDA := hid hDa
  have HB1 := hid hb1a
  have HZA := hid hza
  clear hC5 hbV hV hVz hbX hX hR5 hb he hXe hb1a hO1 hR1 hCa hDa hza hXA C1 hXz hXz' X
  go_enter Tryz.func82, Tryz.ntmps82
  go_wp2_with (first
    | (at_builtin; rw [HXA.out]; refine wpList_append_row rfl (.tmp 3) (.tmp 5) 37 rfl (w.heap.size + 1 + 1) 3 el_int Tryz.underlying37 rfl (by decide) _ _ _ rfl HO1.out _ x.says.length (x.says.map (Value.int .i64)) rfl HR1.out (ints_one _) (by omega) (by omega) (by rw [HZA.out]; omega) ?_
       intro v1 w1 own1' grow1 _
       have own1 : w1.ownsRow (w.heap.size + 1 + 1) 3 1 v1 x.says.length (x.says.map (Value.int .i64)) := (by simpa using own1')
       have gb1 := grow1.block
       have gz1 := grow1.size
       have bw1 := HB1.out.grown grow1 (by rw [HZA.out]; omega) (fun q hq => by cases hq; show w.heap.size ≤ w.heap.size + 1 + 1; omega)
       have C1 := HCA.out.block (gb1 w.heap.size (by rw [HZA.out]; omega) (fun e => by have e2 : w.heap.size = w.heap.size + 1 + 1 := Option.some.inj e; omega))
       have D1 := HDA.out.block (gb1 (w.heap.size + 1) (by rw [HZA.out]; omega) (fun e => by have e2 : w.heap.size + 1 = w.heap.size + 1 + 1 := Option.some.inj e; omega))
       obtain ⟨a1, k1, rfl⟩ := owns_slice own1
       have C1s := C1.set_2 (.slice a1 x.says.length k1)
       have D1s := D1.block (w' := w1.setCell ⟨w.heap.size, 2, none⟩ (.slice a1 x.says.length k1)) (Below.heap_setCell _ _ _ _ (by simp))
       have bw1s := bw1.setCell (p := ⟨w.heap.size, 2, none⟩) (Nat.le_refl _) (.slice a1 x.says.length k1)
       have own1s := owns_blocks (W' := w1.setCell ⟨w.heap.size, 2, none⟩ (.slice a1 x.says.length k1)) own1 (fun q h1 _ _ => Below.heap_setCell _ _ _ _ (by simp only; omega))
       have zs1 : (w1.setCell ⟨w.heap.size, 2, none⟩ (.slice a1 x.says.length k1)).heap.size = w1.heap.size := (by simp)
       have z1w : w.heap.size + 3 ≤ w1.heap.size := (by have := HZA.out; omega)
       have hO2 := lit_own (w := w1.setCell ⟨w.heap.size, 2, none⟩ (.slice a1 x.says.length k1)) (base := w1.heap.size) (e := 9) 1 (by rw [zs1]; exact Nat.le_refl _)
       rw [zs1] at hO2
       have bw2a := bw1s.alloc (by rw [zs1]; omega) (.cells #[] 9)
       have hR2 := HE.out.u.1.below bw2a
       have bA2 := (Below.refl (w1.setCell ⟨w.heap.size, 2, none⟩ (.slice a1 x.says.length k1)).heap.size (w1.setCell ⟨w.heap.size, 2, none⟩ (.slice a1 x.says.length k1))).alloc (Nat.le_refl _) (.cells #[] 9)
       have C2a := hid (C1s.below bA2)
       have D2a := hid (D1s.below bA2)
       have own1a := hid (owns_below own1s bA2)
       have O1L := hid (fun q h => (own1.lt q h).2)
       have Z2a := hid (show ((w1.setCell ⟨w.heap.size, 2, none⟩ (.slice a1 x.says.length k1)).alloc (.cells #[] 9)).heap.size = w1.heap.size + 1 from (by rw [World.size_alloc, zs1]))
       have B2a := hid bw2a
       have Z1W := hid z1w
       have lt1 : w.heap.size < w1.heap.size := (by omega)
       have lt1' : w.heap.size + 1 < w1.heap.size := (by omega)
       obtain ⟨c0, c1, c2, c3, c4, z0, z1, z2, z3, z4⟩ := C1
       clear C1s D1s bw1s own1s zs1 z1w bw2a bA2 D1 bw1 gb1 gz1 own1' own1 grow1)
    | (at_builtin; refine wpList_append_row rfl (.tmp 8) (.tmp 10) 38 rfl w1.heap.size 9 el_str Tryz.underlying38 rfl (by decide) _ _ _ rfl hO2 _ x.uses.length (x.uses.map Value.string) rfl hR2 (strs_one _) (by omega) (by omega) (by rw [Z2a.out]; omega) ?_
       intro v2 w2 own2' grow2 _
       have own2 : w2.ownsRow w1.heap.size 9 1 v2 x.uses.length (x.uses.map Value.string) := (by simpa using own2')
       have gb2 : ∀ q, q < w1.heap.size → w2.heap[q]? = _ := fun q hq => grow2.block q (by rw [Z2a.out]; omega) (fun e => by have e2 : q = w1.heap.size := Option.some.inj e; omega)
       have gz2 := grow2.size
       have bw2 := B2a.out.grown grow2 (by rw [Z2a.out]; omega) (fun q hq => by cases hq; show w.heap.size ≤ w1.heap.size; omega)
       have C2 := C2a.out.block (gb2 w.heap.size lt1)
       have D2 := D2a.out.block (gb2 (w.heap.size + 1) lt1')
       have own1b := owns_blocks own1a.out (fun q h1 h2 h3 => gb2 q (O1L.out q h3))
       obtain ⟨a2, k2, rfl⟩ := owns_slice own2
       have C2s := C2.set_3 (.slice a2 x.uses.length k2)
       have D2s := D2.block (w' := w2.setCell ⟨w.heap.size, 3, none⟩ (.slice a2 x.uses.length k2)) (Below.heap_setCell _ _ _ _ (by simp))
       have bw2s := bw2.setCell (p := ⟨w.heap.size, 3, none⟩) (Nat.le_refl _) (.slice a2 x.uses.length k2)
       have own1s := owns_blocks (W' := w2.setCell ⟨w.heap.size, 3, none⟩ (.slice a2 x.uses.length k2)) own1b (fun q h1 _ _ => Below.heap_setCell _ _ _ _ (by simp only; omega))
       have own2s := owns_blocks (W' := w2.setCell ⟨w.heap.size, 3, none⟩ (.slice a2 x.uses.length k2)) own2 (fun q h1 _ _ => Below.heap_setCell _ _ _ _ (by simp only; omega))
       have zs2 : (w2.setCell ⟨w.heap.size, 3, none⟩ (.slice a2 x.uses.length k2)).heap.size = w2.heap.size := (by simp)
       have z2w : w1.heap.size + 1 ≤ w2.heap.size := (by have := Z2a.out; omega)
       have hO3 := lit_own (w := w2.setCell ⟨w.heap.size, 3, none⟩ (.slice a2 x.uses.length k2)) (base := w2.heap.size) (e := 105) 3 (by rw [zs2]; exact Nat.le_refl _)
       rw [zs2] at hO3
       have bw3a := bw2s.alloc (by rw [zs2]; omega) (.cells #[] 105)
       have hR3 : RowK _ _ 3 x.proof.length (stC x.proof) := HE.out.p.below bw3a
       have bA3 := (Below.refl (w2.setCell ⟨w.heap.size, 3, none⟩ (.slice a2 x.uses.length k2)).heap.size (w2.setCell ⟨w.heap.size, 3, none⟩ (.slice a2 x.uses.length k2))).alloc (Nat.le_refl _) (.cells #[] 105)
       have C3a := hid (C2s.below bA3)
       have D3a := hid (D2s.below bA3)
       have own1c := hid (owns_below own1s bA3)
       have own2c := hid (owns_below own2s bA3)
       have O2L := hid (fun q h => (own2.lt q h).2)
       have Z3a := hid (show ((w2.setCell ⟨w.heap.size, 3, none⟩ (.slice a2 x.uses.length k2)).alloc (.cells #[] 105)).heap.size = w2.heap.size + 1 from (by rw [World.size_alloc, zs2]))
       have B3a := hid bw3a
       have Z2W := hid z2w
       have lt2 : w.heap.size < w2.heap.size := (by omega)
       have lt2' : w.heap.size + 1 < w2.heap.size := (by omega)
       clear c0 c1 c2 c3 c4 z0 z1 z2 z3 z4
       obtain ⟨c0, c1, c2, c3, c4, z0, z1, z2, z3, z4⟩ := C2
       clear C2s D2s bw2s own1s own2s zs2 z2w bw3a bA3 D2 bw2 gb2 gz2 own2' own2 grow2 own1b hO2 hR2)
    | (at_builtin; refine wpList_append_row rfl (.tmp 13) (.tmp 15) 39 rfl w2.heap.size 105 el_step Tryz.underlying39 rfl (by decide) _ _ _ rfl hO3 _ x.proof.length (stC x.proof) rfl hR3 (stC_one _) (by omega) (by omega) (by rw [Z3a.out]; omega) ?_
       intro v3 w3 own3' grow3 _
       have own3 : w3.ownsRow w2.heap.size 105 3 v3 x.proof.length (stC x.proof) := (by simpa using own3')
       have gb3 : ∀ q, q < w2.heap.size → w3.heap[q]? = _ := fun q hq => grow3.block q (by rw [Z3a.out]; omega) (fun e => by have e2 : q = w2.heap.size := Option.some.inj e; omega)
       have gz3 := grow3.size
       have bw3 := B3a.out.grown grow3 (by rw [Z3a.out]; omega) (fun q hq => by cases hq; show w.heap.size ≤ w2.heap.size; omega)
       have C3 := C3a.out.block (gb3 w.heap.size lt2)
       have D3 := D3a.out.block (gb3 (w.heap.size + 1) lt2')
       have own1d := owns_blocks own1c.out (fun q h1 h2 h3 => gb3 q (by have := O1L.out q h3; have := Z2W.out; omega))
       have own2d := owns_blocks own2c.out (fun q h1 h2 h3 => gb3 q (O2L.out q h3))
       obtain ⟨a3, k3, rfl⟩ := owns_slice own3
       have hO : EntO w3 (w.heap.size + 2) (.slice a1 x.says.length k1) (.slice a2 x.uses.length k2) (.slice a3 x.proof.length k3) x := ⟨owns_base own1d (by omega), owns_base own2d (by have := Z1W.out; omega), owns_base own3 (by have := Z1W.out; have := Z2W.out; omega), ls, lu, lp, HNU.out, HN.out, HN2.out⟩
       have C3s := C3.set4 (.slice a3 x.proof.length k3)
       have D3s := D3.block (w' := w3.setCell ⟨w.heap.size, 4, none⟩ (.slice a3 x.proof.length k3)) (Below.heap_setCell _ _ _ _ (by simp))
       have bw3s := bw3.setCell (p := ⟨w.heap.size, 4, none⟩) (Nat.le_refl _) (.slice a3 x.proof.length k3)
       have HOO := hid hO
       have HC3 := hid C3s
       have HD3 := hid D3s
       have HB3 := hid bw3s
       clear c0 c1 c2 c3 c4 z0 z1 z2 z3 z4
       obtain ⟨c0, c1, c2, c3, c4, z0, z1, z2, z3, z4⟩ := C3
       obtain ⟨d0, d1, d2, d3, d4, y0, y1, y2, y3, y4⟩ := D3
       clear own1d own2d own3 own3' grow3 gb3 gz3 bw3 C3s D3s bw3s hO hO3 hR3))
  (try simp only [Exit.inBlock, Exit.then])
  clear c0 c1 c2 c3 c4 z0 z1 z2 z3 z4 d0 d1 d2 d3 d4 y0 y1 y2 y3 y4
  obtain ⟨c0, c1, c2, c3, c4, -, -, -, -, -⟩ := HD3.out.store (.string x.name) (.string x.who) (.slice a1 x.says.length k1) (.slice a2 x.uses.length k2) (.slice a3 x.proof.length k3)
  have hall : ∀ q, w.heap.size + 2 ≤ q → (set5 (w3.setCell ⟨w.heap.size, 4, none⟩ (.slice a3 x.proof.length k3)) (w.heap.size + 1) (.string x.name) (.string x.who) (.slice a1 x.says.length k1) (.slice a2 x.uses.length k2) (.slice a3 x.proof.length k3)).heap[q]? = w3.heap[q]? := fun q hq => by rw [heap_set5 _ _ _ _ _ _ _ (by omega)]; exact Below.heap_setCell _ _ _ _ (by simp only; omega)
  have hF := HOO.out.blocks (base' := w.heap.size) (by omega) fun q hq _ => hall q hq
  refine bodyPost_ret (v := .agg #[.string x.name, .string x.who, .slice a1 x.says.length k1, .slice a2 x.uses.length k2, .slice a3 x.proof.length k3]) ?_ rfl ⟨_, rfl, ⟨_, _, _, rfl, hF⟩, set5_below HB3.out (by omega) _ _ _ _ _⟩
  unfold set5 at c0 c1 c2 c3 c4
  clear hall hF
  simp only [results, Tryz.results82]
  go_simp
end Go.Proofs.YtlbjbmpkaniojaaGreat
namespace Go.Proofs.YtlbjbmpkaniojaaGreat
open Go Go.RowKit Go.Maps
def EntQO (R : En → Int → Prop) (w : World) (e : Ending) (w' : World) : Prop := ∃ x vS vU vP er, R x er ∧ e = .returned (.tuple #[.agg #[.string x.name, .string x.who, vS, vU, vP], .int .i64 er]) ∧ EntO w' w.heap.size vS vU vP x ∧ Below w.heap.size w w'
theorem EntQO.mk {R : En → Int → Prop} {w : World} {e : Ending} {w' : World} (x : En) (vS vU vP : Value) (er : Int) (h1 : R x er) (h2 : e = .returned (.tuple #[.agg #[.string x.name, .string x.who, vS, vU, vP], .int .i64 er])) (h3 : EntO w' w.heap.size vS vU vP x) (h4 : Below w.heap.size w w') : EntQO R w e w' := ⟨x, vS, vU, vP, er, h1, h2, h3, h4⟩
theorem EntO.zero (w : World) (base : Nat) : EntO w base (.slice none 0 0) (.slice none 0 0) (.slice none 0 0) en0 :=
  ⟨World.ownsRow_nil _ _ _ _, World.ownsRow_nil _ _ _ _, World.ownsRow_nil _ _ _ _, by simp [en0], by simp [en0], by simp [en0], by simp [en0], by simp [en0, ByteArray.size], by simp [en0, ByteArray.size]⟩
theorem EntQO.zero {R : En → Int → Prop} {w w' : World} {er : Int} (h1 : R en0 er) (h4 : Below w.heap.size w w') : EntQO R w (.returned (.tuple #[.agg #[.string ⟨#[]⟩, .string ⟨#[]⟩, .slice none 0 0, .slice none 0 0, .slice none 0 0], .int .i64 er])) w' := ⟨en0, _, _, _, er, h1, rfl, EntO.zero _ _, h4⟩
end Go.Proofs.YtlbjbmpkaniojaaGreat
