/-
  WHAT IT HOLDS: a law for a range over a function whose iterator tells of what it hands over (in the world where it does) and whose rounds turn blocks of their own; append and maps inside a round. Over any program. No condition.
  WHAT IT HOLDS: the law for a range over a function (Rfl) for a body that keeps what it was handed: the relation need only be kept while the world grows and while the loop's record turns. Over any program. No condition.
  WHAT IT HOLDS: the law for a range over a function whose iterator changes blocks of its own between the rounds (O: these blocks): the twin of wpIn_rangeG. Over any program. No condition.
-/
import Derived.RangeFuncNested
import Derived.RangeFuncBound
import Derived.RangeFuncCalls
import Derived.RangeFuncLeaves
import Derived.Shelf.RegionOpen
import Derived.OwnWalkIn
import Derived.TacticsInMore
import Derived.LoopNIn
import Derived.LoopIn
import Derived.Test.YtmpjaakkjhmpmaaGreatDoorZRShortCites13
namespace Go.Proofs.YtmpjaakkjhmpmaaGreatDoor
open Go Go.RowKit Go.Maps
/-! ### blocks that are turned -/
structure Kb (M : Nat → Prop) (W W' : World) : Prop where
  os : W'.os = W.os
  tape : W'.tape = W.tape
  output : W'.output = W.output
  size : W.heap.size ≤ W'.heap.size
  same : ∀ k, k < W.heap.size → ¬ M k → W'.heap[k]? = W.heap[k]?
theorem Kb.refl (M : Nat → Prop) (W : World) : Kb M W W := ⟨rfl, rfl, rfl, Nat.le_refl _, fun _ _ _ => rfl⟩
theorem Kb.trans {M M' : Nat → Prop} {A B C : World} (h : Kb M A B) (k : Kb M' B C) (hM : ∀ q, M' q → M q ∨ A.heap.size ≤ q) : Kb M A C :=
  ⟨k.os.trans h.os, k.tape.trans h.tape, k.output.trans h.output, Nat.le_trans h.size k.size, fun q hq hn => (k.same q (Nat.lt_of_lt_of_le hq h.size) (fun hm => by rcases hM q hm with h1 | h1 <;> first | exact hn h1 | omega)).trans (h.same q hq hn)⟩
theorem Kb.of_below {M : Nat → Prop} {A B : World} (h : Below A.heap.size A B) : Kb M A B := ⟨h.os, h.tape, h.output, h.size, fun k hk _ => h.block k hk⟩
theorem Kb.below {M : Nat → Prop} {b : Nat} {A B : World} (h : Kb M A B) (hb : b ≤ A.heap.size) (hM : ∀ k, M k → b ≤ k) : Below b A B :=
  ⟨h.os, h.tape, h.output, h.size, fun k hk => h.same k (by omega) (fun hm => by have := hM k hm; omega)⟩
theorem Kb.mono {M M' : Nat → Prop} {A B : World} (h : Kb M A B) (hM : ∀ k, k < A.heap.size → M k → M' k) : Kb M' A B := ⟨h.os, h.tape, h.output, h.size, fun k hk hn => h.same k hk fun hm => hn (hM k hk hm)⟩
theorem Kb.put {M : Nat → Prop} {A : World} {l : Nat} (o : Obj) (hl : M l) : Kb M A (A.putObj l o) :=
  ⟨rfl, rfl, rfl, by simp, fun k _ hn => World.putObj_heap_other (fun e => hn (e ▸ hl))⟩
theorem Kb.grown {M : Nat → Prop} {A B : World} {row : Option Nat} (h : A.grownBy B row) (hr : ∀ k, row = some k → M k ∨ A.heap.size ≤ k) : Kb M A B :=
  ⟨h.os, h.tape, h.output, h.size, fun k hk hn => h.block k hk (fun e => by rcases hr k e.symm with h1 | h1 <;> first | exact hn h1 | omega)⟩
theorem Kb.setCell {M : Nat → Prop} {A : World} {p : Addr} (v : Value) (hl : M p.block) : Kb M A (A.setCell p v) :=
  ⟨rfl, rfl, rfl, by simp, fun k _ hn => Below.heap_setCell _ _ _ k (fun e => hn (e ▸ hl))⟩
theorem Kb.alloc {M : Nat → Prop} {A : World} (o : Obj) : Kb M A (A.alloc o) := Kb.of_below ((Below.refl _ _).alloc (Nat.le_refl _) _)
theorem Kb.drewN {M : Nat → Prop} {A : World} (n : Nat) : Kb M A (A.drewN n) := Kb.of_below (below_self_drewN _ n)
/-- what speaks of blocks below B and of its own alone. -/
def Frm (B : Nat) (I : (Nat → Prop) → World → Prop) : Prop := ∀ (M : Nat → Prop) (W W' : World), I M W → Kb (fun k => B ≤ k ∧ ¬ M k) W W' → I M W'
theorem Frm.below {B : Nat} {I : (Nat → Prop) → World → Prop} (h : Frm B I) {M : Nat → Prop} {W W' : World} (hi : I M W) (hb : Below W.heap.size W W') : I M W' := h M W W' hi (Kb.of_below hb)
theorem Frm.put {B : Nat} {I : (Nat → Prop) → World → Prop} (h : Frm B I) {M : Nat → Prop} {W : World} {l : Nat} (o : Obj) (hi : I M W) (hl : B ≤ l) (hm : ¬ M l) : I M (W.putObj l o) := h M W _ hi (Kb.put o ⟨hl, hm⟩)
/-- the contract of an iterator: it hands over elements of which E holds; N: the blocks that it needs as they are. -/
def SeqE (P : Program) {α : Type} (g : Nat) (lb : Array Value) (encs : α → Array Value) (E : List α → α → World → Prop) (S : List α → Prop) (N : Nat → Prop) (w0 : World) : Prop :=
  ∀ (l : Nat) (J Jx : List α → (Nat → Prop) → World → Prop) (M0 : Nat → Prop) (W : World), Below w0.heap.size w0 W → (∀ k, M0 k → ¬ N k ∧ k < W.heap.size) →
    (∀ pre M A B, J pre M A → Below A.heap.size A B → J pre M B) → (∀ pre M A B, Jx pre M A → Below A.heap.size A B → Jx pre M B) →
    (∀ pre x M W1, J pre M W1 → E pre x W1 → YieldAt Fence.wide 1 P l (encs x) W1 fun e W' => ∃ M', (∀ k, M' k → M k ∨ W1.heap.size ≤ k) ∧ Kb M W1 W' ∧
      ((e = .returned (.bool true) ∧ J (pre ++ [x]) M' W') ∨ (e = .returned (.bool false) ∧ Jx (pre ++ [x]) M' W'))) →
    J [] M0 W →
    CallsIn Fence.wide 2 P g (#[.func (.yield l) #[] #[]] ++ lb) W fun e W' => (∃ v, e = .returned v) ∧ ((∃ xs M, S xs ∧ J xs M W') ∨ (∃ pre M, Jx pre M W'))
/-- how a round may be left; B: the heap's size where the round began. -/
def rpost {α : Type} (I : List α → (Nat → Prop) → World → Prop) (Ix : Code → List α → (Nat → Prop) → World → Prop) (xs : List α) (M : Nat → Prop) (B : Nat) (W : World) : Exit → Act → World → Prop
  | .normal, _, W' => ∃ M', (∀ k, M' k → (M k ∨ B ≤ k) ∧ k < W'.heap.size) ∧ Kb (fun k => M k ∨ B ≤ k) W W' ∧ I xs M' W'
  | .ret, _, W' => ∃ M', (∀ k, M' k → (M k ∨ B ≤ k) ∧ k < W'.heap.size) ∧ Kb (fun k => M k ∨ B ≤ k) W W' ∧ Ix .ret xs M' W'
  | .exit id, _, W' => ∃ M', (∀ k, M' k → (M k ∨ B ≤ k) ∧ k < W'.heap.size) ∧ Kb (fun k => M k ∨ B ≤ k) W W' ∧ Ix (.exit id) xs M' W'
  | .goto t, _, W' => ∃ M', (∀ k, M' k → (M k ∨ B ≤ k) ∧ k < W'.heap.size) ∧ Kb (fun k => M k ∨ B ≤ k) W W' ∧ Ix (.goto t) xs M' W'
  | .panic _, _, _ => False
  | .outgrown, _, _ => False
/-- the loop's record has been turned. -/
def RecT (l : Nat) (W W2 : World) : Prop := ∃ o : Obj, W2 = W.putObj l o
theorem calls_marks {P : Program} {f : FuncId} {fn : Func} {c : Code} {args : Array Value} {w : World} {R : Ending → World → Prop} (hf : P.funcs[f]? = some fn) (hb : fn.body = some c)
    (h : c.wp P (bodyPostM Fence.wide 3 P fn R) { tmps := args ++ Array.replicate (fn.ntmps - args.size) undef, defers := [] } w) : Calls P f args w R :=
  callsIn_wide.1 (callsIn_of_wp_marks hf hb trivial (wpIn_wide.2 h) rfl)
theorem leave_mark {P : Program} {fn : Func} {R : Ending → World → Prop} {tmps : Array Value} {w : World} {v : Value} {D : Nat} (hD : w.heap[D]? = some (.deferred (some []))) (hv : (results fn tmps).run P (w.putObj D (.deferred none)) = .ok v (w.putObj D (.deferred none))) (hR : R (.returned v) (w.putObj D (.deferred none))) :
    bodyPostM Fence.wide 3 P fn R .ret { tmps := tmps, defers := [{ target := .collected D, args := #[] }] } w :=
  ⟨by simp, .inl ⟨D, _, rfl, run_takeDeferred hD, v, hv, hR⟩⟩
theorem putObj_cell {w : World} {D : Nat} {o o' : Obj} (h : w.heap[D]? = some o) (ho : o.isCells = false) {a : Addr} {v : Value} (hc : w.cell? a = some v) : (w.putObj D o').cell? a = some v :=
  cell_kept hc (grownBy_putObj' w D o') (fun r e => by cases e; exact ⟨o, h, ho⟩)
theorem putObj_rowK {w : World} {D : Nat} {o o' : Obj} (h : w.heap[D]? = some o) (ho : o.isCells = false) {v : Value} {k n : Nat} {xs : List Value} (hr : RowK w v k n xs) : RowK (w.putObj D o') v k n xs := by
  obtain ⟨h1, a, cap, h2, h3, h4, h5, h6⟩ := hr
  refine ⟨h1, a, cap, h2, h3, h4, h5, fun j u hj => ?_⟩
  obtain ⟨b, q, h7, h8⟩ := h6 j u hj
  exact ⟨b, q, h7, putObj_cell h ho h8⟩
theorem putObj_ints {w : World} {D : Nat} {o o' : Obj} (h : w.heap[D]? = some o) (ho : o.isCells = false) {v : Value} {xs : List Int} (hr : Ints w v xs) : Ints (w.putObj D o') v xs := putObj_rowK h ho hr
theorem putObj_below {n₀ : Nat} {w W : World} {D : Nat} (o : Obj) (h : Below n₀ w W) (hD : n₀ ≤ D) : Below n₀ w (W.putObj D o) :=
  h.trans ⟨rfl, rfl, rfl, by simp, fun k hk => World.putObj_heap_other (by omega)⟩
/-! ### operations in a round -/
theorem wpListIn_append_lie {F : Fence} {m0 : Nat} {P : Program} {w : World} {ops : Array Oper} {rest : List Oper} {o : Oper} {a : Act} {Q : Exit → Act → World → Prop} (hgd : o.guard = none) (s x : Operand) (t : TypeId)
    (ho : o.op = .call { callee := .builtin .append, args := #[s, x], argTypes := #[t, t] })
    (base : Nat) (e : TypeId) {z : Value} {size bytes : Nat} (hE : ElemAt P e z size bytes) (ht : P.underlying t = some (.slice e)) (hzs : z.cells.size = size) (hsz : 0 < size)
    (v : Value) (n : Nat) (xs : List Value) (hs : a.eval s = v) (hown : w.ownsRow base e size v n xs)
    (sv : Value) (m : Nat) (news : List Value) (hx : a.eval x = sv) (hsrc : RowK w sv size m news) (h1 : ∀ u ∈ news, u.oneCell' = true) (hm : 0 < m)
    (hnm : n + m ≤ 140737488355328) (hbytes : (n + m) * bytes ≤ 140737488355328) (hbase : base ≤ w.heap.size) (H : Nat) (hH : w.heap.size = H)
    (h : ∀ g cap w', w'.ownsRow base e size (.slice (some ⟨g, 0, none⟩) (n + m) cap) (n + m) (xs ++ news) → w.grownBy w' v.ownBlock → (v.ownBlock = some g ∨ g = H) → g < w'.heap.size → wpListIn F m0 P ops Q rest (a.put o.dst (.slice (some ⟨g, 0, none⟩) (n + m) cap)) w') : wpListIn F m0 P ops Q (o :: rest) a w := by
  obtain ⟨i, hi, hz0, hz1, hz2⟩ := info_parts hE
  obtain ⟨ad, cap, hsv, hc⟩ := src_parts hsrc hm
  refine wpListIn_plain hgd fun K hK' => ?_
  obtain ⟨g, cap', w', hrun, h2, h3, h4, h5⟩ := run_append_lies (P := P) w t o.type base e i z size bytes ht hi hz0 hz1 hz2 hzs hsz v n xs hown ad m cap news hsrc.1 hc h1 hm (by simp only [maxLen]; omega) hbytes hbase H hH
  unfold Oper.wpIn
  refine ⟨?_, ?_⟩
  · simp [Oper.about, ho, resolve, Target.leads, Sem.run_pure]
  · rw [Oper.semAt_plain F _ _ (by rw [ho]; intro c hc'; cases hc')]
    simp [execOp, ho, resolve, invoke, builtin, hs, hx, hsv, hrun, Result.andThen]
    exact hK' _ _ (h g cap' w' h2 h3 h4 h5)
end Go.Proofs.YtmpjaakkjhmpmaaGreatDoor
namespace Go.Proofs.YtmpjaakkjhmpmaaGreatDoor
open Go Go.RowKit Go.Maps
/-- kept while the world grows, and while the loop's own record (block B + 1) turns. -/
structure Grw (B : Nat) (I : (Nat → Prop) → World → Prop) : Prop where
  grow : ∀ (M : Nat → Prop) (W W' : World), I M W → Below W.heap.size W W' → I M W'
  turn : ∀ (M : Nat → Prop) (W : World) (o o' : Obj), W.heap[B + 1]? = some o → o.isCells = false → I M W → ¬ M (B + 1) → I M (W.putObj (B + 1) o')
theorem Grw.below {B : Nat} {I : (Nat → Prop) → World → Prop} (h : Grw B I) {M : Nat → Prop} {W W' : World} (hi : I M W) {b : Nat} (hb : Below b W W') (he : b = W.heap.size := by rfl) : I M W' := h.grow M W W' hi (he ▸ hb)
theorem Grw.put {B : Nat} {I : (Nat → Prop) → World → Prop} (h : Grw B I) {M : Nat → Prop} {W : World} {o : Obj} (ho : W.heap[B + 1]? = some o) (hc : o.isCells = false) (o' : Obj) (hi : I M W) (hm : ¬ M (B + 1)) : I M (W.putObj (B + 1) o') := h.turn M W o o' ho hc hi hm
/-- the contract of an iterator, as SeqE, but it is told that the blocks that turn are there. -/
def SeqG (P : Program) {α : Type} (g : Nat) (lb : Array Value) (encs : α → Array Value) (E : List α → α → (Nat → Prop) → World → Prop) (S : List α → Prop) (N : Nat → Prop) (w0 : World) : Prop :=
  ∀ (l : Nat) (J Jx : List α → (Nat → Prop) → World → Prop) (M0 : Nat → Prop) (W : World), Below w0.heap.size w0 W → (∀ k, M0 k → ¬ N k ∧ k < W.heap.size) →
    (∀ pre M A B, J pre M A → Below A.heap.size A B → J pre M B) → (∀ pre M A B, Jx pre M A → Below A.heap.size A B → Jx pre M B) →
    (∀ pre x M W1, J pre M W1 → E pre x M W1 → YieldAt Fence.wide 1 P l (encs x) W1 fun e W' => ∃ M', (∀ k, M' k → M k ∨ W1.heap.size ≤ k) ∧ (∀ k, M' k → k < W'.heap.size) ∧ Kb M W1 W' ∧
      ((e = .returned (.bool true) ∧ J (pre ++ [x]) M' W') ∨ (e = .returned (.bool false) ∧ Jx (pre ++ [x]) M' W'))) →
    J [] M0 W →
    CallsIn Fence.wide 2 P g (#[.func (.yield l) #[] #[]] ++ lb) W fun e W' => (∃ v, e = .returned v) ∧ ((∃ xs M, S xs ∧ J xs M W') ∨ (∃ pre M, Jx pre M W'))
theorem wpIn_rangeG {P : Program} {α : Type} {g : Operand} {ps : Array Tmp} {assign body : Code} {Q : Exit → Act → World → Prop} {a : Act} {w : World}
    {gf : Nat} {lb : Array Value} (hg : a.eval g = .func (.func gf) #[] lb) (eg : ∀ args w, (callFunc gf args).run P w = .ok (.enter gf args) w)
    {encs : α → Array Value} {E : List α → α → (Nat → Prop) → World → Prop} {S : List α → Prop} {N : Nat → Prop} {w0 : World} (hseq : SeqG P gf lb encs E S N w0) (hb0 : Below w0.heap.size w0 w) (hps : ∀ x, (encs x).size = ps.size)
    (hE : ∀ pre x (M : Nat → Prop) (W : World) k (o o' : Obj), E pre x M W → M k → W.heap[k]? = some o → o.isCells = false → E pre x M (W.putObj k o')) (hE2 : ∀ pre x (M : Nat → Prop) (A B : World), E pre x M A → Below A.heap.size A B → E pre x M B) (hN : ∀ k, N k → k < w.heap.size)
    (I : List α → (Nat → Prop) → World → Prop) (Ix : Code → List α → (Nat → Prop) → World → Prop) (M0 : Nat → Prop) (hM0 : ∀ k, M0 k → ¬ N k ∧ k < w.heap.size)
    (hI : ∀ pre, Grw w.heap.size (I pre)) (hIx : ∀ c pre, Grw w.heap.size (Ix c pre)) (h0 : I [] M0 w)
    (hround : ∀ (l : Nat) (pre : List α) (x : α) (M : Nat → Prop) (W : World), w.heap.size + 2 ≤ W.heap.size → (∀ k, M k → k ≠ w.heap.size ∧ k ≠ w.heap.size + 1 ∧ k < W.heap.size ∧ ¬ N k) →
      (∀ w₁ W2, Below W.heap.size W w₁ → RecT (w.heap.size + 1) w₁ W2 → I pre M W2 ∧ E pre x (fun k => M k ∨ k = w.heap.size + 1) W2 ∧ W2.heap.size = w₁.heap.size) →
      assign.wpIn (Fence.wide.inRound l) 1 P (Exit.then (fun a₁ w₁ => Below W.heap.size W w₁ ∧ ∀ W2, RecT (w.heap.size + 1) w₁ W2 → body.wpIn (Fence.wide.inRound l) 1 P (rpost I Ix (pre ++ [x]) M W.heap.size W2) a₁ W2) (fun _ _ _ => False))
        { tmps := (ps.zip (encs x)).foldl (fun t (p, v) => t.setIfInBounds p v) a.tmps, defers := [] } W)
    (hdone : ∀ (xs : List α) (M : Nat → Prop) (W : World), S xs → I xs M W → W.heap[w.heap.size]? = some (.deferred (some [])) → (∀ k, M k → k ≠ w.heap.size) → Q .normal { a with defers := { target := .collected w.heap.size, args := #[] } :: a.defers } W)
    (hstop : ∀ (c : Code) (pre : List α) (M : Nat → Prop) (W : World), Ix c pre M W → W.heap[w.heap.size]? = some (.deferred (some [])) → (∀ k, M k → k ≠ w.heap.size) → c.wpIn Fence.wide 3 P Q { a with defers := { target := .collected w.heap.size, args := #[] } :: a.defers } W) :
    (Code.rangeFunc g ps assign body).wpIn Fence.wide 3 P Q a w := by
  refine wpIn_rangeFunc ?_
  intro fn hfn
  obtain ⟨rec, hrec⟩ : ∃ rec : LoopState → Option Code → Loop, rec = fun st pe => { state := st, pending := pe, fn, tmps := a.tmps, params := ps, assign, body, defers := w.heap.size } := ⟨_, rfl⟩
  obtain ⟨W1, hW1⟩ : ∃ W1, (w.alloc (.deferred (some []))).alloc (.loop (rec .ready none)) = W1 := ⟨_, rfl⟩
  have hL1 : W1.heap[w.heap.size + 1]? = some (.loop (rec .ready none)) := by
    rw [← hW1]; have := World.alloc_heap_new (w.alloc (.deferred (some []))) (.loop (rec .ready none)); rwa [World.size_alloc] at this
  have hK1 : W1.heap[w.heap.size]? = some (.deferred (some [])) := by
    rw [← hW1]; exact (Below.heap_alloc _ _ _ (by simp)).trans (World.alloc_heap_new w _)
  have hbw1 : Below w.heap.size w W1 := by rw [← hW1]; exact ((Below.refl _ w).alloc (Nat.le_refl _) _).alloc (by simp) _
  have hsz1 : W1.heap.size = w.heap.size + 2 := by rw [← hW1]; simp
  refine ⟨w.heap.size + 1, [{ target := .collected w.heap.size, args := #[] }], W1, { target := .fn (.func gf) lb, args := #[.func (.yield (w.heap.size + 1)) #[] #[]] }, W1, gf,
    #[.func (.yield (w.heap.size + 1)) #[] #[]] ++ lb, W1, ?_, ?_, ?_, ?_, fun _ => by omega, ?_⟩
  · rw [← hW1, hrec]; exact run_enterLoop_outer _ _ _ _ _
  · simp only [resolve, hg]
    simp [go_sem]
  · intro f' _; trivial
  · simp [invoke, go_sem, eg]
  · refine (hseq (w.heap.size + 1)
      (fun pre Mi W => ∃ M, (∀ k, Mi k ↔ M k ∨ k = w.heap.size + 1) ∧ (∀ k, M k → k ≠ w.heap.size ∧ k ≠ w.heap.size + 1 ∧ k < W.heap.size ∧ ¬ N k) ∧ I pre M W ∧ W.heap[w.heap.size + 1]? = some (.loop (rec .ready none)) ∧ W.heap[w.heap.size]? = some (.deferred (some [])))
      (fun pre Mi W => ∃ c M, (∀ k, M k → k ≠ w.heap.size ∧ k ≠ w.heap.size + 1 ∧ k < W.heap.size) ∧ Ix c pre M W ∧ W.heap[w.heap.size + 1]? = some (.loop (rec .done (some c))) ∧ W.heap[w.heap.size]? = some (.deferred (some [])))
      (fun k => M0 k ∨ k = w.heap.size + 1) W1 (hb0.trans (hbw1.mono hb0.size)) ?_ ?_ ?_ ?_ ⟨M0, fun _ => Iff.rfl, ?_, (hI []).below h0 hbw1, hL1, hK1⟩).mono ?_
    · rintro k (hk | rfl)
      · exact ⟨(hM0 k hk).1, by have := (hM0 k hk).2; omega⟩
      · exact ⟨fun h => by have := hN _ h; omega, by omega⟩
    · rintro pre Mi A B ⟨M, h1, h2, h3, h4, h5⟩ hAB
      exact ⟨M, h1, fun k hk => ⟨(h2 k hk).1, (h2 k hk).2.1, Nat.lt_of_lt_of_le (h2 k hk).2.2.1 hAB.size, (h2 k hk).2.2.2⟩, (hI pre).below h3 hAB, (hAB.block _ (Array.getElem?_eq_some_iff.1 h4).1).trans h4, (hAB.block _ (Array.getElem?_eq_some_iff.1 h5).1).trans h5⟩
    · rintro pre Mi A B ⟨c, M, h2, h3, h4, h5⟩ hAB
      exact ⟨c, M, fun k hk => ⟨(h2 k hk).1, (h2 k hk).2.1, Nat.lt_of_lt_of_le (h2 k hk).2.2 hAB.size⟩, (hIx c pre).below h3 hAB, (hAB.block _ (Array.getElem?_eq_some_iff.1 h4).1).trans h4, (hAB.block _ (Array.getElem?_eq_some_iff.1 h5).1).trans h5⟩
    · rintro pre x Mi W ⟨M, hMi, hM, hi, hl, hk⟩ he
      have hMq : Mi = fun k => M k ∨ k = w.heap.size + 1 := funext fun k => propext (hMi k)
      have hlt : w.heap.size + 1 < W.heap.size := (Array.getElem?_eq_some_iff.1 hl).1
      have hy := run_yield (P := P) (args := encs x) hl (by rw [hrec]; exact hps x)
      rw [hrec] at hy
      have hnl : ¬ M (w.heap.size + 1) := fun h => (hM _ h).2.1 rfl
      refine ⟨fn, _, assign, body, hy, roundIn_of_wpIn hfn (wpIn_mono (hround (w.heap.size + 1) pre x M W (by omega) hM ?_) ?_)⟩
      · rintro w₁ W2 hbw ⟨o, rfl⟩
        have hl1 := (hbw.block _ hlt).trans hl
        exact ⟨(hI pre).put hl1 rfl _ ((hI pre).below hi hbw) hnl, hE pre x _ w₁ _ _ _ (hE2 pre x _ W w₁ (hMq ▸ he) hbw) (Or.inr rfl) hl1 rfl, by simp⟩
      · intro e₁ a₁ w₁ hp₁
        cases e₁ with
        | normal =>
          obtain ⟨hbw, hbody⟩ := hp₁
          have hl1 : w₁.heap[w.heap.size + 1]? = some (.loop (rec .ready none)) := (hbw.block _ hlt).trans hl
          have hk1 : w₁.heap[w.heap.size]? = some (.deferred (some [])) := (hbw.block _ (by omega)).trans hk
          refine ⟨_, run_beginRound hl1 (by rw [hrec]), ?_⟩
          obtain ⟨W2, hW2⟩ : ∃ W2, w₁.putObj (w.heap.size + 1) (.loop { rec .ready none with state := .busy }) = W2 := ⟨_, rfl⟩
          have hl2 : W2.heap[w.heap.size + 1]? = some (.loop { rec .ready none with state := .busy }) := by rw [← hW2]; exact World.putObj_heap_same (by have := hbw.size; omega)
          have hk2 : W2.heap[w.heap.size]? = some (.deferred (some [])) := by rw [← hW2]; exact (World.putObj_heap_other (by omega)).trans hk1
          have hs2 : W2.heap.size = w₁.heap.size := by rw [← hW2]; simp
          have hs1 := hbw.size
          have hkb2 : Kb Mi W W2 := by rw [← hW2]; exact (Kb.of_below hbw).trans (Kb.put (M := Mi) _ ((hMi _).2 (Or.inr rfl))) (fun q hq => Or.inl hq)
          have hb2 := hbody W2 ⟨_, hW2.symm⟩
          have key : ∀ (jump : Option Code) (W3 : World) (M' : Nat → Prop), (∀ k, M' k → M k ∨ W.heap.size ≤ k) → Kb (fun k => M k ∨ W.heap.size ≤ k) W2 W3 →
              (Instr.endRound (w.heap.size + 1) jump).run P W3 = .ok (.bool jump.isNone) (W3.putObj (w.heap.size + 1) (.loop (rec (if jump.isNone then .ready else .done) jump))) ∧
              (W3.putObj (w.heap.size + 1) (.loop (rec (if jump.isNone then .ready else .done) jump))).heap[w.heap.size + 1]? = some (.loop (rec (if jump.isNone then .ready else .done) jump)) ∧
              (W3.putObj (w.heap.size + 1) (.loop (rec (if jump.isNone then .ready else .done) jump))).heap[w.heap.size]? = some (.deferred (some [])) ∧
              Kb Mi W (W3.putObj (w.heap.size + 1) (.loop (rec (if jump.isNone then .ready else .done) jump))) ∧ ¬ M' (w.heap.size + 1) ∧ ¬ M' w.heap.size ∧ W3.heap[w.heap.size + 1]? = some (.loop { rec .ready none with state := .busy }) := by
            intro jump W3 M' hM' hkb
            have hl3 : W3.heap[w.heap.size + 1]? = some (.loop { rec .ready none with state := .busy }) := (hkb.same _ (by omega) (fun h => by rcases h with h | h <;> first | exact hnl h | omega)).trans hl2
            have hk3 : W3.heap[w.heap.size]? = some (.deferred (some [])) := (hkb.same _ (by omega) (fun h => by rcases h with h | h <;> first | exact (hM _ h).1 rfl | omega)).trans hk2
            have hrun := run_endRound (P := P) jump hl3
            refine ⟨by rw [hrec] at hrun ⊢; exact hrun, World.putObj_heap_same (Array.getElem?_eq_some_iff.1 hl3).1, (World.putObj_heap_other (by omega)).trans hk3, ?_, fun h => ?_, fun h => ?_, hl3⟩
            · exact (hkb2.trans hkb (fun q hq => by rcases hq with hq | hq; exact Or.inl ((hMi q).2 (Or.inl hq)); exact Or.inr hq)).trans (Kb.put (M := Mi) _ ((hMi _).2 (Or.inr rfl))) (fun q hq => Or.inl hq)
            · rcases hM' _ h with h1 | h1
              · exact hnl h1
              · omega
            · rcases hM' _ h with h1 | h1
              · exact (hM _ h1).1 rfl
              · omega
          rw [hW2]
          refine wpIn_mono hb2 ?_
          have bnd : ∀ (M' : Nat → Prop) (W3 : World) (o o' : Obj), (∀ k, M' k → k < W3.heap.size) → W3.heap[w.heap.size + 1]? = some o → ∀ k, (M' k ∨ k = w.heap.size + 1) → k < (W3.putObj (w.heap.size + 1) o').heap.size := by
            rintro M' W3 o o' hM' ho k (hk | rfl)
            · simp; exact hM' k hk
            · simp; exact (Array.getElem?_eq_some_iff.1 ho).1
          have fresh : ∀ (M' : Nat → Prop), (∀ k, M' k → M k ∨ W.heap.size ≤ k) → ∀ k, (M' k ∨ k = w.heap.size + 1) → Mi k ∨ W.heap.size ≤ k := by
            rintro M' hM' k (h | rfl)
            · rcases hM' k h with h1 | h1
              · exact Or.inl ((hMi k).2 (Or.inl h1))
              · exact Or.inr (by omega)
            · exact Or.inl ((hMi _).2 (Or.inr rfl))
          rintro e a3 W3 hp
          cases e with
          | normal =>
            obtain ⟨M', hM', hkb, hi3⟩ := hp
            obtain ⟨hr, hl4, hk4, hkb4, hn1, hn2, hl5⟩ := key none W3 M' (fun k hk => (hM' k hk).1) hkb
            refine ⟨_, _, hr, fun k => M' k ∨ k = w.heap.size + 1, fresh M' (fun k hk => (hM' k hk).1), bnd M' _ _ _ (fun k hk => (hM' k hk).2) hl5, hkb4, Or.inl ⟨rfl, M', fun _ => Iff.rfl, fun k hk => ⟨fun e => hn2 (e ▸ hk), fun e => hn1 (e ▸ hk), by simp; exact (hM' k hk).2, ?_⟩, (hI _).put hl5 rfl _ hi3 hn1, hl4, hk4⟩⟩
            rcases (hM' k hk).1 with h1 | h1
            · exact (hM k h1).2.2.2
            · exact fun h => by have := hN k h; omega
          | ret =>
            obtain ⟨M', hM', hkb, hi3⟩ := hp
            obtain ⟨hr, hl4, hk4, hkb4, hn1, hn2, hl5⟩ := key (some .ret) W3 M' (fun k hk => (hM' k hk).1) hkb
            exact ⟨_, _, hr, fun k => M' k ∨ k = w.heap.size + 1, fresh M' (fun k hk => (hM' k hk).1), bnd M' _ _ _ (fun k hk => (hM' k hk).2) hl5, hkb4, Or.inr ⟨rfl, .ret, M', fun k hk => ⟨fun e => hn2 (e ▸ hk), fun e => hn1 (e ▸ hk), by simp; exact (hM' k hk).2⟩, (hIx _ _).put hl5 rfl _ hi3 hn1, hl4, hk4⟩⟩
          | exit id =>
            obtain ⟨M', hM', hkb, hi3⟩ := hp
            obtain ⟨hr, hl4, hk4, hkb4, hn1, hn2, hl5⟩ := key (some (.exit id)) W3 M' (fun k hk => (hM' k hk).1) hkb
            exact ⟨_, _, hr, fun k => M' k ∨ k = w.heap.size + 1, fresh M' (fun k hk => (hM' k hk).1), bnd M' _ _ _ (fun k hk => (hM' k hk).2) hl5, hkb4, Or.inr ⟨rfl, .exit id, M', fun k hk => ⟨fun e => hn2 (e ▸ hk), fun e => hn1 (e ▸ hk), by simp; exact (hM' k hk).2⟩, (hIx _ _).put hl5 rfl _ hi3 hn1, hl4, hk4⟩⟩
          | goto t =>
            obtain ⟨M', hM', hkb, hi3⟩ := hp
            obtain ⟨hr, hl4, hk4, hkb4, hn1, hn2, hl5⟩ := key (some (.goto t)) W3 M' (fun k hk => (hM' k hk).1) hkb
            exact ⟨_, _, hr, fun k => M' k ∨ k = w.heap.size + 1, fresh M' (fun k hk => (hM' k hk).1), bnd M' _ _ _ (fun k hk => (hM' k hk).2) hl5, hkb4, Or.inr ⟨rfl, .goto t, M', fun k hk => ⟨fun e => hn2 (e ▸ hk), fun e => hn1 (e ▸ hk), by simp; exact (hM' k hk).2⟩, (hIx _ _).put hl5 rfl _ hi3 hn1, hl4, hk4⟩⟩
          | panic ch => exact hp.elim
          | outgrown => exact hp.elim
        | ret => exact hp₁.elim
        | exit id => exact hp₁.elim
        | goto t => exact hp₁.elim
        | panic ch => exact hp₁.elim
        | outgrown => exact hp₁.elim
    · intro k hk
      have := hM0 k hk
      exact ⟨by omega, by omega, by omega, this.1⟩
    · rintro e W2 ⟨⟨v, rfl⟩, (⟨xs, Mi, hS, M, hMi, hM, hi, hl, hk⟩ | ⟨pre, Mi, c, M, hM, hi, hl, hk⟩)⟩
      · refine ⟨none, _, by have := run_endLoop (P := P) hl (by rw [hrec]; simp); rw [hrec] at this; exact this, hdone xs M _ hS ((hI xs).put hl rfl _ hi (fun h => (hM _ h).2.1 rfl)) ((World.putObj_heap_other (by omega)).trans hk) (fun k hk => (hM k hk).1)⟩
      · refine ⟨some c, _, by have := run_endLoop (P := P) hl (by rw [hrec]; simp); rw [hrec] at this; exact this, hstop c pre M _ ((hIx c pre).put hl rfl _ hi (fun h => (hM _ h).2.1 rfl)) ((World.putObj_heap_other (by omega)).trans hk) (fun k hk => (hM k hk).1)⟩
end Go.Proofs.YtmpjaakkjhmpmaaGreatDoor
namespace Go.Proofs.YtmpjaakkjhmpmaaGreatDoor
open Go Go.RowKit Go.Maps
/-- kept while the iterator moves (its own blocks O turn, the world grows), and while the loop's own record (block B + 1) turns. -/
structure GrwO (B : Nat) (I : (Nat → Prop) → (Nat → Prop) → World → Prop) : Prop where
  grow : ∀ (M O O' : Nat → Prop) (W W' : World), I M O W → Kb O W W' → (∀ k, O' k → O k ∨ W.heap.size ≤ k) → (∀ k, O k → B + 2 ≤ k ∧ ¬ M k) → I M O' W'
  turn : ∀ (M O : Nat → Prop) (W : World) (o o' : Obj), W.heap[B + 1]? = some o → o.isCells = false → I M O W → ¬ M (B + 1) → I M O (W.putObj (B + 1) o')
theorem GrwO.below {B : Nat} {I : (Nat → Prop) → (Nat → Prop) → World → Prop} (h : GrwO B I) {M O : Nat → Prop} {W W' : World} (hi : I M O W) (hO : ∀ k, O k → B + 2 ≤ k ∧ ¬ M k) {b : Nat} (hb : Below b W W') (he : b = W.heap.size := by rfl) : I M O W' := h.grow M O O W W' hi (Kb.of_below (he ▸ hb)) (fun _ hk => Or.inl hk) hO
theorem GrwO.put {B : Nat} {I : (Nat → Prop) → (Nat → Prop) → World → Prop} (h : GrwO B I) {M O : Nat → Prop} {W : World} {o : Obj} (ho : W.heap[B + 1]? = some o) (hc : o.isCells = false) (o' : Obj) (hi : I M O W) (hm : ¬ M (B + 1)) : I M O (W.putObj (B + 1) o') := h.turn M O W o o' ho hc hi hm
/-- the contract of an iterator, as SeqE, but it is told that the blocks that turn are there. -/
def SeqO (P : Program) {α : Type} (g : Nat) (lb : Array Value) (encs : α → Array Value) (E : List α → α → (Nat → Prop) → (Nat → Prop) → World → Prop) (S : List α → Prop) (N : Nat → Prop) (w0 : World) : Prop :=
  ∀ (l : Nat) (J Jx : List α → (Nat → Prop) → (Nat → Prop) → World → Prop) (M0 : Nat → Prop) (W : World), Below w0.heap.size w0 W → (∀ k, M0 k → ¬ N k ∧ k < W.heap.size) →
    (∀ pre M O O' A B, J pre M O A → Kb O A B → (∀ k, O' k → (O k ∨ A.heap.size ≤ k) ∧ k < B.heap.size) → J pre M O' B) → (∀ pre M O O' A B, Jx pre M O A → Kb O A B → (∀ k, O' k → (O k ∨ A.heap.size ≤ k) ∧ k < B.heap.size) → Jx pre M O' B) →
    (∀ pre x M O W1, J pre M O W1 → E pre x M O W1 → YieldAt Fence.wide 1 P l (encs x) W1 fun e W' => ∃ M', (∀ k, M' k → M k ∨ W1.heap.size ≤ k) ∧ (∀ k, M' k → k < W'.heap.size) ∧ Kb M W1 W' ∧
      ((e = .returned (.bool true) ∧ J (pre ++ [x]) M' O W') ∨ (e = .returned (.bool false) ∧ Jx (pre ++ [x]) M' O W'))) →
    J [] M0 (fun _ => False) W →
    CallsIn Fence.wide 2 P g (#[.func (.yield l) #[] #[]] ++ lb) W fun e W' => (∃ v, e = .returned v) ∧ ((∃ xs M O, S xs ∧ J xs M O W') ∨ (∃ pre M O, Jx pre M O W'))
theorem wpIn_rangeO {P : Program} {α : Type} {g : Operand} {ps : Array Tmp} {assign body : Code} {Q : Exit → Act → World → Prop} {a : Act} {w : World}
    {gf : Nat} {lb : Array Value} (hg : a.eval g = .func (.func gf) #[] lb) (eg : ∀ args w, (callFunc gf args).run P w = .ok (.enter gf args) w)
    {encs : α → Array Value} {E : List α → α → (Nat → Prop) → (Nat → Prop) → World → Prop} {S : List α → Prop} {N : Nat → Prop} {w0 : World} (hseq : SeqO P gf lb encs E S N w0) (hb0 : Below w0.heap.size w0 w) (hps : ∀ x, (encs x).size = ps.size)
    (hE : ∀ pre x (M O : Nat → Prop) (W : World) k (o o' : Obj), E pre x M O W → M k → W.heap[k]? = some o → o.isCells = false → E pre x M O (W.putObj k o')) (hE2 : ∀ pre x (M O : Nat → Prop) (A B : World), E pre x M O A → Below A.heap.size A B → E pre x M O B) (hN : ∀ k, N k → k < w.heap.size)
    (I : List α → (Nat → Prop) → (Nat → Prop) → World → Prop) (Ix : Code → List α → (Nat → Prop) → (Nat → Prop) → World → Prop) (M0 : Nat → Prop) (hM0 : ∀ k, M0 k → ¬ N k ∧ k < w.heap.size)
    (hI : ∀ pre, GrwO w.heap.size (I pre)) (hIx : ∀ c pre, GrwO w.heap.size (Ix c pre)) (h0 : I [] M0 (fun _ => False) w)
    (hround : ∀ (l : Nat) (pre : List α) (x : α) (M O : Nat → Prop) (W : World), w.heap.size + 2 ≤ W.heap.size → (∀ k, M k → k ≠ w.heap.size ∧ k ≠ w.heap.size + 1 ∧ k < W.heap.size ∧ ¬ N k) → (∀ k, O k → w.heap.size + 2 ≤ k ∧ ¬ M k ∧ k < W.heap.size) →
      (∀ w₁ W2, Below W.heap.size W w₁ → RecT (w.heap.size + 1) w₁ W2 → I pre M O W2 ∧ E pre x (fun k => M k ∨ k = w.heap.size + 1) O W2 ∧ W2.heap.size = w₁.heap.size) →
      assign.wpIn (Fence.wide.inRound l) 1 P (Exit.then (fun a₁ w₁ => Below W.heap.size W w₁ ∧ ∀ W2, RecT (w.heap.size + 1) w₁ W2 → body.wpIn (Fence.wide.inRound l) 1 P (rpost (fun xs M W => I xs M O W) (fun c xs M W => Ix c xs M O W) (pre ++ [x]) M W.heap.size W2) a₁ W2) (fun _ _ _ => False))
        { tmps := (ps.zip (encs x)).foldl (fun t (p, v) => t.setIfInBounds p v) a.tmps, defers := [] } W)
    (hdone : ∀ (xs : List α) (M O : Nat → Prop) (W : World), S xs → I xs M O W → W.heap[w.heap.size]? = some (.deferred (some [])) → (∀ k, M k → k ≠ w.heap.size) → Q .normal { a with defers := { target := .collected w.heap.size, args := #[] } :: a.defers } W)
    (hstop : ∀ (c : Code) (pre : List α) (M O : Nat → Prop) (W : World), Ix c pre M O W → W.heap[w.heap.size]? = some (.deferred (some [])) → (∀ k, M k → k ≠ w.heap.size) → c.wpIn Fence.wide 3 P Q { a with defers := { target := .collected w.heap.size, args := #[] } :: a.defers } W) :
    (Code.rangeFunc g ps assign body).wpIn Fence.wide 3 P Q a w := by
  refine wpIn_rangeFunc ?_
  intro fn hfn
  obtain ⟨rec, hrec⟩ : ∃ rec : LoopState → Option Code → Loop, rec = fun st pe => { state := st, pending := pe, fn, tmps := a.tmps, params := ps, assign, body, defers := w.heap.size } := ⟨_, rfl⟩
  obtain ⟨W1, hW1⟩ : ∃ W1, (w.alloc (.deferred (some []))).alloc (.loop (rec .ready none)) = W1 := ⟨_, rfl⟩
  have hL1 : W1.heap[w.heap.size + 1]? = some (.loop (rec .ready none)) := by
    rw [← hW1]; have := World.alloc_heap_new (w.alloc (.deferred (some []))) (.loop (rec .ready none)); rwa [World.size_alloc] at this
  have hK1 : W1.heap[w.heap.size]? = some (.deferred (some [])) := by
    rw [← hW1]; exact (Below.heap_alloc _ _ _ (by simp)).trans (World.alloc_heap_new w _)
  have hbw1 : Below w.heap.size w W1 := by rw [← hW1]; exact ((Below.refl _ w).alloc (Nat.le_refl _) _).alloc (by simp) _
  have hsz1 : W1.heap.size = w.heap.size + 2 := by rw [← hW1]; simp
  refine ⟨w.heap.size + 1, [{ target := .collected w.heap.size, args := #[] }], W1, { target := .fn (.func gf) lb, args := #[.func (.yield (w.heap.size + 1)) #[] #[]] }, W1, gf,
    #[.func (.yield (w.heap.size + 1)) #[] #[]] ++ lb, W1, ?_, ?_, ?_, ?_, fun _ => by omega, ?_⟩
  · rw [← hW1, hrec]; exact run_enterLoop_outer _ _ _ _ _
  · simp only [resolve, hg]
    simp [go_sem]
  · intro f' _; trivial
  · simp [invoke, go_sem, eg]
  · refine (hseq (w.heap.size + 1)
      (fun pre Mi O W => ∃ M, (∀ k, Mi k ↔ M k ∨ k = w.heap.size + 1) ∧ (∀ k, M k → k ≠ w.heap.size ∧ k ≠ w.heap.size + 1 ∧ k < W.heap.size ∧ ¬ N k) ∧ (∀ k, O k → w.heap.size + 2 ≤ k ∧ ¬ M k ∧ k < W.heap.size) ∧ I pre M O W ∧ W.heap[w.heap.size + 1]? = some (.loop (rec .ready none)) ∧ W.heap[w.heap.size]? = some (.deferred (some [])))
      (fun pre Mi O W => ∃ c M, (∀ k, M k → k ≠ w.heap.size ∧ k ≠ w.heap.size + 1 ∧ k < W.heap.size) ∧ (∀ k, O k → w.heap.size + 2 ≤ k ∧ ¬ M k ∧ k < W.heap.size) ∧ Ix c pre M O W ∧ W.heap[w.heap.size + 1]? = some (.loop (rec .done (some c))) ∧ W.heap[w.heap.size]? = some (.deferred (some [])))
      (fun k => M0 k ∨ k = w.heap.size + 1) W1 (hb0.trans (hbw1.mono hb0.size)) ?_ ?_ ?_ ?_ ⟨M0, fun _ => Iff.rfl, ?_, (fun k h => h.elim), (hI []).below h0 (fun k h => h.elim) hbw1, hL1, hK1⟩).mono ?_
    · rintro k (hk | rfl)
      · exact ⟨(hM0 k hk).1, by have := (hM0 k hk).2; omega⟩
      · exact ⟨fun h => by have := hN _ h; omega, by omega⟩
    · rintro pre Mi O O' A B ⟨M, h1, h2, h2o, h3, h4, h5⟩ hAB hO'
      have hs := hAB.size
      have e1 := (Array.getElem?_eq_some_iff.1 h4).1
      have e2 := (Array.getElem?_eq_some_iff.1 h5).1
      refine ⟨M, h1, fun k hk => ⟨(h2 k hk).1, (h2 k hk).2.1, Nat.lt_of_lt_of_le (h2 k hk).2.2.1 hs, (h2 k hk).2.2.2⟩, fun k hk => ?_, (hI pre).grow M O O' A B h3 hAB (fun k hk => (hO' k hk).1) (fun k hk => ⟨(h2o k hk).1, (h2o k hk).2.1⟩), (hAB.same _ e1 (fun h => by have := (h2o _ h).1; omega)).trans h4, (hAB.same _ e2 (fun h => by have := (h2o _ h).1; omega)).trans h5⟩
      rcases (hO' k hk).1 with h | h
      · exact ⟨(h2o k h).1, (h2o k h).2.1, (hO' k hk).2⟩
      · exact ⟨by omega, fun hm => by have := (h2 k hm).2.2.1; omega, (hO' k hk).2⟩
    · rintro pre Mi O O' A B ⟨c, M, h2, h2o, h3, h4, h5⟩ hAB hO'
      have hs := hAB.size
      have e1 := (Array.getElem?_eq_some_iff.1 h4).1
      have e2 := (Array.getElem?_eq_some_iff.1 h5).1
      refine ⟨c, M, fun k hk => ⟨(h2 k hk).1, (h2 k hk).2.1, Nat.lt_of_lt_of_le (h2 k hk).2.2 hs⟩, fun k hk => ?_, (hIx c pre).grow M O O' A B h3 hAB (fun k hk => (hO' k hk).1) (fun k hk => ⟨(h2o k hk).1, (h2o k hk).2.1⟩), (hAB.same _ e1 (fun h => by have := (h2o _ h).1; omega)).trans h4, (hAB.same _ e2 (fun h => by have := (h2o _ h).1; omega)).trans h5⟩
      rcases (hO' k hk).1 with h | h
      · exact ⟨(h2o k h).1, (h2o k h).2.1, (hO' k hk).2⟩
      · exact ⟨by omega, fun hm => by have := (h2 k hm).2.2; omega, (hO' k hk).2⟩
    · rintro pre x Mi O W ⟨M, hMi, hM, hO, hi, hl, hk⟩ he
      have hMq : Mi = fun k => M k ∨ k = w.heap.size + 1 := funext fun k => propext (hMi k)
      have hlt : w.heap.size + 1 < W.heap.size := (Array.getElem?_eq_some_iff.1 hl).1
      have hy := run_yield (P := P) (args := encs x) hl (by rw [hrec]; exact hps x)
      rw [hrec] at hy
      have hnl : ¬ M (w.heap.size + 1) := fun h => (hM _ h).2.1 rfl
      refine ⟨fn, _, assign, body, hy, roundIn_of_wpIn hfn (wpIn_mono (hround (w.heap.size + 1) pre x M O W (by omega) hM hO ?_) ?_)⟩
      · rintro w₁ W2 hbw ⟨o, rfl⟩
        have hl1 := (hbw.block _ hlt).trans hl
        exact ⟨(hI pre).put hl1 rfl _ ((hI pre).below hi (fun k hk => ⟨(hO k hk).1, (hO k hk).2.1⟩) hbw) hnl, hE pre x _ O w₁ _ _ _ (hE2 pre x _ O W w₁ (hMq ▸ he) hbw) (Or.inr rfl) hl1 rfl, by simp⟩
      · intro e₁ a₁ w₁ hp₁
        cases e₁ with
        | normal =>
          obtain ⟨hbw, hbody⟩ := hp₁
          have hl1 : w₁.heap[w.heap.size + 1]? = some (.loop (rec .ready none)) := (hbw.block _ hlt).trans hl
          have hk1 : w₁.heap[w.heap.size]? = some (.deferred (some [])) := (hbw.block _ (by omega)).trans hk
          refine ⟨_, run_beginRound hl1 (by rw [hrec]), ?_⟩
          obtain ⟨W2, hW2⟩ : ∃ W2, w₁.putObj (w.heap.size + 1) (.loop { rec .ready none with state := .busy }) = W2 := ⟨_, rfl⟩
          have hl2 : W2.heap[w.heap.size + 1]? = some (.loop { rec .ready none with state := .busy }) := by rw [← hW2]; exact World.putObj_heap_same (by have := hbw.size; omega)
          have hk2 : W2.heap[w.heap.size]? = some (.deferred (some [])) := by rw [← hW2]; exact (World.putObj_heap_other (by omega)).trans hk1
          have hs2 : W2.heap.size = w₁.heap.size := by rw [← hW2]; simp
          have hs1 := hbw.size
          have hkb2 : Kb Mi W W2 := by rw [← hW2]; exact (Kb.of_below hbw).trans (Kb.put (M := Mi) _ ((hMi _).2 (Or.inr rfl))) (fun q hq => Or.inl hq)
          have hb2 := hbody W2 ⟨_, hW2.symm⟩
          have key : ∀ (jump : Option Code) (W3 : World) (M' : Nat → Prop), (∀ k, M' k → M k ∨ W.heap.size ≤ k) → Kb (fun k => M k ∨ W.heap.size ≤ k) W2 W3 →
              (Instr.endRound (w.heap.size + 1) jump).run P W3 = .ok (.bool jump.isNone) (W3.putObj (w.heap.size + 1) (.loop (rec (if jump.isNone then .ready else .done) jump))) ∧
              (W3.putObj (w.heap.size + 1) (.loop (rec (if jump.isNone then .ready else .done) jump))).heap[w.heap.size + 1]? = some (.loop (rec (if jump.isNone then .ready else .done) jump)) ∧
              (W3.putObj (w.heap.size + 1) (.loop (rec (if jump.isNone then .ready else .done) jump))).heap[w.heap.size]? = some (.deferred (some [])) ∧
              Kb Mi W (W3.putObj (w.heap.size + 1) (.loop (rec (if jump.isNone then .ready else .done) jump))) ∧ ¬ M' (w.heap.size + 1) ∧ ¬ M' w.heap.size ∧ W3.heap[w.heap.size + 1]? = some (.loop { rec .ready none with state := .busy }) := by
            intro jump W3 M' hM' hkb
            have hl3 : W3.heap[w.heap.size + 1]? = some (.loop { rec .ready none with state := .busy }) := (hkb.same _ (by omega) (fun h => by rcases h with h | h <;> first | exact hnl h | omega)).trans hl2
            have hk3 : W3.heap[w.heap.size]? = some (.deferred (some [])) := (hkb.same _ (by omega) (fun h => by rcases h with h | h <;> first | exact (hM _ h).1 rfl | omega)).trans hk2
            have hrun := run_endRound (P := P) jump hl3
            refine ⟨by rw [hrec] at hrun ⊢; exact hrun, World.putObj_heap_same (Array.getElem?_eq_some_iff.1 hl3).1, (World.putObj_heap_other (by omega)).trans hk3, ?_, fun h => ?_, fun h => ?_, hl3⟩
            · exact (hkb2.trans hkb (fun q hq => by rcases hq with hq | hq; exact Or.inl ((hMi q).2 (Or.inl hq)); exact Or.inr hq)).trans (Kb.put (M := Mi) _ ((hMi _).2 (Or.inr rfl))) (fun q hq => Or.inl hq)
            · rcases hM' _ h with h1 | h1
              · exact hnl h1
              · omega
            · rcases hM' _ h with h1 | h1
              · exact (hM _ h1).1 rfl
              · omega
          rw [hW2]
          refine wpIn_mono hb2 ?_
          have bnd : ∀ (M' : Nat → Prop) (W3 : World) (o o' : Obj), (∀ k, M' k → k < W3.heap.size) → W3.heap[w.heap.size + 1]? = some o → ∀ k, (M' k ∨ k = w.heap.size + 1) → k < (W3.putObj (w.heap.size + 1) o').heap.size := by
            rintro M' W3 o o' hM' ho k (hk | rfl)
            · simp; exact hM' k hk
            · simp; exact (Array.getElem?_eq_some_iff.1 ho).1
          have fresh : ∀ (M' : Nat → Prop), (∀ k, M' k → M k ∨ W.heap.size ≤ k) → ∀ k, (M' k ∨ k = w.heap.size + 1) → Mi k ∨ W.heap.size ≤ k := by
            rintro M' hM' k (h | rfl)
            · rcases hM' k h with h1 | h1
              · exact Or.inl ((hMi k).2 (Or.inl h1))
              · exact Or.inr (by omega)
            · exact Or.inl ((hMi _).2 (Or.inr rfl))
          have boO : ∀ (M' : Nat → Prop) (W3 : World) (o : Obj), (∀ k, M' k → (M k ∨ W.heap.size ≤ k) ∧ k < W3.heap.size) → Kb (fun k => M k ∨ W.heap.size ≤ k) W2 W3 → ∀ k, O k → w.heap.size + 2 ≤ k ∧ ¬ M' k ∧ k < (W3.putObj (w.heap.size + 1) o).heap.size := by
            intro M' W3 o hM' hkb k hk
            have h1 := hO k hk
            have h2 := hkb.size
            refine ⟨h1.1, fun h => ?_, by simp; omega⟩
            rcases (hM' k h).1 with h3 | h3
            · exact h1.2.1 h3
            · omega
          rintro e a3 W3 hp
          cases e with
          | normal =>
            obtain ⟨M', hM', hkb, hi3⟩ := hp
            obtain ⟨hr, hl4, hk4, hkb4, hn1, hn2, hl5⟩ := key none W3 M' (fun k hk => (hM' k hk).1) hkb
            refine ⟨_, _, hr, fun k => M' k ∨ k = w.heap.size + 1, fresh M' (fun k hk => (hM' k hk).1), bnd M' _ _ _ (fun k hk => (hM' k hk).2) hl5, hkb4, Or.inl ⟨rfl, M', fun _ => Iff.rfl, fun k hk => ⟨fun e => hn2 (e ▸ hk), fun e => hn1 (e ▸ hk), by simp; exact (hM' k hk).2, ?_⟩, boO M' W3 _ hM' hkb, (hI _).put hl5 rfl _ hi3 hn1, hl4, hk4⟩⟩
            rcases (hM' k hk).1 with h1 | h1
            · exact (hM k h1).2.2.2
            · exact fun h => by have := hN k h; omega
          | ret =>
            obtain ⟨M', hM', hkb, hi3⟩ := hp
            obtain ⟨hr, hl4, hk4, hkb4, hn1, hn2, hl5⟩ := key (some .ret) W3 M' (fun k hk => (hM' k hk).1) hkb
            exact ⟨_, _, hr, fun k => M' k ∨ k = w.heap.size + 1, fresh M' (fun k hk => (hM' k hk).1), bnd M' _ _ _ (fun k hk => (hM' k hk).2) hl5, hkb4, Or.inr ⟨rfl, .ret, M', fun k hk => ⟨fun e => hn2 (e ▸ hk), fun e => hn1 (e ▸ hk), by simp; exact (hM' k hk).2⟩, boO M' W3 _ hM' hkb, (hIx _ _).put hl5 rfl _ hi3 hn1, hl4, hk4⟩⟩
          | exit id =>
            obtain ⟨M', hM', hkb, hi3⟩ := hp
            obtain ⟨hr, hl4, hk4, hkb4, hn1, hn2, hl5⟩ := key (some (.exit id)) W3 M' (fun k hk => (hM' k hk).1) hkb
            exact ⟨_, _, hr, fun k => M' k ∨ k = w.heap.size + 1, fresh M' (fun k hk => (hM' k hk).1), bnd M' _ _ _ (fun k hk => (hM' k hk).2) hl5, hkb4, Or.inr ⟨rfl, .exit id, M', fun k hk => ⟨fun e => hn2 (e ▸ hk), fun e => hn1 (e ▸ hk), by simp; exact (hM' k hk).2⟩, boO M' W3 _ hM' hkb, (hIx _ _).put hl5 rfl _ hi3 hn1, hl4, hk4⟩⟩
          | goto t =>
            obtain ⟨M', hM', hkb, hi3⟩ := hp
            obtain ⟨hr, hl4, hk4, hkb4, hn1, hn2, hl5⟩ := key (some (.goto t)) W3 M' (fun k hk => (hM' k hk).1) hkb
            exact ⟨_, _, hr, fun k => M' k ∨ k = w.heap.size + 1, fresh M' (fun k hk => (hM' k hk).1), bnd M' _ _ _ (fun k hk => (hM' k hk).2) hl5, hkb4, Or.inr ⟨rfl, .goto t, M', fun k hk => ⟨fun e => hn2 (e ▸ hk), fun e => hn1 (e ▸ hk), by simp; exact (hM' k hk).2⟩, boO M' W3 _ hM' hkb, (hIx _ _).put hl5 rfl _ hi3 hn1, hl4, hk4⟩⟩
          | panic ch => exact hp.elim
          | outgrown => exact hp.elim
        | ret => exact hp₁.elim
        | exit id => exact hp₁.elim
        | goto t => exact hp₁.elim
        | panic ch => exact hp₁.elim
        | outgrown => exact hp₁.elim
    · intro k hk
      have := hM0 k hk
      exact ⟨by omega, by omega, by omega, this.1⟩
    · rintro e W2 ⟨⟨v, rfl⟩, (⟨xs, Mi, O, hS, M, hMi, hM, hO, hi, hl, hk⟩ | ⟨pre, Mi, O, c, M, hM, hO, hi, hl, hk⟩)⟩
      · refine ⟨none, _, by have := run_endLoop (P := P) hl (by rw [hrec]; simp); rw [hrec] at this; exact this, hdone xs M O _ hS ((hI xs).put hl rfl _ hi (fun h => (hM _ h).2.1 rfl)) ((World.putObj_heap_other (by omega)).trans hk) (fun k hk => (hM k hk).1)⟩
      · refine ⟨some c, _, by have := run_endLoop (P := P) hl (by rw [hrec]; simp); rw [hrec] at this; exact this, hstop c pre M O _ ((hIx c pre).put hl rfl _ hi (fun h => (hM _ h).2.1 rfl)) ((World.putObj_heap_other (by omega)).trans hk) (fun k hk => (hM k hk).1)⟩
end Go.Proofs.YtmpjaakkjhmpmaaGreatDoor
