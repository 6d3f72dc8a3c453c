/-
  WHAT IT HOLDS: predicates on slices in memory ('a slice value reads as this list'), how they are kept while memory grows, and laws for append, make and maps that the walks use. Over any program. No condition.
  WHAT IT HOLDS: 'a block of memory is a map that sends these keys to these values' (MapK), and the laws for a look-up, a store and len at such a map. Over any program. No condition.
  WHAT IT HOLDS: lists in which each thing stands once, in the order in which they come first, and sets as maps. No program in sight.
  WHAT IT HOLDS: 'a slice value reads as these binds' (BindsAt), and how it is opened and kept. Over any program. No condition.
  WHAT IT HOLDS: words that the walks of laws share: literals of terms, chains of worlds. Over any program. No condition.
  WHAT IT HOLDS: rows of the call's own with elements of different types lie in different blocks. No condition.
-/
import Derived.WalkKit
import Derived.BigQuiet
import Derived.Maps.OwnSet
import Derived.Laws.AppendOwnNone
namespace Go.Proofs.YtmpjaakkjhmpmaaGreatDoor
open Go Go.RowKit

theorem hid {p : Prop} (h : p) : Hid p := h
theorem ret_bool {a b : Bool} (h : a = b) : Ending.returned (.bool a) = .returned (.bool b) := by rw [h]
theorem ret_int {k : IntKind} {a b : Int} (h : a = b) : Ending.returned (.int k a) = .returned (.int k b) := by rw [h]

/-- v is a slice of n elements of k cells each; its cells are xs. -/
def RowK (w : World) (v : Value) (k n : Nat) (xs : List Value) : Prop :=
  xs.length = n * k ∧ ∃ a cap, v = .slice a n cap ∧ n ≤ cap ∧ n ≤ 140737488355328 ∧ (a = none → cap = 0) ∧
    ∀ j u, xs[j]? = some u → ∃ b o, a = some ⟨b, o, none⟩ ∧ w.cell? ⟨b, o + j, none⟩ = some u

theorem RowK.below {w w' : World} {v : Value} {k n : Nat} {xs : List Value} (h : RowK w v k n xs) (hb : Below w.heap.size w w') : RowK w' v k n xs := by
  obtain ⟨h1, a, cap, h2, h3, h4, h5, h6⟩ := h
  refine ⟨h1, a, cap, h2, h3, h4, h5, fun j u hj => ?_⟩
  obtain ⟨b, o, h7, h8⟩ := h6 j u hj
  refine ⟨b, o, h7, ?_⟩
  rw [hb.cell (World.block_lt_of_cell? _ _ h8)]
  exact h8

/-- what a call owns reads as a slice. -/
theorem RowK.of_owns {w : World} {base : Nat} {e : TypeId} {k : Nat} {v : Value} {n : Nat} {xs : List Value} (h : w.ownsRow base e k v n xs) (hn : n ≤ 140737488355328) : RowK w v k n xs := by
  obtain ⟨h1, h2⟩ := h
  refine ⟨h1, ?_⟩
  rcases h2 with ⟨rfl, rfl⟩ | ⟨g, cap, cur, rfl, hb, hg, hnc, hcm, hsz, htake⟩
  · refine ⟨none, 0, rfl, Nat.le_refl _, hn, fun _ => rfl, fun j u hj => ?_⟩
    have : xs = [] := by simpa using h1
    subst this; simp at hj
  · refine ⟨some ⟨g, 0, none⟩, cap, rfl, hnc, hn, (fun h => by cases h), fun j u hj => ⟨g, 0, rfl, ?_⟩⟩
    rw [Nat.zero_add, cell_of_row w g j cur e (0, 0) hg]
    rw [← htake, List.getElem?_take] at hj
    split at hj
    · simpa using hj
    · cases hj

/-- a slice of integers. -/
def Ints (w : World) (v : Value) (xs : List Int) : Prop := RowK w v 1 xs.length (xs.map (Value.int .i64))
theorem Ints.below {w w' : World} {v : Value} {xs : List Int} (h : Ints w v xs) (hb : Below w.heap.size w w') : Ints w' v xs := RowK.below h hb
theorem Ints.of_owns {w : World} {base : Nat} {e : TypeId} {v : Value} {xs : List Int} (h : w.ownsRow base e 1 v xs.length (xs.map (Value.int .i64))) (hn : xs.length ≤ 140737488355328) : Ints w v xs := RowK.of_owns h hn
theorem Ints.open {w : World} {v : Value} {xs : List Int} (h : Ints w v xs) :
    ∃ a cap, v = .slice a xs.length cap ∧ xs.length ≤ cap ∧ xs.length ≤ 140737488355328 ∧ (a = none → cap = 0) ∧
      ∀ j (h : j < xs.length), ∃ b o, a = some ⟨b, o, none⟩ ∧ w.cell? ⟨b, o + j, none⟩ = some (.int .i64 xs[j]) := by
  obtain ⟨_, a, cap, h2, h3, h4, h5, h6⟩ := h
  exact ⟨a, cap, h2, h3, h4, h5, fun j hj => h6 j _ (by simp [hj])⟩

/-- a part of a slice. -/
theorem Ints.sub {w : World} {b o n cap : Nat} {t : List Int} (h : Ints w (.slice (some ⟨b, o, none⟩) n cap) t) {i : Nat} {p r : List Int} (hd : t.drop i = p ++ r) {cap' : Nat} (hc : p.length ≤ cap') : Ints w (.slice (some ⟨b, o + i, none⟩) p.length cap') p := by
  obtain ⟨a, c0, h1, h2, h3, h4, h5⟩ := h.open
  have hl := congrArg List.length hd
  rw [List.length_drop, List.length_append] at hl
  refine ⟨by simp, _, _, rfl, hc, by omega, (fun h => by cases h), fun j u hj => ?_⟩
  rw [List.getElem?_map] at hj
  cases hp : p[j]? with
  | none => rw [hp] at hj; simp at hj
  | some x =>
    rw [hp] at hj
    simp at hj
    have hjp : j < p.length := (List.getElem?_eq_some_iff.1 hp).1
    have hij : i + j < t.length := by omega
    obtain ⟨b', o', h6, h7⟩ := h5 (i + j) hij
    simp only [Value.slice.injEq] at h1
    obtain ⟨h8, _, _⟩ := h1
    rw [← h8] at h6
    cases h6
    refine ⟨_, _, rfl, ?_⟩
    rw [Nat.add_assoc, h7, ← hj]
    have : t[i + j]? = some x := by
      rw [← List.getElem?_drop, hd, List.getElem?_append_left hjp, hp]
    rw [List.getElem?_eq_getElem hij] at this
    simpa using this

/-- a slice whose elements are slices (one cell each) that are told of one by one. -/
def Vals (w : World) (v : Value) (vs : List Value) : Prop := RowK w v 1 vs.length vs
theorem Vals.below {w w' : World} {v : Value} {xs : List Value} (h : Vals w v xs) (hb : Below w.heap.size w w') : Vals w' v xs := RowK.below h hb
theorem Vals.open {w : World} {v : Value} {xs : List Value} (h : Vals w v xs) :
    ∃ a cap, v = .slice a xs.length cap ∧ xs.length ≤ cap ∧ xs.length ≤ 140737488355328 ∧ (a = none → cap = 0) ∧
      ∀ j (h : j < xs.length), ∃ b o, a = some ⟨b, o, none⟩ ∧ w.cell? ⟨b, o + j, none⟩ = some xs[j] := by
  obtain ⟨_, a, cap, h2, h3, h4, h5, h6⟩ := h
  exact ⟨a, cap, h2, h3, h4, h5, fun j hj => h6 j _ (by simp [hj])⟩

/-- a slice of terms: l, their slices vs. -/
def TermsV (w : World) (v : Value) (vs : List Value) (l : List (List Int)) : Prop :=
  Vals w v vs ∧ vs.length = l.length ∧ ∀ (i : Nat) (u : Value) (t : List Int), vs[i]? = some u → l[i]? = some t → Ints w u t
def Terms (w : World) (v : Value) (l : List (List Int)) : Prop := ∃ vs, TermsV w v vs l
theorem TermsV.below {w w' : World} {v : Value} {vs : List Value} {l : List (List Int)} (h : TermsV w v vs l) (hb : Below w.heap.size w w') : TermsV w' v vs l :=
  ⟨h.1.below hb, h.2.1, fun i u t h1 h2 => (h.2.2 i u t h1 h2).below hb⟩
theorem Terms.below {w w' : World} {v : Value} {l : List (List Int)} (h : Terms w v l) (hb : Below w.heap.size w w') : Terms w' v l := by
  obtain ⟨vs, h⟩ := h; exact ⟨vs, h.below hb⟩
theorem Terms.open {w : World} {v : Value} {l : List (List Int)} (h : Terms w v l) :
    ∃ a cap, v = .slice a l.length cap ∧ l.length ≤ cap ∧ l.length ≤ 140737488355328 ∧ (a = none → cap = 0) ∧
      ∀ j (h : j < l.length), ∃ b o u, a = some ⟨b, o, none⟩ ∧ w.cell? ⟨b, o + j, none⟩ = some u ∧ Ints w u l[j] := by
  obtain ⟨vs, h1, h2, h3⟩ := h
  obtain ⟨a, cap, h4, h5, h6, h7, h8⟩ := h1.open
  rw [h2] at h4 h5 h6
  refine ⟨a, cap, h4, h5, h6, h7, fun j hj => ?_⟩
  obtain ⟨b, o, h9, h10⟩ := h8 j (by omega)
  exact ⟨b, o, vs[j], h9, h10, h3 j _ _ (by simp [h2, hj]) (by simp [hj])⟩

/-- a sign: names and arities. -/
def symCells (s : List (ByteArray × Int)) : List Value := s.flatMap fun x => [.string x.1, .int .i64 x.2]
def SignAt (w : World) (v : Value) (s : List (ByteArray × Int)) : Prop :=
  RowK w v 2 s.length (symCells s) ∧ ∀ x ∈ s, x.1.size ≤ 140737488355328
theorem SignAt.below {w w' : World} {v : Value} {s : List (ByteArray × Int)} (h : SignAt w v s) (hb : Below w.heap.size w w') : SignAt w' v s := ⟨h.1.below hb, h.2⟩
theorem symCells_get (s : List (ByteArray × Int)) : ∀ (j : Nat) (h : j < s.length), (symCells s)[j * 2]? = some (.string s[j].1) ∧ (symCells s)[j * 2 + 1]? = some (.int .i64 s[j].2) := by
  induction s with
  | nil => intro j h; simp at h
  | cons x r ih =>
    intro j h
    cases j with
    | zero => simp [symCells]
    | succ j =>
      have := ih j (by simpa using h)
      simpa [symCells, Nat.add_mul, Nat.add_assoc] using this
theorem SignAt.open {w : World} {v : Value} {s : List (ByteArray × Int)} (h : SignAt w v s) :
    ∃ a cap, v = .slice a s.length cap ∧ s.length ≤ cap ∧ s.length ≤ 140737488355328 ∧ (a = none → cap = 0) ∧
      ∀ j (h : j < s.length), ∃ b o, a = some ⟨b, o, none⟩ ∧ w.cell? ⟨b, o + j * 2, none⟩ = some (.string s[j].1) ∧ w.cell? ⟨b, o + j * 2 + 1, none⟩ = some (.int .i64 s[j].2) ∧ s[j].1.size ≤ 140737488355328 := by
  obtain ⟨⟨_, a, cap, h2, h3, h4, h5, h6⟩, h7⟩ := h
  refine ⟨a, cap, h2, h3, h4, h5, fun j hj => ?_⟩
  have hc := symCells_get s j hj
  obtain ⟨b, o, h8, h9⟩ := h6 _ _ hc.1
  obtain ⟨b', o', h10, h11⟩ := h6 _ _ hc.2
  rw [h8] at h10
  cases h10
  exact ⟨b, o, h8, h9, by rw [Nat.add_assoc]; exact h11, h7 _ (by simp)⟩

theorem bcell {W w1 : World} (hb : Below W.heap.size W w1) : (∀ b o, b < W.heap.size → w1.cell? ⟨b, o, none⟩ = W.cell? ⟨b, o, none⟩) ∧ (∀ b o, b < W.heap.size → w1.frozen? ⟨b, o, none⟩ = W.frozen? ⟨b, o, none⟩) :=
  ⟨fun b o h => hb.cell (p := ⟨b, o, none⟩) h, fun b o h => hb.frozen (p := ⟨b, o, none⟩) h⟩

/-- worlds after draws are 'Below' the elder one. -/
theorem below_drewN {B : Nat} {a w : World} (h : Below B a w) (n : Nat) : Below B a (w.drewN n) := ⟨h.os, h.tape, h.output, h.size, h.block⟩
theorem below_self_drewN (w : World) (n : Nat) : Below w.heap.size w (w.drewN n) := below_drewN (Below.refl _ _) n

theorem SignAt.drewN {w : World} {v : Value} {s : List (ByteArray × Int)} (h : SignAt w v s) (n : Nat) : SignAt (w.drewN n) v s := h.below (below_self_drewN w n)
theorem Ints.drewN {w : World} {v : Value} {s : List Int} (h : Ints w v s) (n : Nat) : Ints (w.drewN n) v s := h.below (below_self_drewN w n)
theorem Terms.drewN {w : World} {v : Value} {s : List (List Int)} (h : Terms w v s) (n : Nat) : Terms (w.drewN n) v s := h.below (below_self_drewN w n)

/-- an operation that is run (its guard, where there is one, says so). -/
theorem wpList_wanted {P : Program} {w : World} {ops : Array Oper} {rest : List Oper} {o : Oper} {a : Act} {Q : Exit → Act → World → Prop} (hg : Region.wanted o (yielded ops a.tmps) = true)
    (h : ∀ K : Act → World → Prop, (∀ a w, wpList P ops Q rest a w → K a w) → o.wp P a w K Q) : wpList P ops Q (o :: rest) a w :=
  wpList_step fun K hK => by simp only [hg, if_true]; exact h K hK

theorem cell_new1 (w : World) (x : Value) (t : TypeId) : (w.alloc (.cells #[x] t)).cell? ⟨w.heap.size, 0, none⟩ = some x := by rw [World.cell?_alloc_new]; rfl
theorem cell_alloc_keep {w : World} {p : Addr} {v : Value} (o : Obj) (h : w.cell? p = some v) : (w.alloc o).cell? p = some v := by
  rw [World.cell?_alloc_lt _ _ _ (World.block_lt_of_cell? _ _ h)]; exact h
/-- three boxes laid one behind the other. -/
theorem boxes3 (w : World) (x y z : Value) (tx ty tz : TypeId) :
    (((w.alloc (.cells #[x] tx)).alloc (.cells #[y] ty)).alloc (.cells #[z] tz)).cell? ⟨w.heap.size, 0, none⟩ = some x ∧
    (((w.alloc (.cells #[x] tx)).alloc (.cells #[y] ty)).alloc (.cells #[z] tz)).cell? ⟨w.heap.size + 1, 0, none⟩ = some y ∧
    (((w.alloc (.cells #[x] tx)).alloc (.cells #[y] ty)).alloc (.cells #[z] tz)).cell? ⟨w.heap.size + 1 + 1, 0, none⟩ = some z ∧
    Below w.heap.size w (((w.alloc (.cells #[x] tx)).alloc (.cells #[y] ty)).alloc (.cells #[z] tz)) := by
  have h1 := cell_new1 w x tx
  have h2 := cell_new1 (w.alloc (.cells #[x] tx)) y ty
  have h3 := cell_new1 ((w.alloc (.cells #[x] tx)).alloc (.cells #[y] ty)) z tz
  simp only [World.size_alloc] at h2 h3
  exact ⟨cell_alloc_keep _ (cell_alloc_keep _ h1), cell_alloc_keep _ h2, h3, (((Below.refl _ _).alloc (Nat.le_refl _) _).alloc (by simp) _).alloc (by simp; omega) _⟩
/-- what an element type is. -/
def ElemAt (P : Program) (e : TypeId) (z : Value) (size bytes : Nat) : Prop := (P.info? e).map (fun i => (i.zero, i.size, i.bytes)) = some (some z, size, bytes)

theorem wpList_append_row {P : Program} {w : World} {ops : Array Oper} {rest : List Oper} {o : Oper} {a : Act} {Q : Exit → Act → World → Prop} (hgd : o.guard = none) (s x : Operand) (t : TypeId)
    (ho : o.op = .call { callee := .builtin .append, args := #[s, x], argTypes := #[t, t] })
    (base : Nat) (e : TypeId) {z : Value} {size bytes : Nat} (hE : ElemAt P e z size bytes) (ht : P.underlying t = some (.slice e)) (hzs : z.cells.size = size) (hsz : 0 < size)
    (v : Value) (n : Nat) (xs : List Value) (hs : a.eval s = v) (hown : w.ownsRow base e size v n xs)
    (sv : Value) (m : Nat) (news : List Value) (hx : a.eval x = sv) (hsrc : RowK w sv size m news) (h1 : ∀ u ∈ news, u.oneCell' = true)
    (hnm : n + m ≤ 140737488355328) (hbytes : (n + m) * bytes ≤ 140737488355328) (hbase : base ≤ w.heap.size)
    (h : ∀ v' w', w'.ownsRow base e size v' (n + m) (xs ++ news) → w.grownBy w' v.ownBlock → (v' = .slice none 0 0 ↔ v = .slice none 0 0 ∧ m = 0) → wpList P ops Q rest (a.put o.dst v') w') : wpList P ops Q (o :: rest) a w := by
  obtain ⟨i, hi, hz0, hz1, hz2⟩ := info_parts hE
  obtain ⟨hl, ad, cap, hsv, hmc, hm, hnone, hc⟩ := hsrc
  cases ad with
  | none =>
    have hcap := hnone rfl
    subst hcap
    have hm0 : m = 0 := by omega
    subst hm0
    have hnews : news = [] := by simpa using hl
    subst hnews
    refine wpList_append_own_none hgd s x t ho base e i size ht hi v n xs hs hown (hx.trans hsv) ?_
    refine h v w (by simpa using hown) (World.grownBy.refl _ _) ?_
    simp
  | some ad =>
    refine wpList_append_own w hgd s x t ho base e i z size bytes ht hi hz0 hz1 hz2 hzs hsz v n xs hs hown ad m cap news (hx.trans hsv) hl ?_ h1 (by simp only [maxLen]; omega) hbytes hbase h
    intro j u hj
    obtain ⟨b, o, hbo, hcell⟩ := hc j u hj
    simp only [Option.some.injEq] at hbo
    subst hbo
    have hadd : (⟨b, o, none⟩ : Addr).add j = ⟨b, o + j, none⟩ := by unfold Addr.add; split <;> simp_all
    rw [hadd]; exact hcell

/-- the same, as a step of a region that draws its order. -/
theorem step_append_row {P : Program} {ops : Array Oper} {o : Oper} {a : Act} {w : World} {K : Act → World → Prop} {Q : Exit → Act → World → Prop} {E : Prop}
    (hg : o.guard = none) (s x : Operand) (t : TypeId) (ho : o.op = Op.call { callee := Callee.builtin Builtin.append, args := #[s, x], argTypes := #[t, t] })
    (base : Nat) (e : TypeId) {z : Value} {size bytes : Nat} (hE : ElemAt P e z size bytes) (ht : P.underlying t = some (.slice e)) (hzs : z.cells.size = size) (hsz : 0 < size)
    (v : Value) (n : Nat) (xs : List Value) (hs : a.eval s = v) (hown : w.ownsRow base e size v n xs)
    (sv : Value) (m : Nat) (news : List Value) (hx : a.eval x = sv) (hsrc : RowK w sv size m news) (h1 : ∀ u ∈ news, u.oneCell' = true)
    (hnm : n + m ≤ 140737488355328) (hbytes : (n + m) * bytes ≤ 140737488355328) (hbase : base ≤ w.heap.size)
    (hK : ∀ v' w', w'.ownsRow base e size v' (n + m) (xs ++ news) → w.grownBy w' v.ownBlock → K (a.put o.dst v') w') :
    if Region.wanted o (yielded ops a.tmps) = true then Oper.wp P o a w K Q else E := by
  have hw : Region.wanted o (yielded ops a.tmps) = true := by simp [Region.wanted, hg]
  rw [if_pos hw]
  obtain ⟨i, hi, hz0, hz1, hz2⟩ := info_parts hE
  obtain ⟨hl, ad, cap, hsv, hmc, hm, hnone, hc⟩ := hsrc
  cases ad with
  | none =>
    have hcap := hnone rfl
    subst hcap
    have hm0 : m = 0 := by omega
    subst hm0
    have hnews : news = [] := by simpa using hl
    subst hnews
    have hrun := run_append_owned_none (P := P) (w := w) base t o.type e i size ht hi v n xs hown
    unfold Oper.wp
    simp [execOp, ho, resolve, invoke, builtin, hs, hx, hsv, hrun, Result.andThen]
    exact hK v w (by simpa using hown) (World.grownBy.refl _ _)
  | some ad =>
    obtain ⟨v', w', hrun, r1, r2, _⟩ := run_append_own (P := P) w base t o.type e i z size bytes ht hi hz0 hz1 hz2 hzs hsz v n xs hown ad m cap news hl (by
      intro j u hj
      obtain ⟨b, o, hbo, hcell⟩ := hc j u hj
      simp only [Option.some.injEq] at hbo
      subst hbo
      have hadd : (⟨b, o, none⟩ : Addr).add j = ⟨b, o + j, none⟩ := by unfold Addr.add; split <;> simp_all
      rw [hadd]; exact hcell) h1 (by simp only [maxLen]; omega) hbytes hbase
    unfold Oper.wp
    simp [execOp, ho, resolve, invoke, builtin, hs, hx, hsv, hrun, Result.andThen]
    exact hK v' w' r1 r2

theorem wpList_make_row {P : Program} {w : World} {ops : Array Oper} {rest : List Oper} {o : Oper} {a : Act} {Q : Exit → Act → World → Prop}
    (hg : o.guard = none) (l c : Operand) (t : TypeId) (hop : o.op = Op.makeSlice t l c)
    (base : Nat) (e : TypeId) {z : Value} {bytes : Nat} (hE : ElemAt P e z 1 bytes) (h1 : P.underlying t = some (.slice e)) (hzc : z.cells = #[z])
    (n : Nat) (hl : a.eval l = .int .i64 (n : Int)) (hc : a.eval c = .int .i64 (n : Int)) (b2 : bytes * n ≤ 140737488355328) (b3 : n ≤ 140737488355328) (b4 : base ≤ w.heap.size)
    (hK : ∀ g w', base ≤ g → w.heap.size ≤ g → w'.ownsRow base e 1 (.slice (some ⟨g, 0, none⟩) n n) n (List.replicate n z) → w.grownBy w' none → wpList P ops Q rest (a.put o.dst (.slice (some ⟨g, 0, none⟩) n n)) w') :
    wpList P ops Q (o :: rest) a w := by
  obtain ⟨i, hi, hz0, hz1, hz2⟩ := info_parts hE
  refine wpList_make_full w hg l c t hop base e i z 1 h1 hi hz0 hz1 .i64 .i64 _ _ n hl hc rfl rfl (by rw [hz2]; omega) (by simp only [maxLen]; omega) b4 ?_
  intro w' h2 h3
  refine hK _ w' b4 (Nat.le_refl _) ?_ h3
  rw [hzc] at h2
  rw [Nat.mul_one, toList_madeCells_one] at h2
  exact h2

theorem owns_base {w : World} {b b' : Nat} {e : TypeId} {k : Nat} {v : Value} {n : Nat} {xs : List Value} (h : w.ownsRow b e k v n xs) (hb : b' ≤ b) : w.ownsRow b' e k v n xs := by
  obtain ⟨h1, h2⟩ := h
  refine ⟨h1, ?_⟩
  rcases h2 with h2 | ⟨g, cap, cur, r1, r2, r3⟩
  · exact .inl h2
  · exact .inr ⟨g, cap, cur, r1, Nat.le_trans hb r2, r3⟩

/-- what a call owns stays owned while nothing that is there is turned. -/
theorem owns_below {w w' : World} {b : Nat} {e : TypeId} {k : Nat} {v : Value} {n : Nat} {xs : List Value} (h : w.ownsRow b e k v n xs) (hb : Below w.heap.size w w') : w'.ownsRow b e k v n xs := by
  obtain ⟨h1, h2⟩ := h
  refine ⟨h1, ?_⟩
  rcases h2 with h2 | ⟨g, cap, cur, r1, r2, r3, r4⟩
  · exact .inl h2
  · exact .inr ⟨g, cap, cur, r1, r2, by rw [hb.block g (Array.getElem?_eq_some_iff.1 r3).1]; exact r3, r4⟩

theorem grown_trans {a b c : World} {row : Option Nat} (h : a.grownBy b row) (k : b.grownBy c row) : a.grownBy c row :=
  ⟨k.os.trans h.os, k.tape.trans h.tape, k.output.trans h.output, Nat.le_trans h.size k.size, fun i hi hne => (k.block i (Nat.lt_of_lt_of_le hi h.size) hne).trans (h.block i hi hne)⟩
theorem grown_of_below {w w' : World} {r : Option Nat} (h : Below w.heap.size w w') : w.grownBy w' r := ⟨h.os, h.tape, h.output, h.size, fun k hk _ => h.block k hk⟩
theorem grown_own {w a b : World} {r r' : Option Nat} (h : w.grownBy a r) (k : a.grownBy b r') (hr : ∀ q, r' = some q → w.heap.size ≤ q) : w.grownBy b r :=
  ⟨k.os.trans h.os, k.tape.trans h.tape, k.output.trans h.output, Nat.le_trans h.size k.size, fun i hi hne => (k.block i (Nat.lt_of_lt_of_le hi h.size) (fun e => by have := hr i e.symm; omega)).trans (h.block i hi hne)⟩
/-- what a call owns in rows of its own stays owned while another block is turned. -/
theorem owns_grown {w w' : World} {b : Nat} {e : TypeId} {k : Nat} {v : Value} {n : Nat} {xs : List Value} {row : Option Nat} (h : w.ownsRow b e k v n xs) (hg : w.grownBy w' row) (hr : ∀ q, row = some q → q < b) : w'.ownsRow b e k v n xs := by
  obtain ⟨h1, h2⟩ := h
  refine ⟨h1, ?_⟩
  rcases h2 with h2 | ⟨g, cap, cur, r1, r2, r3, r4⟩
  · exact .inl h2
  · exact .inr ⟨g, cap, cur, r1, r2, by rw [hg.block g (Array.getElem?_eq_some_iff.1 r3).1 (fun e => by have := hr g e.symm; omega)]; exact r3, r4⟩

/-- the one-element slice that an append is handed. -/
theorem row_one_new (w : World) (x : Value) (t : TypeId) : RowK (w.alloc (.cells #[x] t)) (.slice (some ⟨w.heap.size, 0, none⟩) 1 1) 1 1 [x] := by
  refine ⟨rfl, _, _, rfl, Nat.le_refl _, by omega, (fun h => by cases h), fun j u hj => ⟨_, _, rfl, ?_⟩⟩
  rw [World.cell?_alloc_new]
  cases j with
  | zero => simpa using hj
  | succ j => simp at hj
theorem oneCell_one {x : Value} (h : x.oneCell' = true) : ∀ u ∈ [x], u.oneCell' = true := by simpa using h
theorem ints_one (l : List Int) : ∀ u ∈ l.map (Value.int .i64), u.oneCell' = true := by
  intro u hu; simp at hu; obtain ⟨x, _, rfl⟩ := hu; rfl

/-- a slice of bools. -/
def Bools (w : World) (v : Value) (xs : List Bool) : Prop := RowK w v 1 xs.length (xs.map Value.bool)
theorem Bools.open {w : World} {v : Value} {xs : List Bool} (h : Bools w v xs) :
    ∃ a cap, v = .slice a xs.length cap ∧ xs.length ≤ cap ∧ xs.length ≤ 140737488355328 ∧ (a = none → cap = 0) ∧
      ∀ j (h : j < xs.length), ∃ b o, a = some ⟨b, o, none⟩ ∧ w.cell? ⟨b, o + j, none⟩ = some (.bool xs[j]) := by
  obtain ⟨_, a, cap, h2, h3, h4, h5, h6⟩ := h
  exact ⟨a, cap, h2, h3, h4, h5, fun j hj => h6 j _ (by simp [hj])⟩
theorem Bools.below {w w' : World} {v : Value} {xs : List Bool} (h : Bools w v xs) (hb : Below w.heap.size w w') : Bools w' v xs := RowK.below h hb

end Go.Proofs.YtmpjaakkjhmpmaaGreatDoor
namespace Go.Proofs.YtmpjaakkjhmpmaaGreatDoor
open Go Go.RowKit Go.Maps

/-- block b is a map of n entries: m says what each key is sent to. -/
def MapK {κ ε : Type} (P : Program) (k : TypeId) (ek : κ → Value) (ev : ε → Value) (w : World) (b n : Nat) (m : κ → Option ε) : Prop :=
  ∃ es clock, w.heap[b]? = some (.map es clock) ∧ es.size = n ∧ (∀ e ∈ es.toList, ∃ l, keyOf P k e.key = some l) ∧
    (∀ e ∈ es.toList, ∃ x v, e.key = ek x ∧ e.val = ev v ∧ m x = some v) ∧ (∀ x v, m x = some v → ∃ e ∈ es.toList, e.key = ek x ∧ e.val = ev v) ∧
    MapKept.Stamped es clock

section
variable {κ ε : Type} {P : Program} {k : TypeId} {ek : κ → Value} {ev : ε → Value} {w : World} {b n : Nat} {m : κ → Option ε}

theorem MapK.made (P : Program) (k : TypeId) (ek : κ → Value) (ev : ε → Value) (w : World) : MapK P k ek ev (w.alloc (.map #[] 0)) w.heap.size 0 (fun _ => none) :=
  ⟨#[], 0, (MapKept.heap_alloc w _).1, rfl, by simp, by simp, (fun _ _ h => by cases h), MapKept.stamped_empty 0⟩
theorem MapK.lt (h : MapK P k ek ev w b n m) : b < w.heap.size := by
  obtain ⟨es, clock, hb, _⟩ := h
  exact (Array.getElem?_eq_some_iff.1 hb).1
theorem MapK.of_block {w' : World} (h : MapK P k ek ev w b n m) (hb : w'.heap[b]? = w.heap[b]?) : MapK P k ek ev w' b n m := by
  obtain ⟨es, clock, h1, h2⟩ := h
  exact ⟨es, clock, hb.trans h1, h2⟩
theorem MapK.kept {w' : World} {row : Option Nat} (h : MapK P k ek ev w b n m) (hg : w.grownBy w' row) (hne : some b ≠ row) : MapK P k ek ev w' b n m :=
  h.of_block (hg.block b h.lt hne)
theorem MapK.below {w' : World} {B : Nat} (h : MapK P k ek ev w b n m) (hg : Below B w w') (hB : b < B) : MapK P k ek ev w' b n m :=
  h.of_block (hg.block b hB)
theorem MapK.belowS {w' : World} (h : MapK P k ek ev w b n m) (hg : Below w.heap.size w w') : MapK P k ek ev w' b n m :=
  h.of_block (hg.block b h.lt)
theorem MapK.alloc (h : MapK P k ek ev w b n m) (o : Obj) : MapK P k ek ev (w.alloc o) b n m :=
  h.of_block (Below.heap_alloc _ _ _ h.lt)
theorem MapK.drewN (h : MapK P k ek ev w b n m) (q : Nat) : MapK P k ek ev (w.drewN q) b n m := h
theorem MapK.drew (h : MapK P k ek ev w b n m) : MapK P k ek ev w.drew b n m := h
theorem MapK.setCell (h : MapK P k ek ev w b n m) {a : Addr} (ha : b ≠ a.block) (u : Value) : MapK P k ek ev (w.setCell a u) b n m :=
  h.of_block (Below.heap_setCell _ _ _ _ ha)

/-- whatever is a cell stays while the map is written. -/
theorem MapK.cell {w' : World} {row : Option Nat} (h : MapK P k ek ev w b n m) (hr : row = some b) (hg : w.grownBy w' row) {a : Addr} {v : Value} (hc : w.cell? a = some v) : w'.cell? a = some v := by
  subst hr
  refine hg.cell hc (fun e => ?_)
  cases e
  obtain ⟨es, clock, hb, _⟩ := h
  simp [World.cell?, hb] at hc
theorem MapK.rowK {w' : World} {row : Option Nat} (h : MapK P k ek ev w b n m) (hr : row = some b) (hg : w.grownBy w' row) {v : Value} {q r : Nat} {xs : List Value} (hx : RowK w v q r xs) : RowK w' v q r xs := by
  obtain ⟨h1, a, cap, h2, h3, h4, h5, h6⟩ := hx
  refine ⟨h1, a, cap, h2, h3, h4, h5, fun j u hj => ?_⟩
  obtain ⟨b', o, h7, h8⟩ := h6 j u hj
  exact ⟨b', o, h7, h.cell hr hg h8⟩
theorem MapK.ints {w' : World} {row : Option Nat} (h : MapK P k ek ev w b n m) (hr : row = some b) (hg : w.grownBy w' row) {v : Value} {xs : List Int} (hx : Ints w v xs) : Ints w' v xs := h.rowK hr hg hx
theorem MapK.signAt {w' : World} {row : Option Nat} (h : MapK P k ek ev w b n m) (hr : row = some b) (hg : w.grownBy w' row) {v : Value} {xs : List (ByteArray × Int)} (hx : SignAt w v xs) : SignAt w' v xs := ⟨h.rowK hr hg hx.1, hx.2⟩

theorem MapK.run_lookup {t e : TypeId} (h : MapK P k ek ev w b n m) (K : Keyed P k) (hinj : ∀ x y, ek x = ek y → x = y) (ht : P.underlying t = some (.map k e)) {z : Value} (hz : (zeroValue e).run P w = .ok z w)
    (x : κ) {kl : Lit} (hkey : keyOf P k (ek x) = some kl) (c : Bool) :
    (Instr.lookup t (.map (some b)) (ek x) c).run P w = .ok (if c then .tuple #[((m x).map ev).getD z, .bool (m x).isSome] else ((m x).map ev).getD z) w := by
  obtain ⟨es, clock, hb, hn, hks, hin, hout, hnd⟩ := h
  rcases K.find w hkey es.toList hks with ⟨hrun, hno⟩ | ⟨j, e0, hrun, hj, he0⟩
  · have hmx : m x = none := by
      cases hmx : m x with
      | none => rfl
      | some v => obtain ⟨e1, h1, h2, _⟩ := hout x v hmx; exact absurd h2 (hno e1 h1)
    simp [Instr.lookup, run_underlying ht, MapKept.run_getObj_map hb, K.check w es.isEmpty hkey, hrun, hz, hmx, Result.andThen]
  · have hmem : e0 ∈ es.toList := List.mem_of_getElem? hj
    obtain ⟨x1, v1, h1, h2, h3⟩ := hin e0 hmem
    have hx : x1 = x := hinj _ _ (h1.symm.trans he0)
    subst hx
    simp [Instr.lookup, run_underlying ht, MapKept.run_getObj_map hb, K.check w es.isEmpty hkey, hrun, h3, h2, Result.andThen]

theorem MapK.run_update [DecidableEq κ] {t e : TypeId} (h : MapK P k ek ev w b n m) (K : Keyed P k) (hinj : ∀ x y, ek x = ek y → x = y) (ht : P.underlying t = some (.map k e))
    (x : κ) (v : ε) {kl : Lit} (hkey : keyOf P k (ek x) = some kl) :
    ∃ w', (Instr.mapUpdate t (.map (some b)) (ek x) (ev v)).run P w = .ok () w' ∧ MapK P k ek ev w' b (if (m x).isSome then n else n + 1) (fun y => if y = x then some v else m y) ∧ w.grownBy w' (some b) := by
  obtain ⟨es, clock, hb, hn, hks, hin, hout, hst⟩ := h
  have hnd := ((MapKept.stamped_iff es clock).1 hst).2.2
  have hgrow : ∀ o : Obj, w.grownBy { w with heap := w.heap.setIfInBounds b o } (some b) := fun o =>
    ⟨rfl, rfl, rfl, by simp, fun i hi hne => by
      show (w.heap.setIfInBounds b o)[i]? = _
      rw [Array.getElem?_setIfInBounds_ne (fun e => hne (by rw [e]))]⟩
  rcases K.find w hkey es.toList hks with ⟨hrun, hno⟩ | ⟨j, e0, hrun, hj, he0⟩
  · have hmx : m x = none := by
      cases hmx : m x with
      | none => rfl
      | some v => obtain ⟨e1, h1, h2, _⟩ := hout x v hmx; exact absurd h2 (hno e1 h1)
    refine ⟨{ w with heap := w.heap.setIfInBounds b (.map (es.push { key := ek x, val := ev v, born := clock }) (clock + 1)) }, ?_, ⟨es.push { key := ek x, val := ev v, born := clock }, clock + 1, ?_, ?_, ?_, ?_, ?_, ?_⟩, hgrow _⟩
    · simp [Instr.mapUpdate, run_underlying ht, MapKept.run_getObj_map hb, K.check w false hkey, hrun, MapKept.run_setObj_map _ hb, Result.andThen]
    · show (w.heap.setIfInBounds b _)[b]? = _
      rw [Array.getElem?_setIfInBounds_self_of_lt (Array.getElem?_eq_some_iff.1 hb).1]
    · simp [hmx, hn]
    · intro e he
      simp only [Array.toList_push, List.mem_append, List.mem_singleton] at he
      rcases he with he | rfl
      · exact hks e he
      · exact ⟨kl, hkey⟩
    · intro e he
      simp only [Array.toList_push, List.mem_append, List.mem_singleton] at he
      rcases he with he | rfl
      · obtain ⟨x1, v1, h1, h2, h3⟩ := hin e he
        refine ⟨x1, v1, h1, h2, ?_⟩
        show (if x1 = x then some v else m x1) = some v1
        rw [if_neg (fun e1 => by rw [e1, hmx] at h3; cases h3)]; exact h3
      · exact ⟨x, v, rfl, rfl, by simp⟩
    · intro y u hy
      by_cases e1 : y = x
      · subst e1
        simp at hy; subst hy
        exact ⟨{ key := ek y, val := ev v, born := clock }, by simp, rfl, rfl⟩
      · simp only [e1, if_false] at hy
        obtain ⟨e2, h1, h2⟩ := hout y u hy
        exact ⟨e2, by simp [Array.toList_push]; exact Or.inl (by simpa using h1), h2⟩
    · exact MapKept.stamped_push hst hno
  · have hmem : e0 ∈ es.toList := List.mem_of_getElem? hj
    obtain ⟨x1, v1, h1, h2, h3⟩ := hin e0 hmem
    have hx : x1 = x := hinj _ _ (h1.symm.trans he0)
    subst hx
    have hjs : es[j]? = some e0 := by simpa using hj
    have hkeep : (Instr.keyThatStays (ek x1) (ek x1)).run P w = .ok (ek x1) w := K.stays w hkey
    have hmodk : ∀ e ∈ (es.modify j fun e => { e with key := ek x1, val := ev v }).toList, (e ∈ es.toList ∧ e.key ≠ ek x1) ∨ (e.key = ek x1 ∧ e.val = ev v) := by
      intro e he
      obtain ⟨i, hi, hie⟩ := List.getElem_of_mem he
      simp at hi
      simp only [Array.getElem_toList] at hie
      rw [Array.getElem_modify] at hie
      split at hie
      · subst hie; exact Or.inr ⟨rfl, rfl⟩
      · rename_i hne
        left
        subst hie
        refine ⟨by simp, fun e1 => ?_⟩
        have hjl : j < es.toList.length := (List.getElem?_eq_some_iff.1 hj).1
        have hje : es.toList[j] = e0 := (List.getElem?_eq_some_iff.1 hj).2
        have hil : i < es.toList.length := by simpa using hi
        rcases Nat.lt_or_gt_of_ne hne with h' | h'
        · have := List.pairwise_iff_getElem.1 hnd j i hjl hil h'
          rw [hje] at this
          exact this (by rw [he0]; simpa using e1.symm)
        · have := List.pairwise_iff_getElem.1 hnd i j hil hjl h'
          rw [hje] at this
          exact this (by rw [he0]; simpa using e1)
    refine ⟨{ w with heap := w.heap.setIfInBounds b (.map (es.modify j fun e => { e with key := ek x1, val := ev v }) clock) }, ?_, ⟨es.modify j fun e => { e with key := ek x1, val := ev v }, clock, ?_, ?_, ?_, ?_, ?_, ?_⟩, hgrow _⟩
    · simp [Instr.mapUpdate, run_underlying ht, MapKept.run_getObj_map hb, K.check w false hkey, hrun, hjs, he0, hkeep, MapKept.run_setObj_map _ hb, Result.andThen]
    · show (w.heap.setIfInBounds b _)[b]? = _
      rw [Array.getElem?_setIfInBounds_self_of_lt (Array.getElem?_eq_some_iff.1 hb).1]
    · simp [h3, hn]
    · intro e he
      rcases hmodk e he with ⟨h, _⟩ | ⟨h, _⟩
      · exact hks e h
      · exact ⟨kl, by rw [h]; exact hkey⟩
    · intro e he
      rcases hmodk e he with ⟨h, hne⟩ | ⟨h, h'⟩
      · obtain ⟨x2, v2, h4, h5, h6⟩ := hin e h
        refine ⟨x2, v2, h4, h5, ?_⟩
        show (if x2 = x1 then some v else m x2) = some v2
        rw [if_neg (fun e1 => hne (by rw [h4, e1]))]; exact h6
      · exact ⟨x1, v, h, h', by simp⟩
    · intro y u hy
      by_cases e1 : y = x1
      · subst e1
        simp at hy; subst hy
        have hjl : j < es.size := (Array.getElem?_eq_some_iff.1 hjs).1
        refine ⟨{ e0 with key := ek y, val := ev v }, ?_, rfl, rfl⟩
        have hg : (es.modify j fun e => { e with key := ek y, val := ev v })[j]? = some { e0 with key := ek y, val := ev v } := by
          rw [Array.getElem?_modify]; simp [hjs]
        exact List.mem_of_getElem? (by rw [Array.getElem?_toList]; exact hg)
      · simp only [e1, if_false] at hy
        obtain ⟨e2, h4, h5, h6⟩ := hout y u hy
        obtain ⟨i, hi, hie⟩ := List.getElem_of_mem h4
        simp at hi
        refine ⟨e2, ?_, h5, h6⟩
        have hne : j ≠ i := by
          intro e; subst e
          simp only [Array.getElem_toList] at hie
          have := (Array.getElem?_eq_some_iff.1 hjs).2
          rw [this] at hie; subst hie
          exact e1 (hinj _ _ (h5.symm.trans he0))
        have hg : (es.modify j fun e => { e with key := ek x1, val := ev v })[i]? = some e2 := by
          rw [Array.getElem?_modify]; simp [hne, hi]; simpa using hie
        exact List.mem_of_getElem? (by rw [Array.getElem?_toList]; exact hg)
    · exact MapKept.stamped_modify hst j _ (fun e _ => rfl) (fun e _ he => by rw [hjs] at he; cases he; exact he0.symm)

theorem MapK.run_len {t e : TypeId} (h : MapK P k ek ev w b n m) (ht : P.underlying t = some (.map k e)) (ty : TypeId) : (Builtin.len_ #[t] ty #[.map (some b)]).run P w = .ok (.int .i64 n) w := by
  obtain ⟨es, clock, hb, hn, _⟩ := h
  simp [Builtin.len_, run_underlying ht, MapKept.run_getObj_map hb, goInt, Result.andThen, hn]
end

section
variable {κ ε : Type} {P : Program} {w : World} {ops : Array Oper} {rest : List Oper} {o : Oper} {a : Act} {Q : Exit → Act → World → Prop}
/-- a look-up, at the operation; 'val' is what comes of it. -/
theorem wpList_lookup_mapK (hg : Region.wanted o (yielded ops a.tmps) = true) (mo xo : Operand) (t : TypeId) (c : Bool) (hop : o.op = Op.lookup t mo xo c)
    {k e : TypeId} {ek : κ → Value} {ev : ε → Value} (K : Keyed P k) (hinj : ∀ x y, ek x = ek y → x = y) (ht : P.underlying t = some (.map k e)) {z : Value} (hz : (zeroValue e).run P w = .ok z w)
    {b n : Nat} {m : κ → Option ε} (hm : a.eval mo = .map (some b)) (hown : MapK P k ek ev w b n m) (x : κ) {kl : Lit} (hx : a.eval xo = ek x) (hkey : keyOf P k (ek x) = some kl)
    (val : Value) (hval : (if c then .tuple #[((m x).map ev).getD z, .bool (m x).isSome] else ((m x).map ev).getD z) = val)
    (hK : wpList P ops Q rest (a.put o.dst val) w) : wpList P ops Q (o :: rest) a w := by
  refine wpList_wanted hg fun K' hK' => ?_
  have hrun := hown.run_lookup K hinj ht hz x hkey c
  rw [hval] at hrun
  unfold Oper.wp
  simp [execOp, hop, hm, hx, hrun, Result.andThen]
  exact hK' _ _ hK

theorem wpList_update_mapK [DecidableEq κ] (hg : Region.wanted o (yielded ops a.tmps) = true) (mo xo vo : Operand) (t : TypeId) (hop : o.op = Op.mapUpdate t mo xo vo)
    {k e : TypeId} {ek : κ → Value} {ev : ε → Value} (K : Keyed P k) (hinj : ∀ x y, ek x = ek y → x = y) (ht : P.underlying t = some (.map k e))
    {b n : Nat} {m : κ → Option ε} (hm : a.eval mo = .map (some b)) (hown : MapK P k ek ev w b n m) (x : κ) (v : ε) {kl : Lit} (hx : a.eval xo = ek x) (hv : a.eval vo = ev v) (hkey : keyOf P k (ek x) = some kl)
    (hK : ∀ w', MapK P k ek ev w' b (if (m x).isSome then n else n + 1) (fun y => if y = x then some v else m y) → w.grownBy w' (some b) → wpList P ops Q rest (a.put o.dst undef) w') : wpList P ops Q (o :: rest) a w := by
  refine wpList_wanted hg fun K' hK' => ?_
  obtain ⟨w', hrun, r1, r2⟩ := hown.run_update K hinj ht x v hkey
  unfold Oper.wp
  simp [execOp, hop, hm, hx, hv, hrun, Result.andThen]
  exact hK' _ _ (hK _ r1 r2)
end
end Go.Proofs.YtmpjaakkjhmpmaaGreatDoor
namespace Go.Proofs.YtmpjaakkjhmpmaaGreatDoor
open Go Go.RowKit
end Go.Proofs.YtmpjaakkjhmpmaaGreatDoor
namespace Go.Proofs.YtmpjaakkjhmpmaaGreatDoor
open Go Go.RowKit
abbrev BV := Int × Value × List Int
def biC (bs : List BV) : List Value := bs.flatMap fun b => [.int .i64 b.1, b.2.1]
def biP (bs : List BV) : List (Int × List Int) := bs.map fun b => (b.1, b.2.2)
theorem biC_snoc (bs : List BV) (b : BV) : biC (bs ++ [b]) = biC bs ++ [.int .i64 b.1, b.2.1] := by simp [biC]
theorem biP_snoc (bs : List BV) (b : BV) : biP (bs ++ [b]) = biP bs ++ [(b.1, b.2.2)] := by simp [biP]
theorem biP_len (bs : List BV) : (biP bs).length = bs.length := by simp [biP]
theorem biC_get (bs : List BV) : ∀ (j : Nat) (h : j < bs.length), (biC bs)[j * 2]? = some (.int .i64 bs[j].1) ∧ (biC bs)[j * 2 + 1]? = some bs[j].2.1 := by
  induction bs with
  | nil => intro j h; simp at h
  | cons x r ih =>
    intro j h
    cases j with
    | zero => simp [biC]
    | succ j =>
      have := ih j (by simpa using h)
      simpa [biC, Nat.add_mul, Nat.add_assoc] using this
def BindsV (w : World) (v : Value) (bs : List BV) : Prop := RowK w v 2 bs.length (biC bs) ∧ ∀ x ∈ bs, Ints w x.2.1 x.2.2
def BindsAt (w : World) (v : Value) (l : List (Int × List Int)) : Prop := ∃ bs, BindsV w v bs ∧ biP bs = l
theorem BindsV.below {w w' : World} {v : Value} {bs : List BV} (h : BindsV w v bs) (hb : Below w.heap.size w w') : BindsV w' v bs := ⟨h.1.below hb, fun x hx => (h.2 x hx).below hb⟩
theorem BindsAt.below {w w' : World} {v : Value} {l : List (Int × List Int)} (h : BindsAt w v l) (hb : Below w.heap.size w w') : BindsAt w' v l := by
  obtain ⟨bs, h1, h2⟩ := h; exact ⟨bs, h1.below hb, h2⟩
theorem BindsAt.drewN {w : World} {v : Value} {l : List (Int × List Int)} (h : BindsAt w v l) (n : Nat) : BindsAt (w.drewN n) v l := h.below (below_self_drewN w n)
theorem BindsAt.open {w : World} {v : Value} {l : List (Int × List Int)} (h : BindsAt w v l) :
    ∃ a cap, v = .slice a l.length cap ∧ l.length ≤ cap ∧ l.length ≤ 140737488355328 ∧ (a = none → cap = 0) ∧
      ∀ j (h : j < l.length), ∃ b o u, a = some ⟨b, o, none⟩ ∧ w.cell? ⟨b, o + j * 2, none⟩ = some (.int .i64 l[j].1) ∧ w.cell? ⟨b, o + j * 2 + 1, none⟩ = some u ∧ Ints w u l[j].2 := by
  obtain ⟨bs, ⟨⟨_, a, cap, h2, h3, h4, h5, h6⟩, h7⟩, rfl⟩ := h
  have hlen := biP_len bs
  refine ⟨a, cap, by rw [hlen]; exact h2, by omega, by omega, h5, fun j hj' => ?_⟩
  have hj : j < bs.length := by omega
  have hc := biC_get bs j hj
  obtain ⟨b, o, h8, h9⟩ := h6 _ _ hc.1
  obtain ⟨b', o', h10, h11⟩ := h6 _ _ hc.2
  rw [h8] at h10
  cases h10
  refine ⟨b, o, _, h8, ?_, by rw [Nat.add_assoc]; exact h11, ?_⟩
  · simpa [biP] using h9
  · simpa [biP] using h7 _ (List.getElem_mem hj)
theorem BindsAt.of_owns {w : World} {base : Nat} {e : TypeId} {v : Value} {bs : List BV} (h : w.ownsRow base e 2 v bs.length (biC bs)) (hn : bs.length ≤ 140737488355328) (hi : ∀ x ∈ bs, Ints w x.2.1 x.2.2) : BindsAt w v (biP bs) := ⟨bs, ⟨RowK.of_owns h hn, hi⟩, rfl⟩
end Go.Proofs.YtmpjaakkjhmpmaaGreatDoor
namespace Go.Proofs.YtmpjaakkjhmpmaaGreatDoor
open Go Go.RowKit
theorem litT2 {w : World} {v0 v1 : Value} {l0 l1 : List Int} (h0 : Ints w v0 l0) (h1 : Ints w v1 l1) (T : TypeId) : Terms (w.alloc (.cells #[v0, v1] T)) (.slice (some ⟨w.heap.size, 0, none⟩) 2 2) [l0, l1] := by
  have hb : Below w.heap.size w (w.alloc (.cells #[v0, v1] T)) := (Below.refl _ _).alloc (Nat.le_refl _) _
  refine ⟨[v0, v1], ?_, rfl, fun i u t h1' h2' => ?_⟩
  · refine ⟨rfl, _, _, rfl, Nat.le_refl _, by simp, (fun h => by cases h), fun j u hj => ⟨_, _, rfl, ?_⟩⟩
    rw [Nat.zero_add, World.cell?_alloc_new]
    simpa using hj
  · match i, h1', h2' with
    | 0, h1', h2' => simp at h1' h2'; subst h1'; subst h2'; exact h0.below hb
    | 1, h1', h2' => simp at h1' h2'; subst h1'; subst h2'; exact h1.below hb
    | i + 2, h1', _ => simp at h1'
theorem chainL {P : Program} {f : FuncId} {args : Array Value} {WB W : World} {R : Ending → Prop} (hb : Below WB.heap.size WB W) (h : Calls P f args W fun e w' => R e ∧ Below W.heap.size W w') : Calls P f args W fun e w' => R e ∧ Below WB.heap.size WB w' :=
  h.mono fun _ _ ⟨h1, h2⟩ => ⟨h1, hb.trans (h2.mono hb.size)⟩
end Go.Proofs.YtmpjaakkjhmpmaaGreatDoor
namespace Go.Proofs.YtmpjaakkjhmpmaaGreatDoor
open Go Go.RowKit
theorem owns_type7 {w : World} {base : Nat} {e : TypeId} {k n : Nat} {v : Value} {xs : List Value} {b : Nat} (h : w.ownsRow base e k v n xs) (hb : v.ownBlock = some b) : ∃ cur, w.heap[b]? = some (.cells cur e (0, 0)) := by
  obtain ⟨-, h2⟩ := h
  rcases h2 with ⟨rfl, -⟩ | ⟨g, cap, cur, rfl, -, r3, -⟩
  · cases hb
  · cases hb; exact ⟨cur, r3⟩
theorem owns_ne7 {w : World} {base base' : Nat} {e e' : TypeId} {k k' n n' : Nat} {v v' : Value} {xs xs' : List Value} {b : Nat} (h : w.ownsRow base e k v n xs) (h' : w.ownsRow base' e' k' v' n' xs') (hne : e ≠ e') (hb : v.ownBlock = some b) : v'.ownBlock ≠ some b := by
  intro hb'
  obtain ⟨c, hc⟩ := owns_type7 h hb
  obtain ⟨c', hc'⟩ := owns_type7 h' hb'
  rw [hc] at hc'
  cases hc'
  exact hne rfl
theorem own_ap7 {u v : Value} (h : ∀ k, u.ownBlock = some k → v.ownBlock ≠ some k) : u.ownBlock = none ∨ u.ownBlock ≠ v.ownBlock := by
  cases hu : u.ownBlock with
  | none => exact Or.inl rfl
  | some k => exact Or.inr fun e => h k hu e.symm
/-- a row of the call's own keeps over the growth of a row with elements of another type. -/
theorem owns_kept7 {w w' : World} {base base' : Nat} {e e' : TypeId} {k k' n n' : Nat} {v v' : Value} {xs xs' : List Value} (h : w.ownsRow base e k v n xs) (h' : w.ownsRow base' e' k' v' n' xs') (hne : e ≠ e') (hg : w.grownBy w' v'.ownBlock) : w'.ownsRow base e k v n xs :=
  h.kept hg (own_ap7 fun b hb => owns_ne7 h h' hne hb)
end Go.Proofs.YtmpjaakkjhmpmaaGreatDoor
