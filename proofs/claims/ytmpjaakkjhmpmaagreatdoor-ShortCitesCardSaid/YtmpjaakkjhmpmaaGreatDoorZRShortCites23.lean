/-
  WHAT IT HOLDS: contract of the iterator that steps of package kernel hands back. Conditions: the arguments read as data; a valid proof of valid givens; a small sign.
-/
import Derived.Stop.RegionWithIn
import Derived.Deep.RegionHeld3
import Derived.Test.YtmpjaakkjhmpmaaGreatDoorZRShortCites22
import Derived.Test.YtmpjaakkjhmpmaaGreatDoorZRShortCites14
import Derived.Test.YtmpjaakkjhmpmaaGreatDoorZRShortCites16
import Derived.Test.YtmpjaakkjhmpmaaGreatDoorZRShortCites13
namespace Go.Proofs.YtmpjaakkjhmpmaaGreatDoor
open Go Go.RowKit Go.Maps Go.Shelf
attribute [local go_sem] Oper.semAt_some
theorem roundIn_any2 {n m : Nat} {P : Program} {l : Nat} {f : FuncId} {tmps : Array Value} {a b : Code} {w : World} {R : Ending → World → Prop} (h : RoundIn Fence.wide n P l f tmps a b w R) : RoundIn Fence.wide m P l f tmps a b w R := ⟨trivial, fun c cs _ => h.2 c cs (room_wide _)⟩
/-- what the iterator yields: the value, the term that it reads as, and the error. -/
abbrev KE := Value × List Int × Int
def keX (x : KE) : Array Value := #[.agg #[x.1, .int .i64 x.2.2]]
/-- what a step says where l was said. -/
def sayR (s : Sg) (g l : List (List Int)) (x : St) (y : List Int × Int) : Prop :=
  if x.1 = 1 then y = (canonL (g.getD x.2.1.toNat []), 0) else DetR s (l.getD x.2.1.toNat []) (l.getD x.2.2.toNat []) y
def keE (s : Sg) (g : List (List Int)) (p : List St) (pre : List KE) (x : KE) (M O : Nat → Prop) (W : World) : Prop :=
  (∀ y ∈ pre, y.2.2 = 0) ∧ (∃ st, p[pre.length]? = some st ∧ sayR s g (pre.map fun y => y.2.1) st (x.2.1, x.2.2)) ∧ Safe (fun k => M k ∨ O k) (fun W => Ints W x.1 x.2.1) W
def keS (p : List St) (xs : List KE) : Prop := xs.length = p.length ∨ ∃ y ∈ xs, y.2.2 ≠ 0
/-- what the iterator holds between its rounds. -/
structure KsI (wb : World) (bs bg bp B : Nat) (vs vg vp : Value) (pre : List KE) (M O : Nat → Prop) (W : World) : Prop where
  mb : ∀ q, M q → q < W.heap.size ∧ wb.heap.size ≤ q ∧ q ≠ bs ∧ q ≠ bg ∧ q ≠ bp ∧ q ≠ B + 1 ∧ ¬ O q
  ob : ∀ q, O q → q < W.heap.size ∧ B ≤ q ∧ q ≠ B + 1
  ol : O B
  bel : Below wb.heap.size wb W
  cs : W.cell? ⟨bs, 0, none⟩ = some vs
  cg : W.cell? ⟨bg, 0, none⟩ = some vg
  cp : W.cell? ⟨bp, 0, none⟩ = some vp
  f0 : W.cell? ⟨B + 1, 0, none⟩ = some (.func (.func 183) #[] #[.pointer (some ⟨bs, 0, none⟩), .pointer (some ⟨bg, 0, none⟩)])
  f1 : W.cell? ⟨B + 1, 1, none⟩ = some (.func (.func 184) #[] #[.pointer (some ⟨bs, 0, none⟩), .pointer (some ⟨B, 0, none⟩)])
  row : ∃ ul vvs, W.cell? ⟨B, 0, none⟩ = some ul ∧ W.frozen? ⟨B, 0, none⟩ = false ∧ W.ownsRow B 34 1 ul vvs.length vvs ∧ (∀ q, ul.ownBlock = some q → O q ∧ q ≠ B) ∧ vvs.length = pre.length ∧
    ∀ (i : Nat) (v : Value) (x : KE), vvs[i]? = some v → pre[i]? = some x → Safe (fun k => M k ∨ O k) (fun W => Ints W v x.2.1) W
theorem ownsRow_frm2 {w w' : World} {b : Nat} {e : TypeId} {k : Nat} {v : Value} {n : Nat} {xs : List Value} (h : w.ownsRow b e k v n xs) (hs : ∀ q, v.ownBlock = some q → w'.heap[q]? = w.heap[q]?) : w'.ownsRow b e k v n xs := by
  obtain ⟨h1, h2⟩ := h
  refine ⟨h1, ?_⟩
  rcases h2 with h2 | ⟨g, cap, cur, r1, r2, r3, r4⟩
  · exact .inl h2
  · subst r1
    exact .inr ⟨g, cap, cur, rfl, r2, by rw [hs g rfl]; exact r3, r4⟩
theorem ownsRow_slice2 {w : World} {b : Nat} {e : TypeId} {k : Nat} {v : Value} {n : Nat} {xs : List Value} (h : w.ownsRow b e k v n xs) : ∃ a c, v = .slice a n c := by
  obtain ⟨h1, h2⟩ := h
  rcases h2 with h2 | ⟨g, cap, cur, r1, r2, r3, r4⟩
  · exact ⟨none, 0, by simp_all⟩
  · exact ⟨_, _, r1⟩
theorem cellHp {W W' : World} {p : Addr} {v : Value} (h : W.cell? p = some v) (hs : W'.heap[p.block]? = W.heap[p.block]?) : W'.cell? p = some v := (World.cell?_of_block hs).trans h
/-- kept while the others' blocks turn. -/
theorem KsI.turn {wb : World} {bs bg bp B : Nat} {vs vg vp : Value} {pre : List KE} {M M' O : Nat → Prop} {W W' : World} (h : KsI wb bs bg bp B vs vg vp pre M O W) (hB : wb.heap.size ≤ B) (hbB : bs < B ∧ bg < B ∧ bp < B) (hBW : B + 1 < W.heap.size)
    (hk : Kb M W W') (hM : ∀ k, M' k → M k ∨ W.heap.size ≤ k) (hMs : ∀ k, M' k → k < W'.heap.size) : KsI wb bs bg bp B vs vg vp pre M' O W' := by
  obtain ⟨a1, a2, a3, a4, a5, a6, a7, a8, a9, ul, vvs, b1, b2, b3, b4, b5, b6⟩ := h
  have hsz := hk.size
  have hbB := hbB
  have keep : ∀ q, q < W.heap.size → (M q → False) → W'.heap[q]? = W.heap[q]? := fun q h1 h2 => hk.same q h1 h2
  have eB := keep B (by omega) (fun h => (a1 _ h).2.2.2.2.2.2 a3)
  have eB1 := keep (B + 1) hBW (fun h => (a1 _ h).2.2.2.2.2.1 rfl)
  refine ⟨fun q hq => ?_, fun q hq => ⟨by have := (a2 q hq).1; omega, (a2 q hq).2⟩, a3, a4.trans (hk.below a4.size (fun k hk => (a1 k hk).2.1)), cellHp a5 (keep _ (by show bs < _; omega) (fun h => (a1 _ h).2.2.1 rfl)), cellHp a6 (keep _ (by show bg < _; omega) (fun h => (a1 _ h).2.2.2.1 rfl)), cellHp a7 (keep _ (by show bp < _; omega) (fun h => (a1 _ h).2.2.2.2.1 rfl)),
    cellHp a8 eB1, cellHp a9 eB1, ul, vvs, cellHp b1 eB, (World.frozen?_of_block eB).trans b2, ?_, b4, b5, fun i v x h1 h2 => (b6 i v x h1 h2).turn (hk.mono (M' := fun k => M k ∨ O k) (fun k _ h => Or.inl h)) (fun k h => ?_)⟩
  · rcases hM q hq with h | h
    · have := a1 q h
      exact ⟨hMs q hq, this.2.1, this.2.2.1, this.2.2.2.1, this.2.2.2.2.1, this.2.2.2.2.2.1, this.2.2.2.2.2.2⟩
    · exact ⟨hMs q hq, by omega, by omega, by omega, by omega, by omega, fun ho => by have := (a2 q ho).1; omega⟩
  · refine ownsRow_frm2 b3 (fun q hq => keep q (b3.lt q hq).2 (fun h => (a1 q h).2.2.2.2.2.2 (b4 q hq).1))
  · rcases h with h | h
    · rcases hM k h with h | h
      · exact Or.inl (Or.inl h)
      · exact Or.inr h
    · exact Or.inl (Or.inr h)
/-- what a step says is put behind. -/
theorem KsI.push {wb : World} {bs bg bp B : Nat} {vs vg vp : Value} {pre : List KE} {M O : Nat → Prop} {W W6 W7 : World} {x : KE} (h : KsI wb bs bg bp B vs vg vp pre M O W) (hB : wb.heap.size ≤ B) (hbB : bs < B ∧ bg < B ∧ bp < B) (hBW : B + 1 < W.heap.size)
    {ul : Value} {vvs : List Value} (c0 : W.cell? ⟨B, 0, none⟩ = some ul) (f0 : W.frozen? ⟨B, 0, none⟩ = false) (hrow : ∀ q, ul.ownBlock = some q → O q ∧ q ≠ B) (hlen : vvs.length = pre.length)
    (hall : ∀ (i : Nat) (v : Value) (x : KE), vvs[i]? = some v → pre[i]? = some x → Safe (fun k => M k ∨ O k) (fun W => Ints W v x.2.1) W)
    (hb : Below W.heap.size W W6) (hx : Safe (fun k => M k ∨ O k) (fun W => Ints W x.1 x.2.1) W6)
    {g cap n : Nat} (hn : vvs.length = n) (hown : W7.ownsRow B 34 1 (.slice (some ⟨g, 0, none⟩) (n + 1) cap) (n + 1) (vvs ++ [x.1])) (hg : W6.grownBy W7 ul.ownBlock) (hat : ul.ownBlock = some g ∨ g = W6.heap.size) (hlt : g < W7.heap.size) :
    ∃ O' : Nat → Prop, (∀ k, O' k → (O k ∨ W.heap.size ≤ k) ∧ k < (W7.setCell ⟨B, 0, none⟩ (.slice (some ⟨g, 0, none⟩) (n + 1) cap)).heap.size) ∧
      Kb O W (W7.setCell ⟨B, 0, none⟩ (.slice (some ⟨g, 0, none⟩) (n + 1) cap)) ∧
      KsI wb bs bg bp B vs vg vp (pre ++ [x]) M O' (W7.setCell ⟨B, 0, none⟩ (.slice (some ⟨g, 0, none⟩) (n + 1) cap)) ∧
      Safe (fun k => M k ∨ O' k) (fun W => Ints W x.1 x.2.1) (W7.setCell ⟨B, 0, none⟩ (.slice (some ⟨g, 0, none⟩) (n + 1) cap)) := by
  subst hn
  obtain ⟨a1, a2, a3, a4, a5, a6, a7, a8, a9, -⟩ := h
  have hs67 := hg.size
  have hs06 := hb.size
  have hbB := hbB
  have k67 : Kb (fun k => O k ∧ k ≠ B) W6 W7 := Kb.grown hg (fun k hk => Or.inl (hrow k hk))
  have k7 : Kb (fun k => O k ∧ k ≠ B) W W7 := (Kb.of_below hb).trans k67 (fun k hk => Or.inl hk)
  have e0 : W7.heap[B]? = W.heap[B]? := k7.same _ (by omega) (fun h => h.2 rfl)
  have c7 : W7.cell? ⟨B, 0, none⟩ = some ul := cellHp c0 e0
  have k68 : Kb O W6 (W7.setCell ⟨B, 0, none⟩ (.slice (some ⟨g, 0, none⟩) (vvs.length + 1) cap)) := (k67.mono (M' := O) (fun k _ hk => hk.1)).trans (Kb.setCell (M := O) _ a3) (fun k hk => Or.inl hk)
  have k8 : Kb O W (W7.setCell ⟨B, 0, none⟩ (.slice (some ⟨g, 0, none⟩) (vvs.length + 1) cap)) := (Kb.of_below hb).trans k68 (fun k hk => Or.inl hk)
  have hsz : (W7.setCell ⟨B, 0, none⟩ (.slice (some ⟨g, 0, none⟩) (vvs.length + 1) cap)).heap.size = W7.heap.size := by simp [World.setCell]
  have hgO : O g ∨ W6.heap.size ≤ g := by
    rcases hat with h | h
    · exact Or.inl (hrow g h).1
    · exact Or.inr (by omega)
  have hgB : B ≤ g ∧ g ≠ B ∧ g ≠ B + 1 := by
    rcases hat with h | h
    · have h1 := hrow g h
      exact ⟨(a2 g h1.1).2.1, h1.2, (a2 g h1.1).2.2⟩
    · exact ⟨by omega, by omega, by omega⟩
  have hO6 : ∀ k, (O k ∨ k = g) → O k ∨ W6.heap.size ≤ k := fun k hk => by
    rcases hk with hk | rfl
    · exact Or.inl hk
    · exact hgO
  have hO0 : ∀ k, (O k ∨ k = g) → O k ∨ W.heap.size ≤ k := fun k hk => (hO6 k hk).imp id (fun h => by omega)
  have keep : ∀ q, q < W.heap.size → (O q → False) → (W7.setCell ⟨B, 0, none⟩ (.slice (some ⟨g, 0, none⟩) (vvs.length + 1) cap)).heap[q]? = W.heap[q]? := fun q h1 h2 => k8.same q h1 h2
  have nO : ∀ q, q < B → O q → False := fun q h1 h2 => by have := (a2 q h2).2.1; omega
  have eB1 := keep (B + 1) hBW (fun h => (a2 _ h).2.2 rfl)
  have hX8 : Safe (fun k => M k ∨ (O k ∨ k = g)) (fun W => Ints W x.1 x.2.1) (W7.setCell ⟨B, 0, none⟩ (.slice (some ⟨g, 0, none⟩) (vvs.length + 1) cap)) :=
    hx.turn (k68.mono (M' := fun k => M k ∨ O k) (fun k _ h => Or.inr h)) (fun k hk => by
      rcases hk with hk | hk
      · exact Or.inl (Or.inl hk)
      · exact (hO6 k hk).imp Or.inr id)
  refine ⟨fun k => O k ∨ k = g, fun k hk => ⟨hO0 k hk, ?_⟩, k8, ⟨fun q hq => ?_, fun q hq => ?_, Or.inl a3, a4.trans (k8.below a4.size (fun k hk => by have := (a2 k hk).2.1; omega)), cellHp a5 (keep _ (World.block_lt_of_cell? _ _ a5) (nO _ (by show bs < B; omega))), cellHp a6 (keep _ (World.block_lt_of_cell? _ _ a6) (nO _ (by show bg < B; omega))), cellHp a7 (keep _ (World.block_lt_of_cell? _ _ a7) (nO _ (by show bp < B; omega))),
    cellHp a8 eB1, cellHp a9 eB1, _, vvs ++ [x.1], World.cell?_setCell_same' _ _ _ (by rw [c7]; rfl), (World.frozen?_setCell _ _ _ _).trans ((World.frozen?_of_block e0).trans f0), ?_, fun q hq => ?_, by simp [hlen], fun i v y hv hy => ?_⟩, hX8⟩
  · rw [hsz]
    rcases hk with hk | rfl
    · have := (a2 k hk).1; omega
    · exact hlt
  · have := a1 q hq
    refine ⟨by rw [hsz]; omega, this.2.1, this.2.2.1, this.2.2.2.1, this.2.2.2.2.1, this.2.2.2.2.2.1, fun ho => ?_⟩
    rcases hO0 q ho with h | h
    · exact this.2.2.2.2.2.2 h
    · omega
  · rcases hq with hq | rfl
    · have := a2 q hq
      exact ⟨by rw [hsz]; omega, this.2⟩
    · exact ⟨by rw [hsz]; exact hlt, hgB.1, hgB.2.2⟩
  · refine ownsRow_frm2 (by simpa using hown) (fun k hk => Below.heap_setCell _ _ _ _ (fun e => ?_))
    have h1 : g = k := by simpa [Value.ownBlock] using hk
    have h2 : k = B := e
    exact hgB.2.1 (h1.trans h2)
  · have h1 : g = q := by simpa [Value.ownBlock] using hq
    subst h1
    exact ⟨Or.inr rfl, hgB.2.1⟩
  · rcases Nat.lt_or_ge i vvs.length with h1 | h1
    · rw [List.getElem?_append_left h1] at hv
      rw [List.getElem?_append_left (by omega)] at hy
      exact (hall i v y hv hy).turn (k8.mono (M' := fun k => M k ∨ O k) (fun k _ h => Or.inr h)) (fun k hk => by
        rcases hk with hk | hk
        · exact Or.inl (Or.inl hk)
        · exact (hO0 k hk).imp Or.inr id)
    · rw [List.getElem?_append_right h1] at hv
      rw [List.getElem?_append_right (by omega)] at hy
      rw [← hlen] at hy
      obtain ⟨j, hj⟩ : ∃ j, i - vvs.length = j := ⟨_, rfl⟩
      rw [hj] at hv hy
      cases j with
      | zero =>
        simp at hv hy
        subst hv hy
        exact hX8
      | succ j => simp at hv
/-- the two functions that say what a step says, in one form. -/
def SayC (F : Nat) (args : Array Value) (s : Sg) (g l : List (List Int)) (st : St) (X : World) : Prop :=
  Calls Tryz.prog F args X fun e w' => ∃ x u, sayR s g l st x ∧ e = .returned (.tuple #[u, .int .i64 x.2]) ∧ w'.ownsRow X.heap.size 3 1 u x.1.length (x.1.map (Value.int .i64)) ∧ Below X.heap.size X w'
theorem say_cite (bs bg : Nat) (st : St) (vs vg : Value) (s : Sg) (g l : List (List Int)) (X : World) (hs : SignAt X vs s) (hg : Terms X vg g) (ha : givensB s g = true) (hs1 : s.length ≤ 1000) (c1 : X.cell? ⟨bs, 0, none⟩ = some vs) (c2 : X.cell? ⟨bg, 0, none⟩ = some vg)
    (k : Int) (hr : rightB g.length k st = true) (h1 : st.1 = 1) : SayC 183 #[.agg #[.int .i64 st.1, .int .i64 st.2.1, .int .i64 st.2.2], .pointer (some ⟨bs, 0, none⟩), .pointer (some ⟨bg, 0, none⟩)] s g l st X := by
  obtain ⟨x0, x1, x2⟩ := st
  simp only at h1
  subst h1
  unfold rightB at hr
  simp only [if_true, Bool.and_eq_true] at hr
  have h2 := inB_true.1 hr.1
  obtain ⟨i, rfl⟩ : ∃ i : Nat, x1 = (i : Int) := ⟨x1.toNat, by omega⟩
  have hi : i < g.length := by omega
  have hv : termB s g[i] = true := by
    unfold givensB at ha
    simp only [Bool.and_eq_true] at ha
    have h3 := ha.2
    unfold allB at h3
    rw [List.all_eq_true] at h3
    exact h3 _ (List.getElem_mem hi)
  refine (kernel_cite bs bg 1 x2 i vs vg s g X hs hg hi hv hs1 c1 c2).mono ?_
  rintro e w' ⟨u, rfl, hown, hb⟩
  refine ⟨(canonL g[i], 0), u, ?_, rfl, hown, hb⟩
  unfold sayR
  simp only [if_true, Int.toNat_natCast]
  rw [List.getD_eq_getElem?_getD, List.getElem?_eq_getElem hi]
  rfl
theorem say_dets (bs bl : Nat) (st : St) (vs vl : Value) (s : Sg) (g l : List (List Int)) (X : World) (hs : SignAt X vs s) (hl : Terms X vl l) (hs1 : s.length ≤ 1000) (c1 : X.cell? ⟨bs, 0, none⟩ = some vs) (c2 : X.cell? ⟨bl, 0, none⟩ = some vl)
    (gl : Int) (hr : rightB gl l.length st = true) (h1 : st.1 = 2) : SayC 184 #[.agg #[.int .i64 st.1, .int .i64 st.2.1, .int .i64 st.2.2], .pointer (some ⟨bs, 0, none⟩), .pointer (some ⟨bl, 0, none⟩)] s g l st X := by
  obtain ⟨x0, x1, x2⟩ := st
  simp only at h1
  subst h1
  unfold rightB at hr
  rw [if_neg (by omega), if_pos rfl] at hr
  simp only [Bool.and_eq_true] at hr
  have h2 := inB_true.1 hr.1
  have h3 := inB_true.1 hr.2
  try simp only at h2 h3
  obtain ⟨i, rfl⟩ : ∃ i : Nat, x1 = (i : Int) := ⟨x1.toNat, by omega⟩
  obtain ⟨j, rfl⟩ : ∃ j : Nat, x2 = (j : Int) := ⟨x2.toNat, by omega⟩
  have hi : i < l.length := by omega
  have hj : j < l.length := by omega
  refine (kernel_dets bs bl 2 i j vs vl s l X hs hl hi hj hs1 c1 c2).mono ?_
  rintro e w' ⟨x, u, hx, rfl, hown, hb⟩
  refine ⟨x, u, ?_, rfl, hown, hb⟩
  unfold sayR
  rw [if_neg (by simp)]
  simp only [Int.toNat_natCast]
  rw [List.getD_eq_getElem?_getD, List.getElem?_eq_getElem hi, List.getD_eq_getElem?_getD, List.getElem?_eq_getElem hj]
  exact hx
theorem say_len {s : Sg} {g l : List (List Int)} {st : St} {y : List Int × Int} (ha : givensB s g = true) (h : sayR s g l st y) : y.1.length ≤ 60 := by
  unfold sayR at h
  by_cases h1 : st.1 = 1
  · rw [if_pos h1] at h
    subst h
    rw [canonL_len, List.getD_eq_getElem?_getD]
    cases h2 : g[st.2.1.toNat]? with
    | none => simp
    | some t =>
      unfold givensB at ha
      simp only [Bool.and_eq_true] at ha
      have h3 := ha.2
      unfold allB at h3
      rw [List.all_eq_true] at h3
      exact (termB_facts (h3 t (List.mem_of_getElem? h2))).2.2.2
  · rw [if_neg h1] at h
    rcases h with ⟨-, rfl⟩ | ⟨-, -, ⟨-, rfl⟩ | ⟨A, B, -, -, -, ⟨-, rfl⟩ | ⟨m, -, ⟨hb, rfl⟩ | ⟨-, rfl⟩⟩⟩⟩
    · simp
    · simp
    · simp
    · rw [canonL_len]; exact (madeB_iff.1 hb).1
    · simp
theorem right_kind {g k : Int} {st : St} (h : rightB g k st = true) : st.1 = 1 ∨ st.1 = 2 := by
  unfold rightB at h
  by_cases h1 : st.1 = 1
  · exact Or.inl h1
  · rw [if_neg h1] at h
    by_cases h2 : st.1 = 2
    · exact Or.inr h2
    · rw [if_neg h2] at h; cases h
theorem proof60 {g : Int} {p : List St} (h : proofB g p = true) : p.length ≤ 60 := by
  unfold proofB at h
  simp only [Bool.and_eq_true] at h
  have := (inB_true.1 h.2).2
  omega
theorem asked_parts {s : Sg} {g : List (List Int)} {p : List St} (h : askedB s g p = true) : givensB s g = true ∧ proofB g.length p = true := by
  unfold askedB at h
  simpa using h
set_option maxHeartbeats 4000000 in
set_option maxRecDepth 100000 in
theorem steps_seq (bs bg bp : Nat) (vs vg vp : Value) (s : Sg) (g : List (List Int)) (p : List St) (wb w0 : World) (hask : askedB s g p = true) (hs1 : s.length ≤ 1000)
    (hb : Below wb.heap.size wb w0) (hsn : SignAt wb vs s) (hg : Terms wb vg g) (hp : StepsAt wb vp p) (hcs : w0.cell? ⟨bs, 0, none⟩ = some vs) (hcg : w0.cell? ⟨bg, 0, none⟩ = some vg) (hcp : w0.cell? ⟨bp, 0, none⟩ = some vp) :
    SeqO Tryz.prog 182 #[.pointer (some ⟨bs, 0, none⟩), .pointer (some ⟨bg, 0, none⟩), .pointer (some ⟨bp, 0, none⟩)] keX (keE s g p) (keS p) (fun k => k < wb.heap.size ∨ k = bs ∨ k = bg ∨ k = bp) w0 := fun l J Jx M0 W hW hM0 hJ hJx hY h0 => by
  have c1 := (hW.cell (World.block_lt_of_cell? _ _ hcs)).trans hcs
  have c2 := (hW.cell (World.block_lt_of_cell? _ _ hcg)).trans hcg
  have c3 := (hW.cell (World.block_lt_of_cell? _ _ hcp)).trans hcp
  have hbW := hb.trans (hW.mono hb.size)
  have hl1 : bs < W.heap.size := World.block_lt_of_cell? _ _ c1
  have hl2 : bg < W.heap.size := World.block_lt_of_cell? _ _ c2
  have hl3 : bp < W.heap.size := World.block_lt_of_cell? _ _ c3
  obtain ⟨pa, pc, rfl, hpc, hp2, -, HC⟩ := hp.open
  refine callsIn_of_wp Tryz.func182 rfl trivial ?_ rfl
  simp only [Tryz.ntmps182, List.size_toArray, List.length_cons, List.length_nil, Nat.reduceAdd, Nat.reduceSub, Array.replicate_succ, Array.replicate_zero, List.push_toArray, List.append_toArray, List.nil_append, List.cons_append]
  have HJ := hid hJ
  have HJX := hid hJx
  have HY := hid hY
  have HPC := hid HC
  clear hJ hJx hY HC
  have c3' := fun (o1 o2 : Obj) => cell_alloc_keep o2 (cell_alloc_keep o1 c3)
  gi_wp2_with fail
  clear c3'
  obtain ⟨W9, hW9⟩ : ∃ W9, ((W.alloc (.cells #[.slice none 0 0] 24)).alloc (.cells #[.func (.func 183) #[] #[.pointer (some ⟨bs, 0, none⟩), .pointer (some ⟨bg, 0, none⟩)], .func (.func 184) #[] #[.pointer (some ⟨bs, 0, none⟩), .pointer (some ⟨W.heap.size, 0, none⟩)]] 197)) = W9 := ⟨_, rfl⟩
  rw [hW9]
  have hsz : W9.heap.size = W.heap.size + 2 := by rw [← hW9]; simp
  have hbA := ((Below.refl W.heap.size W).alloc (Nat.le_refl _) (.cells #[.slice none 0 0] 24))
  have hb9 := hbA.alloc (by simp) (.cells #[.func (.func 183) #[] #[.pointer (some ⟨bs, 0, none⟩), .pointer (some ⟨bg, 0, none⟩)], .func (.func 184) #[] #[.pointer (some ⟨bs, 0, none⟩), .pointer (some ⟨W.heap.size, 0, none⟩)]] 197)
  rw [hW9] at hb9
  have d0 : W9.cell? ⟨W.heap.size, 0, none⟩ = some (.slice none 0 0) := by
    rw [← hW9]; exact cell_alloc_keep _ (cell_new1 _ _ _)
  have df : W9.frozen? ⟨W.heap.size, 0, none⟩ = false := by
    have h1 := (Boxed.new W 24 (.slice none 0 0)).frozen
    have h2 : Below (W.heap.size + 1) (W.alloc (.cells #[.slice none 0 0] 24)) W9 := by rw [← hW9]; exact (Below.refl _ _).alloc (by simp) _
    exact (h2.frozen (p := ⟨W.heap.size, 0, none⟩) (by show W.heap.size < _; omega)).trans h1
  have dn : ∀ i, W9.cell? ⟨W.heap.size + 1, i, none⟩ = ((#[.func (.func 183) #[] #[.pointer (some ⟨bs, 0, none⟩), .pointer (some ⟨bg, 0, none⟩)], .func (.func 184) #[] #[.pointer (some ⟨bs, 0, none⟩), .pointer (some ⟨W.heap.size, 0, none⟩)]] : Array Value)[i]?) := by
    intro i
    have := World.cell?_alloc_new (w := W.alloc (.cells #[.slice none 0 0] 24)) #[.func (.func 183) #[] #[.pointer (some ⟨bs, 0, none⟩), .pointer (some ⟨bg, 0, none⟩)], .func (.func 184) #[] #[.pointer (some ⟨bs, 0, none⟩), .pointer (some ⟨W.heap.size, 0, none⟩)]] 197 i
    rw [World.size_alloc] at this
    rw [← hW9]; exact this
  have e1 := (hb9.cell hl1).trans c1
  have e2 := (hb9.cell hl2).trans c2
  have e3 := (hb9.cell hl3).trans c3
  have hM9 : ∀ k, M0 k → k < W.heap.size ∧ k ≠ bs ∧ k ≠ bg ∧ k ≠ bp ∧ wb.heap.size ≤ k := fun k hk => by
    have := hM0 k hk
    exact ⟨this.2, fun h => this.1 (Or.inr (Or.inl h)), fun h => this.1 (Or.inr (Or.inr (Or.inl h))), fun h => this.1 (Or.inr (Or.inr (Or.inr h))), by have h := this.1; omega⟩
  have hbwW := hbW.size
  have hI0 : KsI wb bs bg bp W.heap.size vs vg (.slice pa p.length pc) [] M0 (fun k => k = W.heap.size) W9 :=
    ⟨fun q hq => by have := hM9 q hq; exact ⟨by omega, this.2.2.2.2, this.2.1, this.2.2.1, this.2.2.2.1, by omega, by omega⟩, fun q hq => by subst hq; exact ⟨by omega, by omega, by omega⟩, rfl, hbW.trans (hb9.mono hbW.size), e1, e2, e3, (dn 0).trans rfl, (dn 1).trans rfl,
      _, [], d0, df, World.ownsRow_nil _ _ _ _, (fun k h => by cases h), rfl, fun i v x h => by simp at h⟩
  have hJ9 := HJ.out [] M0 (fun _ => False) (fun k => k = W.heap.size) W W9 h0 (Kb.of_below hb9) (fun k hk => ⟨Or.inr (by omega), by omega⟩)
  have HI0 := hid hI0
  have HJ9 := hid hJ9
  have HS := hid hsn
  have HG := hid hg
  have HBS : Hid (bs < W.heap.size ∧ bg < W.heap.size ∧ bp < W.heap.size) := hid ⟨hl1, hl2, hl3⟩
  clear hI0 hJ9 dn df d0 hW9 e1 e2 e3 hM9 hbA hb9 c1 c2 c3 hcs hcg hcp hM0 h0 hsn hg hp hb hW hl1 hl2 hl3
  gi_loopw [16] (fun kv wr => ∃ (k : Nat) (pre : List KE) (M O : Nat → Prop), k ≤ p.length ∧ kv = .int .i64 k ∧ pre.length = k ∧ (∀ y ∈ pre, y.2.2 = 0) ∧ J pre M O wr ∧ KsI wb bs bg bp W.heap.size vs vg (.slice pa p.length pc) pre M O wr ∧ W.heap.size + 2 ≤ wr.heap.size) (fun kv _ => p.length - (intOf kv).toNat)
  case atStart => exact ⟨0, [], M0, _, by omega, rfl, rfl, by simp, HJ9.out, HI0.out, by omega⟩
  case round =>
    clear HI0 HJ9
    obtain ⟨k, pre, M, O, hk, rfl, hpl, hp0, hj, hI, hsr⟩ := hrel
    have HPL := hid hpl
    have HP0 := hid hp0
    have HJJ := hid hj
    have HI := hid hI
    clear hpl hp0 hj hI
    by_cases hlt : k < p.length
    · obtain ⟨cb, co, rfl, c10, c20, c30⟩ := HPC.out k hlt
      have hbel := HI.out.bel
      have c1' := (hbel.cell (World.block_lt_of_cell? _ _ c10)).trans c10
      have c2' := (hbel.cell (World.block_lt_of_cell? _ _ c20)).trans c20
      have c3' := (hbel.cell (World.block_lt_of_cell? _ _ c30)).trans c30
      have hrt := proofB_at (asked_parts hask).2 hlt
      have hST : Hid (p[pre.length]? = some p[k]) := hid (by rw [HPL.out, List.getElem?_eq_getElem hlt])
      obtain ⟨st, hst⟩ : ∃ st, p[k] = st := ⟨_, rfl⟩
      rw [hst] at c1' c2' c3' hrt hST
      have hknd := right_kind hrt
      obtain ⟨x0, x1, x2⟩ := st
      simp only at c1' c2' c3' hknd
      obtain ⟨ul, vvs, b1, b2, b3, b4, b5, b6⟩ := HI.out.row
      obtain ⟨ua, uc, rfl⟩ := ownsRow_slice2 b3
      have hbA : Below wr.heap.size wr (wr.alloc (.cells #[.int .i64 x0, .int .i64 x1, .int .i64 x2] 57)) := (Below.refl _ _).alloc (Nat.le_refl _) _
      have q0 : (wr.alloc (.cells #[.int .i64 x0, .int .i64 x1, .int .i64 x2] 57)).cell? ⟨wr.heap.size, 0, none⟩ = some (.int .i64 x0) := by rw [World.cell?_alloc_new]; rfl
      have q1 : (wr.alloc (.cells #[.int .i64 x0, .int .i64 x1, .int .i64 x2] 57)).cell? ⟨wr.heap.size, 1, none⟩ = some (.int .i64 x1) := by rw [World.cell?_alloc_new]; rfl
      have q2 : (wr.alloc (.cells #[.int .i64 x0, .int .i64 x1, .int .i64 x2] 57)).cell? ⟨wr.heap.size, 2, none⟩ = some (.int .i64 x2) := by rw [World.cell?_alloc_new]; rfl
      have g0 := (hbA.cell (World.block_lt_of_cell? _ _ HI.out.f0)).trans HI.out.f0
      have g1 := (hbA.cell (World.block_lt_of_cell? _ _ HI.out.f1)).trans HI.out.f1
      have hvl : vvs.length ≤ 60 := by have := proof60 (asked_parts hask).2; rw [b5, HPL.out]; omega
      have hTl : Terms wr (.slice ua vvs.length uc) (pre.map fun y => y.2.1) := by
        refine ⟨vvs, RowK.of_owns b3 (by omega), by simpa using b5, fun i v t h1 h2 => ?_⟩
        rw [List.getElem?_map] at h2
        cases h3 : pre[i]? with
        | none => rw [h3] at h2; cases h2
        | some y =>
          rw [h3] at h2
          cases h2
          exact (b6 i v y h1 h3).here
      have hbz := hbel.trans (hbA.mono hbel.size)
      have HC1 := hid (fun (h1 : x0 = 1) (j : Nat) => say_cite bs bg (x0, x1, x2) vs vg s g (pre.map fun y => y.2.1) ((wr.alloc (.cells #[.int .i64 x0, .int .i64 x1, .int .i64 x2] 57)).drewN j) ((HS.out.below hbz).drewN j) ((HG.out.below hbz).below (below_self_drewN _ j)) (asked_parts hask).1 hs1
        (((below_self_drewN _ j).cell (World.block_lt_of_cell? _ _ ((hbA.cell (World.block_lt_of_cell? _ _ HI.out.cs)).trans HI.out.cs))).trans ((hbA.cell (World.block_lt_of_cell? _ _ HI.out.cs)).trans HI.out.cs))
        (((below_self_drewN _ j).cell (World.block_lt_of_cell? _ _ ((hbA.cell (World.block_lt_of_cell? _ _ HI.out.cg)).trans HI.out.cg))).trans ((hbA.cell (World.block_lt_of_cell? _ _ HI.out.cg)).trans HI.out.cg)) k hrt h1)
      have HC2 := hid (fun (h1 : x0 = 2) (j : Nat) => say_dets bs W.heap.size (x0, x1, x2) vs (.slice ua vvs.length uc) s g (pre.map fun y => y.2.1) ((wr.alloc (.cells #[.int .i64 x0, .int .i64 x1, .int .i64 x2] 57)).drewN j) ((HS.out.below hbz).drewN j) ((hTl.below hbA).below (below_self_drewN _ j)) hs1
        (((below_self_drewN _ j).cell (World.block_lt_of_cell? _ _ ((hbA.cell (World.block_lt_of_cell? _ _ HI.out.cs)).trans HI.out.cs))).trans ((hbA.cell (World.block_lt_of_cell? _ _ HI.out.cs)).trans HI.out.cs))
        (((below_self_drewN _ j).cell (World.block_lt_of_cell? _ _ ((hbA.cell (World.block_lt_of_cell? _ _ b1)).trans b1))).trans ((hbA.cell (World.block_lt_of_cell? _ _ b1)).trans b1)) g.length (by rw [List.length_map, HPL.out]; exact hrt) h1)
      have HXS := hid (hbA.size)
      have HB1 := hid b1
      have HB2 := hid b2
      have HB3 := hid b3
      have HB4 := hid b4
      have HB5 := hid b5
      have HB6 := hid b6
      have y0 : (0 : Int) ≤ (k : Int) := by omega
      have y1 : (k : Int) < (p.length : Int) := by omega
      clear b1 b2 b3 b4 b5 b6 hTl c10 c20 c30 hst hbz hrt
      gi_wp2_with fail
      clear c1' c2' c3'
      obtain ⟨bx, hbx⟩ : ∃ bx, wr.heap.size = bx := ⟨_, rfl⟩
      obtain ⟨WA, hWA⟩ : ∃ WA, wr.alloc (.cells #[.int .i64 x0, .int .i64 x1, .int .i64 x2] 57) = WA := ⟨_, rfl⟩
      rw [hWA] at q0 q1 q2 g0 g1 HC1 HC2 HXS hbA ⊢
      rw [hbx] at q0 q1 q2
      try rw [hbx]
      have HWA := hid hWA
      clear hWA
      rcases hknd with h1 | h1
      case' inl =>
        have hcl := HC1.out h1
        clear HC1 HC2
        subst h1
        try simp only at hcl
        unfold SayC at hcl
        have HCL := hid hcl
        clear hcl
        have hw1 : IntKind.i64.wrap 0 = 0 := by first | rfl | decide | (rw [IntWalk.i64_in _ (by omega)])
        refine wpIn_wide.2 ?_
        go_region_held3 (fun w' => w'.cell? ⟨bx, 0, none⟩ = some (.int .i64 1) ∧ w'.cell? ⟨bx, 1, none⟩ = some (.int .i64 x1) ∧ w'.cell? ⟨bx, 2, none⟩ = some (.int .i64 x2) ∧ w'.cell? ⟨W.heap.size + 1, 0, none⟩ = some (.func (.func 183) #[] #[.pointer (some ⟨bs, 0, none⟩), .pointer (some ⟨bg, 0, none⟩)]))
          (first | exact ⟨by assumption, by assumption, by assumption, by assumption⟩ | go_keep)
          (first
          | (go_at_call 183; refine (HCL.out 1).mono ?_; rintro e w1 ⟨xr, u, hsay, rfl, hown, hb1'⟩
             have hb1 : Below WA.heap.size WA w1 := (below_self_drewN WA 1).trans hb1'
             have q0 := (hb1.cell (World.block_lt_of_cell? _ _ q0)).trans q0
             have q1 := (hb1.cell (World.block_lt_of_cell? _ _ q1)).trans q1
             have q2 := (hb1.cell (World.block_lt_of_cell? _ _ q2)).trans q2
             have g0 := (hb1.cell (World.block_lt_of_cell? _ _ g0)).trans g0))
      case' inr =>
        have hcl := HC2.out h1
        clear HC1 HC2
        subst h1
        try simp only at hcl
        unfold SayC at hcl
        have HCL := hid hcl
        clear hcl
        have hw1 : IntKind.i64.wrap 1 = 1 := by first | rfl | decide | (rw [IntWalk.i64_in _ (by omega)])
        refine wpIn_wide.2 ?_
        go_region_held3 (fun w' => w'.cell? ⟨bx, 0, none⟩ = some (.int .i64 2) ∧ w'.cell? ⟨bx, 1, none⟩ = some (.int .i64 x1) ∧ w'.cell? ⟨bx, 2, none⟩ = some (.int .i64 x2) ∧ w'.cell? ⟨W.heap.size + 1, 1, none⟩ = some (.func (.func 184) #[] #[.pointer (some ⟨bs, 0, none⟩), .pointer (some ⟨W.heap.size, 0, none⟩)]))
          (first | exact ⟨by assumption, by assumption, by assumption, by assumption⟩ | go_keep)
          (first
          | (go_at_call 184; refine (HCL.out 1).mono ?_; rintro e w1 ⟨xr, u, hsay, rfl, hown, hb1'⟩
             have hb1 : Below WA.heap.size WA w1 := (below_self_drewN WA 1).trans hb1'
             have q0 := (hb1.cell (World.block_lt_of_cell? _ _ q0)).trans q0
             have q1 := (hb1.cell (World.block_lt_of_cell? _ _ q1)).trans q1
             have q2 := (hb1.cell (World.block_lt_of_cell? _ _ q2)).trans q2
             have g1 := (hb1.cell (World.block_lt_of_cell? _ _ g1)).trans g1))
      all_goals
        have hs1w := hb1.size
        obtain ⟨xt, xe⟩ := xr
        have hxl := say_len (asked_parts hask).1 hsay
        dsimp only at hxl hown
        obtain ⟨xa, xc, rfl⟩ := ownsRow_slice2 hown
        have hbw1 : Below wr.heap.size wr w1 := hbA.trans (hb1.mono hbA.size)
        have hSX : Safe (fun k => M k ∨ O k) (fun W => Ints W (.slice xa xt.length xc) xt) w1 := Safe.ints hown (by omega) (fun k hk => by
          have h9 := hbA.size
          show k < WA.heap.size
          rcases hk with hk | hk
          · have := (HI.out.mb k hk).1; omega
          · have := (HI.out.ob k hk).1; omega)
        have hbB : Below wr.heap.size wr (w1.alloc (.cells #[.slice xa xt.length xc] 34)) := hbw1.alloc hbw1.size _
        have c5 := (hbw1.cell (World.block_lt_of_cell? _ _ HB1.out)).trans HB1.out
        have HRA := hid (owns_below HB3.out hbB)
        have hsrc : RowK (w1.alloc (.cells #[.slice xa xt.length xc] 34)) (.slice (some ⟨w1.heap.size, 0, none⟩) 1 1) 1 1 [.slice xa xt.length xc] := row_one_new _ _ _
        have HSRC := hid hsrc
        have C96 := hid ((hbB.cell (World.block_lt_of_cell? _ _ HB1.out)).trans HB1.out)
        have F96 := hid ((hbB.frozen (p := ⟨W.heap.size, 0, none⟩) (World.block_lt_of_cell? _ _ HB1.out)).trans HB2.out)
        have HSX6 := hid (hSX.grow ((Below.refl _ w1).alloc (Nat.le_refl _) (.cells #[.slice xa xt.length xc] 34)))
        have HBB := hid hbB
        have HXS2 := hid hbB.size
        have HSAY := hid hsay
        clear hsrc hbB hSX hown hb1' hsay q0 q1 q2 HCL hbw1
        try clear g0
        try clear g1
        try clear HC1
        try clear HC2
        gi_wp2_with (gi_at_builtin; refine wpListIn_append_lie rfl _ _ 24 rfl W.heap.size 34 el_term Tryz.underlying24 rfl (by decide) _ _ _ rfl HRA.out _ 1 [.slice xa xt.length xc] rfl HSRC.out (by simp; exact rfl) (by decide) (by omega) (by omega) (by have := HXS2.out; omega) _ rfl ?_; intro g9 cp9 w7 hown7 hgrow7 hat7 hlt7; have e97 := hgrow7.block W.heap.size (World.block_lt_of_cell? _ _ C96.out) (fun e => (HB4.out _ e.symm).2 rfl); have c97 := cellHp C96.out e97; have f97 := (World.frozen?_of_block e97).trans F96.out; obtain ⟨O', o1, o2, o3, o4⟩ := KsI.push (x := ((.slice xa xt.length xc, xt, xe) : KE)) HI.out hbwW HBS.out (by omega) HB1.out HB2.out HB4.out HB5.out HB6.out HBB.out HSX6.out rfl hown7 hgrow7 hat7 hlt7; obtain ⟨fn, tmps, assign, body, hy, hR⟩ := HY.out pre ((.slice xa xt.length xc, xt, xe) : KE) M O' _ (HJ.out _ _ _ _ _ _ HJJ.out o2 o1) ⟨HP0.out, ⟨_, hST.out, HSAY.out⟩, o4⟩; dsimp only [keX] at hy; have HRR := hid (roundIn_any2 (m := 1) hR))
        have HO2 := hid o2
        have HO3 := hid o3
        have hs8 := o2.size
        clear o1 o2 o3 o4 hR hown7 hgrow7 hat7 e97 c97 f97
        refine HRR.out.mono ?_
        rintro e W3 ⟨M', m1, m2, m3, ⟨rfl, hJ3⟩ | ⟨rfl, hJx3⟩⟩
        · have hI3 := HO3.out.turn hbwW HBS.out (by omega) m3 m1 m2
          have hs3 := m3.size
          have HJ3 := hid hJ3
          have HI3 := hid hI3
          clear hJ3 hI3 m1 m2 m3
          by_cases hx0 : xe = 0
          · subst hx0
            gi_wp2
            go_roundw
            case rel =>
              refine ⟨k + 1, _, M', O', by omega, by go_num, by simp [HPL.out], fun y hy => ?_, HJ3.out, HI3.out, by omega⟩
              rcases List.mem_append.1 hy with h | h
              · exact HP0.out y h
              · simp at h; rw [h]
            case measure => simp [intOf]; omega
          · have n0 : (xe != 0) = true := by simpa using hx0
            gi_wp2
            refine bodyPost_ret (results_none rfl _ _ _) rfl ?_
            exact ⟨⟨_, rfl⟩, .inl ⟨_, M', O', Or.inr ⟨_, List.mem_append_right _ (List.mem_singleton.2 rfl), hx0⟩, HJ3.out⟩⟩
        · gi_wp2
          refine bodyPost_ret (results_none rfl _ _ _) rfl ?_
          exact ⟨⟨_, rfl⟩, .inr ⟨_, M', O', hJx3⟩⟩
    · obtain rfl : k = p.length := by omega
      gi_wp2
      go_end0
      exact ⟨⟨_, rfl⟩, .inl ⟨pre, M, O, Or.inl HPL.out, HJJ.out⟩⟩
end Go.Proofs.YtmpjaakkjhmpmaaGreatDoor
