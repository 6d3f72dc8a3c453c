/-
  WHAT IT HOLDS: 'a block of memory is a map that sends these keys to these values' (MapK), and the laws for a look-up, a store and len at such a map. Over any program. No condition.
-/
import Derived.Test.YtldgkidojepdlaaGreatZRTopCarriedShelves3
namespace Go.Proofs.YtldgkidojepdlaaGreat
open Go Go.RowKit Go.Maps

/-- block b is a map of n entries: m says what each key is sent to. -/
def MapK {κ ε : Type} (P : Program) (k : TypeId) (ek : κ → Value) (ev : ε → Value) (w : World) (b n : Nat) (m : κ → Option ε) : Prop :=
  ∃ es clock, w.heap[b]? = some (.map es clock) ∧ es.size = n ∧ (∀ e ∈ es.toList, ∃ l, keyOf P k e.key = some l) ∧
    (∀ e ∈ es.toList, ∃ x v, e.key = ek x ∧ e.val = ev v ∧ m x = some v) ∧ (∀ x v, m x = some v → ∃ e ∈ es.toList, e.key = ek x ∧ e.val = ev v) ∧
    MapKept.Stamped es clock

section
variable {κ ε : Type} {P : Program} {k : TypeId} {ek : κ → Value} {ev : ε → Value} {w : World} {b n : Nat} {m : κ → Option ε}

theorem MapK.made (P : Program) (k : TypeId) (ek : κ → Value) (ev : ε → Value) (w : World) : MapK P k ek ev (w.alloc (.map #[] 0)) w.heap.size 0 (fun _ => none) :=
  ⟨#[], 0, (MapKept.heap_alloc w _).1, rfl, by simp, by simp, (fun _ _ h => by cases h), MapKept.stamped_empty 0⟩
theorem MapK.lt (h : MapK P k ek ev w b n m) : b < w.heap.size := by
  obtain ⟨es, clock, hb, _⟩ := h
  exact (Array.getElem?_eq_some_iff.1 hb).1
theorem MapK.of_block {w' : World} (h : MapK P k ek ev w b n m) (hb : w'.heap[b]? = w.heap[b]?) : MapK P k ek ev w' b n m := by
  obtain ⟨es, clock, h1, h2⟩ := h
  exact ⟨es, clock, hb.trans h1, h2⟩
theorem MapK.kept {w' : World} {row : Option Nat} (h : MapK P k ek ev w b n m) (hg : w.grownBy w' row) (hne : some b ≠ row) : MapK P k ek ev w' b n m :=
  h.of_block (hg.block b h.lt hne)
theorem MapK.below {w' : World} {B : Nat} (h : MapK P k ek ev w b n m) (hg : Below B w w') (hB : b < B) : MapK P k ek ev w' b n m :=
  h.of_block (hg.block b hB)
theorem MapK.belowS {w' : World} (h : MapK P k ek ev w b n m) (hg : Below w.heap.size w w') : MapK P k ek ev w' b n m :=
  h.of_block (hg.block b h.lt)
theorem MapK.alloc (h : MapK P k ek ev w b n m) (o : Obj) : MapK P k ek ev (w.alloc o) b n m :=
  h.of_block (Below.heap_alloc _ _ _ h.lt)
theorem MapK.drewN (h : MapK P k ek ev w b n m) (q : Nat) : MapK P k ek ev (w.drewN q) b n m := h
theorem MapK.drew (h : MapK P k ek ev w b n m) : MapK P k ek ev w.drew b n m := h
theorem MapK.setCell (h : MapK P k ek ev w b n m) {a : Addr} (ha : b ≠ a.block) (u : Value) : MapK P k ek ev (w.setCell a u) b n m :=
  h.of_block (Below.heap_setCell _ _ _ _ ha)

/-- whatever is a cell stays while the map is written. -/
theorem MapK.cell {w' : World} {row : Option Nat} (h : MapK P k ek ev w b n m) (hr : row = some b) (hg : w.grownBy w' row) {a : Addr} {v : Value} (hc : w.cell? a = some v) : w'.cell? a = some v := by
  subst hr
  refine hg.cell hc (fun e => ?_)
  cases e
  obtain ⟨es, clock, hb, _⟩ := h
  simp [World.cell?, hb] at hc
theorem MapK.rowK {w' : World} {row : Option Nat} (h : MapK P k ek ev w b n m) (hr : row = some b) (hg : w.grownBy w' row) {v : Value} {q r : Nat} {xs : List Value} (hx : RowK w v q r xs) : RowK w' v q r xs := by
  obtain ⟨h1, a, cap, h2, h3, h4, h5, h6⟩ := hx
  refine ⟨h1, a, cap, h2, h3, h4, h5, fun j u hj => ?_⟩
  obtain ⟨b', o, h7, h8⟩ := h6 j u hj
  exact ⟨b', o, h7, h.cell hr hg h8⟩
theorem MapK.ints {w' : World} {row : Option Nat} (h : MapK P k ek ev w b n m) (hr : row = some b) (hg : w.grownBy w' row) {v : Value} {xs : List Int} (hx : Ints w v xs) : Ints w' v xs := h.rowK hr hg hx
theorem MapK.signAt {w' : World} {row : Option Nat} (h : MapK P k ek ev w b n m) (hr : row = some b) (hg : w.grownBy w' row) {v : Value} {xs : List (ByteArray × Int)} (hx : SignAt w v xs) : SignAt w' v xs := ⟨h.rowK hr hg hx.1, hx.2⟩

theorem MapK.run_lookup {t e : TypeId} (h : MapK P k ek ev w b n m) (K : Keyed P k) (hinj : ∀ x y, ek x = ek y → x = y) (ht : P.underlying t = some (.map k e)) {z : Value} (hz : (zeroValue e).run P w = .ok z w)
    (x : κ) {kl : Lit} (hkey : keyOf P k (ek x) = some kl) (c : Bool) :
    (Instr.lookup t (.map (some b)) (ek x) c).run P w = .ok (if c then .tuple #[((m x).map ev).getD z, .bool (m x).isSome] else ((m x).map ev).getD z) w := by
  obtain ⟨es, clock, hb, hn, hks, hin, hout, hnd⟩ := h
  rcases K.find w hkey es.toList hks with ⟨hrun, hno⟩ | ⟨j, e0, hrun, hj, he0⟩
  · have hmx : m x = none := by
      cases hmx : m x with
      | none => rfl
      | some v => obtain ⟨e1, h1, h2, _⟩ := hout x v hmx; exact absurd h2 (hno e1 h1)
    simp [Instr.lookup, run_underlying ht, MapKept.run_getObj_map hb, K.check w es.isEmpty hkey, hrun, hz, hmx, Result.andThen]
  · have hmem : e0 ∈ es.toList := List.mem_of_getElem? hj
    obtain ⟨x1, v1, h1, h2, h3⟩ := hin e0 hmem
    have hx : x1 = x := hinj _ _ (h1.symm.trans he0)
    subst hx
    simp [Instr.lookup, run_underlying ht, MapKept.run_getObj_map hb, K.check w es.isEmpty hkey, hrun, h3, h2, Result.andThen]

theorem MapK.run_update [DecidableEq κ] {t e : TypeId} (h : MapK P k ek ev w b n m) (K : Keyed P k) (hinj : ∀ x y, ek x = ek y → x = y) (ht : P.underlying t = some (.map k e))
    (x : κ) (v : ε) {kl : Lit} (hkey : keyOf P k (ek x) = some kl) :
    ∃ w', (Instr.mapUpdate t (.map (some b)) (ek x) (ev v)).run P w = .ok () w' ∧ MapK P k ek ev w' b (if (m x).isSome then n else n + 1) (fun y => if y = x then some v else m y) ∧ w.grownBy w' (some b) := by
  obtain ⟨es, clock, hb, hn, hks, hin, hout, hst⟩ := h
  have hnd := ((MapKept.stamped_iff es clock).1 hst).2.2
  have hgrow : ∀ o : Obj, w.grownBy { w with heap := w.heap.setIfInBounds b o } (some b) := fun o =>
    ⟨rfl, rfl, rfl, by simp, fun i hi hne => by
      show (w.heap.setIfInBounds b o)[i]? = _
      rw [Array.getElem?_setIfInBounds_ne (fun e => hne (by rw [e]))]⟩
  rcases K.find w hkey es.toList hks with ⟨hrun, hno⟩ | ⟨j, e0, hrun, hj, he0⟩
  · have hmx : m x = none := by
      cases hmx : m x with
      | none => rfl
      | some v => obtain ⟨e1, h1, h2, _⟩ := hout x v hmx; exact absurd h2 (hno e1 h1)
    refine ⟨{ w with heap := w.heap.setIfInBounds b (.map (es.push { key := ek x, val := ev v, born := clock }) (clock + 1)) }, ?_, ⟨es.push { key := ek x, val := ev v, born := clock }, clock + 1, ?_, ?_, ?_, ?_, ?_, ?_⟩, hgrow _⟩
    · simp [Instr.mapUpdate, run_underlying ht, MapKept.run_getObj_map hb, K.check w false hkey, hrun, MapKept.run_setObj_map _ hb, Result.andThen]
    · show (w.heap.setIfInBounds b _)[b]? = _
      rw [Array.getElem?_setIfInBounds_self_of_lt (Array.getElem?_eq_some_iff.1 hb).1]
    · simp [hmx, hn]
    · intro e he
      simp only [Array.toList_push, List.mem_append, List.mem_singleton] at he
      rcases he with he | rfl
      · exact hks e he
      · exact ⟨kl, hkey⟩
    · intro e he
      simp only [Array.toList_push, List.mem_append, List.mem_singleton] at he
      rcases he with he | rfl
      · obtain ⟨x1, v1, h1, h2, h3⟩ := hin e he
        refine ⟨x1, v1, h1, h2, ?_⟩
        show (if x1 = x then some v else m x1) = some v1
        rw [if_neg (fun e1 => by rw [e1, hmx] at h3; cases h3)]; exact h3
      · exact ⟨x, v, rfl, rfl, by simp⟩
    · intro y u hy
      by_cases e1 : y = x
      · subst e1
        simp at hy; subst hy
        exact ⟨{ key := ek y, val := ev v, born := clock }, by simp, rfl, rfl⟩
      · simp only [e1, if_false] at hy
        obtain ⟨e2, h1, h2⟩ := hout y u hy
        exact ⟨e2, by simp [Array.toList_push]; exact Or.inl (by simpa using h1), h2⟩
    · exact MapKept.stamped_push hst hno
  · have hmem : e0 ∈ es.toList := List.mem_of_getElem? hj
    obtain ⟨x1, v1, h1, h2, h3⟩ := hin e0 hmem
    have hx : x1 = x := hinj _ _ (h1.symm.trans he0)
    subst hx
    have hjs : es[j]? = some e0 := by simpa using hj
    have hkeep : (Instr.keyThatStays (ek x1) (ek x1)).run P w = .ok (ek x1) w := K.stays w hkey
    have hmodk : ∀ e ∈ (es.modify j fun e => { e with key := ek x1, val := ev v }).toList, (e ∈ es.toList ∧ e.key ≠ ek x1) ∨ (e.key = ek x1 ∧ e.val = ev v) := by
      intro e he
      obtain ⟨i, hi, hie⟩ := List.getElem_of_mem he
      simp at hi
      simp only [Array.getElem_toList] at hie
      rw [Array.getElem_modify] at hie
      split at hie
      · subst hie; exact Or.inr ⟨rfl, rfl⟩
      · rename_i hne
        left
        subst hie
        refine ⟨by simp, fun e1 => ?_⟩
        have hjl : j < es.toList.length := (List.getElem?_eq_some_iff.1 hj).1
        have hje : es.toList[j] = e0 := (List.getElem?_eq_some_iff.1 hj).2
        have hil : i < es.toList.length := by simpa using hi
        rcases Nat.lt_or_gt_of_ne hne with h' | h'
        · have := List.pairwise_iff_getElem.1 hnd j i hjl hil h'
          rw [hje] at this
          exact this (by rw [he0]; simpa using e1.symm)
        · have := List.pairwise_iff_getElem.1 hnd i j hil hjl h'
          rw [hje] at this
          exact this (by rw [he0]; simpa using e1)
    refine ⟨{ w with heap := w.heap.setIfInBounds b (.map (es.modify j fun e => { e with key := ek x1, val := ev v }) clock) }, ?_, ⟨es.modify j fun e => { e with key := ek x1, val := ev v }, clock, ?_, ?_, ?_, ?_, ?_, ?_⟩, hgrow _⟩
    · simp [Instr.mapUpdate, run_underlying ht, MapKept.run_getObj_map hb, K.check w false hkey, hrun, hjs, he0, hkeep, MapKept.run_setObj_map _ hb, Result.andThen]
    · show (w.heap.setIfInBounds b _)[b]? = _
      rw [Array.getElem?_setIfInBounds_self_of_lt (Array.getElem?_eq_some_iff.1 hb).1]
    · simp [h3, hn]
    · intro e he
      rcases hmodk e he with ⟨h, _⟩ | ⟨h, _⟩
      · exact hks e h
      · exact ⟨kl, by rw [h]; exact hkey⟩
    · intro e he
      rcases hmodk e he with ⟨h, hne⟩ | ⟨h, h'⟩
      · obtain ⟨x2, v2, h4, h5, h6⟩ := hin e h
        refine ⟨x2, v2, h4, h5, ?_⟩
        show (if x2 = x1 then some v else m x2) = some v2
        rw [if_neg (fun e1 => hne (by rw [h4, e1]))]; exact h6
      · exact ⟨x1, v, h, h', by simp⟩
    · intro y u hy
      by_cases e1 : y = x1
      · subst e1
        simp at hy; subst hy
        have hjl : j < es.size := (Array.getElem?_eq_some_iff.1 hjs).1
        refine ⟨{ e0 with key := ek y, val := ev v }, ?_, rfl, rfl⟩
        have hg : (es.modify j fun e => { e with key := ek y, val := ev v })[j]? = some { e0 with key := ek y, val := ev v } := by
          rw [Array.getElem?_modify]; simp [hjs]
        exact List.mem_of_getElem? (by rw [Array.getElem?_toList]; exact hg)
      · simp only [e1, if_false] at hy
        obtain ⟨e2, h4, h5, h6⟩ := hout y u hy
        obtain ⟨i, hi, hie⟩ := List.getElem_of_mem h4
        simp at hi
        refine ⟨e2, ?_, h5, h6⟩
        have hne : j ≠ i := by
          intro e; subst e
          simp only [Array.getElem_toList] at hie
          have := (Array.getElem?_eq_some_iff.1 hjs).2
          rw [this] at hie; subst hie
          exact e1 (hinj _ _ (h5.symm.trans he0))
        have hg : (es.modify j fun e => { e with key := ek x1, val := ev v })[i]? = some e2 := by
          rw [Array.getElem?_modify]; simp [hne, hi]; simpa using hie
        exact List.mem_of_getElem? (by rw [Array.getElem?_toList]; exact hg)
    · exact MapKept.stamped_modify hst j _ (fun e _ => rfl) (fun e _ he => by rw [hjs] at he; cases he; exact he0.symm)

theorem MapK.run_len {t e : TypeId} (h : MapK P k ek ev w b n m) (ht : P.underlying t = some (.map k e)) (ty : TypeId) : (Builtin.len_ #[t] ty #[.map (some b)]).run P w = .ok (.int .i64 n) w := by
  obtain ⟨es, clock, hb, hn, _⟩ := h
  simp [Builtin.len_, run_underlying ht, MapKept.run_getObj_map hb, goInt, Result.andThen, hn]
end

section
variable {κ ε : Type} {P : Program} {w : World} {ops : Array Oper} {rest : List Oper} {o : Oper} {a : Act} {Q : Exit → Act → World → Prop}
/-- a look-up, at the operation; 'val' is what comes of it. -/
theorem wpList_lookup_mapK (hg : Region.wanted o (yielded ops a.tmps) = true) (mo xo : Operand) (t : TypeId) (c : Bool) (hop : o.op = Op.lookup t mo xo c)
    {k e : TypeId} {ek : κ → Value} {ev : ε → Value} (K : Keyed P k) (hinj : ∀ x y, ek x = ek y → x = y) (ht : P.underlying t = some (.map k e)) {z : Value} (hz : (zeroValue e).run P w = .ok z w)
    {b n : Nat} {m : κ → Option ε} (hm : a.eval mo = .map (some b)) (hown : MapK P k ek ev w b n m) (x : κ) {kl : Lit} (hx : a.eval xo = ek x) (hkey : keyOf P k (ek x) = some kl)
    (val : Value) (hval : (if c then .tuple #[((m x).map ev).getD z, .bool (m x).isSome] else ((m x).map ev).getD z) = val)
    (hK : wpList P ops Q rest (a.put o.dst val) w) : wpList P ops Q (o :: rest) a w := by
  refine wpList_wanted hg fun K' hK' => ?_
  have hrun := hown.run_lookup K hinj ht hz x hkey c
  rw [hval] at hrun
  unfold Oper.wp
  simp [execOp, hop, hm, hx, hrun, Result.andThen]
  exact hK' _ _ hK

theorem wpList_update_mapK [DecidableEq κ] (hg : Region.wanted o (yielded ops a.tmps) = true) (mo xo vo : Operand) (t : TypeId) (hop : o.op = Op.mapUpdate t mo xo vo)
    {k e : TypeId} {ek : κ → Value} {ev : ε → Value} (K : Keyed P k) (hinj : ∀ x y, ek x = ek y → x = y) (ht : P.underlying t = some (.map k e))
    {b n : Nat} {m : κ → Option ε} (hm : a.eval mo = .map (some b)) (hown : MapK P k ek ev w b n m) (x : κ) (v : ε) {kl : Lit} (hx : a.eval xo = ek x) (hv : a.eval vo = ev v) (hkey : keyOf P k (ek x) = some kl)
    (hK : ∀ w', MapK P k ek ev w' b (if (m x).isSome then n else n + 1) (fun y => if y = x then some v else m y) → w.grownBy w' (some b) → wpList P ops Q rest (a.put o.dst undef) w') : wpList P ops Q (o :: rest) a w := by
  refine wpList_wanted hg fun K' hK' => ?_
  obtain ⟨w', hrun, r1, r2⟩ := hown.run_update K hinj ht x v hkey
  unfold Oper.wp
  simp [execOp, hop, hm, hx, hv, hrun, Result.andThen]
  exact hK' _ _ (hK _ r1 r2)
end
end Go.Proofs.YtldgkidojepdlaaGreat
