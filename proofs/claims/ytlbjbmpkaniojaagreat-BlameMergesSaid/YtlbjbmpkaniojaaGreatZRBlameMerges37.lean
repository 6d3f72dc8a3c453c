/-
  WHAT IT HOLDS: more on 'a block is a map that sends these keys to these values' (MapK): delete, and a range over a map whose keys are strings, with what each is sent to. Over any program. Condition: the map is small.
-/
import Derived.Maps.RangeWalk
import Derived.Sort.KeysCollected
import Derived.Test.YtlbjbmpkaniojaaGreatZRBlameMerges0
import Derived.Test.YtlbjbmpkaniojaaGreatZRBlameMerges12
namespace Go.Proofs.YtlbjbmpkaniojaaGreat
open Go Go.RowKit Go.Maps
open Go.WideElems (rd rg)
section
variable {κ ε : Type} {P : Program} {k : TypeId} {ek : κ → Value} {ev : ε → Value} {w : World} {b n : Nat} {m : κ → Option ε}
theorem MapK.run_delete [DecidableEq κ] {t e : TypeId} (h : MapK P k ek ev w b n m) (K : Keyed P k) (hinj : ∀ x y, ek x = ek y → x = y) (ht : P.underlying t = some (.map k e))
    (x : κ) {kl : Lit} (hkey : keyOf P k (ek x) = some kl) (ty : TypeId) :
    ∃ w' n', (Builtin.delete_ #[t, k] ty #[.map (some b), ek x]).run P w = .ok (.tuple #[]) w' ∧ MapK P k ek ev w' b n' (fun y => if y = x then none else m y) ∧ w.grownBy w' (some b) ∧ n' ≤ n := by
  obtain ⟨es, clock, hb, hn, hks, hin, hout, hst⟩ := h
  obtain ⟨hs1, hs2, hnd⟩ := (MapKept.stamped_iff es clock).1 hst
  have hgrow : ∀ o : Obj, w.grownBy { w with heap := w.heap.setIfInBounds b o } (some b) := fun o =>
    ⟨rfl, rfl, rfl, by simp, fun i hi hne => by
      show (w.heap.setIfInBounds b o)[i]? = _
      rw [Array.getElem?_setIfInBounds_ne (fun e => hne (by rw [e]))]⟩
  have hat : ∀ o : Obj, ({ w with heap := w.heap.setIfInBounds b o } : World).heap[b]? = some o := fun o => by
    show (w.heap.setIfInBounds b o)[b]? = _
    rw [Array.getElem?_setIfInBounds_self_of_lt (Array.getElem?_eq_some_iff.1 hb).1]
  rcases K.find w hkey es.toList hks with ⟨hrun, hno⟩ | ⟨j, e0, hrun, hj, he0⟩
  · refine ⟨_, n, ?_, ⟨es, clock, hat _, hn, hks, fun e he => ?_, fun y v hy => ?_, hst⟩, hgrow (.map es clock), Nat.le_refl _⟩
    · simp [Builtin.delete_, run_underlying ht, MapKept.run_getObj_map hb, K.check w es.isEmpty hkey, hrun, MapKept.run_setObj_map _ hb, Result.andThen]
    · obtain ⟨x1, v1, h1, h2, h3⟩ := hin e he
      refine ⟨x1, v1, h1, h2, ?_⟩
      show (if x1 = x then none else m x1) = some v1
      rw [if_neg (fun e1 => hno e he (by rw [h1, e1]))]; exact h3
    · have hy : (if y = x then none else m y) = some v := hy
      split at hy
      · cases hy
      · exact hout y v hy
  · have hjl : j < es.toList.length := (List.getElem?_eq_some_iff.1 hj).1
    have hje : es.toList[j] = e0 := (List.getElem?_eq_some_iff.1 hj).2
    have hjs : j < es.size := by simpa using hjl
    have hlist : (es.eraseIdxIfInBounds j).toList = es.toList.eraseIdx j := by
      unfold Array.eraseIdxIfInBounds; rw [dif_pos hjs]; simp
    have hsub : (es.eraseIdxIfInBounds j).toList.Sublist es.toList := by rw [hlist]; exact List.eraseIdx_sublist _ _
    have hkeyne : ∀ i (hi : i < es.toList.length), i ≠ j → es.toList[i].key ≠ ek x := by
      intro i hi hij e1
      rcases Nat.lt_or_gt_of_ne hij with h' | h'
      · have := List.pairwise_iff_getElem.1 hnd i j hi hjl h'
        rw [hje] at this
        exact this (e1.trans he0.symm)
      · have := List.pairwise_iff_getElem.1 hnd j i hjl hi h'
        rw [hje] at this
        exact this (he0.trans e1.symm)
    refine ⟨_, n - 1, ?_, ⟨es.eraseIdxIfInBounds j, clock, hat _, ?_, fun e he => hks e (hsub.subset he), fun e he => ?_, fun y v hy => ?_, ?_⟩, hgrow (.map (es.eraseIdxIfInBounds j) clock), Nat.sub_le _ _⟩
    · simp [Builtin.delete_, run_underlying ht, MapKept.run_getObj_map hb, K.check w es.isEmpty hkey, hrun, MapKept.run_setObj_map _ hb, Result.andThen]
    · rw [← Array.length_toList, hlist, List.length_eraseIdx_of_lt hjl, Array.length_toList, hn]
    · rw [hlist, List.mem_eraseIdx_iff_getElem] at he
      obtain ⟨i, hi, hij, rfl⟩ := he
      obtain ⟨x1, v1, h1, h2, h3⟩ := hin _ (List.getElem_mem hi)
      refine ⟨x1, v1, h1, h2, ?_⟩
      show (if x1 = x then none else m x1) = some v1
      rw [if_neg (fun e1 => hkeyne i hi hij (by rw [h1, e1]))]; exact h3
    · have hy : (if y = x then none else m y) = some v := hy
      split at hy
      · cases hy
      · rename_i hyx
        obtain ⟨e, he, h1, h2⟩ := hout y v hy
        obtain ⟨i, hi, rfl⟩ := List.getElem_of_mem he
        refine ⟨_, ?_, h1, h2⟩
        rw [hlist, List.mem_eraseIdx_iff_getElem]
        refine ⟨i, hi, fun e1 => ?_, rfl⟩
        subst e1
        rw [hje, he0] at h1
        exact hyx (hinj _ _ h1.symm)
    · exact (MapKept.stamped_iff _ _).2 ⟨fun e he => hs1 e (hsub.subset he), List.Nodup.sublist (hsub.map _) hs2, List.Pairwise.sublist hsub hnd⟩
end
section
variable {κ ε : Type} {P : Program} {w : World} {ops : Array Oper} {rest : List Oper} {o : Oper} {a : Act} {Q : Exit → Act → World → Prop}
theorem wpList_delete_mapK [DecidableEq κ] (hg : Region.wanted o (yielded ops a.tmps) = true) (mo xo : Operand) (t k : TypeId) (hop : o.op = Op.call { callee := Callee.builtin Builtin.delete, args := #[mo, xo], argTypes := #[t, k] })
    {e : TypeId} {ek : κ → Value} {ev : ε → Value} (K : Keyed P k) (hinj : ∀ x y, ek x = ek y → x = y) (ht : P.underlying t = some (.map k e))
    {b n : Nat} {m : κ → Option ε} (hm : a.eval mo = .map (some b)) (hown : MapK P k ek ev w b n m) (x : κ) {kl : Lit} (hx : a.eval xo = ek x) (hkey : keyOf P k (ek x) = some kl)
    (hK : ∀ w' n', MapK P k ek ev w' b n' (fun y => if y = x then none else m y) → w.grownBy w' (some b) → n' ≤ n → wpList P ops Q rest (a.put o.dst (.tuple #[])) w') : wpList P ops Q (o :: rest) a w := by
  refine wpList_wanted hg fun K' hK' => ?_
  obtain ⟨w', n', hrun, r1, r2, r3⟩ := hown.run_delete K hinj ht x hkey o.type
  unfold Oper.wp
  simp [execOp, hop, resolve, invoke, builtin, hm, hx, hrun, Result.andThen]
  exact hK' _ _ (hK _ _ r1 r2 r3)
end
/-- how a value is told apart: it is held. -/
def heldR (v : Value) : Option (DataW Value × List MemPlace) := some (.held v, [])
def nmL (x : Nm) : Lit := .string x.data.toList
theorem nmL_inj {x y : Nm} (h : nmL x = nmL y) : x = y := by
  unfold nmL at h
  simp only [Lit.string.injEq] at h
  exact ByteArray.ext (Array.toList_inj.1 h)
theorem sameKey_names (x y : Nm) : (nmL x).sameKey (nmL y) = true ↔ x = y := by
  constructor
  · intro h; exact nmL_inj (WideAt.sameKey_eq h)
  · rintro rfl; simp [nmL, Lit.sameKey]
/-- V: the keys that have come; left: what is still to come. -/
def LfN {ε : Type} (left : Lit → Bool) (m : Nm → Option ε) (V : List Nm) : Prop := ∀ x, left (nmL x) = true ↔ (m x).isSome = true ∧ x ∉ V
theorem LfN.step {ε : Type} {left : Lit → Bool} {m : Nm → Option ε} {V : List Nm} (h : LfN left m V) (x0 : Nm) : LfN (fun z => left z && !z.sameKey (nmL x0)) m (V ++ [x0]) := by
  intro x
  have := h x
  have h2 := sameKey_names x x0
  cases hs : (nmL x).sameKey (nmL x0)
  · have hne : x ≠ x0 := fun e => by rw [h2.2 e] at hs; cases hs
    simp [hs, this, hne]
  · have he := h2.1 hs
    simp only [hs, Bool.not_true, Bool.and_false]
    constructor
    · intro h; cases h
    · rintro ⟨_, h⟩; exact absurd (by rw [he]; simp) h
theorem keyOf_nm {P : Program} {k : TypeId} (hk : P.underlying k = some .string) {key : Value} {kl : Lit} (h : keyOf P k key = some kl) : ∃ x : Nm, key = .string x ∧ kl = nmL x ∧ x.size ≤ maxLen := by
  cases key <;> simp [keyOf, hk, mapKey] at h
  rename_i s
  obtain ⟨h1, rfl⟩ := h
  exact ⟨s, rfl, rfl, by simpa using h1⟩
theorem MapK.ownsN {P : Program} {k : TypeId} {ε : Type} {ev : ε → Value} {w : World} {b n : Nat} {m : Nm → Option ε} (h : MapK P k Value.string ev w b n m) (hk : P.underlying k = some .string) (hn : n ≤ maxLen) :
    ∃ D, w.ownsMap P k heldR b n D ∧ LfN (Maps.has D) m [] := by
  obtain ⟨es, clock, hb, hsz, hks, hin, hout, hst⟩ := h
  have hrd : ∀ e ∈ es.toList, ∃ x, e.key = .string x ∧ rd P k heldR e = some (nmL x, .held e.val) := fun e he => by
    obtain ⟨l, hl⟩ := hks e he
    obtain ⟨x, hx, rfl, _⟩ := keyOf_nm hk hl
    exact ⟨x, hx, by simp [rd, hl, heldR]⟩
  refine ⟨_, ⟨es, clock, hb, ⟨by omega, hst, fun e he => by obtain ⟨x, _, hx⟩ := hrd e he; exact ⟨_, hx⟩⟩, by omega, rfl⟩, fun x => ?_⟩
  rw [Maps.has_eq, List.any_eq_true]
  simp only [List.not_mem_nil, not_false_eq_true, and_true]
  constructor
  · rintro ⟨p, hp, hpk⟩
    obtain ⟨e, he, rfl⟩ := List.mem_map.1 (mem_sorted.1 hp)
    obtain ⟨y, hy, hr⟩ := hrd e he
    rw [WideElems.rg_of hr] at hpk
    have hyx := (sameKey_names y x).1 hpk
    subst hyx
    obtain ⟨x1, v1, h1, h2, h3⟩ := hin e he
    rw [hy] at h1
    cases h1
    rw [h3]; rfl
  · intro hm
    obtain ⟨v, hv⟩ := Option.isSome_iff_exists.1 hm
    obtain ⟨e, he, h1, h2⟩ := hout x v hv
    obtain ⟨y, hy, hr⟩ := hrd e he
    rw [hy] at h1
    cases h1
    exact ⟨rg P k heldR e, mem_sorted.2 (List.mem_map.2 ⟨e, he, rfl⟩), by rw [WideElems.rg_of hr]; exact (sameKey_names x x).2 rfl⟩
theorem wpList_next_names {P : Program} (w : World) {ops : Array Oper} {rest : List Oper} {o : Oper} {a : Act} {Q : Exit → Act → World → Prop} (hg : o.guard = none) (it : Operand) (hop : o.op = Op.next it false) (t k e : TypeId) (K : Keyed P k) (hk : P.underlying k = some .string) (ht : P.underlying t = some (.map k e)) {z : Value} (hz : ∀ W, (zeroValue e).run P W = .ok z W)
    {ε : Type} {ev : ε → Value} {N : Nat} {m : Nm → Option ε} (b r n : Nat) (D : DataW Value) (left : Lit → Bool) (cnt : Nat) (V : List Nm) (hit : a.eval it = .pointer (some ⟨r, 0, none⟩)) (h : w.ranges P k heldR b r n D left cnt) (hM : MapK P k Value.string ev w b N m) (hL : LfN left m V)
    (hDone : (∀ x, (m x).isSome = true → x ∈ V) → wpList P ops Q rest (a.put o.dst (.tuple #[.bool false])) w)
    (hMore : ∀ (x : Nm) (y : ε) (w' : World) (left' : Lit → Bool) (cnt' : Nat), m x = some y → x ∉ V → x.size ≤ maxLen → w'.ranges P k heldR b r n D left' cnt' → LfN left' m (V ++ [x]) → MapK P k Value.string ev w' b N m → cnt' < cnt →
      w.grownBy w' (some r) → w'.heap.size = w.heap.size → (Instr.entry (.pointer (some ⟨r, 0, none⟩))).run P w' = .ok (.tuple #[.string x, ev y]) w' → wpList P ops Q rest (a.put o.dst (.tuple #[.bool true, .string x, ev y])) w') :
    wpList P ops Q (o :: rest) a w :=
  wpList_next_ranges (α := Nm) (β := Value) w hg it hop k K heldR Value.string id (fun key kl hkey => by obtain ⟨x, hx, _⟩ := keyOf_nm hk hkey; exact ⟨x, hx⟩) (fun v y _ => ⟨v, rfl⟩)
    b r n D left cnt hit h (fun _ hl => hDone fun x hx => Classical.byContradiction fun hc => by
      have := (hL x).2 ⟨hx, hc⟩
      rw [hl] at this; cases this) (fun x c kl y w' cnt' hkey hlk hR hat hrg hlt hgr hsz hen => by
      obtain ⟨x', ex, rfl, hxs⟩ := keyOf_nm hk hkey
      cases ex
      obtain ⟨h1, h2⟩ := (hL x).1 hlk
      obtain ⟨u, hu⟩ := Option.isSome_iff_exists.1 h1
      have hM' : MapK P k Value.string ev w' b N m := hM.kept hgr (fun e => h.ne (Option.some.inj e).symm)
      have hz1 : heldR z = some (.held z, []) := rfl
      have hlook := hM'.run_lookup K (fun x y h => by cases h; rfl) ht (hz w') x hkey false
      obtain ⟨v, ps, hrun, hv⟩ := hrg.owns.lookup K ht (hz w') hz1 hkey
      have e1 : v = ev u := by
        rw [hlook] at hrun
        simp [hu] at hrun
        exact hrun.symm
      have e2 := hat (.held z)
      unfold heldR at hR hv
      simp only [id, Option.some.injEq] at hR
      simp only [Option.some.injEq, Prod.mk.injEq] at hv
      have e3 : c = ev u := by
        have h5 : DataW.held v = DataW.held c := by rw [hv.1, e2, ← hR]
        rw [← e1]; cases h5; rfl
      subst e3
      exact hMore x u w' _ cnt' hu h2 hxs hrg (hL.step x) hM' hlt hgr hsz hen)
end Go.Proofs.YtlbjbmpkaniojaaGreat
