/-
  WHAT IT HOLDS: how the two lists lie that Difference of package blame works on: the changes that are put out, and the edition that they turn. No program's walk in sight.
  WHAT IT HOLDS: the plain law of TopUndone: how editions stand in a chain of changes that were made, with the changes that undo them; and how the list of editions and the list of changes lie. No program's walk in sight.
-/
import Derived.Test.YtlbjbmpkaniojaaGreatZRTopUndone42
import Derived.Test.YtlbjbmpkaniojaaGreatZRTopUndone35
namespace Go.Proofs.YtlbjbmpkaniojaaGreat
open Go Go.RowKit Go.Maps
/-- the blocks of an entry. -/
def blkV (v : V3) (q : Nat) : Prop := v.1.ownBlock = some q ∨ v.2.1.ownBlock = some q ∨ v.2.2.ownBlock = some q
/-- a list of changes of the call's own, all that it holds in blocks from 'base' on. -/
structure ChO (w : World) (base : Nat) (u : Value) (vs : List V3) (l : List Chg) : Prop where
  top : w.ownsRow base 43 9 u l.length (chsC l vs)
  len : vs.length = l.length
  rd : ∀ (j : Nat) (h : j < l.length) (h' : j < vs.length), ChgAt w vs[j].1 vs[j].2.1 vs[j].2.2 l[j]
  av : ∀ v ∈ vs, ∀ q, blkV v q → base ≤ q ∧ q < w.heap.size ∧ some q ≠ u.ownBlock
theorem ChO.nil (w : World) (base : Nat) : ChO w base (.slice none 0 0) [] [] := ⟨World.ownsRow_nil _ _ _ _, rfl, fun j h => by simp at h, fun v hv => by cases hv⟩
theorem ChO.slice {w : World} {base : Nat} {u : Value} {vs : List V3} {l : List Chg} (h : ChO w base u vs l) : ∃ a c, u = .slice a l.length c := owns_slice h.top
theorem ChgAt.blocks {w W' : World} {v : V3} {c : Chg} (h : ChgAt w v.1 v.2.1 v.2.2 c) (hs : ∀ q, blkV v q → q < w.heap.size → W'.heap[q]? = w.heap[q]?) : ChgAt W' v.1 v.2.1 v.2.2 c := ⟨h.e.blocks hs, h.n1, h.n2, h.n3⟩
/-- kept where the blocks from 'base' on are as they were. -/
theorem ChO.keep {w W' : World} {base : Nat} {u : Value} {vs : List V3} {l : List Chg} (h : ChO w base u vs l) (hs : ∀ q, base ≤ q → q < w.heap.size → W'.heap[q]? = w.heap[q]?) (hz : w.heap.size ≤ W'.heap.size) : ChO W' base u vs l :=
  ⟨owns_blocks h.top fun q h1 h2 _ => hs q h1 h2, h.len, fun j h1 h2 => (h.rd j h1 h2).blocks fun q hq hlt => hs q (h.av _ (List.getElem_mem h2) q hq).1 hlt, fun v hv q hq => ⟨(h.av v hv q hq).1, Nat.lt_of_lt_of_le (h.av v hv q hq).2.1 hz, (h.av v hv q hq).2.2⟩⟩
theorem ChO.below {w w' : World} {base : Nat} {u : Value} {vs : List V3} {l : List Chg} (h : ChO w base u vs l) (hb : Below w.heap.size w w') : ChO w' base u vs l := h.keep (fun q _ hq => hb.block q hq) hb.size
theorem ChO.push {w w2 : World} {base : Nat} {u : Value} {vs : List V3} {l : List Chg} (h : ChO w base u vs l) {x : Chg} {v : V3}
    (hx : ChgAt w v.1 v.2.1 v.2.2 x) (hv : ∀ q, blkV v q → base ≤ q ∧ q < w.heap.size ∧ some q ≠ u.ownBlock)
    {g cap n : Nat} (hn : n = l.length) (hown : w2.ownsRow base 43 9 (.slice (some ⟨g, 0, none⟩) (n + 1) cap) (n + 1) (chsC l vs ++ chC x v)) (hg : w.grownBy w2 u.ownBlock) {H : Nat} (hH : H = w.heap.size) (hat : u.ownBlock = some g ∨ g = H) :
    ChO w2 base (.slice (some ⟨g, 0, none⟩) (n + 1) cap) (vs ++ [v]) (l ++ [x]) := by
  subst hn
  have hav : ∀ z ∈ vs ++ [v], ∀ q, blkV z q → base ≤ q ∧ q < w.heap.size ∧ some q ≠ u.ownBlock := by
    intro z hz q hq
    rcases List.mem_append.1 hz with hz | hz
    · exact h.av z hz q hq
    · simp at hz; subst hz; exact hv q hq
  have hsame : ∀ z ∈ vs ++ [v], ∀ q, blkV z q → q < w.heap.size → w2.heap[q]? = w.heap[q]? := fun z hz q hq hlt => hg.block q hlt (hav z hz q hq).2.2
  refine ⟨by rw [chsC_snoc _ _ _ _ h.len]; simpa using hown, by simp [h.len], fun j hj hj' => ?_, fun z hz q hq => ?_⟩
  · have hz := List.getElem_mem hj'
    have key : ∀ (c : Chg), ChgAt w (vs ++ [v])[j].1 (vs ++ [v])[j].2.1 (vs ++ [v])[j].2.2 c → ChgAt w2 (vs ++ [v])[j].1 (vs ++ [v])[j].2.1 (vs ++ [v])[j].2.2 c := fun c hc => hc.blocks (hsame _ hz)
    refine key _ ?_
    by_cases hlt : j < l.length
    · have hv : j < vs.length := by rw [h.len]; exact hlt
      rw [List.getElem_append_left hlt, List.getElem_append_left hv]
      exact h.rd j hlt hv
    · have e : j = l.length := by simp at hj; omega
      subst e
      have e1 : (l ++ [x])[l.length] = x := by simp
      have e2 : (vs ++ [v])[l.length] = v := by rw [List.getElem_append_right (by rw [h.len]; exact Nat.le_refl _)]; simp [h.len]
      rw [e1, e2]
      exact hx
  · obtain ⟨a1, a2, a3⟩ := hav z hz q hq
    refine ⟨a1, Nat.lt_of_lt_of_le a2 hg.size, fun e => ?_⟩
    have e : q = g := Option.some.inj e
    rcases hat with ha | ha
    · exact a3 (by rw [ha, e])
    · omega
theorem ChO.chs {w : World} {base : Nat} {u : Value} {vs : List V3} {l : List Chg} (h : ChO w base u vs l) (hl : l.length ≤ 1000) : ChsAt w u l :=
  ⟨vs, RowK.of_owns h.top (by omega), h.len, h.rd⟩
/-- a copy lies in blocks of its own. -/
theorem EntO.av {w : World} {b base : Nat} {u : Value} {v : V3} {x : En} {n : Nat} {xs : List Value} (h : EntO w b v.1 v.2.1 v.2.2 x) (hb : base ≤ b) (hu : w.ownsRow base 43 9 u n xs) : ∀ q, blkV v q → base ≤ q ∧ q < w.heap.size ∧ some q ≠ u.ownBlock := by
  intro q hq
  rcases hq with hq | hq | hq
  · exact ⟨Nat.le_trans hb (h.s.lt q hq).1, (h.s.lt q hq).2, fun e => owns_ne h.s hu (by decide) hq e.symm⟩
  · exact ⟨Nat.le_trans hb (h.u.lt q hq).1, (h.u.lt q hq).2, fun e => owns_ne h.u hu (by decide) hq e.symm⟩
  · exact ⟨Nat.le_trans hb (h.p.lt q hq).1, (h.p.lt q hq).2, fun e => owns_ne h.p hu (by decide) hq e.symm⟩
/-- the edition that is turned: its row is the call's own, what it holds lies in blocks that were there in wn. -/
structure NowS (wn w : World) (base : Nat) (u : Value) (vs : List V3) (l : List En) : Prop where
  top : w.ownsRow base 41 5 u l.length (ensC l vs)
  len : vs.length = l.length
  rd : ∀ W' : World, (∀ q, q < wn.heap.size → some q ≠ u.ownBlock → W'.heap[q]? = wn.heap[q]?) → ∀ (j : Nat) (h : j < l.length) (h' : j < vs.length), EntAt W' vs[j].1 vs[j].2.1 vs[j].2.2 l[j]
  ag : ∀ q, q < wn.heap.size → some q ≠ u.ownBlock → w.heap[q]? = wn.heap[q]?
  sz : wn.heap.size ≤ w.heap.size
  bl : ∀ q, u.ownBlock = some q → q < wn.heap.size
theorem NowS.start {w : World} {base : Nat} {u : Value} {vs : List V3} {l : List En} (h : EnS w base u vs l) : NowS w w base u vs l := ⟨h.top, h.len, h.rd, fun _ _ _ => rfl, Nat.le_refl _, fun q hq => (h.top.lt q hq).2⟩
theorem NowS.toS {wn w : World} {base : Nat} {u : Value} {vs : List V3} {l : List En} (h : NowS wn w base u vs l) : EnS w base u vs l :=
  ⟨h.top, h.len, fun W' hW => h.rd W' fun q hq hne => (hW q (Nat.lt_of_lt_of_le hq h.sz) hne).trans (h.ag q hq hne)⟩
theorem NowS.ents {wn w : World} {base : Nat} {u : Value} {vs : List V3} {l : List En} (h : NowS wn w base u vs l) (hl : l.length ≤ 1000) : EntsAt w u l := ⟨vs, h.toS.ents hl⟩
/-- kept where the blocks of wn are as they were. -/
theorem NowS.keep {wn w W' : World} {base : Nat} {u : Value} {vs : List V3} {l : List En} (h : NowS wn w base u vs l) (hs : ∀ q, q < wn.heap.size → W'.heap[q]? = w.heap[q]?) (hz : w.heap.size ≤ W'.heap.size) : NowS wn W' base u vs l :=
  ⟨owns_blocks h.top fun q _ _ hq => hs q (h.bl q hq), h.len, h.rd, fun q hq hne => (hs q hq).trans (h.ag q hq hne), Nat.le_trans h.sz hz, h.bl⟩
theorem NowS.below {wn w w' : World} {base : Nat} {u : Value} {vs : List V3} {l : List En} (h : NowS wn w base u vs l) (hb : Below w.heap.size w w') : NowS wn w' base u vs l := h.keep (fun q hq => hb.block q (Nat.lt_of_lt_of_le hq h.sz)) hb.size
theorem NowS.set {wn w : World} {base g n c : Nat} {vs : List V3} {l : List En} (h : NowS wn w base (.slice (some ⟨g, 0, none⟩) n c) vs l) (hn : n = l.length) {j : Nat} (hj : j < l.length) {x : En} {v : V3}
    (hx : ∀ W' : World, (∀ q, q < wn.heap.size → q ≠ g → W'.heap[q]? = wn.heap[q]?) → EntAt W' v.1 v.2.1 v.2.2 x) :
    NowS wn (w.setCells g (j * 5) (enC x v)) base (.slice (some ⟨g, 0, none⟩) n c) (vs.set j v) (l.set j x) ∧ Kb (fun q => q = g) w (w.setCells g (j * 5) (enC x v)) := by
  subst hn
  obtain ⟨h1, h2⟩ := owns_over (enC x v) (j * 5) w _ h.top
  refine ⟨⟨?_, by simp [h.len], fun W' hW k hk hk' => ?_, fun q hq hne => ?_, Nat.le_trans h.sz h2.size, h.bl⟩, h2⟩
  · rw [ensC_set l vs h.len j hj, List.length_set]
    exact h1
  · have hk0 : k < l.length := by simpa using hk
    have hk1 : k < vs.length := by rw [h.len]; exact hk0
    by_cases e : j = k
    · subst e
      rw [List.getElem_set_self, List.getElem_set_self]
      exact hx W' fun q hq hne => hW q hq fun e => hne (Option.some.inj e)
    · rw [List.getElem_set_ne (by omega), List.getElem_set_ne (by omega)]
      exact h.rd W' hW k hk0 hk1
  · exact (h2.same q (Nat.lt_of_lt_of_le hq h.sz) fun e => hne (by rw [e]; rfl)).trans (h.ag q hq hne)
theorem NowS.erase {wn w w' : World} {base g n c m : Nat} {vs : List V3} {l : List En} (h : NowS wn w base (.slice (some ⟨g, 0, none⟩) n c) vs l) (hn : n = l.length) {i : Nat} (hi : i < l.length) (hm : m = (l.eraseIdx i).length)
    (hS : EnS w' base (.slice (some ⟨g, 0, none⟩) m c) (vs.eraseIdx i) (l.eraseIdx i)) (hk : Kb (fun q => q = g) w w') :
    NowS wn w' base (.slice (some ⟨g, 0, none⟩) m c) (vs.eraseIdx i) (l.eraseIdx i) := by
  subst hn
  have hlen : (l.eraseIdx i).length = l.length - 1 := List.length_eraseIdx_of_lt hi
  refine ⟨hS.top, hS.len, fun W' hW k hk1 hk2 => ?_, fun q hq hne => (hk.same q (Nat.lt_of_lt_of_le hq h.sz) fun e => hne (by rw [e]; rfl)).trans (h.ag q hq hne), Nat.le_trans h.sz hk.size, h.bl⟩
  rw [hlen] at hk1
  rw [List.getElem_eraseIdx, List.getElem_eraseIdx]
  split
  · exact h.rd W' hW k (by omega) (by rw [h.len]; omega)
  · exact h.rd W' hW (k + 1) (by omega) (by rw [h.len]; omega)
end Go.Proofs.YtlbjbmpkaniojaaGreat
namespace Go.Proofs.YtlbjbmpkaniojaaGreat
open Go Go.RowKit Go.Maps
/-- a chain of editions with the changes that undo them: ok says that each can be undone. -/
structure UnCh (s : Sg) (l : List En) (Ls : List (List En)) (us : List Chg) (ok : Bool) : Prop where
  len : Ls.length = us.length + 1
  fst : Ls.head? = some l
  ed : ∀ L ∈ Ls, edB s L = true
  un : ok = true → ∀ j (h : j < us.length) (h1 : j < Ls.length) (h2 : j + 1 < Ls.length), madeL s Ls[j + 1] us[j] = (Ls[j], 0)
theorem UnCh.start {s : Sg} {l : List En} (h : edB s l = true) : UnCh s l [l] [] true :=
  ⟨rfl, rfl, fun L hL => by simp at hL; subst hL; exact h, fun _ j h => by simp at h⟩
theorem made_ed {s : Sg} {l : List En} {c : Chg} (h : (madeL s l c).2 = 0) : edB s l = true ∧ chgB s c = true ∧ edB s (madeL s l c).1 = true := by
  unfold madeL at h ⊢
  cases h1 : edB s l && chgB s c with
  | false => rw [h1] at h; simp at h
  | true =>
    rw [h1] at h
    simp only [if_true] at h ⊢
    rw [Bool.and_eq_true] at h1
    exact ⟨h1.1, h1.2, doL_ed h1.1 h1.2 (Prod.ext rfl h)⟩
theorem undo_err {s : Sg} {l : List En} {c : Chg} (h : (madeL s l c).2 = 0) : (undoL s l c).2 = 0 ∨ (undoL s l c).2 = 10 := by
  obtain ⟨-, -, e⟩ := undoL_ok h
  rw [e]
  split
  · exact Or.inr rfl
  · exact Or.inl rfl
theorem undo_made {s : Sg} {l : List En} {c : Chg} (h : (madeL s l c).2 = 0) (hu : (undoL s l c).2 = 0) : madeL s (madeL s l c).1 (undoL s l c).1 = (l, 0) := by
  obtain ⟨h1, h2, h3⟩ := made_ed h
  have hd : doL l c = ((madeL s l c).1, 0) := by rw [← madeL_yes h1 h2]; exact Prod.ext rfl h
  obtain ⟨k1, k2⟩ := undo_back h1 h2 hd (u := (undoL s l c).1) (Prod.ext rfl hu)
  rw [madeL_yes h3 k1, k2]
theorem UnCh.step {s : Sg} {l : List En} {Ls : List (List En)} {us : List Chg} {ok : Bool} (h : UnCh s l Ls us ok) {L : List En} (hL : Ls[us.length]? = some L) {c : Chg} (hm : (madeL s L c).2 = 0) {e : Int} (he : (undoL s L c).2 = e) :
    UnCh s l (Ls ++ [(madeL s L c).1]) (us ++ [(undoL s L c).1]) (ok && decide (e = 0)) := by
  refine ⟨by simp [h.len], ?_, fun K hK => ?_, fun hok j hj h1 h2 => ?_⟩
  · have := h.fst
    cases Ls with
    | nil => cases this
    | cons a t => simpa using this
  · rcases List.mem_append.1 hK with hK | hK
    · exact h.ed K hK
    · simp at hK; subst hK; exact (made_ed hm).2.2
  · rw [Bool.and_eq_true, decide_eq_true_eq] at hok
    have hlen := h.len
    by_cases hlt : j < us.length
    · have := h.un hok.1 j hlt (by omega) (by omega)
      rw [List.getElem_append_left (by omega), List.getElem_append_left (by omega), List.getElem_append_left (by omega)]
      exact this
    · have e : j = us.length := by simp at hj; omega
      subst e
      obtain ⟨q1, q2⟩ := List.getElem?_eq_some_iff.1 hL
      have e1 : (Ls ++ [(madeL s L c).1])[us.length] = L := by rw [List.getElem_append_left q1]; exact q2
      have e2 : (Ls ++ [(madeL s L c).1])[us.length + 1] = (madeL s L c).1 := by rw [List.getElem_append_right (by omega)]; simp [hlen]
      have e3 : (us ++ [(undoL s L c).1])[us.length] = (undoL s L c).1 := by simp
      rw [e1, e2, e3]
      exact undo_made hm (he.trans hok.2)
theorem UnCh.last {s : Sg} {l : List En} {Ls : List (List En)} {us : List Chg} {ok : Bool} (h : UnCh s l Ls us ok) : ∃ L, Ls[us.length]? = some L ∧ edB s L = true ∧ L.length ≤ 60 := by
  have := h.len
  refine ⟨Ls[us.length], List.getElem?_eq_getElem (by omega), h.ed _ (List.getElem_mem _), ?_⟩
  exact (edB_iff.1 (h.ed _ (List.getElem_mem (by omega)))).1.len
/-- a list of editions and a list of changes, each row the call's own; what they hold stays while none but the two rows is turned. -/
structure TuS (w : World) (base : Nat) (ue : Value) (vs : List Value) (Ls : List (List En)) (uu : Value) (ws : List V3) (cs : List Chg) : Prop where
  te : w.ownsRow base 24 1 ue Ls.length vs
  tu : w.ownsRow base 43 9 uu cs.length (chsC cs ws)
  le : vs.length = Ls.length
  lu : ws.length = cs.length
  rd : ∀ W' : World, (∀ q, q < w.heap.size → some q ≠ ue.ownBlock → some q ≠ uu.ownBlock → W'.heap[q]? = w.heap[q]?) → (∀ (j : Nat) (h : j < Ls.length) (h' : j < vs.length), EntsAt W' vs[j] Ls[j]) ∧ ∀ (j : Nat) (h : j < cs.length) (h' : j < ws.length), ChgAt W' ws[j].1 ws[j].2.1 ws[j].2.2 cs[j]
theorem TuS.below {w w' : World} {base : Nat} {ue : Value} {vs : List Value} {Ls : List (List En)} {uu : Value} {ws : List V3} {cs : List Chg} (h : TuS w base ue vs Ls uu ws cs) (hb : Below w.heap.size w w') : TuS w' base ue vs Ls uu ws cs :=
  ⟨owns_below h.te hb, owns_below h.tu hb, h.le, h.lu, fun W' hW => h.rd W' fun q hq n1 n2 => (hW q (Nat.lt_of_lt_of_le hq hb.size) n1 n2).trans (hb.block q hq)⟩
theorem TuS.ents {w : World} {base : Nat} {ue : Value} {vs : List Value} {Ls : List (List En)} {uu : Value} {ws : List V3} {cs : List Chg} (h : TuS w base ue vs Ls uu ws cs) {j : Nat} (hj : j < Ls.length) (hj' : j < vs.length) : EntsAt w vs[j] Ls[j] := (h.rd w fun _ _ _ _ => rfl).1 j hj hj'
theorem TuS.chg {w : World} {base : Nat} {ue : Value} {vs : List Value} {Ls : List (List En)} {uu : Value} {ws : List V3} {cs : List Chg} (h : TuS w base ue vs Ls uu ws cs) {j : Nat} (hj : j < cs.length) (hj' : j < ws.length) : ChgAt w ws[j].1 ws[j].2.1 ws[j].2.2 cs[j] := (h.rd w fun _ _ _ _ => rfl).2 j hj hj'
theorem EntsAt.heap {w W' : World} {v : Value} {l : List En} (h : EntsAt w v l) (hs : ∀ q, q < w.heap.size → W'.heap[q]? = w.heap[q]?) : EntsAt W' v l := by
  obtain ⟨vs, h1, h2, h3⟩ := h
  exact ⟨vs, rowK_block h1 fun q _ hq => hs q hq, h2, fun j a b => (h3 j a b).blocks fun q _ hq => hs q hq⟩
theorem TuS.ne {w : World} {base : Nat} {ue : Value} {vs : List Value} {Ls : List (List En)} {uu : Value} {ws : List V3} {cs : List Chg} (h : TuS w base ue vs Ls uu ws cs) {q : Nat} (hq : ue.ownBlock = some q) : some q ≠ uu.ownBlock := fun e => owns_ne h.te h.tu (by decide) hq e.symm
theorem TuS.pushE {w w2 : World} {base : Nat} {ue : Value} {vs : List Value} {Ls : List (List En)} {uu : Value} {ws : List V3} {cs : List Chg} (h : TuS w base ue vs Ls uu ws cs) {L : List En} {v : Value}
    (hv : ∀ W' : World, (∀ q, q < w.heap.size → some q ≠ ue.ownBlock → some q ≠ uu.ownBlock → W'.heap[q]? = w.heap[q]?) → EntsAt W' v L)
    {g cap n : Nat} (hn : n = Ls.length) (hown : w2.ownsRow base 24 1 (.slice (some ⟨g, 0, none⟩) (n + 1) cap) (n + 1) (vs ++ [v])) (hg : w.grownBy w2 ue.ownBlock) {H : Nat} (hH : H = w.heap.size) (hat : ue.ownBlock = some g ∨ g = H) :
    TuS w2 base (.slice (some ⟨g, 0, none⟩) (n + 1) cap) (vs ++ [v]) (Ls ++ [L]) uu ws cs := by
  subst hn hH
  have key : ∀ W' : World, (∀ q, q < w2.heap.size → some q ≠ (Value.slice (some ⟨g, 0, none⟩) (Ls.length + 1) cap).ownBlock → some q ≠ uu.ownBlock → W'.heap[q]? = w2.heap[q]?) → ∀ q, q < w.heap.size → some q ≠ ue.ownBlock → some q ≠ uu.ownBlock → W'.heap[q]? = w.heap[q]? := by
    intro W' hW q hq n1 n2
    refine (hW q (Nat.lt_of_lt_of_le hq hg.size) (fun e => ?_) n2).trans (hg.block q hq n1)
    have e : q = g := Option.some.inj e
    rcases hat with ha | ha
    · exact n1 (by rw [ha, e])
    · omega
  refine ⟨by simpa using hown, owns_blocks h.tu fun q h1 h2 h3 => hg.block q h2 fun e => h.ne e.symm h3.symm, by simp [h.le], h.lu, fun W' hW => ⟨fun j hj hj' => ?_, (h.rd W' (key W' hW)).2⟩⟩
  by_cases hlt : j < Ls.length
  · have hv' : j < vs.length := by rw [h.le]; exact hlt
    rw [List.getElem_append_left hlt, List.getElem_append_left hv']
    exact (h.rd W' (key W' hW)).1 j hlt hv'
  · have e : j = Ls.length := by simp at hj; omega
    subst e
    have e1 : (Ls ++ [L])[Ls.length] = L := by simp
    have e2 : (vs ++ [v])[Ls.length] = v := by rw [List.getElem_append_right (by rw [h.le]; exact Nat.le_refl _)]; simp [h.le]
    rw [e1, e2]
    exact hv W' (key W' hW)
theorem TuS.pushU {w w2 : World} {base : Nat} {ue : Value} {vs : List Value} {Ls : List (List En)} {uu : Value} {ws : List V3} {cs : List Chg} (h : TuS w base ue vs Ls uu ws cs) {x : Chg} {v : V3}
    (hx : ∀ W' : World, (∀ q, q < w.heap.size → some q ≠ ue.ownBlock → some q ≠ uu.ownBlock → W'.heap[q]? = w.heap[q]?) → ChgAt W' v.1 v.2.1 v.2.2 x)
    {g cap n : Nat} (hn : n = cs.length) (hown : w2.ownsRow base 43 9 (.slice (some ⟨g, 0, none⟩) (n + 1) cap) (n + 1) (chsC cs ws ++ chC x v)) (hg : w.grownBy w2 uu.ownBlock) {H : Nat} (hH : H = w.heap.size) (hat : uu.ownBlock = some g ∨ g = H) :
    TuS w2 base ue vs Ls (.slice (some ⟨g, 0, none⟩) (n + 1) cap) (ws ++ [v]) (cs ++ [x]) := by
  subst hn hH
  have key : ∀ W' : World, (∀ q, q < w2.heap.size → some q ≠ ue.ownBlock → some q ≠ (Value.slice (some ⟨g, 0, none⟩) (cs.length + 1) cap).ownBlock → W'.heap[q]? = w2.heap[q]?) → ∀ q, q < w.heap.size → some q ≠ ue.ownBlock → some q ≠ uu.ownBlock → W'.heap[q]? = w.heap[q]? := by
    intro W' hW q hq n1 n2
    refine (hW q (Nat.lt_of_lt_of_le hq hg.size) n1 (fun e => ?_)).trans (hg.block q hq n2)
    have e : q = g := Option.some.inj e
    rcases hat with ha | ha
    · exact n2 (by rw [ha, e])
    · omega
  refine ⟨owns_blocks h.te fun q h1 h2 h3 => hg.block q h2 (h.ne h3), by rw [chsC_snoc _ _ _ _ h.lu]; simpa using hown, h.le, by simp [h.lu], fun W' hW => ⟨(h.rd W' (key W' hW)).1, fun j hj hj' => ?_⟩⟩
  by_cases hlt : j < cs.length
  · have hv' : j < ws.length := by rw [h.lu]; exact hlt
    have e1 : (cs ++ [x])[j] = cs[j] := List.getElem_append_left hlt
    have e2 : (ws ++ [v])[j] = ws[j] := List.getElem_append_left hv'
    rw [e1, e2]
    exact (h.rd W' (key W' hW)).2 j hlt hv'
  · have e : j = cs.length := by simp at hj; omega
    subst e
    have e1 : (cs ++ [x])[cs.length] = x := by simp
    have e2 : (ws ++ [v])[cs.length] = v := by rw [List.getElem_append_right (by rw [h.lu]; exact Nat.le_refl _)]; simp [h.lu]
    rw [e1, e2]
    exact hx W' (key W' hW)
theorem TuS.cellE {w : World} {base : Nat} {ue : Value} {vs : List Value} {Ls : List (List En)} {uu : Value} {ws : List V3} {cs : List Chg} (h : TuS w base ue vs Ls uu ws cs) {j : Nat} (hj : j < Ls.length) :
    ∃ g c a k, ue = .slice (some ⟨g, 0, none⟩) Ls.length c ∧ g < w.heap.size ∧ w.cell? ⟨g, j, none⟩ = some (.slice a Ls[j].length k) ∧ EntsAt w (.slice a Ls[j].length k) Ls[j] := by
  have ht := h.te
  have hj' : j < vs.length := by rw [h.le]; exact hj
  have he := h.ents hj hj'
  obtain ⟨a, k, e, -⟩ := he.open
  rcases ht.2 with ⟨-, h0⟩ | ⟨g, cap, cur, rfl, hg, h3, h4, -⟩
  · omega
  · refine ⟨g, cap, a, k, rfl, (ht.lt g rfl).2, ?_, e ▸ he⟩
    rw [ht.cellAt j (by omega), List.getElem?_eq_getElem hj', e]
theorem TuS.cellU {w : World} {base : Nat} {ue : Value} {vs : List Value} {Ls : List (List En)} {uu : Value} {ws : List V3} {cs : List Chg} (h : TuS w base ue vs Ls uu ws cs) {j : Nat} (hj : j < cs.length) :
    ∃ g c a1 k1 a2 k2 a3 k3, uu = .slice (some ⟨g, 0, none⟩) cs.length c ∧ w.cell? ⟨g, j * 9, none⟩ = some (.int .i64 cs[j].kind) ∧ w.cell? ⟨g, j * 9 + 1, none⟩ = some (.string cs[j].who) ∧ w.cell? ⟨g, j * 9 + 2, none⟩ = some (.string cs[j].name) ∧ w.cell? ⟨g, j * 9 + 3, none⟩ = some (.string cs[j].new) ∧ w.cell? ⟨g, j * 9 + 4, none⟩ = some (.string cs[j].ent.name) ∧ w.cell? ⟨g, j * 9 + 5, none⟩ = some (.string cs[j].ent.who) ∧ w.cell? ⟨g, j * 9 + 6, none⟩ = some (.slice a1 cs[j].ent.says.length k1) ∧ w.cell? ⟨g, j * 9 + 7, none⟩ = some (.slice a2 cs[j].ent.uses.length k2) ∧ w.cell? ⟨g, j * 9 + 8, none⟩ = some (.slice a3 cs[j].ent.proof.length k3) ∧ ChgAt w (.slice a1 cs[j].ent.says.length k1) (.slice a2 cs[j].ent.uses.length k2) (.slice a3 cs[j].ent.proof.length k3) cs[j] := by
  have ht := h.tu
  have hj' : j < ws.length := by rw [h.lu]; exact hj
  have he := h.chg hj hj'
  obtain ⟨a1, k1, e1, -⟩ := he.e.s.open
  obtain ⟨a2, k2, e2, -⟩ := he.e.u.open
  obtain ⟨a3, k3, e3, -⟩ := he.e.p.open
  rcases ht.2 with ⟨-, h0⟩ | ⟨g, cap, cur, rfl, hg, h3, h4, -⟩
  · omega
  · have key : ∀ r, r < 9 → w.cell? ⟨g, j * 9 + r, none⟩ = (chC cs[j] ws[j])[r]? := fun r hr => (ht.cellAt (j * 9 + r) (by omega)).trans (chsC_get cs ws h.lu j hj hj' r hr)
    refine ⟨g, cap, a1, k1, a2, k2, a3, k3, rfl, key 0 (by omega), key 1 (by omega), key 2 (by omega), key 3 (by omega), key 4 (by omega), key 5 (by omega), ?_, ?_, ?_, e1 ▸ e2 ▸ e3 ▸ he⟩
    · rw [key 6 (by omega), ← e1]; rfl
    · rw [key 7 (by omega), ← e2]; rfl
    · rw [key 8 (by omega), ← e3]; rfl
theorem TuS.start {w : World} {v : Value} {l : List En} {base : Nat} (h : EntsAt w v l) (hb : base ≤ w.heap.size) : TuS (w.alloc (.cells #[v] 24)) base (.slice (some ⟨w.heap.size, 0, none⟩) 1 1) [v] [l] (.slice none 0 0) [] [] := by
  have hbA : Below w.heap.size w (w.alloc (.cells #[v] 24)) := (Below.refl _ _).alloc (Nat.le_refl _) _
  refine ⟨World.ownsRow_lit w #[v] 1 hb (by simp [maxLen]) rfl, World.ownsRow_nil _ _ _ _, rfl, rfl, fun W' hW => ⟨fun j hj hj' => ?_, fun j hj => by simp at hj⟩⟩
  match j, hj with
  | 0, _ =>
    refine h.heap fun q hq => (hW q (Nat.lt_of_lt_of_le hq hbA.size) (fun e => ?_) (fun e => by cases e)).trans (hbA.block q hq)
    have e : q = w.heap.size := Option.some.inj e
    omega
theorem el_ents : ElemAt Tryz.prog 24 (.slice none 0 0) 1 24 := by unfold ElemAt; kernel_rfl
theorem row_one1 (w : World) (x : Value) (t : TypeId) : RowK (w.alloc (.cells #[x] t)) (.slice (some ⟨w.heap.size, 0, none⟩) 1 1) 1 1 [x] := by
  refine ⟨rfl, _, _, rfl, Nat.le_refl _, by omega, (fun h => by cases h), fun j u hj => ⟨_, _, rfl, ?_⟩⟩
  rw [World.cell?_alloc_new, Nat.zero_add]
  simpa using hj
end Go.Proofs.YtlbjbmpkaniojaaGreat
