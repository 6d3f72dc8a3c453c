/-
  WHAT IT HOLDS: the contract of copied of the reference of layer 8. Conditions: the argument reads as data; it is small.
  WHAT IT HOLDS: how a library of the call's own memory lies while it grows; contracts of each of package carry. Conditions: the arguments read as data; small signs, small libraries; the function value that is handed in does what f says to an entry of the call's own.
  WHAT IT HOLDS: the contract of Added of package carry. Conditions: the arguments read as data; small signs, small libraries.
  WHAT IT HOLDS: plain words on editions: ascending libraries, changes, what a change makes of an edition, and that it is undone. No program in sight.
  WHAT IT HOLDS: plain words on plays of changes, and that changes which name each other nowhere are apart. No program in sight.
  WHAT IT HOLDS: plain words on the difference of two editions: played in one it makes the other one. No program in sight.
  WHAT IT HOLDS: how an edition lies whose entries are copies of the call's own: written, put out, set. No program's walk in sight.
  WHAT IT HOLDS: contracts of cmp.Compare at strings, of the comparison of Equivalences of package carry, and of slices.SortFunc at pairs of names of the call's own. Conditions: the arguments read as data.
  WHAT IT HOLDS: the contracts of copied of package blame and of its reference. Conditions: the argument reads as data; it is small.
  WHAT IT HOLDS: contract of the iterator that pairs of package carry hands back, and of pairs. Conditions: the arguments read as data.
  WHAT IT HOLDS: contract of Equivalences of package carry. Conditions: the arguments read as data; small signs, small libraries.
  WHAT IT HOLDS: contracts of Added of the reference of layer 8, of SameTerms of the reference of layer 7 and SameLibrary of that of layer 6 at lists that are the same. Conditions: the arguments read as data; small signs, small libraries.
-/
import Derived.Deep.RegionHeld3
import Derived.Laws.Cover1
import Derived.Shelf.SlSortCmp.NoneTotal
import Derived.BigQuiet
import Derived.Test.YtlbjbmpkaniojaaGreatZRBlameMerges25
import Derived.Test.YtlbjbmpkaniojaaGreatZRBlameMerges14
import Derived.Test.YtlbjbmpkaniojaaGreatZRBlameMerges18
import Derived.Test.YtlbjbmpkaniojaaGreatZRBlameMerges4
import Derived.Test.YtlbjbmpkaniojaaGreatZRBlameMerges26
import Derived.Test.YtlbjbmpkaniojaaGreatZRBlameMerges16
import Derived.Test.YtlbjbmpkaniojaaGreatZRBlameMerges17
import Derived.Test.YtlbjbmpkaniojaaGreatZRBlameMerges22
import Derived.Test.YtlbjbmpkaniojaaGreatZRBlameMerges28
import Derived.Test.YtlbjbmpkaniojaaGreatZRBlameMerges27
import Derived.Test.YtlbjbmpkaniojaaGreatZRBlameMerges30
namespace Go.Proofs.YtlbjbmpkaniojaaGreat
open Go Go.RowKit Go.Maps
theorem C5.set_2 {w : World} {b : Nat} {x0 x1 x2 x3 x4 : Value} (h : C5 w b x0 x1 x2 x3 x4) (y : Value) : C5 (w.setCell ⟨b, 2, none⟩ y) b x0 x1 y x3 x4 := by
  refine ⟨?_, ?_, World.cell?_setCell_same _ _ _ h.c2, ?_, ?_, ?_, ?_, ?_, ?_, ?_⟩
  · rw [World.cell?_setCell_other _ _ _ _ (by simp)]; exact h.c0
  · rw [World.cell?_setCell_other _ _ _ _ (by simp)]; exact h.c1
  · rw [World.cell?_setCell_other _ _ _ _ (by simp)]; exact h.c3
  · rw [World.cell?_setCell_other _ _ _ _ (by simp)]; exact h.c4
  · rw [World.frozen?_setCell]; exact h.z0
  · rw [World.frozen?_setCell]; exact h.z1
  · rw [World.frozen?_setCell]; exact h.z2
  · rw [World.frozen?_setCell]; exact h.z3
  · rw [World.frozen?_setCell]; exact h.z4
theorem C5.set_3 {w : World} {b : Nat} {x0 x1 x2 x3 x4 : Value} (h : C5 w b x0 x1 x2 x3 x4) (y : Value) : C5 (w.setCell ⟨b, 3, none⟩ y) b x0 x1 x2 y x4 := by
  refine ⟨?_, ?_, ?_, World.cell?_setCell_same _ _ _ h.c3, ?_, ?_, ?_, ?_, ?_, ?_⟩
  · rw [World.cell?_setCell_other _ _ _ _ (by simp)]; exact h.c0
  · rw [World.cell?_setCell_other _ _ _ _ (by simp)]; exact h.c1
  · rw [World.cell?_setCell_other _ _ _ _ (by simp)]; exact h.c2
  · rw [World.cell?_setCell_other _ _ _ _ (by simp)]; exact h.c4
  · rw [World.frozen?_setCell]; exact h.z0
  · rw [World.frozen?_setCell]; exact h.z1
  · rw [World.frozen?_setCell]; exact h.z2
  · rw [World.frozen?_setCell]; exact h.z3
  · rw [World.frozen?_setCell]; exact h.z4
theorem lit_own {w : World} {base : Nat} {e : TypeId} (size : Nat) (h : base ≤ w.heap.size) : (w.alloc (.cells #[] e)).ownsRow base e size (.slice (some ⟨w.heap.size, 0, none⟩) 0 0) 0 [] := by
  have := World.ownsRow_lit (base := base) (e := e) (size := size) w #[] 0 h (by simp [maxLen]) (by simp)
  simpa using this
end Go.Proofs.YtlbjbmpkaniojaaGreat
namespace Go.Proofs.YtlbjbmpkaniojaaGreat
open Go Go.RowKit Go.Maps
/-- a row of entries of the call's own; what the entries hold does not lie in the row's own block. -/
structure EnS (w : World) (base : Nat) (u : Value) (vs : List V3) (l : List En) : Prop where
  top : w.ownsRow base 41 5 u l.length (ensC l vs)
  len : vs.length = l.length
  rd : ∀ W' : World, (∀ q, q < w.heap.size → some q ≠ u.ownBlock → W'.heap[q]? = w.heap[q]?) → ∀ (j : Nat) (h : j < l.length) (h' : j < vs.length), EntAt W' vs[j].1 vs[j].2.1 vs[j].2.2 l[j]
theorem EnS.nil (w : World) (base : Nat) : EnS w base (.slice none 0 0) [] [] := ⟨World.ownsRow_nil _ _ _ _, rfl, fun _ _ j h => by simp at h⟩
theorem EnS.below {w w' : World} {base : Nat} {u : Value} {vs : List V3} {l : List En} (h : EnS w base u vs l) (hb : Below w.heap.size w w') : EnS w' base u vs l :=
  ⟨owns_below h.top hb, h.len, fun W' hW => h.rd W' fun q hq hne => (hW q (Nat.lt_of_lt_of_le hq hb.size) hne).trans (hb.block q hq)⟩
theorem EnS.ents {w : World} {base : Nat} {u : Value} {vs : List V3} {l : List En} (h : EnS w base u vs l) (hl : l.length ≤ 1000) : EntsV w u vs l :=
  ⟨RowK.of_owns h.top (by omega), h.len, h.rd w fun _ _ _ => rfl⟩
theorem ensC_snoc (l : List En) (x : En) (vs : List V3) (v : V3) (h : vs.length = l.length) : ensC (l ++ [x]) (vs ++ [v]) = ensC l vs ++ enC x v := by
  rw [ensC_append l [x] vs [v] h]
  simp [ensC]
theorem EnS.push {w w1 w2 : World} {base : Nat} {u : Value} {vs : List V3} {l : List En} (h : EnS w base u vs l) (hb : Below w.heap.size w w1) {x : En} {v : V3}
    (hx : ∀ W' : World, (∀ q, q < w1.heap.size → some q ≠ u.ownBlock → W'.heap[q]? = w1.heap[q]?) → EntAt W' v.1 v.2.1 v.2.2 x)
    {g cap n : Nat} (hn : n = l.length) (hown : w2.ownsRow base 41 5 (.slice (some ⟨g, 0, none⟩) (n + 1) cap) (n + 1) (ensC l vs ++ enC x v)) (hg : w1.grownBy w2 u.ownBlock) {H : Nat} (hH : H = w1.heap.size) (hat : u.ownBlock = some g ∨ g = H) :
    EnS w2 base (.slice (some ⟨g, 0, none⟩) (n + 1) cap) (vs ++ [v]) (l ++ [x]) := by
  subst hn
  have hb1 := h.below hb
  have key : ∀ W' : World, (∀ q, q < w2.heap.size → some q ≠ (Value.slice (some ⟨g, 0, none⟩) (l.length + 1) cap).ownBlock → W'.heap[q]? = w2.heap[q]?) → ∀ q, q < w1.heap.size → some q ≠ u.ownBlock → W'.heap[q]? = w1.heap[q]? := by
    intro W' hW q hq hne
    rw [hW q (Nat.lt_of_lt_of_le hq hg.size) ?_, hg.block q hq hne]
    intro e
    have e : q = g := Option.some.inj e
    rcases hat with ha | ha
    · exact hne (by rw [ha, e])
    · omega
  refine ⟨by rw [ensC_snoc _ _ _ _ h.len]; simpa using hown, by simp [h.len], fun W' hW j hj hj' => ?_⟩
  have k1 := key W' hW
  by_cases hlt : j < l.length
  · have hv : j < vs.length := by rw [h.len]; exact hlt
    rw [List.getElem_append_left hlt, List.getElem_append_left hv]
    exact hb1.rd W' k1 j hlt hv
  · have e : j = l.length := by simp at hj; omega
    subst e
    have e1 : (l ++ [x])[l.length] = x := by simp
    have e2 : (vs ++ [v])[l.length] = v := by rw [List.getElem_append_right (by rw [h.len]; exact Nat.le_refl _)]; simp [h.len]
    rw [e1, e2]
    exact hx W' k1
theorem EnS.slice {w : World} {base : Nat} {u : Value} {vs : List V3} {l : List En} (h : EnS w base u vs l) : ∃ a c, u = .slice a l.length c := owns_slice h.top
/-- the one entry that an append is handed. -/
theorem row_one_ent (w : World) (x0 x1 x2 x3 x4 : Value) (t : TypeId) : RowK (w.alloc (.cells #[x0, x1, x2, x3, x4] t)) (.slice (some ⟨w.heap.size, 0, none⟩) 1 1) 5 1 [x0, x1, x2, x3, x4] := by
  refine ⟨rfl, _, _, rfl, Nat.le_refl _, by omega, (fun h => by cases h), fun j u hj => ⟨_, _, rfl, ?_⟩⟩
  rw [World.cell?_alloc_new, Nat.zero_add]
  simpa using hj
theorem enC_one (x : En) (a b c : Option Addr) (n m k n' m' k' : Nat) : ∀ u ∈ enC x (.slice a n n', .slice b m m', .slice c k k'), u.oneCell' = true := by
  intro u hu
  simp [enC] at hu
  rcases hu with rfl | rfl | rfl | rfl | rfl <;> rfl
/-- what an entry is asked to be, to be copied. -/
def EnSm (x : En) : Prop := 0 < x.says.length ∧ x.says.length ≤ 1000 ∧ x.uses.length ≤ 1000 ∧ x.proof.length ≤ 1000
end Go.Proofs.YtlbjbmpkaniojaaGreat
namespace Go.Proofs.YtlbjbmpkaniojaaGreat
open Go Go.RowKit Go.Maps
theorem EB.block {w w' : World} {b : Nat} {x : En} {vS vU vP : Value} (h : EB w b x vS vU vP) (hb : w'.heap[b]? = w.heap[b]?) : EB w' b x vS vU vP :=
  ⟨(World.cell?_of_block hb).trans h.c0, (World.cell?_of_block hb).trans h.c1, (World.cell?_of_block hb).trans h.c2, (World.cell?_of_block hb).trans h.c3, (World.cell?_of_block hb).trans h.c4⟩
theorem ent_sm {s : Sg} {x : En} (h : entryB s x = true) : EnSm x := by
  have h1 := entryB_iff.1 h
  have h2 := h1.len
  have h3 := (termB_T h1.says).ne
  have h4 := (termB_facts h1.says).2.2.2
  refine ⟨h3, by omega, by omega, ?_⟩
  by_cases h0 : x.proof.length = 0
  · omega
  · have := proof60 (h1.proof h0); omega
end Go.Proofs.YtlbjbmpkaniojaaGreat
namespace Go.Proofs.YtlbjbmpkaniojaaGreat
open Go Go.RowKit
abbrev em : Nm := ⟨#[]⟩
/-- a library in ascending order of names. -/
def AscE (l : List En) : Prop := l.Pairwise fun a b => ltN a.name b.name
instance (l : List En) : Decidable (AscE l) := inferInstanceAs (Decidable (l.Pairwise fun a b => ltN a.name b.name))
theorem AscE.unique {l m : List En} (h : AscE l) (k : AscE m) (e : ∀ x, x ∈ l ↔ x ∈ m) : l = m :=
  asc_unique (R := fun a b : En => ltN a.name b.name) (fun a => ltN.irr a.name) (fun h k => ltN.trans h k) h k e
theorem AscE.nd {l : List En} (h : AscE l) : (l.map En.name).Nodup := by
  rw [List.Nodup, List.pairwise_map]
  exact h.imp fun h e => by rw [e] at h; exact ltN.irr _ h
theorem AscE.inj {l : List En} (h : AscE l) {x y : En} (hx : x ∈ l) (hy : y ∈ l) (e : x.name = y.name) : x = y := by
  obtain ⟨i, hi, rfl⟩ := List.getElem_of_mem hx
  obtain ⟨j, hj, rfl⟩ := List.getElem_of_mem hy
  have h1 := idxN_nd h.nd hi
  have h2 := idxN_nd h.nd hj
  rw [e, h2] at h1
  cases h1
  rfl
theorem idxN_has (l : List En) (n : Nm) : (idxN l n).isSome = hasN (l.map En.name) n := by
  unfold idxN hasN
  rw [List.findIdx?_isSome]
theorem hasE_iff {l : List En} {n : Nm} : hasN (l.map En.name) n = true ↔ ∃ x ∈ l, x.name = n := by
  rw [hasN_iff, List.mem_map]
theorem hasE_no {l : List En} {n : Nm} : hasN (l.map En.name) n = false ↔ ∀ x ∈ l, x.name ≠ n := by
  rw [Bool.eq_false_iff, ne_eq, hasE_iff]
  constructor
  · intro h x hx e; exact h ⟨x, hx, e⟩
  · rintro h ⟨x, hx, e⟩; exact h x hx e
/-- an ascending list with an entry more in its place. -/
def putE (x : En) : List En → List En
  | [] => [x]
  | y :: l => if ltN x.name y.name then x :: y :: l else y :: putE x l
theorem putE_mem {x z : En} : ∀ {l : List En}, z ∈ putE x l ↔ z = x ∨ z ∈ l
  | [] => by simp [putE]
  | y :: l => by
    unfold putE
    split
    · simp
    · rw [List.mem_cons, putE_mem, List.mem_cons]; constructor <;> (intro h; rcases h with h | h | h <;> simp [h])
theorem putE_len {x : En} : ∀ {l : List En}, (putE x l).length = l.length + 1
  | [] => rfl
  | y :: l => by
    unfold putE
    split
    · rfl
    · simp [putE_len]
theorem putE_asc {x : En} : ∀ {l : List En}, AscE l → (∀ y ∈ l, y.name ≠ x.name) → AscE (putE x l)
  | [], _, _ => by simp [putE, AscE]
  | y :: l, h, hn => by
    obtain ⟨h1, h2⟩ := List.pairwise_cons.1 h
    unfold putE
    split
    · rename_i hy
      exact List.pairwise_cons.2 ⟨fun z hz => by
        rcases List.mem_cons.1 hz with rfl | hz
        · exact hy
        · exact hy.trans (h1 z hz), h⟩
    · rename_i hy
      have hyx : ltN y.name x.name := by
        rcases ltN.tri y.name x.name with k | k | k
        · exact k
        · exact (hn y (by simp) k).elim
        · exact (hy k).elim
      refine List.pairwise_cons.2 ⟨fun z hz => ?_, putE_asc h2 fun z hz => hn z (by simp [hz])⟩
      rcases putE_mem.1 hz with rfl | hz
      · exact hyx
      · exact h1 z hz
/-- a library in ascending order. -/
def srtE (l : List En) : List En := l.foldl (fun o x => putE x o) []
theorem srtE_mem {z : En} (l : List En) : z ∈ srtE l ↔ z ∈ l := by
  have key : ∀ (l o : List En), z ∈ l.foldl (fun o x => putE x o) o ↔ z ∈ o ∨ z ∈ l := by
    intro l
    induction l with
    | nil => intro o; simp
    | cons x l ih =>
      intro o
      rw [List.foldl_cons, ih, putE_mem, List.mem_cons]
      constructor
      · rintro ((h | h) | h) <;> simp [h]
      · rintro (h | h | h) <;> simp [h]
  rw [srtE, key]; simp
theorem srtE_len (l : List En) : (srtE l).length = l.length := by
  have key : ∀ (l o : List En), (l.foldl (fun o x => putE x o) o).length = o.length + l.length := by
    intro l
    induction l with
    | nil => intro o; simp
    | cons x l ih =>
      intro o
      rw [List.foldl_cons, ih, putE_len, List.length_cons]; omega
  rw [srtE, key]; simp
theorem srtE_asc {l : List En} (h : (l.map En.name).Nodup) : AscE (srtE l) := by
  have key : ∀ (l o : List En), AscE o → (l.map En.name).Nodup → (∀ x ∈ l, ∀ y ∈ o, y.name ≠ x.name) → AscE (l.foldl (fun o x => putE x o) o) := by
    intro l
    induction l with
    | nil => intro o h _ _; exact h
    | cons x l ih =>
      intro o h hn hd
      rw [List.foldl_cons]
      rw [List.map_cons, List.nodup_cons] at hn
      refine ih _ (putE_asc h (hd x (by simp))) hn.2 fun z hz y hy => ?_
      rcases putE_mem.1 hy with rfl | hy
      · intro e; exact hn.1 (List.mem_map.2 ⟨z, hz, e.symm⟩)
      · exact hd z (by simp [hz]) y hy
  exact key l [] (by simp [AscE]) h (by simp)
/-- what is sorted and has no name twice is the ascending list. -/
theorem srt_eq {L M pre : List En} (hp : L.Perm pre) (hs : L.Pairwise fun a b => ¬ ltN b.name a.name) (hn : (pre.map En.name).Nodup) (hm : AscE M) (e : ∀ x, x ∈ M ↔ x ∈ pre) : L = M := by
  have hn' : (L.map En.name).Nodup := (hp.map En.name).nodup_iff.2 hn
  rw [List.Nodup, List.pairwise_map] at hn'
  refine AscE.unique ((hs.and hn').imp fun {a b} ⟨h1, h2⟩ => ?_) hm fun x => by rw [hp.mem_iff, e]
  rcases ltN.tri a.name b.name with k | k | k
  · exact k
  · exact absurd k h2
  · exact absurd k h1
/-- a change: its kind, by whom it is, the names, the entry. -/
structure Chg where
  kind : Int
  who : Nm
  name : Nm
  new : Nm
  ent : En
deriving DecidableEq
def edB (s : Sg) (l : List En) : Bool := libB s l && decide (AscE l)
theorem edB_iff {s : Sg} {l : List En} : edB s l = true ↔ LibOK s l ∧ AscE l := by
  unfold edB
  rw [Bool.and_eq_true, libB_iff, decide_eq_true_eq]
def chgB (s : Sg) (c : Chg) : Bool :=
  signB s && (nmB c.who && (if c.kind = 1 ∨ c.kind = 2 then decide (c.name = em) && (decide (c.new = em) && entryB s c.ent)
    else if c.kind = 3 then nmB c.name && (nmB c.new && (decide (c.name ≠ c.new) && decide (c.ent = en0)))
    else if c.kind = 4 then nmB c.name && (decide (c.new = em) && decide (c.ent = en0)) else false))
inductive ChgOK (s : Sg) (c : Chg) : Prop where
  | put (h0 : signB s = true) (h1 : nmB c.who = true) (hk : c.kind = 1 ∨ c.kind = 2) (h2 : c.name = em) (h3 : c.new = em) (h4 : EnOK s c.ent)
  | ren (h0 : signB s = true) (h1 : nmB c.who = true) (hk : c.kind = 3) (h2 : nmB c.name = true) (h3 : nmB c.new = true) (h4 : c.name ≠ c.new) (h5 : c.ent = en0)
  | drop (h0 : signB s = true) (h1 : nmB c.who = true) (hk : c.kind = 4) (h2 : nmB c.name = true) (h3 : c.new = em) (h5 : c.ent = en0)
theorem chgB_iff {s : Sg} {c : Chg} : chgB s c = true ↔ ChgOK s c := by
  unfold chgB
  constructor
  · intro h
    rw [Bool.and_eq_true, Bool.and_eq_true] at h
    obtain ⟨h0, h1, h⟩ := h
    split at h
    · rename_i hk
      simp only [Bool.and_eq_true, decide_eq_true_eq] at h
      exact .put h0 h1 hk h.1 h.2.1 (entryB_iff.1 h.2.2)
    split at h
    · rename_i hk
      simp only [Bool.and_eq_true, decide_eq_true_eq] at h
      exact .ren h0 h1 hk h.1 h.2.1 h.2.2.1 h.2.2.2
    split at h
    · rename_i hk
      simp only [Bool.and_eq_true, decide_eq_true_eq] at h
      exact .drop h0 h1 hk h.1 h.2.1 h.2.2
    · cases h
  · intro h
    cases h with
    | put h0 h1 hk h2 h3 h4 => rw [h0, h1, if_pos hk, h2, h3, entryB_iff.2 h4]; rfl
    | ren h0 h1 hk h2 h3 h4 h5 => rw [h0, h1, if_neg (by omega), if_pos hk, h2, h3, h5]; simp [h4]
    | drop h0 h1 hk h2 h3 h5 => rw [h0, h1, if_neg (by omega), if_neg (by omega), if_pos hk, h2, h3, h5]; simp
/-- whether an entry, but the one with a name, uses a name. -/
def usedB (l : List En) (n but : Nm) : Bool := l.any fun x => decide (x.name ≠ but) && hasN x.uses n
theorem usedB_no {l : List En} {n but : Nm} : usedB l n but = false ↔ ∀ x ∈ l, x.name ≠ but → n ∉ x.uses := by
  unfold usedB
  rw [List.any_eq_false]
  constructor
  · intro h x hx hb hu
    exact h x hx (by rw [Bool.and_eq_true]; exact ⟨by simpa using hb, hasN_iff.2 hu⟩)
  · intro h x hx hc
    rw [Bool.and_eq_true] at hc
    exact h x hx (by simpa using hc.1) (hasN_iff.1 hc.2)
def subE (x y : En) : En := if y.name = x.name then x else y
def renN (n m u : Nm) : Nm := if u = n then m else u
def renE (n m : Nm) (x : En) : En := { x with name := renN n m x.name, uses := x.uses.map (renN n m) }
/-- what a change makes of an edition. -/
def doL (l : List En) (c : Chg) : List En × Int :=
  if c.kind = 1 then
    if hasN (l.map En.name) c.ent.name then ([], 6) else if 60 ≤ l.length then ([], 4) else (putE c.ent l, 0)
  else if c.kind = 2 then
    if hasN (l.map En.name) c.ent.name then if c.ent ∈ l then ([], 8) else (l.map (subE c.ent), 0) else ([], 5)
  else if c.kind = 3 then
    if hasN (l.map En.name) c.name then if hasN (l.map En.name) c.new || usedB l c.new em then ([], 6) else (srtE (l.map (renE c.name c.new)), 0) else ([], 5)
  else
    if hasN (l.map En.name) c.name then if usedB l c.name c.name then ([], 10) else (l.filter (fun x => decide (x.name ≠ c.name)), 0) else ([], 5)
def chg0 : Chg := ⟨0, em, em, em, en0⟩
theorem ChgOK.sign {s : Sg} {c : Chg} (h : ChgOK s c) : signB s = true := by cases h <;> assumption
theorem ChgOK.who {s : Sg} {c : Chg} (h : ChgOK s c) : nmB c.who = true := by cases h <;> assumption
theorem renN_inj {n m : Nm} {l : List Nm} (hm : m ∉ l) {u v : Nm} (hu : u ∈ l) (hv : v ∈ l) (e : renN n m u = renN n m v) : u = v := by
  unfold renN at e
  split at e <;> split at e
  · rename_i h1 h2; rw [h1, h2]
  · exact absurd (e ▸ hv) hm
  · exact absurd (e ▸ hu) hm
  · exact e
theorem nd_map_on {α β : Type} {f : α → β} : ∀ {l : List α}, l.Nodup → (∀ x ∈ l, ∀ y ∈ l, f x = f y → x = y) → (l.map f).Nodup
  | [], _, _ => by simp
  | x :: l, h, hf => by
    obtain ⟨h1, h2⟩ := List.nodup_cons.1 h
    rw [List.map_cons, List.nodup_cons]
    refine ⟨fun hx => ?_, nd_map_on h2 fun a ha b hb => hf a (by simp [ha]) b (by simp [hb])⟩
    obtain ⟨y, hy, e⟩ := List.mem_map.1 hx
    exact h1 (hf y (by simp [hy]) x (by simp) e ▸ hy)
theorem ren_names (n m : Nm) (l : List En) : (l.map (renE n m)).map En.name = (l.map En.name).map (renN n m) := by
  rw [List.map_map, List.map_map]; rfl
theorem ren_nd {l : List En} {n m : Nm} (h : (l.map En.name).Nodup) (hm : hasN (l.map En.name) m = false) : ((l.map (renE n m)).map En.name).Nodup := by
  rw [ren_names]
  exact nd_map_on h fun x hx y hy e => renN_inj (hasN_no.1 hm) hx hy e
theorem renE_ok {s : Sg} {x : En} {n m : Nm} (h : EnOK s x) (hm : nmB m = true) (hu : m ∉ x.uses) : EnOK s (renE n m x) where
  name := by unfold renE renN; dsimp only; split; exact hm; exact h.name
  who := h.who
  says := h.says
  can := h.can
  len := by show (x.uses.map _).length ≤ 12; rw [List.length_map]; exact h.len
  nd := nd_map_on h.nd fun a ha b hb e => renN_inj hu ha hb e
  uses := fun u hu => by
    obtain ⟨v, hv, rfl⟩ := List.mem_map.1 hu
    unfold renN; split
    · exact hm
    · exact h.uses v hv
  ax := fun h0 => by show (x.uses.map _).length = 0; rw [List.length_map]; exact h.ax h0
  proof := fun h0 => by show proofB (x.uses.map _).length x.proof = true; rw [List.length_map]; exact h.proof h0
theorem sub_names (x : En) (l : List En) : (l.map (subE x)).map En.name = l.map En.name := by
  rw [List.map_map]
  refine List.map_congr_left fun y _ => ?_
  show (subE x y).name = y.name
  unfold subE
  split
  · rename_i h; exact h.symm
  · rfl
theorem ascE_names {l m : List En} (e : l.map En.name = m.map En.name) (h : AscE l) : AscE m := by
  have h' : (l.map En.name).Pairwise ltN := List.pairwise_map.2 h
  rw [e] at h'
  exact List.pairwise_map.1 h'
theorem usedB_all {s : Sg} {l : List En} (h : LibOK s l) {n : Nm} : usedB l n em = false ↔ ∀ x ∈ l, n ∉ x.uses := by
  rw [usedB_no]
  refine ⟨fun k x hx => k x hx fun e => ?_, fun k x hx _ => k x hx⟩
  have := nmB_len (h.ents x hx).name
  rw [e] at this
  exact absurd this.1 (by decide)
/-- what is made of an edition is an edition. -/
theorem doL_ed {s : Sg} {l l' : List En} {c : Chg} (h : edB s l = true) (hc : chgB s c = true) (hd : doL l c = (l', 0)) : edB s l' = true := by
  obtain ⟨hl, ha⟩ := edB_iff.1 h
  have hc := chgB_iff.1 hc
  rw [edB_iff]
  unfold doL at hd
  split at hd
  · rename_i hk
    have h4 : EnOK s c.ent := by
      cases hc with
      | put h0 h1 hk h2 h3 h4 => exact h4
      | ren h0 h1 hk' => omega
      | drop h0 h1 hk' => omega
    split at hd
    · cases hd
    rename_i hn
    split at hd
    · cases hd
    rename_i h60
    cases hd
    have hn' := hasE_no.1 (by simpa using hn : hasN (l.map En.name) c.ent.name = false)
    refine ⟨⟨hl.sign, by rw [putE_len]; omega, fun x hx => ?_, (putE_asc ha hn').nd⟩, putE_asc ha hn'⟩
    rcases putE_mem.1 hx with rfl | hx
    · exact h4
    · exact hl.ents x hx
  split at hd
  · rename_i hk1 hk
    have h4 : EnOK s c.ent := by
      cases hc with
      | put h0 h1 hk h2 h3 h4 => exact h4
      | ren h0 h1 hk' => omega
      | drop h0 h1 hk' => omega
    split at hd
    · split at hd
      · cases hd
      cases hd
      have ha' := ascE_names (sub_names c.ent l).symm ha
      refine ⟨⟨hl.sign, by rw [List.length_map]; exact hl.len, fun x hx => ?_, ha'.nd⟩, ha'⟩
      obtain ⟨y, hy, rfl⟩ := List.mem_map.1 hx
      unfold subE
      split
      · exact h4
      · exact hl.ents y hy
    · cases hd
  split at hd
  · rename_i hk1 hk2 hk
    have h3 : nmB c.new = true := by
      cases hc with
      | put h0 h1 hk' => omega
      | ren h0 h1 hk' h2 h3 => exact h3
      | drop h0 h1 hk' => omega
    split at hd
    · split at hd
      · cases hd
      rename_i hu
      cases hd
      rw [Bool.or_eq_true, not_or] at hu
      have h1 : hasN (l.map En.name) c.new = false := by simpa using hu.1
      have h2 := (usedB_all hl).1 (by simpa using hu.2 : usedB l c.new em = false)
      have ha' := srtE_asc (ren_nd (n := c.name) hl.nd h1)
      refine ⟨⟨hl.sign, by rw [srtE_len, List.length_map]; exact hl.len, fun x hx => ?_, ha'.nd⟩, ha'⟩
      obtain ⟨y, hy, rfl⟩ := List.mem_map.1 ((srtE_mem _).1 hx)
      exact renE_ok (hl.ents y hy) h3 (h2 y hy)
    · cases hd
  split at hd
  · split at hd
    · cases hd
    cases hd
    have ha' : AscE (l.filter fun x => decide (x.name ≠ c.name)) := List.Pairwise.sublist List.filter_sublist ha
    exact ⟨⟨hl.sign, Nat.le_trans (List.length_filter_le _ _) hl.len, fun x hx => hl.ents x (List.mem_filter.1 hx).1, ha'.nd⟩, ha'⟩
  · cases hd
end Go.Proofs.YtlbjbmpkaniojaaGreat
namespace Go.Proofs.YtlbjbmpkaniojaaGreat
open Go Go.RowKit
def playL : List En → List Chg → Int → List En × Int × Int
  | l, [], _ => (l, -1, 0)
  | l, c :: cs, i => if (doL l c).2 = 0 then playL (doL l c).1 cs (i + 1) else ([], i, (doL l c).2)
/-- the error of a list of changes. -/
def lstL (s : Sg) (cs : List Chg) : Int := if (signB s && cs.all (chgB s)) = true then (if 200 < cs.length then 7 else 0) else 1
theorem lstL_ok {s : Sg} {cs : List Chg} : lstL s cs = 0 ↔ signB s = true ∧ (∀ c ∈ cs, chgB s c = true) ∧ cs.length ≤ 200 := by
  unfold lstL
  split
  · rename_i h
    rw [Bool.and_eq_true, List.all_eq_true] at h
    split
    · constructor
      · intro h; cases h
      · rintro ⟨-, -, h⟩; omega
    · exact ⟨fun _ => ⟨h.1, h.2, by omega⟩, fun _ => rfl⟩
  · rename_i h
    constructor
    · intro h; cases h
    · rintro ⟨h1, h2, -⟩
      exact absurd (by rw [Bool.and_eq_true, List.all_eq_true]; exact ⟨h1, h2⟩) h
theorem edB_nil {s : Sg} (h : signB s = true) : edB s [] = true := edB_iff.2 ⟨⟨h, by simp, by simp, by simp⟩, by simp [AscE]⟩
def trC (c : Chg) (y : En) : En := if c.kind = 2 then subE c.ent y else if c.kind = 3 then renE c.name c.new y else y
def goneC (c : Chg) (n : Nm) : Prop := c.kind = 4 ∧ n = c.name
def addC (c : Chg) (z : En) : Prop := c.kind = 1 ∧ z = c.ent
/-- whether a change can be made. -/
inductive OkC (l : List En) (c : Chg) : Prop where
  | add (hk : c.kind = 1) (h1 : ∀ x ∈ l, x.name ≠ c.ent.name) (h2 : l.length < 60)
  | set (hk : c.kind = 2) (h1 : ∃ x ∈ l, x.name = c.ent.name) (h2 : c.ent ∉ l)
  | ren (hk : c.kind = 3) (h1 : ∃ x ∈ l, x.name = c.name) (h2 : ∀ x ∈ l, x.name ≠ c.new) (h3 : ∀ x ∈ l, c.new ∉ x.uses)
  | drop (hk : c.kind = 4) (h1 : ∃ x ∈ l, x.name = c.name) (h2 : ∀ x ∈ l, x.name ≠ c.name → c.name ∉ x.uses)
theorem ChgOK.kinds {s : Sg} {c : Chg} (h : ChgOK s c) : c.kind = 1 ∨ c.kind = 2 ∨ c.kind = 3 ∨ c.kind = 4 := by
  cases h with
  | put h0 h1 hk => omega
  | ren h0 h1 hk => omega
  | drop h0 h1 hk => omega
theorem okC_iff {s : Sg} {l : List En} {c : Chg} (hl : LibOK s l) (hc : ChgOK s c) : (doL l c).2 = 0 ↔ OkC l c := by
  unfold doL
  constructor
  · intro h
    split at h
    · rename_i hk
      split at h
      · cases h
      rename_i hn
      split at h
      · cases h
      rename_i h60
      exact .add hk (hasE_no.1 (by simpa using hn)) (by omega)
    split at h
    · rename_i hk
      split at h
      · rename_i hn
        split at h
        · cases h
        rename_i hm
        exact .set hk (hasE_iff.1 hn) hm
      · cases h
    split at h
    · rename_i hk
      split at h
      · rename_i hn
        split at h
        · cases h
        rename_i hu
        rw [Bool.or_eq_true, not_or] at hu
        exact .ren hk (hasE_iff.1 hn) (hasE_no.1 (by simpa using hu.1)) ((usedB_all hl).1 (by simpa using hu.2))
      · cases h
    rename_i k1 k2 k3
    split at h
    · rename_i hn
      split at h
      · cases h
      rename_i hu
      exact .drop (by have := hc.kinds; omega) (hasE_iff.1 hn) (usedB_no.1 (by simpa using hu))
    · cases h
  · intro h
    cases h with
    | add hk h1 h2 => rw [if_pos hk, if_neg (by rw [hasE_no.2 h1]; simp), if_neg (by omega)]
    | set hk h1 h2 => rw [if_neg (by omega), if_pos hk, if_pos (hasE_iff.2 h1), if_neg h2]
    | ren hk h1 h2 h3 => rw [if_neg (by omega), if_neg (by omega), if_pos hk, if_pos (hasE_iff.2 h1), if_neg (by rw [hasE_no.2 h2, (usedB_all hl).2 h3]; simp)]
    | drop hk h1 h2 => rw [if_neg (by omega), if_neg (by omega), if_neg (by omega), if_pos (hasE_iff.2 h1), if_neg (by rw [usedB_no.2 h2]; simp)]
/-- the members of what a change makes. -/
theorem doL_mem {s : Sg} {l : List En} {c : Chg} (hl : LibOK s l) (hc : ChgOK s c) (h : OkC l c) (z : En) : z ∈ (doL l c).1 ↔ (∃ y ∈ l, ¬ goneC c y.name ∧ z = trC c y) ∨ addC c z := by
  unfold doL goneC trC addC
  cases h with
  | add hk h1 h2 =>
    rw [if_pos hk, if_neg (by rw [hasE_no.2 h1]; simp), if_neg (by omega)]
    simp only [hk]
    rw [putE_mem]
    constructor
    · rintro (h | h)
      · exact Or.inr ⟨by simp, h⟩
      · exact Or.inl ⟨z, h, by simp, by simp⟩
    · rintro (⟨y, hy, -, e⟩ | ⟨-, h⟩)
      · exact Or.inr (by simp at e; rw [e]; exact hy)
      · exact Or.inl h
  | set hk h1 h2 =>
    rw [if_neg (by omega), if_pos hk, if_pos (hasE_iff.2 h1), if_neg h2]
    simp only [hk]
    rw [List.mem_map]
    constructor
    · rintro ⟨y, hy, e⟩
      exact Or.inl ⟨y, hy, by simp, by simp [e]⟩
    · rintro (⟨y, hy, -, e⟩ | ⟨h, -⟩)
      · exact ⟨y, hy, by simpa using e.symm⟩
      · exact absurd h (by decide)
  | ren hk h1 h2 h3 =>
    rw [if_neg (by omega), if_neg (by omega), if_pos hk, if_pos (hasE_iff.2 h1), if_neg (by rw [hasE_no.2 h2, (usedB_all hl).2 h3]; simp)]
    simp only [hk]
    rw [srtE_mem, List.mem_map]
    constructor
    · rintro ⟨y, hy, e⟩
      exact Or.inl ⟨y, hy, by simp, by simp [e]⟩
    · rintro (⟨y, hy, -, e⟩ | ⟨h, -⟩)
      · exact ⟨y, hy, by simpa using e.symm⟩
      · exact absurd h (by decide)
  | drop hk h1 h2 =>
    rw [if_neg (by omega), if_neg (by omega), if_neg (by omega), if_pos (hasE_iff.2 h1), if_neg (by rw [usedB_no.2 h2]; simp)]
    simp only [hk]
    rw [List.mem_filter]
    constructor
    · rintro ⟨h, h'⟩
      exact Or.inl ⟨z, h, by simpa using h', by simp⟩
    · rintro (⟨y, hy, hg, e⟩ | ⟨h, -⟩)
      · simp at e
        subst e
        exact ⟨hy, by simpa using hg⟩
      · exact absurd h (by decide)
theorem nm_ne {n : Nm} (h : nmB n = true) : n ≠ em := fun e => by
  have := (nmB_len h).1
  rw [e] at this
  exact absurd this (by decide)
end Go.Proofs.YtlbjbmpkaniojaaGreat
namespace Go.Proofs.YtlbjbmpkaniojaaGreat
open Go Go.RowKit
theorem nd_len_le {α : Type} [DecidableEq α] : ∀ {l m : List α}, l.Nodup → (∀ x ∈ l, x ∈ m) → l.length ≤ m.length
  | [], _, _, _ => Nat.zero_le _
  | x :: l, m, h, hs => by
    obtain ⟨h1, h2⟩ := List.nodup_cons.1 h
    have hx := hs x (by simp)
    have := nd_len_le (m := m.erase x) h2 fun y hy => (List.mem_erase_of_ne (fun (e : y = x) => h1 (by rw [← e]; exact hy))).2 (hs y (by simp [hy]))
    rw [List.length_erase_of_mem hx] at this
    have := List.length_pos_of_mem hx
    rw [List.length_cons]
    omega
end Go.Proofs.YtlbjbmpkaniojaaGreat
namespace Go.Proofs.YtlbjbmpkaniojaaGreat
open Go Go.RowKit Go.Maps
theorem owns_type {w : World} {base : Nat} {e : TypeId} {k n : Nat} {v : Value} {xs : List Value} {b : Nat} (h : w.ownsRow base e k v n xs) (hb : v.ownBlock = some b) : ∃ cur, w.heap[b]? = some (.cells cur e (0, 0)) := by
  obtain ⟨-, h2⟩ := h
  rcases h2 with ⟨rfl, -⟩ | ⟨g, cap, cur, rfl, -, r3, -⟩
  · cases hb
  · cases hb; exact ⟨cur, r3⟩
theorem owns_ne {w : World} {base base' : Nat} {e e' : TypeId} {k k' n n' : Nat} {v v' : Value} {xs xs' : List Value} {b : Nat} (h : w.ownsRow base e k v n xs) (h' : w.ownsRow base' e' k' v' n' xs') (hne : e ≠ e') (hb : v.ownBlock = some b) : v'.ownBlock ≠ some b := by
  intro hb'
  obtain ⟨c, hc⟩ := owns_type h hb
  obtain ⟨c', hc'⟩ := owns_type h' hb'
  rw [hc] at hc'
  cases hc'
  exact hne rfl
theorem EntO.keep {w W' : World} {base base' : Nat} {vS vU vP : Value} {x : En} (h : EntO w base vS vU vP x) (hb : base' ≤ base) (hs : ∀ q, base ≤ q → q < w.heap.size → (vS.ownBlock = some q ∨ vU.ownBlock = some q ∨ vP.ownBlock = some q) → W'.heap[q]? = w.heap[q]?) : EntO W' base' vS vU vP x :=
  ⟨owns_base (owns_blocks h.s fun q h1 h2 h3 => hs q h1 h2 (Or.inl h3)) hb, owns_base (owns_blocks h.u fun q h1 h2 h3 => hs q h1 h2 (Or.inr (Or.inl h3))) hb, owns_base (owns_blocks h.p fun q h1 h2 h3 => hs q h1 h2 (Or.inr (Or.inr h3))) hb, h.ls, h.lu, h.lp, h.nu, h.n1, h.n2⟩
/-- a row of entries of the call's own, and what the entries hold is the call's own too; no two share their lists of names. -/
structure EnW (w : World) (base : Nat) (u : Value) (vs : List V3) (l : List En) : Prop where
  top : w.ownsRow base 41 5 u l.length (ensC l vs)
  len : vs.length = l.length
  own : ∀ (j : Nat) (h : j < l.length) (h' : j < vs.length), EntO w base vs[j].1 vs[j].2.1 vs[j].2.2 l[j]
  dis : ∀ (i j : Nat) (h : i < vs.length) (h' : j < vs.length), i ≠ j → ∀ b, vs[i].2.1.ownBlock = some b → vs[j].2.1.ownBlock ≠ some b
theorem EnW.nil (w : World) (base : Nat) : EnW w base (.slice none 0 0) [] [] := ⟨World.ownsRow_nil _ _ _ _, rfl, fun j h => by simp at h, fun i j h => by simp at h⟩
theorem EnW.slice {w : World} {base : Nat} {u : Value} {vs : List V3} {l : List En} (h : EnW w base u vs l) : ∃ a c, u = .slice a l.length c := owns_slice h.top
theorem EnW.below {w w' : World} {base : Nat} {u : Value} {vs : List V3} {l : List En} (h : EnW w base u vs l) (hb : Below w.heap.size w w') : EnW w' base u vs l :=
  ⟨owns_below h.top hb, h.len, fun j h1 h2 => (h.own j h1 h2).blocks (Nat.le_refl _) fun q _ hq => hb.block q hq, h.dis⟩
/-- the blocks of an entry are not the row's. -/
theorem ent_ne {w : World} {base base' : Nat} {u : Value} {n : Nat} {xs : List Value} {vS vU vP : Value} {x : En} (h : w.ownsRow base 41 5 u n xs) (he : EntO w base' vS vU vP x) {q : Nat} (hq : vS.ownBlock = some q ∨ vU.ownBlock = some q ∨ vP.ownBlock = some q) : some q ≠ u.ownBlock := by
  rcases hq with hq | hq | hq
  · exact fun e => owns_ne he.s h (by decide) hq e.symm
  · exact fun e => owns_ne he.u h (by decide) hq e.symm
  · exact fun e => owns_ne he.p h (by decide) hq e.symm
theorem EnW.toS {w : World} {base : Nat} {u : Value} {vs : List V3} {l : List En} (h : EnW w base u vs l) : EnS w base u vs l :=
  ⟨h.top, h.len, fun W' hW j h1 h2 => ((h.own j h1 h2).keep (base' := base) (Nat.le_refl _) fun q _ hq hb => hW q hq (ent_ne h.top (h.own j h1 h2) hb)).ent⟩
theorem EnW.ents {w : World} {base : Nat} {u : Value} {vs : List V3} {l : List En} (h : EnW w base u vs l) (hl : l.length ≤ 1000) : EntsAt w u l := ⟨vs, h.toS.ents hl⟩
/-- a copy more. -/
theorem EnW.push {w w1 w2 : World} {base : Nat} {u : Value} {vs : List V3} {l : List En} (h : EnW w base u vs l) (hb : Below w.heap.size w w1) {x : En} {v : V3}
    (hO : EntO w1 w.heap.size v.1 v.2.1 v.2.2 x) (hbw : base ≤ w.heap.size)
    {g cap n : Nat} (hn : n = l.length) (hown : w2.ownsRow base 41 5 (.slice (some ⟨g, 0, none⟩) (n + 1) cap) (n + 1) (ensC l vs ++ enC x v)) (hg : w1.grownBy w2 u.ownBlock) :
    EnW w2 base (.slice (some ⟨g, 0, none⟩) (n + 1) cap) (vs ++ [v]) (l ++ [x]) := by
  subst hn
  have hb1 := h.below hb
  have hu : ∀ b, u.ownBlock = some b → b < w.heap.size := fun b hb => (h.top.lt b hb).2
  have hx2 : EntO w2 base v.1 v.2.1 v.2.2 x := hO.keep hbw fun q hq1 hq hqb => hg.block q hq fun e => by have := hu q e.symm; omega
  have hvb : ∀ b, v.2.1.ownBlock = some b → w.heap.size ≤ b := fun b hb => (hO.u.lt b hb).1
  refine ⟨by rw [ensC_snoc _ _ _ _ h.len]; simpa using hown, by simp [h.len], fun j hj hj' => ?_, fun i j hi hj hij b hbi hbj => ?_⟩
  · by_cases hlt : j < l.length
    · have hv : j < vs.length := by rw [h.len]; exact hlt
      rw [List.getElem_append_left hlt, List.getElem_append_left hv]
      exact (hb1.own j hlt hv).keep (Nat.le_refl _) fun q _ hq hqb => hg.block q hq (ent_ne hb1.top (hb1.own j hlt hv) hqb)
    · have e : j = l.length := by simp at hj; omega
      subst e
      have e1 : (l ++ [x])[l.length] = x := by simp
      have e2 : (vs ++ [v])[l.length] = v := by rw [List.getElem_append_right (by rw [h.len]; exact Nat.le_refl _)]; simp [h.len]
      rw [e1, e2]
      exact hx2
  · have hin : ∀ k (hk : k < vs.length), ∀ b, vs[k].2.1.ownBlock = some b → b < w.heap.size := fun k hk b hb => ((h.own k (by rw [← h.len]; exact hk) hk).u.lt b hb).2
    have hlst : ∀ k (hk : k < (vs ++ [v]).length), ¬ k < vs.length → (vs ++ [v])[k] = v := fun k hk hn => by
      rw [List.getElem_append_right (by omega)]; simp
    by_cases h1 : i < vs.length
    · rw [List.getElem_append_left h1] at hbi
      by_cases h2 : j < vs.length
      · rw [List.getElem_append_left h2] at hbj
        exact h.dis i j h1 h2 hij b hbi hbj
      · rw [hlst j hj h2] at hbj
        have := hin i h1 b hbi
        have := hvb b hbj
        omega
    · rw [hlst i hi h1] at hbi
      by_cases h2 : j < vs.length
      · rw [List.getElem_append_left h2] at hbj
        have := hin j h2 b hbj
        have := hvb b hbi
        omega
      · simp at hi hj; omega
theorem ensC_set : ∀ (l : List En) (vs : List V3) (_ : vs.length = l.length) (j : Nat) (_ : j < l.length) (x : En) (v : V3), ensC (l.set j x) (vs.set j v) = (((((ensC l vs).set (j * 5) (.string x.name)).set (j * 5 + 1) (.string x.who)).set (j * 5 + 2) v.1).set (j * 5 + 3) v.2.1).set (j * 5 + 4) v.2.2
  | [], _, _, j, h, _, _ => by simp at h
  | _ :: _, [], e, _, _, _, _ => by simp at e
  | y :: l, u :: vs, e, 0, _, x, v => by simp [ensC, enC]
  | y :: l, u :: vs, e, j + 1, h, x, v => by
    have := ensC_set l vs (by simpa using e) j (by simpa using h) x v
    have h5 : (enC y u).length = 5 := rfl
    have hs : ∀ (k : Nat) (z : Value) (L : List Value), (enC y u ++ L).set (k + 5) z = enC y u ++ L.set k z := fun k z L => by
      rw [List.set_append, if_neg (by rw [h5]; omega), h5]; simp
    simp only [List.set_cons_succ, ensC, this]
    rw [show (j + 1) * 5 = j * 5 + 5 by omega, show j * 5 + 5 + 1 = j * 5 + 1 + 5 by omega, show j * 5 + 5 + 2 = j * 5 + 2 + 5 by omega, show j * 5 + 5 + 3 = j * 5 + 3 + 5 by omega, show j * 5 + 5 + 4 = j * 5 + 4 + 5 by omega]
    rw [hs, hs, hs, hs, hs]
/-- only the name is another one. -/
theorem ensC_name : ∀ (l : List En) (vs : List V3) (_ : vs.length = l.length) (j : Nat) (hj : j < l.length) (n : Nm), ensC (l.set j { l[j] with name := n }) vs = (ensC l vs).set (j * 5) (.string n)
  | [], _, _, j, h, _ => by simp at h
  | _ :: _, [], e, _, _, _ => by simp at e
  | y :: l, u :: vs, e, 0, _, n => by simp [ensC, enC]
  | y :: l, u :: vs, e, j + 1, h, n => by
    have := ensC_name l vs (by simpa using e) j (by simpa using h) n
    have h5 : (enC y u).length = 5 := rfl
    simp only [List.set_cons_succ, ensC, List.getElem_cons_succ, this]
    rw [show (j + 1) * 5 = j * 5 + 5 by omega, List.set_append, if_neg (by rw [h5]; omega), h5]; simp
/-- what an entry uses does not stand in the row. -/
theorem ensC_uses : ∀ (l : List En) (vs : List V3) (j : Nat) (hj : j < l.length) (us : List Nm), ensC (l.set j { l[j] with uses := us }) vs = ensC l vs
  | [], _, j, h, _ => by simp at h
  | _ :: _, [], _, _, _ => by simp [ensC]
  | y :: l, u :: vs, 0, _, us => by simp [ensC, enC]
  | y :: l, u :: vs, j + 1, h, us => by
    have := ensC_uses l vs j (by simpa using h) us
    simp only [List.set_cons_succ, ensC, List.getElem_cons_succ, this]
theorem EnW.setName {w : World} {base g n c : Nat} {vs : List V3} {l : List En} (h : EnW w base (.slice (some ⟨g, 0, none⟩) n c) vs l) (hn : n = l.length) {j : Nat} (hj : j < l.length) (m : Nm) (hm : m.size ≤ 140737488355328) :
    EnW (w.setCell ⟨g, j * 5, none⟩ (.string m)) base (.slice (some ⟨g, 0, none⟩) n c) vs (l.set j { l[j] with name := m }) := by
  subst hn
  have hS := (h.top.stored (j * 5) (.string m)).1
  refine ⟨by rw [ensC_name l vs h.len j hj m, List.length_set]; exact hS, by rw [List.length_set]; exact h.len, fun k hk hk' => ?_, h.dis⟩
  have hk0 : k < l.length := by simpa using hk
  have hO := (h.own k hk0 hk').keep (W' := w.setCell ⟨g, j * 5, none⟩ (.string m)) (base' := base) (Nat.le_refl _) fun q _ hq hqb => Below.heap_setCell _ _ _ _ (fun e => ent_ne h.top (h.own k hk0 hk') hqb (by rw [e]; rfl))
  rw [List.getElem_set]
  split
  · rename_i e; subst e
    exact ⟨hO.s, hO.u, hO.p, hO.ls, hO.lu, hO.lp, hO.nu, hm, hO.n2⟩
  · exact hO
theorem EnW.setUse {w : World} {base : Nat} {u : Value} {vs : List V3} {l : List En} (h : EnW w base u vs l) {j : Nat} (hj : j < l.length) (hj' : j < vs.length) {b n c i : Nat} (hb : vs[j].2.1 = .slice (some ⟨b, 0, none⟩) n c) (hi : i < l[j].uses.length) (m : Nm) (hm : m.size ≤ 140737488355328) :
    EnW (w.setCell ⟨b, i, none⟩ (.string m)) base u vs (l.set j { l[j] with uses := l[j].uses.set i m }) := by
  have hjO := h.own j hj hj'
  have hub : vs[j].2.1.ownBlock = some b := by rw [hb]; rfl
  have hS := hjO.u
  rw [hb] at hS
  have hn : n = l[j].uses.length := by
    obtain ⟨a', c', e⟩ := owns_slice hS; cases e; rfl
  subst hn
  have hS := (hS.stored i (.string m)).1
  have hu : u.ownBlock ≠ some b := owns_ne hjO.u h.top (by decide) hub
  have hother : ∀ q, q ≠ b → (w.setCell ⟨b, i, none⟩ (.string m)).heap[q]? = w.heap[q]? := fun q hq => Below.heap_setCell _ _ _ _ hq
  refine ⟨by rw [ensC_uses l vs j hj, List.length_set]; exact ownsRow_setCell_other h.top hu _, by rw [List.length_set]; exact h.len, fun k hk hk' => ?_, h.dis⟩
  have hk0 : k < l.length := by simpa using hk
  have hkO := h.own k hk0 hk'
  by_cases e : j = k
  · subst e
    rw [List.getElem_set_self]
    refine ⟨?_, ?_, ?_, hkO.ls, by rw [List.length_set]; exact hkO.lu, hkO.lp, fun x hx => ?_, hkO.n1, hkO.n2⟩
    · exact owns_blocks hkO.s fun q _ _ hq => hother q fun e => owns_ne hkO.s hkO.u (by decide) hq (by rw [e]; exact hub)
    · rw [hb, List.length_set]
      rw [List.map_set]
      exact hS
    · exact owns_blocks hkO.p fun q _ _ hq => hother q fun e => owns_ne hkO.p hkO.u (by decide) hq (by rw [e]; exact hub)
    · rcases List.mem_or_eq_of_mem_set hx with h | rfl
      · exact hkO.nu x h
      · exact hm
  · rw [List.getElem_set_ne (by omega)]
    refine hkO.keep (Nat.le_refl _) fun q _ _ hq => hother q fun eq => ?_
    subst eq
    rcases hq with hq | hq | hq
    · exact owns_ne hkO.s hjO.u (by decide) hq hub
    · exact h.dis j k hj' hk' e q hub hq
    · exact owns_ne hkO.p hjO.u (by decide) hq hub
end Go.Proofs.YtlbjbmpkaniojaaGreat
namespace Go.Proofs.YtlbjbmpkaniojaaGreat
open Go Go.RowKit Go.Maps
def cpN (x y : Nm) : Int := if ltN x y then -1 else if ltN y x then 1 else 0
theorem cpN_lt {x y : Nm} : cpN x y < 0 ↔ ltN x y := by
  unfold cpN
  by_cases h : ltN x y
  · simp [h]
  · by_cases k : ltN y x <;> simp [h, k]
theorem bgtr (x y : Nm) : (Op.bytesLess x.toList y.toList || x.toList == y.toList) = !decide (ltN y x) := by
  rw [bless, bytes_eq]
  rcases ltN.tri x y with k | k | k
  · simp [k, k.asym]
  · subst k; simp [ltN.irr]
  · have hne : x ≠ y := fun e => by subst e; exact ltN.irr _ k
    simp [k, k.asym, hne]
/-- the cells of pairs of names. -/
def pC (L : List N2) : List Value := L.flatMap fun p => [.string p.1, .string p.2]
instance : Inhabited N2 := ⟨(ByteArray.empty, ByteArray.empty)⟩
theorem own_sortK {w : World} {base g n c k : Nat} {E : TypeId} {xs : List Value} (h : w.ownsRow base E k (.slice (some ⟨g, 0, none⟩) n c) n xs) (m : Nat) (d : Array Value) (hd : d.size = n * k) (os : Array Obj) :
    (Go.Proofs.sortWorld id w g 0 m d os).ownsRow base E k (.slice (some ⟨g, 0, none⟩) n c) n d.toList := by
  obtain ⟨h1, h2⟩ := h
  refine ⟨by simp [hd], ?_⟩
  rcases h2 with ⟨h2, -⟩ | ⟨g', cap, cur, r1, r2, r3, r4, r5, r6, r7⟩
  · cases h2
  · cases r1
    have hnk : n * k ≤ cur.size := by rw [r6]; exact Nat.mul_le_mul_right _ r4
    refine .inr ⟨g, c, Go.Sort.putCells id 0 d cur, rfl, r2, ?_, r4, r5, ?_, ?_⟩
    · unfold sortWorld Go.Sort.grow
      simp only
      have hlt := (Array.getElem?_eq_some_iff.1 r3).1
      rw [Array.getElem?_append_left (by rw [size_putRow]; exact hlt)]
      unfold Go.Sort.putRow Go.Sort.mapBlock
      simp only [Array.getElem?_modify]
      rw [if_pos trivial]
      show Option.map _ (w.heap[g]?) = _
      rw [r3]
      rfl
    · unfold Go.Sort.putCells; simpa using r6
    · apply List.ext_getElem?
      intro i
      rw [List.getElem?_take]
      by_cases hi : i < n * k
      · rw [if_pos (by omega)]
        unfold Go.Sort.putCells
        rw [Array.getElem?_toList, Array.getElem?_mapIdx, Array.getElem?_eq_getElem (show i < cur.size by omega), Array.getElem?_toList, Array.getElem?_eq_getElem (show i < d.size by omega)]
        simp only [Option.map_some]
        rw [if_pos ⟨Nat.zero_le _, by omega⟩, getElem!_pos d (i - 0) (by omega)]
        rfl
      · rw [if_neg (by omega), Array.getElem?_toList, Array.getElem?_eq_none (by omega)]
end Go.Proofs.YtlbjbmpkaniojaaGreat
namespace Go.Proofs.YtlbjbmpkaniojaaGreat
open Go Go.RowKit Go.Maps
set_option maxHeartbeats 2000000 in
set_option maxRecDepth 100000 in
theorem blame_copied (vS vU vP : Value) (x : En) (w : World) (he : EntAt w vS vU vP x) (h0 : 0 < x.says.length) (ls : x.says.length ≤ 1000) (lu : x.uses.length ≤ 1000) (lp : x.proof.length ≤ 1000) :
    Calls Tryz.prog 79 #[.agg #[.string x.name, .string x.who, vS, vU, vP]] w fun e w' => ∃ v, e = .returned v ∧ EnO w' w.heap.size v x ∧ Below w.heap.size w w' := by
  obtain ⟨sa, sc, rfl, -⟩ := he.s.open
  obtain ⟨ua, uc, rfl, -⟩ := he.u.open
  obtain ⟨pa, pc, rfl, -⟩ := he.p.open
  have hC5 := C5.new w (.string x.name) (.string x.who) (.slice sa x.says.length sc) (.slice ua x.uses.length uc) (.slice pa x.proof.length pc) 41
  have hbV : Below w.heap.size w (w.alloc (.cells #[.string x.name, .string x.who, .slice sa x.says.length sc, .slice ua x.uses.length uc, .slice pa x.proof.length pc] 41)) := (Below.refl _ _).alloc (Nat.le_refl _) _
  obtain ⟨V, hV⟩ : ∃ V, w.alloc (.cells #[.string x.name, .string x.who, .slice sa x.says.length sc, .slice ua x.uses.length uc, .slice pa x.proof.length pc] 41) = V := ⟨_, rfl⟩
  have hVz : V.heap.size = w.heap.size + 1 := by rw [← hV]; simp
  rw [hV] at hC5 hbV
  have hR5 := C5.new V (.string ⟨#[]⟩) (.string ⟨#[]⟩) (.slice none 0 0) (.slice none 0 0) (.slice none 0 0) 41
  have hbX : Below V.heap.size V (V.alloc (.cells #[.string ⟨#[]⟩, .string ⟨#[]⟩, .slice none 0 0, .slice none 0 0, .slice none 0 0] 41)) := (Below.refl _ _).alloc (Nat.le_refl _) _
  obtain ⟨X, hX⟩ : ∃ X, V.alloc (.cells #[.string ⟨#[]⟩, .string ⟨#[]⟩, .slice none 0 0, .slice none 0 0, .slice none 0 0] 41) = X := ⟨_, rfl⟩
  have hXz : X.heap.size = w.heap.size + 1 + 1 := by rw [← hX, World.size_alloc, hVz]
  rw [hX] at hR5 hbX
  rw [hVz] at hR5
  have C1 := hC5.below hbX
  have C2 := hR5
  have hb := hbV.trans (hbX.mono hbV.size)
  have HE := hid (he.below hb)
  have hXe : (w.alloc (.cells #[.string x.name, .string x.who, .slice sa x.says.length sc, .slice ua x.uses.length uc, .slice pa x.proof.length pc] 41)).alloc (.cells #[.string ⟨#[]⟩, .string ⟨#[]⟩, .slice none 0 0, .slice none 0 0, .slice none 0 0] 41) = X := by rw [hV, hX]
  have HXE := hid hXe
  have HB := hid hb
  have HXZ := hid hXz
  have HC1 := hid C1
  have HC2 := hid C2
  have HN := hid he.n1
  have HN2 := hid he.n2
  have HNU := hid he.u.2
  have HSC := hid (fun (W : World) (hW : Below X.heap.size X W) => sl_CloneT _ _ W (HE.out.s.below hW) h0 ls)
  have HUC := hid (fun (W : World) (hW : Below X.heap.size X W) => sl_Clone_strs _ _ _ W (HE.out.u.1.below hW) (strs_one x.uses) lu)
  have HPC := hid (fun (W : World) (hW : Below X.heap.size X W) => sl_Clone_steps _ _ _ W (HE.out.p.below hW) (stC_one x.proof) lp)
  clear hC5 hbV hV hVz hbX hX hXz hR5 hb he hXe C1 C2
  go_enter Tryz.func79, Tryz.ntmps79
  go_wp2_with fail
  rw [HXE.out]
  have hbZ : Below X.heap.size X X := Below.refl _ _
  obtain ⟨-, -, c2, c3, c4, -, -, -, -, -⟩ := HC1.out
  refine anyK.beginS (S := fun w' => w'.cell? ⟨w.heap.size, 2, none⟩ = some (.slice sa x.says.length sc) ∧ w'.cell? ⟨w.heap.size, 3, none⟩ = some (.slice ua x.uses.length uc) ∧ w'.cell? ⟨w.heap.size, 4, none⟩ = some (.slice pa x.proof.length pc)) (k := 10) (by kernel_rfl) ?_ (fun hHeld => ?_)
  · exact ⟨c2, c3, c4⟩
  refine anyK.take (i := 0) (oi := { dst := some 3, op := Op.fieldAddr 41 (Operand.tmp 1) 2, type := 0, pos := _, after := _, guard := none }) (v := ?_) rfl (by kernel_rfl) (by kernel_rfl) (by kernel_rfl) (by kernel_rfl) (by kernel_rfl) (by decide) (fun _ _ _ h => h) (Or.inl ⟨by rfl, ?_⟩) hHeld ?_
  rotate_left
  · (intro w hSw; (try dsimp only at hSw); go_simp; (try with_reducible rfl))
  (try simp only [Act.put, List.setIfInBounds_toArray, List.set_cons_zero, List.set_cons_succ])
  refine anyK.take (i := 1) (oi := { dst := some 4, op := Op.load 37 (Operand.tmp 3), type := 37, pos := _, after := _, guard := none }) (v := ?_) rfl (by kernel_rfl) (by kernel_rfl) (by kernel_rfl) (by kernel_rfl) (by kernel_rfl) (by decide) (fun _ _ _ h => h) (Or.inl ⟨by rfl, ?_⟩) hHeld ?_
  rotate_left
  · (intro w hSw; (try dsimp only at hSw); go_simp; (try with_reducible rfl))
  (try simp only [Act.put, List.setIfInBounds_toArray, List.set_cons_zero, List.set_cons_succ])
  refine anyK.take (i := 3) (oi := { dst := some 6, op := Op.fieldAddr 41 (Operand.tmp 1) 3, type := 0, pos := _, after := _, guard := none }) (v := ?_) rfl (by kernel_rfl) (by kernel_rfl) (by kernel_rfl) (by kernel_rfl) (by kernel_rfl) (by decide) (fun _ _ _ h => h) (Or.inl ⟨by rfl, ?_⟩) hHeld ?_
  rotate_left
  · (intro w hSw; (try dsimp only at hSw); go_simp; (try with_reducible rfl))
  (try simp only [Act.put, List.setIfInBounds_toArray, List.set_cons_zero, List.set_cons_succ])
  refine anyK.take (i := 4) (oi := { dst := some 7, op := Op.load 38 (Operand.tmp 6), type := 38, pos := _, after := _, guard := none }) (v := ?_) rfl (by kernel_rfl) (by kernel_rfl) (by kernel_rfl) (by kernel_rfl) (by kernel_rfl) (by decide) (fun _ _ _ h => h) (Or.inl ⟨by rfl, ?_⟩) hHeld ?_
  rotate_left
  · (intro w hSw; (try dsimp only at hSw); go_simp; (try with_reducible rfl))
  (try simp only [Act.put, List.setIfInBounds_toArray, List.set_cons_zero, List.set_cons_succ])
  refine anyK.take (i := 6) (oi := { dst := some 9, op := Op.fieldAddr 41 (Operand.tmp 1) 4, type := 0, pos := _, after := _, guard := none }) (v := ?_) rfl (by kernel_rfl) (by kernel_rfl) (by kernel_rfl) (by kernel_rfl) (by kernel_rfl) (by decide) (fun _ _ _ h => h) (Or.inl ⟨by rfl, ?_⟩) hHeld ?_
  rotate_left
  · (intro w hSw; (try dsimp only at hSw); go_simp; (try with_reducible rfl))
  (try simp only [Act.put, List.setIfInBounds_toArray, List.set_cons_zero, List.set_cons_succ])
  refine anyK.take (i := 7) (oi := { dst := some 10, op := Op.load 39 (Operand.tmp 9), type := 39, pos := _, after := _, guard := none }) (v := ?_) rfl (by kernel_rfl) (by kernel_rfl) (by kernel_rfl) (by kernel_rfl) (by kernel_rfl) (by decide) (fun _ _ _ h => h) (Or.inl ⟨by rfl, ?_⟩) hHeld ?_
  rotate_left
  · (intro w hSw; (try dsimp only at hSw); go_simp; (try with_reducible rfl))
  (try simp only [Act.put, List.setIfInBounds_toArray, List.set_cons_zero, List.set_cons_succ])
  refine anyK.one (i := 2) (o := { dst := some 5, op := Op.call { callee := Callee.value (Operand.func 130), args := #[Operand.tmp 4], argTypes := #[37] }, type := 37, pos := _, after := _, guard := none }) (by kernel_rfl) rfl (fun K hK => ?_)
  (try go_simp)
  (go_at_call 130; refine (HSC.out _ (by first | exact hbZ | exact hbZ.drew | exact below_drewN hbZ _)).mono ?_; rintro e wz ⟨u1, rfl, o1, hb1⟩; have o1 := owns_base (b' := X.heap.size) o1 (by first | exact hbZ.size | (simp; done) | exact Nat.le_refl _); obtain ⟨a1, k1, rfl⟩ := owns_slice o1; have hbZ := Below.trans (show Below X.heap.size X _ from (by first | exact hbZ | exact hbZ.drew | exact below_drewN hbZ _)) (hb1.mono (by first | exact hbZ.size | (simp; exact hbZ.size))); obtain ⟨_, _, c2, c3, c4, _, _, z2, z3, z4⟩ := HC1.out.below hbZ)
  refine hK.out _ _ (fun _ => ?_) ?_
  · exact ⟨c2, c3, c4⟩
  clear hHeld
  have hHeld := (by exact ⟨c2, c3, c4⟩ : (fun w' => w'.cell? ⟨w.heap.size, 2, none⟩ = some (.slice sa x.says.length sc) ∧ w'.cell? ⟨w.heap.size, 3, none⟩ = some (.slice ua x.uses.length uc) ∧ w'.cell? ⟨w.heap.size, 4, none⟩ = some (.slice pa x.proof.length pc)) wz)
  clear hK K
  (try simp only [Act.put, List.setIfInBounds_toArray, List.set_cons_zero, List.set_cons_succ])
  refine anyK.take (i := 9) (oi := { dst := some 12, op := Op.fieldAddr 41 (Operand.tmp 1) 2, type := 0, pos := _, after := _, guard := none }) (v := ?_) rfl (by kernel_rfl) (by kernel_rfl) (by kernel_rfl) (by kernel_rfl) (by kernel_rfl) (by decide) (fun _ _ _ h => h) (Or.inl ⟨by rfl, ?_⟩) hHeld ?_
  rotate_left
  · (intro w hSw; (try dsimp only at hSw); go_simp; (try with_reducible rfl))
  (try simp only [Act.put, List.setIfInBounds_toArray, List.set_cons_zero, List.set_cons_succ])
  refine anyK.one (i := 5) (o := { dst := some 8, op := Op.call { callee := Callee.value (Operand.func 131), args := #[Operand.tmp 7], argTypes := #[38] }, type := 38, pos := _, after := _, guard := none }) (by kernel_rfl) rfl (fun K hK => ?_)
  (try go_simp)
  (go_at_call 131; refine (HUC.out _ (by first | exact hbZ | exact hbZ.drew | exact below_drewN hbZ _)).mono ?_; rintro e wz ⟨u2, rfl, o2, hb1⟩; have o2 := owns_base (b' := X.heap.size) o2 (by first | exact hbZ.size | (simp; done) | exact Nat.le_refl _); obtain ⟨a2, k2, rfl⟩ := owns_slice o2; have o1 := owns_below o1 hb1; have hbZ := Below.trans (show Below X.heap.size X _ from (by first | exact hbZ | exact hbZ.drew | exact below_drewN hbZ _)) (hb1.mono (by first | exact hbZ.size | (simp; exact hbZ.size))); obtain ⟨_, _, c2, c3, c4, _, _, z2, z3, z4⟩ := HC1.out.below hbZ)
  refine hK.out _ _ (fun _ => ?_) ?_
  · exact ⟨c2, c3, c4⟩
  clear hHeld
  have hHeld := (by exact ⟨c2, c3, c4⟩ : (fun w' => w'.cell? ⟨w.heap.size, 2, none⟩ = some (.slice sa x.says.length sc) ∧ w'.cell? ⟨w.heap.size, 3, none⟩ = some (.slice ua x.uses.length uc) ∧ w'.cell? ⟨w.heap.size, 4, none⟩ = some (.slice pa x.proof.length pc)) wz)
  clear hK K
  (try simp only [Act.put, List.setIfInBounds_toArray, List.set_cons_zero, List.set_cons_succ])
  refine anyK.one (i := 8) (o := { dst := some 11, op := Op.call { callee := Callee.value (Operand.func 132), args := #[Operand.tmp 10], argTypes := #[39] }, type := 39, pos := _, after := _, guard := none }) (by kernel_rfl) rfl (fun K hK => ?_)
  (try go_simp)
  (go_at_call 132; refine (HPC.out _ (by first | exact hbZ | exact hbZ.drew | exact below_drewN hbZ _)).mono ?_; rintro e wz ⟨u3, rfl, o3, hb1⟩; have o3 := owns_base (b' := X.heap.size) o3 (by first | exact hbZ.size | (simp; done) | exact Nat.le_refl _); obtain ⟨a3, k3, rfl⟩ := owns_slice o3; have o1 := owns_below o1 hb1; have o2 := owns_below o2 hb1; have hbZ := Below.trans (show Below X.heap.size X _ from (by first | exact hbZ | exact hbZ.drew | exact below_drewN hbZ _)) (hb1.mono (by first | exact hbZ.size | (simp; exact hbZ.size))); obtain ⟨_, _, c2, c3, c4, _, _, z2, z3, z4⟩ := HC1.out.below hbZ)
  refine hK.out _ _ (fun _ => ?_) ?_
  · exact ⟨c2, c3, c4⟩
  clear hHeld
  have hHeld := (by exact ⟨c2, c3, c4⟩ : (fun w' => w'.cell? ⟨w.heap.size, 2, none⟩ = some (.slice sa x.says.length sc) ∧ w'.cell? ⟨w.heap.size, 3, none⟩ = some (.slice ua x.uses.length uc) ∧ w'.cell? ⟨w.heap.size, 4, none⟩ = some (.slice pa x.proof.length pc)) wz)
  clear hK K
  (try simp only [Act.put, List.setIfInBounds_toArray, List.set_cons_zero, List.set_cons_succ])
  refine anyK.one (i := 10) (o := { dst := none, op := Op.store 37 (Operand.tmp 12) (Operand.tmp 5), type := 0, pos := _, after := _, guard := none }) (by kernel_rfl) rfl (fun K hK => ?_)
  (try go_simp)
  refine hK.out _ _ (fun h => absurd h (by decide)) ?_
  clear hK K
  (try simp only [Act.put, List.setIfInBounds_toArray, List.set_cons_zero, List.set_cons_succ])
  refine anyK.one (i := 11) (o := { dst := some 13, op := Op.fieldAddr 41 (Operand.tmp 1) 3, type := 0, pos := _, after := _, guard := none }) (by kernel_rfl) rfl (fun K hK => ?_)
  (try go_simp)
  refine hK.out _ _ (fun h => absurd h (by decide)) ?_
  clear hK K
  (try simp only [Act.put, List.setIfInBounds_toArray, List.set_cons_zero, List.set_cons_succ])
  refine anyK.one (i := 12) (o := { dst := none, op := Op.store 38 (Operand.tmp 13) (Operand.tmp 8), type := 0, pos := _, after := _, guard := none }) (by kernel_rfl) rfl (fun K hK => ?_)
  (try go_simp)
  refine hK.out _ _ (fun h => absurd h (by decide)) ?_
  clear hK K
  (try simp only [Act.put, List.setIfInBounds_toArray, List.set_cons_zero, List.set_cons_succ])
  refine anyK.one (i := 13) (o := { dst := some 14, op := Op.fieldAddr 41 (Operand.tmp 1) 4, type := 0, pos := _, after := _, guard := none }) (by kernel_rfl) rfl (fun K hK => ?_)
  (try go_simp)
  refine hK.out _ _ (fun h => absurd h (by decide)) ?_
  clear hK K
  (try simp only [Act.put, List.setIfInBounds_toArray, List.set_cons_zero, List.set_cons_succ])
  refine anyK.one (i := 14) (o := { dst := none, op := Op.store 39 (Operand.tmp 14) (Operand.tmp 11), type := 0, pos := _, after := _, guard := none }) (by kernel_rfl) rfl (fun K hK => ?_)
  (try go_simp)
  refine hK.out _ _ (fun h => absurd h (by decide)) ?_
  clear hK K
  (try simp only [Act.put, List.setIfInBounds_toArray, List.set_cons_zero, List.set_cons_succ])
  refine anyK.done (by kernel_rfl) ?_ _
  have hXw := HXZ.out
  have hzz := hbZ.size
  have C1z := HC1.out.below hbZ
  have C2z := HC2.out.below hbZ
  have D1 := hid (C1z.set3 (.slice a1 x.says.length k1) (.slice a2 x.uses.length k2) (.slice a3 x.proof.length k3))
  obtain ⟨W3, hW3⟩ : ∃ W3, ((wz.setCell ⟨w.heap.size, 2, none⟩ (.slice a1 x.says.length k1)).setCell ⟨w.heap.size, 3, none⟩ (.slice a2 x.uses.length k2)).setCell ⟨w.heap.size, 4, none⟩ (.slice a3 x.proof.length k3) = W3 := ⟨_, rfl⟩
  have hg3 : ∀ k, k ≠ w.heap.size → W3.heap[k]? = wz.heap[k]? := fun k hk => by
    rw [← hW3, Below.heap_setCell _ _ _ _ hk, Below.heap_setCell _ _ _ _ hk, Below.heap_setCell _ _ _ _ hk]
  have hb3 : Below w.heap.size w W3 := hW3 ▸ ((((HB.out.trans (hbZ.mono HB.out.size)).setCell (p := ⟨w.heap.size, 2, none⟩) (Nat.le_refl _) _).setCell (p := ⟨w.heap.size, 3, none⟩) (Nat.le_refl _) _).setCell (p := ⟨w.heap.size, 4, none⟩) (Nat.le_refl _) _)
  have D2 := hid (C2z.block (hg3 (w.heap.size + 1) (by omega)))
  rw [hW3] at D1 ⊢
  obtain ⟨c0, c1, c2, c3, c4, z0, z1, z2, z3, z4⟩ := D1.out
  obtain ⟨d0, d1, d2, d3, d4, y0, y1, y2, y3, y4⟩ := D2.out
  have HG3 := hid hg3
  have HB3 := hid hb3
  clear hg3 hb3 hW3 C1z C2z hHeld
  go_wp2
  (try simp only [Exit.inBlock, Exit.then])
  clear c0 c1 c2 c3 c4 z0 z1 z2 z3 z4 d0 d1 d2 d3 d4 y0 y1 y2 y3 y4
  obtain ⟨c0, c1, c2, c3, c4, -, -, -, -, -⟩ := D2.out.store (.string x.name) (.string x.who) (.slice a1 x.says.length k1) (.slice a2 x.uses.length k2) (.slice a3 x.proof.length k3)
  have hall : ∀ q, X.heap.size ≤ q → (set5 W3 (w.heap.size + 1) (.string x.name) (.string x.who) (.slice a1 x.says.length k1) (.slice a2 x.uses.length k2) (.slice a3 x.proof.length k3)).heap[q]? = wz.heap[q]? := fun q hq => by rw [heap_set5 _ _ _ _ _ _ _ (by omega), HG3.out q (by omega)]
  have hO : EntO wz X.heap.size (.slice a1 x.says.length k1) (.slice a2 x.uses.length k2) (.slice a3 x.proof.length k3) x := ⟨o1, o2, o3, ls, lu, lp, HNU.out, HN.out, HN2.out⟩
  have hF := hO.blocks (base' := w.heap.size) (by omega) fun q hq _ => hall q hq
  refine bodyPost_ret (v := .agg #[.string x.name, .string x.who, .slice a1 x.says.length k1, .slice a2 x.uses.length k2, .slice a3 x.proof.length k3]) ?_ rfl ⟨_, rfl, ⟨_, _, _, rfl, hF⟩, set5_below HB3.out (by omega) _ _ _ _ _⟩
  unfold set5 at c0 c1 c2 c3 c4
  clear hall hO hF
  simp only [results, Tryz.results79]
  go_simp
set_option maxHeartbeats 2000000 in
set_option maxRecDepth 100000 in
theorem ref9_copied (vS vU vP : Value) (x : En) (w : World) (he : EntAt w vS vU vP x) (ls : x.says.length ≤ 1000) (lu : x.uses.length ≤ 1000) (lp : x.proof.length ≤ 1000) :
    Calls Tryz.prog 82 #[.agg #[.string x.name, .string x.who, vS, vU, vP]] w fun e w' => ∃ v, e = .returned v ∧ EnO w' w.heap.size v x ∧ Below w.heap.size w w' := by
  obtain ⟨sa, sc, rfl, -⟩ := he.s.open
  obtain ⟨ua, uc, rfl, -⟩ := he.u.open
  obtain ⟨pa, pc, rfl, -⟩ := he.p.open
  have hC5 := C5.new w (.string x.name) (.string x.who) (.slice sa x.says.length sc) (.slice ua x.uses.length uc) (.slice pa x.proof.length pc) 41
  have hbV : Below w.heap.size w (w.alloc (.cells #[.string x.name, .string x.who, .slice sa x.says.length sc, .slice ua x.uses.length uc, .slice pa x.proof.length pc] 41)) := (Below.refl _ _).alloc (Nat.le_refl _) _
  obtain ⟨V, hV⟩ : ∃ V, w.alloc (.cells #[.string x.name, .string x.who, .slice sa x.says.length sc, .slice ua x.uses.length uc, .slice pa x.proof.length pc] 41) = V := ⟨_, rfl⟩
  have hVz : V.heap.size = w.heap.size + 1 := by rw [← hV]; simp
  rw [hV] at hC5 hbV
  have hR5 := C5.new V (.string ⟨#[]⟩) (.string ⟨#[]⟩) (.slice none 0 0) (.slice none 0 0) (.slice none 0 0) 41
  have hbX : Below V.heap.size V (V.alloc (.cells #[.string ⟨#[]⟩, .string ⟨#[]⟩, .slice none 0 0, .slice none 0 0, .slice none 0 0] 41)) := (Below.refl _ _).alloc (Nat.le_refl _) _
  obtain ⟨X, hX⟩ : ∃ X, V.alloc (.cells #[.string ⟨#[]⟩, .string ⟨#[]⟩, .slice none 0 0, .slice none 0 0, .slice none 0 0] 41) = X := ⟨_, rfl⟩
  have hXz : X.heap.size = w.heap.size + 2 := by rw [← hX, World.size_alloc, hVz]
  rw [hX] at hR5 hbX
  rw [hVz] at hR5
  have C1 := hC5.below hbX
  have hb := hbV.trans (hbX.mono hbV.size)
  have hXe : (w.alloc (.cells #[.string x.name, .string x.who, .slice sa x.says.length sc, .slice ua x.uses.length uc, .slice pa x.proof.length pc] 41)).alloc (.cells #[.string ⟨#[]⟩, .string ⟨#[]⟩, .slice none 0 0, .slice none 0 0, .slice none 0 0] 41) = X := by rw [hV, hX]
  -- the first copy
  have hb1a : Below w.heap.size w (X.alloc (.cells #[] 3)) := hb.alloc (by omega) _
  have hO1 := lit_own (w := X) (base := X.heap.size) (e := 3) 1 (Nat.le_refl _)
  have hR1 : RowK (X.alloc (.cells #[] 3)) _ 1 _ _ := he.s.below hb1a
  have hCa := C1.below (show Below X.heap.size X (X.alloc (.cells #[] 3)) from (Below.refl _ _).alloc (Nat.le_refl _) _)
  have hDa := hR5.below (show Below X.heap.size X (X.alloc (.cells #[] 3)) from (Below.refl _ _).alloc (Nat.le_refl _) _)
  have hza : (X.alloc (.cells #[] 3)).heap.size = w.heap.size + 3 := by rw [World.size_alloc, hXz]
  have hXz' : X.heap.size = w.heap.size + 1 + 1 := by omega
  rw [hXz'] at hO1
  have HE := hid he
  have HN := hid he.n1
  have HN2 := hid he.n2
  have HNU := hid he.u.2
  have HXA : Hid (((w.alloc (.cells #[.string x.name, .string x.who, .slice sa x.says.length sc, .slice ua x.uses.length uc, .slice pa x.proof.length pc] 41)).alloc (.cells #[.string ⟨#[]⟩, .string ⟨#[]⟩, .slice none 0 0, .slice none 0 0, .slice none 0 0] 41)).alloc (.cells #[] 3) = X.alloc (.cells #[] 3)) := hid (by rw [hXe])
  obtain ⟨XA, hXA⟩ : ∃ XA, X.alloc (.cells #[] 3) = XA := ⟨_, rfl⟩
  rw [hXA] at HXA hO1 hR1 hCa hDa hza hb1a
  have HO1 := hid hO1
  have HR1 := hid hR1
  have HCA := hid hCa
  have HDA := hid hDa
  have HB1 := hid hb1a
  have HZA := hid hza
  clear hC5 hbV hV hVz hbX hX hR5 hb he hXe hb1a hO1 hR1 hCa hDa hza hXA C1 hXz hXz' X
  go_enter Tryz.func82, Tryz.ntmps82
  go_wp2_with (first
    | (at_builtin; rw [HXA.out]; refine wpList_append_row rfl (.tmp 3) (.tmp 5) 37 rfl (w.heap.size + 1 + 1) 3 el_int Tryz.underlying37 rfl (by decide) _ _ _ rfl HO1.out _ x.says.length (x.says.map (Value.int .i64)) rfl HR1.out (ints_one _) (by omega) (by omega) (by rw [HZA.out]; omega) ?_
       intro v1 w1 own1' grow1 _
       have own1 : w1.ownsRow (w.heap.size + 1 + 1) 3 1 v1 x.says.length (x.says.map (Value.int .i64)) := (by simpa using own1')
       have gb1 := grow1.block
       have gz1 := grow1.size
       have bw1 := HB1.out.grown grow1 (by rw [HZA.out]; omega) (fun q hq => by cases hq; show w.heap.size ≤ w.heap.size + 1 + 1; omega)
       have C1 := HCA.out.block (gb1 w.heap.size (by rw [HZA.out]; omega) (fun e => by have e2 : w.heap.size = w.heap.size + 1 + 1 := Option.some.inj e; omega))
       have D1 := HDA.out.block (gb1 (w.heap.size + 1) (by rw [HZA.out]; omega) (fun e => by have e2 : w.heap.size + 1 = w.heap.size + 1 + 1 := Option.some.inj e; omega))
       obtain ⟨a1, k1, rfl⟩ := owns_slice own1
       have C1s := C1.set_2 (.slice a1 x.says.length k1)
       have D1s := D1.block (w' := w1.setCell ⟨w.heap.size, 2, none⟩ (.slice a1 x.says.length k1)) (Below.heap_setCell _ _ _ _ (by simp))
       have bw1s := bw1.setCell (p := ⟨w.heap.size, 2, none⟩) (Nat.le_refl _) (.slice a1 x.says.length k1)
       have own1s := owns_blocks (W' := w1.setCell ⟨w.heap.size, 2, none⟩ (.slice a1 x.says.length k1)) own1 (fun q h1 _ _ => Below.heap_setCell _ _ _ _ (by simp only; omega))
       have zs1 : (w1.setCell ⟨w.heap.size, 2, none⟩ (.slice a1 x.says.length k1)).heap.size = w1.heap.size := (by simp)
       have z1w : w.heap.size + 3 ≤ w1.heap.size := (by have := HZA.out; omega)
       have hO2 := lit_own (w := w1.setCell ⟨w.heap.size, 2, none⟩ (.slice a1 x.says.length k1)) (base := w1.heap.size) (e := 9) 1 (by rw [zs1]; exact Nat.le_refl _)
       rw [zs1] at hO2
       have bw2a := bw1s.alloc (by rw [zs1]; omega) (.cells #[] 9)
       have hR2 := HE.out.u.1.below bw2a
       have bA2 := (Below.refl (w1.setCell ⟨w.heap.size, 2, none⟩ (.slice a1 x.says.length k1)).heap.size (w1.setCell ⟨w.heap.size, 2, none⟩ (.slice a1 x.says.length k1))).alloc (Nat.le_refl _) (.cells #[] 9)
       have C2a := hid (C1s.below bA2)
       have D2a := hid (D1s.below bA2)
       have own1a := hid (owns_below own1s bA2)
       have O1L := hid (fun q h => (own1.lt q h).2)
       have Z2a := hid (show ((w1.setCell ⟨w.heap.size, 2, none⟩ (.slice a1 x.says.length k1)).alloc (.cells #[] 9)).heap.size = w1.heap.size + 1 from (by rw [World.size_alloc, zs1]))
       have B2a := hid bw2a
       have Z1W := hid z1w
       have lt1 : w.heap.size < w1.heap.size := (by omega)
       have lt1' : w.heap.size + 1 < w1.heap.size := (by omega)
       obtain ⟨c0, c1, c2, c3, c4, z0, z1, z2, z3, z4⟩ := C1
       clear C1s D1s bw1s own1s zs1 z1w bw2a bA2 D1 bw1 gb1 gz1 own1' own1 grow1)
    | (at_builtin; refine wpList_append_row rfl (.tmp 8) (.tmp 10) 38 rfl w1.heap.size 9 el_str Tryz.underlying38 rfl (by decide) _ _ _ rfl hO2 _ x.uses.length (x.uses.map Value.string) rfl hR2 (strs_one _) (by omega) (by omega) (by rw [Z2a.out]; omega) ?_
       intro v2 w2 own2' grow2 _
       have own2 : w2.ownsRow w1.heap.size 9 1 v2 x.uses.length (x.uses.map Value.string) := (by simpa using own2')
       have gb2 : ∀ q, q < w1.heap.size → w2.heap[q]? = _ := fun q hq => grow2.block q (by rw [Z2a.out]; omega) (fun e => by have e2 : q = w1.heap.size := Option.some.inj e; omega)
       have gz2 := grow2.size
       have bw2 := B2a.out.grown grow2 (by rw [Z2a.out]; omega) (fun q hq => by cases hq; show w.heap.size ≤ w1.heap.size; omega)
       have C2 := C2a.out.block (gb2 w.heap.size lt1)
       have D2 := D2a.out.block (gb2 (w.heap.size + 1) lt1')
       have own1b := owns_blocks own1a.out (fun q h1 h2 h3 => gb2 q (O1L.out q h3))
       obtain ⟨a2, k2, rfl⟩ := owns_slice own2
       have C2s := C2.set_3 (.slice a2 x.uses.length k2)
       have D2s := D2.block (w' := w2.setCell ⟨w.heap.size, 3, none⟩ (.slice a2 x.uses.length k2)) (Below.heap_setCell _ _ _ _ (by simp))
       have bw2s := bw2.setCell (p := ⟨w.heap.size, 3, none⟩) (Nat.le_refl _) (.slice a2 x.uses.length k2)
       have own1s := owns_blocks (W' := w2.setCell ⟨w.heap.size, 3, none⟩ (.slice a2 x.uses.length k2)) own1b (fun q h1 _ _ => Below.heap_setCell _ _ _ _ (by simp only; omega))
       have own2s := owns_blocks (W' := w2.setCell ⟨w.heap.size, 3, none⟩ (.slice a2 x.uses.length k2)) own2 (fun q h1 _ _ => Below.heap_setCell _ _ _ _ (by simp only; omega))
       have zs2 : (w2.setCell ⟨w.heap.size, 3, none⟩ (.slice a2 x.uses.length k2)).heap.size = w2.heap.size := (by simp)
       have z2w : w1.heap.size + 1 ≤ w2.heap.size := (by have := Z2a.out; omega)
       have hO3 := lit_own (w := w2.setCell ⟨w.heap.size, 3, none⟩ (.slice a2 x.uses.length k2)) (base := w2.heap.size) (e := 105) 3 (by rw [zs2]; exact Nat.le_refl _)
       rw [zs2] at hO3
       have bw3a := bw2s.alloc (by rw [zs2]; omega) (.cells #[] 105)
       have hR3 : RowK _ _ 3 x.proof.length (stC x.proof) := HE.out.p.below bw3a
       have bA3 := (Below.refl (w2.setCell ⟨w.heap.size, 3, none⟩ (.slice a2 x.uses.length k2)).heap.size (w2.setCell ⟨w.heap.size, 3, none⟩ (.slice a2 x.uses.length k2))).alloc (Nat.le_refl _) (.cells #[] 105)
       have C3a := hid (C2s.below bA3)
       have D3a := hid (D2s.below bA3)
       have own1c := hid (owns_below own1s bA3)
       have own2c := hid (owns_below own2s bA3)
       have O2L := hid (fun q h => (own2.lt q h).2)
       have Z3a := hid (show ((w2.setCell ⟨w.heap.size, 3, none⟩ (.slice a2 x.uses.length k2)).alloc (.cells #[] 105)).heap.size = w2.heap.size + 1 from (by rw [World.size_alloc, zs2]))
       have B3a := hid bw3a
       have Z2W := hid z2w
       have lt2 : w.heap.size < w2.heap.size := (by omega)
       have lt2' : w.heap.size + 1 < w2.heap.size := (by omega)
       clear c0 c1 c2 c3 c4 z0 z1 z2 z3 z4
       obtain ⟨c0, c1, c2, c3, c4, z0, z1, z2, z3, z4⟩ := C2
       clear C2s D2s bw2s own1s own2s zs2 z2w bw3a bA3 D2 bw2 gb2 gz2 own2' own2 grow2 own1b hO2 hR2)
    | (at_builtin; refine wpList_append_row rfl (.tmp 13) (.tmp 15) 39 rfl w2.heap.size 105 el_step Tryz.underlying39 rfl (by decide) _ _ _ rfl hO3 _ x.proof.length (stC x.proof) rfl hR3 (stC_one _) (by omega) (by omega) (by rw [Z3a.out]; omega) ?_
       intro v3 w3 own3' grow3 _
       have own3 : w3.ownsRow w2.heap.size 105 3 v3 x.proof.length (stC x.proof) := (by simpa using own3')
       have gb3 : ∀ q, q < w2.heap.size → w3.heap[q]? = _ := fun q hq => grow3.block q (by rw [Z3a.out]; omega) (fun e => by have e2 : q = w2.heap.size := Option.some.inj e; omega)
       have gz3 := grow3.size
       have bw3 := B3a.out.grown grow3 (by rw [Z3a.out]; omega) (fun q hq => by cases hq; show w.heap.size ≤ w2.heap.size; omega)
       have C3 := C3a.out.block (gb3 w.heap.size lt2)
       have D3 := D3a.out.block (gb3 (w.heap.size + 1) lt2')
       have own1d := owns_blocks own1c.out (fun q h1 h2 h3 => gb3 q (by have := O1L.out q h3; have := Z2W.out; omega))
       have own2d := owns_blocks own2c.out (fun q h1 h2 h3 => gb3 q (O2L.out q h3))
       obtain ⟨a3, k3, rfl⟩ := owns_slice own3
       have hO : EntO w3 (w.heap.size + 2) (.slice a1 x.says.length k1) (.slice a2 x.uses.length k2) (.slice a3 x.proof.length k3) x := ⟨owns_base own1d (by omega), owns_base own2d (by have := Z1W.out; omega), owns_base own3 (by have := Z1W.out; have := Z2W.out; omega), ls, lu, lp, HNU.out, HN.out, HN2.out⟩
       have C3s := C3.set4 (.slice a3 x.proof.length k3)
       have D3s := D3.block (w' := w3.setCell ⟨w.heap.size, 4, none⟩ (.slice a3 x.proof.length k3)) (Below.heap_setCell _ _ _ _ (by simp))
       have bw3s := bw3.setCell (p := ⟨w.heap.size, 4, none⟩) (Nat.le_refl _) (.slice a3 x.proof.length k3)
       have HOO := hid hO
       have HC3 := hid C3s
       have HD3 := hid D3s
       have HB3 := hid bw3s
       clear c0 c1 c2 c3 c4 z0 z1 z2 z3 z4
       obtain ⟨c0, c1, c2, c3, c4, z0, z1, z2, z3, z4⟩ := C3
       obtain ⟨d0, d1, d2, d3, d4, y0, y1, y2, y3, y4⟩ := D3
       clear own1d own2d own3 own3' grow3 gb3 gz3 bw3 C3s D3s bw3s hO hO3 hR3))
  (try simp only [Exit.inBlock, Exit.then])
  clear c0 c1 c2 c3 c4 z0 z1 z2 z3 z4 d0 d1 d2 d3 d4 y0 y1 y2 y3 y4
  obtain ⟨c0, c1, c2, c3, c4, -, -, -, -, -⟩ := HD3.out.store (.string x.name) (.string x.who) (.slice a1 x.says.length k1) (.slice a2 x.uses.length k2) (.slice a3 x.proof.length k3)
  have hall : ∀ q, w.heap.size + 2 ≤ q → (set5 (w3.setCell ⟨w.heap.size, 4, none⟩ (.slice a3 x.proof.length k3)) (w.heap.size + 1) (.string x.name) (.string x.who) (.slice a1 x.says.length k1) (.slice a2 x.uses.length k2) (.slice a3 x.proof.length k3)).heap[q]? = w3.heap[q]? := fun q hq => by rw [heap_set5 _ _ _ _ _ _ _ (by omega)]; exact Below.heap_setCell _ _ _ _ (by simp only; omega)
  have hF := HOO.out.blocks (base' := w.heap.size) (by omega) fun q hq _ => hall q hq
  refine bodyPost_ret (v := .agg #[.string x.name, .string x.who, .slice a1 x.says.length k1, .slice a2 x.uses.length k2, .slice a3 x.proof.length k3]) ?_ rfl ⟨_, rfl, ⟨_, _, _, rfl, hF⟩, set5_below HB3.out (by omega) _ _ _ _ _⟩
  unfold set5 at c0 c1 c2 c3 c4
  clear hall hF
  simp only [results, Tryz.results82]
  go_simp
end Go.Proofs.YtlbjbmpkaniojaaGreat
namespace Go.Proofs.YtlbjbmpkaniojaaGreat
open Go Go.RowKit Go.Maps Go.Shelf
attribute [local go_sem] Oper.semAt_some
end Go.Proofs.YtlbjbmpkaniojaaGreat
namespace Go.Proofs.YtlbjbmpkaniojaaGreat
open Go Go.RowKit Go.Maps Go.Shelf
attribute [local go_sem] Oper.semAt_some
/-- a row of pairs of names. -/
def PrsAt (w : World) (v : Value) (L : List N2) : Prop := RowK w v 2 L.length (pC L)
theorem PrsAt.below {w w' : World} {v : Value} {L : List N2} (h : PrsAt w v L) (hb : Below w.heap.size w w') : PrsAt w' v L := RowK.below h hb
theorem PrsAt.nil (w : World) : PrsAt w (.slice none 0 0) [] := ⟨rfl, none, 0, rfl, Nat.le_refl _, by simp, fun _ => rfl, fun j u hj => by simp [pC] at hj⟩
/-- the box of a value that is handed to the body, behind the loop's record's turn. -/
theorem EB.turned {w w' : World} {b l : Nat} {x : En} {vS vU vP : Value} (h : EB w b x vS vU vP) (hr : RecT l w w') (hne : b ≠ l) : EB w' b x vS vU vP := by
  obtain ⟨o, rfl⟩ := hr
  exact h.block (World.putObj_heap_other (fun e => hne (by omega)))
theorem ble {x y : Nm} (h : ¬ ltN y x) : (Op.bytesLess x.toList y.toList || x.toList == y.toList) = true := by rw [bgtr, decide_eq_false h]; rfl
theorem ble' {x y : Nm} (h : ltN y x) : (Op.bytesLess x.toList y.toList || x.toList == y.toList) = false := by rw [bgtr, decide_eq_true h]; rfl
end Go.Proofs.YtlbjbmpkaniojaaGreat
namespace Go.Proofs.YtlbjbmpkaniojaaGreat
open Go Go.RowKit Go.Maps
end Go.Proofs.YtlbjbmpkaniojaaGreat
