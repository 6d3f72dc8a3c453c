/-
  WHAT IT HOLDS: the contract of Added of package carry. Conditions: the arguments read as data; small signs, small libraries.
  WHAT IT HOLDS: plain words on editions: ascending libraries, changes, what a change makes of an edition, and that it is undone. No program in sight.
  WHAT IT HOLDS: how an edition lies whose entries are copies of the call's own: written, put out, set. No program's walk in sight.
  WHAT IT HOLDS: contracts of cmp.Compare at strings, of the comparison of Equivalences of package carry, and of slices.SortFunc at pairs of names of the call's own. Conditions: the arguments read as data.
  WHAT IT HOLDS: contracts of copies, find and used of package blame. Conditions: the arguments read as data; small libraries.
  WHAT IT HOLDS: how changes lie: a change, lists of changes, and parts of them. No program's walk in sight.
  WHAT IT HOLDS: contract of the iterator that pairs of package carry hands back, and of pairs. Conditions: the arguments read as data.
  WHAT IT HOLDS: contract of Equivalences of package carry. Conditions: the arguments read as data; small signs, small libraries.
  WHAT IT HOLDS: contract of the iterator slices.Backward at changes: it hands over the places and the changes, the last first. Conditions: the slice reads as changes.
  WHAT IT HOLDS: contracts of Added of the reference of layer 8, of SameTerms of the reference of layer 7 and SameLibrary of that of layer 6 at lists that are the same. Conditions: the arguments read as data; small signs, small libraries.
-/
import Derived.Deep.RegionHeld3
import Derived.Laws.Cover1
import Derived.Shelf.SlSortCmp.NoneTotal
import Derived.BigQuiet
import Derived.Test.YtlbjbmpkaniojaaGreatZRBlameDiffers27
import Derived.Test.YtlbjbmpkaniojaaGreatZRBlameDiffers24
import Derived.Test.YtlbjbmpkaniojaaGreatZRBlameDiffers18
import Derived.Test.YtlbjbmpkaniojaaGreatZRBlameDiffers4
import Derived.Test.YtlbjbmpkaniojaaGreatZRBlameDiffers29
import Derived.Test.YtlbjbmpkaniojaaGreatZRBlameDiffers13
import Derived.Test.YtlbjbmpkaniojaaGreatZRBlameDiffers16
import Derived.Test.YtlbjbmpkaniojaaGreatZRBlameDiffers22
import Derived.Test.YtlbjbmpkaniojaaGreatZRBlameDiffers28
import Derived.Test.YtlbjbmpkaniojaaGreatZRBlameDiffers32
import Derived.Test.YtlbjbmpkaniojaaGreatZRBlameDiffers31
import Derived.Test.YtlbjbmpkaniojaaGreatZRBlameDiffers15
import Derived.Test.YtlbjbmpkaniojaaGreatZRBlameDiffers25
namespace Go.Proofs.YtlbjbmpkaniojaaGreat
open Go Go.RowKit Go.Maps
theorem EB.block {w w' : World} {b : Nat} {x : En} {vS vU vP : Value} (h : EB w b x vS vU vP) (hb : w'.heap[b]? = w.heap[b]?) : EB w' b x vS vU vP :=
  ⟨(World.cell?_of_block hb).trans h.c0, (World.cell?_of_block hb).trans h.c1, (World.cell?_of_block hb).trans h.c2, (World.cell?_of_block hb).trans h.c3, (World.cell?_of_block hb).trans h.c4⟩
theorem ent_sm {s : Sg} {x : En} (h : entryB s x = true) : EnSm x := by
  have h1 := entryB_iff.1 h
  have h2 := h1.len
  have h3 := (termB_T h1.says).ne
  have h4 := (termB_facts h1.says).2.2.2
  refine ⟨h3, by omega, by omega, ?_⟩
  by_cases h0 : x.proof.length = 0
  · omega
  · have := proof60 (h1.proof h0); omega
end Go.Proofs.YtlbjbmpkaniojaaGreat
namespace Go.Proofs.YtlbjbmpkaniojaaGreat
open Go Go.RowKit
abbrev em : Nm := ⟨#[]⟩
/-- a library in ascending order of names. -/
def AscE (l : List En) : Prop := l.Pairwise fun a b => ltN a.name b.name
instance (l : List En) : Decidable (AscE l) := inferInstanceAs (Decidable (l.Pairwise fun a b => ltN a.name b.name))
theorem AscE.unique {l m : List En} (h : AscE l) (k : AscE m) (e : ∀ x, x ∈ l ↔ x ∈ m) : l = m :=
  asc_unique (R := fun a b : En => ltN a.name b.name) (fun a => ltN.irr a.name) (fun h k => ltN.trans h k) h k e
theorem AscE.nd {l : List En} (h : AscE l) : (l.map En.name).Nodup := by
  rw [List.Nodup, List.pairwise_map]
  exact h.imp fun h e => by rw [e] at h; exact ltN.irr _ h
theorem AscE.inj {l : List En} (h : AscE l) {x y : En} (hx : x ∈ l) (hy : y ∈ l) (e : x.name = y.name) : x = y := by
  obtain ⟨i, hi, rfl⟩ := List.getElem_of_mem hx
  obtain ⟨j, hj, rfl⟩ := List.getElem_of_mem hy
  have h1 := idxN_nd h.nd hi
  have h2 := idxN_nd h.nd hj
  rw [e, h2] at h1
  cases h1
  rfl
theorem idxN_has (l : List En) (n : Nm) : (idxN l n).isSome = hasN (l.map En.name) n := by
  unfold idxN hasN
  rw [List.findIdx?_isSome]
theorem hasE_iff {l : List En} {n : Nm} : hasN (l.map En.name) n = true ↔ ∃ x ∈ l, x.name = n := by
  rw [hasN_iff, List.mem_map]
theorem hasE_no {l : List En} {n : Nm} : hasN (l.map En.name) n = false ↔ ∀ x ∈ l, x.name ≠ n := by
  rw [Bool.eq_false_iff, ne_eq, hasE_iff]
  constructor
  · intro h x hx e; exact h ⟨x, hx, e⟩
  · rintro h ⟨x, hx, e⟩; exact h x hx e
/-- an ascending list with an entry more in its place. -/
def putE (x : En) : List En → List En
  | [] => [x]
  | y :: l => if ltN x.name y.name then x :: y :: l else y :: putE x l
theorem putE_mem {x z : En} : ∀ {l : List En}, z ∈ putE x l ↔ z = x ∨ z ∈ l
  | [] => by simp [putE]
  | y :: l => by
    unfold putE
    split
    · simp
    · rw [List.mem_cons, putE_mem, List.mem_cons]; constructor <;> (intro h; rcases h with h | h | h <;> simp [h])
theorem putE_len {x : En} : ∀ {l : List En}, (putE x l).length = l.length + 1
  | [] => rfl
  | y :: l => by
    unfold putE
    split
    · rfl
    · simp [putE_len]
theorem putE_asc {x : En} : ∀ {l : List En}, AscE l → (∀ y ∈ l, y.name ≠ x.name) → AscE (putE x l)
  | [], _, _ => by simp [putE, AscE]
  | y :: l, h, hn => by
    obtain ⟨h1, h2⟩ := List.pairwise_cons.1 h
    unfold putE
    split
    · rename_i hy
      exact List.pairwise_cons.2 ⟨fun z hz => by
        rcases List.mem_cons.1 hz with rfl | hz
        · exact hy
        · exact hy.trans (h1 z hz), h⟩
    · rename_i hy
      have hyx : ltN y.name x.name := by
        rcases ltN.tri y.name x.name with k | k | k
        · exact k
        · exact (hn y (by simp) k).elim
        · exact (hy k).elim
      refine List.pairwise_cons.2 ⟨fun z hz => ?_, putE_asc h2 fun z hz => hn z (by simp [hz])⟩
      rcases putE_mem.1 hz with rfl | hz
      · exact hyx
      · exact h1 z hz
/-- a library in ascending order. -/
def srtE (l : List En) : List En := l.foldl (fun o x => putE x o) []
theorem srtE_snoc (l : List En) (x : En) : srtE (l ++ [x]) = putE x (srtE l) := by simp [srtE]
theorem srtE_mem {z : En} (l : List En) : z ∈ srtE l ↔ z ∈ l := by
  have key : ∀ (l o : List En), z ∈ l.foldl (fun o x => putE x o) o ↔ z ∈ o ∨ z ∈ l := by
    intro l
    induction l with
    | nil => intro o; simp
    | cons x l ih =>
      intro o
      rw [List.foldl_cons, ih, putE_mem, List.mem_cons]
      constructor
      · rintro ((h | h) | h) <;> simp [h]
      · rintro (h | h | h) <;> simp [h]
  rw [srtE, key]; simp
theorem srtE_len (l : List En) : (srtE l).length = l.length := by
  have key : ∀ (l o : List En), (l.foldl (fun o x => putE x o) o).length = o.length + l.length := by
    intro l
    induction l with
    | nil => intro o; simp
    | cons x l ih =>
      intro o
      rw [List.foldl_cons, ih, putE_len, List.length_cons]; omega
  rw [srtE, key]; simp
theorem srtE_asc {l : List En} (h : (l.map En.name).Nodup) : AscE (srtE l) := by
  have key : ∀ (l o : List En), AscE o → (l.map En.name).Nodup → (∀ x ∈ l, ∀ y ∈ o, y.name ≠ x.name) → AscE (l.foldl (fun o x => putE x o) o) := by
    intro l
    induction l with
    | nil => intro o h _ _; exact h
    | cons x l ih =>
      intro o h hn hd
      rw [List.foldl_cons]
      rw [List.map_cons, List.nodup_cons] at hn
      refine ih _ (putE_asc h (hd x (by simp))) hn.2 fun z hz y hy => ?_
      rcases putE_mem.1 hy with rfl | hy
      · intro e; exact hn.1 (List.mem_map.2 ⟨z, hz, e.symm⟩)
      · exact hd z (by simp [hz]) y hy
  exact key l [] (by simp [AscE]) h (by simp)
/-- what is sorted and has no name twice is the ascending list. -/
theorem srt_eq {L M pre : List En} (hp : L.Perm pre) (hs : L.Pairwise fun a b => ¬ ltN b.name a.name) (hn : (pre.map En.name).Nodup) (hm : AscE M) (e : ∀ x, x ∈ M ↔ x ∈ pre) : L = M := by
  have hn' : (L.map En.name).Nodup := (hp.map En.name).nodup_iff.2 hn
  rw [List.Nodup, List.pairwise_map] at hn'
  refine AscE.unique ((hs.and hn').imp fun {a b} ⟨h1, h2⟩ => ?_) hm fun x => by rw [hp.mem_iff, e]
  rcases ltN.tri a.name b.name with k | k | k
  · exact k
  · exact absurd k h2
  · exact absurd k h1
/-- a change: its kind, by whom it is, the names, the entry. -/
structure Chg where
  kind : Int
  who : Nm
  name : Nm
  new : Nm
  ent : En
deriving DecidableEq
def edB (s : Sg) (l : List En) : Bool := libB s l && decide (AscE l)
theorem edB_iff {s : Sg} {l : List En} : edB s l = true ↔ LibOK s l ∧ AscE l := by
  unfold edB
  rw [Bool.and_eq_true, libB_iff, decide_eq_true_eq]
def chgB (s : Sg) (c : Chg) : Bool :=
  signB s && (nmB c.who && (if c.kind = 1 ∨ c.kind = 2 then decide (c.name = em) && (decide (c.new = em) && entryB s c.ent)
    else if c.kind = 3 then nmB c.name && (nmB c.new && (decide (c.name ≠ c.new) && decide (c.ent = en0)))
    else if c.kind = 4 then nmB c.name && (decide (c.new = em) && decide (c.ent = en0)) else false))
inductive ChgOK (s : Sg) (c : Chg) : Prop where
  | put (h0 : signB s = true) (h1 : nmB c.who = true) (hk : c.kind = 1 ∨ c.kind = 2) (h2 : c.name = em) (h3 : c.new = em) (h4 : EnOK s c.ent)
  | ren (h0 : signB s = true) (h1 : nmB c.who = true) (hk : c.kind = 3) (h2 : nmB c.name = true) (h3 : nmB c.new = true) (h4 : c.name ≠ c.new) (h5 : c.ent = en0)
  | drop (h0 : signB s = true) (h1 : nmB c.who = true) (hk : c.kind = 4) (h2 : nmB c.name = true) (h3 : c.new = em) (h5 : c.ent = en0)
theorem chgB_iff {s : Sg} {c : Chg} : chgB s c = true ↔ ChgOK s c := by
  unfold chgB
  constructor
  · intro h
    rw [Bool.and_eq_true, Bool.and_eq_true] at h
    obtain ⟨h0, h1, h⟩ := h
    split at h
    · rename_i hk
      simp only [Bool.and_eq_true, decide_eq_true_eq] at h
      exact .put h0 h1 hk h.1 h.2.1 (entryB_iff.1 h.2.2)
    split at h
    · rename_i hk
      simp only [Bool.and_eq_true, decide_eq_true_eq] at h
      exact .ren h0 h1 hk h.1 h.2.1 h.2.2.1 h.2.2.2
    split at h
    · rename_i hk
      simp only [Bool.and_eq_true, decide_eq_true_eq] at h
      exact .drop h0 h1 hk h.1 h.2.1 h.2.2
    · cases h
  · intro h
    cases h with
    | put h0 h1 hk h2 h3 h4 => rw [h0, h1, if_pos hk, h2, h3, entryB_iff.2 h4]; rfl
    | ren h0 h1 hk h2 h3 h4 h5 => rw [h0, h1, if_neg (by omega), if_pos hk, h2, h3, h5]; simp [h4]
    | drop h0 h1 hk h2 h3 h5 => rw [h0, h1, if_neg (by omega), if_neg (by omega), if_pos hk, h2, h3, h5]; simp
/-- whether an entry, but the one with a name, uses a name. -/
def usedB (l : List En) (n but : Nm) : Bool := l.any fun x => decide (x.name ≠ but) && hasN x.uses n
theorem usedB_no {l : List En} {n but : Nm} : usedB l n but = false ↔ ∀ x ∈ l, x.name ≠ but → n ∉ x.uses := by
  unfold usedB
  rw [List.any_eq_false]
  constructor
  · intro h x hx hb hu
    exact h x hx (by rw [Bool.and_eq_true]; exact ⟨by simpa using hb, hasN_iff.2 hu⟩)
  · intro h x hx hc
    rw [Bool.and_eq_true] at hc
    exact h x hx (by simpa using hc.1) (hasN_iff.1 hc.2)
def subE (x y : En) : En := if y.name = x.name then x else y
def renN (n m u : Nm) : Nm := if u = n then m else u
def renE (n m : Nm) (x : En) : En := { x with name := renN n m x.name, uses := x.uses.map (renN n m) }
/-- what a change makes of an edition. -/
def doL (l : List En) (c : Chg) : List En × Int :=
  if c.kind = 1 then
    if hasN (l.map En.name) c.ent.name then ([], 6) else if 60 ≤ l.length then ([], 4) else (putE c.ent l, 0)
  else if c.kind = 2 then
    if hasN (l.map En.name) c.ent.name then if c.ent ∈ l then ([], 8) else (l.map (subE c.ent), 0) else ([], 5)
  else if c.kind = 3 then
    if hasN (l.map En.name) c.name then if hasN (l.map En.name) c.new || usedB l c.new em then ([], 6) else (srtE (l.map (renE c.name c.new)), 0) else ([], 5)
  else
    if hasN (l.map En.name) c.name then if usedB l c.name c.name then ([], 10) else (l.filter (fun x => decide (x.name ≠ c.name)), 0) else ([], 5)
def chg0 : Chg := ⟨0, em, em, em, en0⟩
theorem nd_of_asc {l : List En} (h : AscE l) : l.Nodup := h.imp fun h e => by rw [e] at h; exact ltN.irr _ h
theorem ChgOK.sign {s : Sg} {c : Chg} (h : ChgOK s c) : signB s = true := by cases h <;> assumption
theorem ChgOK.who {s : Sg} {c : Chg} (h : ChgOK s c) : nmB c.who = true := by cases h <;> assumption
theorem renN_inj {n m : Nm} {l : List Nm} (hm : m ∉ l) {u v : Nm} (hu : u ∈ l) (hv : v ∈ l) (e : renN n m u = renN n m v) : u = v := by
  unfold renN at e
  split at e <;> split at e
  · rename_i h1 h2; rw [h1, h2]
  · exact absurd (e ▸ hv) hm
  · exact absurd (e ▸ hu) hm
  · exact e
theorem nd_map_on {α β : Type} {f : α → β} : ∀ {l : List α}, l.Nodup → (∀ x ∈ l, ∀ y ∈ l, f x = f y → x = y) → (l.map f).Nodup
  | [], _, _ => by simp
  | x :: l, h, hf => by
    obtain ⟨h1, h2⟩ := List.nodup_cons.1 h
    rw [List.map_cons, List.nodup_cons]
    refine ⟨fun hx => ?_, nd_map_on h2 fun a ha b hb => hf a (by simp [ha]) b (by simp [hb])⟩
    obtain ⟨y, hy, e⟩ := List.mem_map.1 hx
    exact h1 (hf y (by simp [hy]) x (by simp) e ▸ hy)
theorem ren_names (n m : Nm) (l : List En) : (l.map (renE n m)).map En.name = (l.map En.name).map (renN n m) := by
  rw [List.map_map, List.map_map]; rfl
theorem ren_nd {l : List En} {n m : Nm} (h : (l.map En.name).Nodup) (hm : hasN (l.map En.name) m = false) : ((l.map (renE n m)).map En.name).Nodup := by
  rw [ren_names]
  exact nd_map_on h fun x hx y hy e => renN_inj (hasN_no.1 hm) hx hy e
theorem renE_ok {s : Sg} {x : En} {n m : Nm} (h : EnOK s x) (hm : nmB m = true) (hu : m ∉ x.uses) : EnOK s (renE n m x) where
  name := by unfold renE renN; dsimp only; split; exact hm; exact h.name
  who := h.who
  says := h.says
  can := h.can
  len := by show (x.uses.map _).length ≤ 12; rw [List.length_map]; exact h.len
  nd := nd_map_on h.nd fun a ha b hb e => renN_inj hu ha hb e
  uses := fun u hu => by
    obtain ⟨v, hv, rfl⟩ := List.mem_map.1 hu
    unfold renN; split
    · exact hm
    · exact h.uses v hv
  ax := fun h0 => by show (x.uses.map _).length = 0; rw [List.length_map]; exact h.ax h0
  proof := fun h0 => by show proofB (x.uses.map _).length x.proof = true; rw [List.length_map]; exact h.proof h0
theorem sub_names (x : En) (l : List En) : (l.map (subE x)).map En.name = l.map En.name := by
  rw [List.map_map]
  refine List.map_congr_left fun y _ => ?_
  show (subE x y).name = y.name
  unfold subE
  split
  · rename_i h; exact h.symm
  · rfl
theorem ascE_names {l m : List En} (e : l.map En.name = m.map En.name) (h : AscE l) : AscE m := by
  have h' : (l.map En.name).Pairwise ltN := List.pairwise_map.2 h
  rw [e] at h'
  exact List.pairwise_map.1 h'
theorem usedB_all {s : Sg} {l : List En} (h : LibOK s l) {n : Nm} : usedB l n em = false ↔ ∀ x ∈ l, n ∉ x.uses := by
  rw [usedB_no]
  refine ⟨fun k x hx => k x hx fun e => ?_, fun k x hx _ => k x hx⟩
  have := nmB_len (h.ents x hx).name
  rw [e] at this
  exact absurd this.1 (by decide)
/-- what is made of an edition is an edition. -/
theorem doL_ed {s : Sg} {l l' : List En} {c : Chg} (h : edB s l = true) (hc : chgB s c = true) (hd : doL l c = (l', 0)) : edB s l' = true := by
  obtain ⟨hl, ha⟩ := edB_iff.1 h
  have hc := chgB_iff.1 hc
  rw [edB_iff]
  unfold doL at hd
  split at hd
  · rename_i hk
    have h4 : EnOK s c.ent := by
      cases hc with
      | put h0 h1 hk h2 h3 h4 => exact h4
      | ren h0 h1 hk' => omega
      | drop h0 h1 hk' => omega
    split at hd
    · cases hd
    rename_i hn
    split at hd
    · cases hd
    rename_i h60
    cases hd
    have hn' := hasE_no.1 (by simpa using hn : hasN (l.map En.name) c.ent.name = false)
    refine ⟨⟨hl.sign, by rw [putE_len]; omega, fun x hx => ?_, (putE_asc ha hn').nd⟩, putE_asc ha hn'⟩
    rcases putE_mem.1 hx with rfl | hx
    · exact h4
    · exact hl.ents x hx
  split at hd
  · rename_i hk1 hk
    have h4 : EnOK s c.ent := by
      cases hc with
      | put h0 h1 hk h2 h3 h4 => exact h4
      | ren h0 h1 hk' => omega
      | drop h0 h1 hk' => omega
    split at hd
    · split at hd
      · cases hd
      cases hd
      have ha' := ascE_names (sub_names c.ent l).symm ha
      refine ⟨⟨hl.sign, by rw [List.length_map]; exact hl.len, fun x hx => ?_, ha'.nd⟩, ha'⟩
      obtain ⟨y, hy, rfl⟩ := List.mem_map.1 hx
      unfold subE
      split
      · exact h4
      · exact hl.ents y hy
    · cases hd
  split at hd
  · rename_i hk1 hk2 hk
    have h3 : nmB c.new = true := by
      cases hc with
      | put h0 h1 hk' => omega
      | ren h0 h1 hk' h2 h3 => exact h3
      | drop h0 h1 hk' => omega
    split at hd
    · split at hd
      · cases hd
      rename_i hu
      cases hd
      rw [Bool.or_eq_true, not_or] at hu
      have h1 : hasN (l.map En.name) c.new = false := by simpa using hu.1
      have h2 := (usedB_all hl).1 (by simpa using hu.2 : usedB l c.new em = false)
      have ha' := srtE_asc (ren_nd (n := c.name) hl.nd h1)
      refine ⟨⟨hl.sign, by rw [srtE_len, List.length_map]; exact hl.len, fun x hx => ?_, ha'.nd⟩, ha'⟩
      obtain ⟨y, hy, rfl⟩ := List.mem_map.1 ((srtE_mem _).1 hx)
      exact renE_ok (hl.ents y hy) h3 (h2 y hy)
    · cases hd
  split at hd
  · split at hd
    · cases hd
    cases hd
    have ha' : AscE (l.filter fun x => decide (x.name ≠ c.name)) := List.Pairwise.sublist List.filter_sublist ha
    exact ⟨⟨hl.sign, Nat.le_trans (List.length_filter_le _ _) hl.len, fun x hx => hl.ents x (List.mem_filter.1 hx).1, ha'.nd⟩, ha'⟩
  · cases hd
theorem sub_mem {l : List En} (ha : AscE l) {x : En} (hn : hasN (l.map En.name) x.name = true) {z : En} : z ∈ l.map (subE x) ↔ z = x ∨ (z ∈ l ∧ z.name ≠ x.name) := by
  rw [List.mem_map]
  constructor
  · rintro ⟨y, hy, rfl⟩
    unfold subE
    split
    · exact Or.inl rfl
    · rename_i h; exact Or.inr ⟨hy, h⟩
  · rintro (rfl | ⟨h1, h2⟩)
    · obtain ⟨y, hy, e⟩ := hasE_iff.1 hn
      exact ⟨y, hy, by unfold subE; rw [if_pos e]⟩
    · exact ⟨z, h1, by unfold subE; rw [if_neg h2]⟩
end Go.Proofs.YtlbjbmpkaniojaaGreat
namespace Go.Proofs.YtlbjbmpkaniojaaGreat
open Go Go.RowKit Go.Maps
theorem owns_type {w : World} {base : Nat} {e : TypeId} {k n : Nat} {v : Value} {xs : List Value} {b : Nat} (h : w.ownsRow base e k v n xs) (hb : v.ownBlock = some b) : ∃ cur, w.heap[b]? = some (.cells cur e (0, 0)) := by
  obtain ⟨-, h2⟩ := h
  rcases h2 with ⟨rfl, -⟩ | ⟨g, cap, cur, rfl, -, r3, -⟩
  · cases hb
  · cases hb; exact ⟨cur, r3⟩
theorem owns_ne {w : World} {base base' : Nat} {e e' : TypeId} {k k' n n' : Nat} {v v' : Value} {xs xs' : List Value} {b : Nat} (h : w.ownsRow base e k v n xs) (h' : w.ownsRow base' e' k' v' n' xs') (hne : e ≠ e') (hb : v.ownBlock = some b) : v'.ownBlock ≠ some b := by
  intro hb'
  obtain ⟨c, hc⟩ := owns_type h hb
  obtain ⟨c', hc'⟩ := owns_type h' hb'
  rw [hc] at hc'
  cases hc'
  exact hne rfl
theorem EntO.keep {w W' : World} {base base' : Nat} {vS vU vP : Value} {x : En} (h : EntO w base vS vU vP x) (hb : base' ≤ base) (hs : ∀ q, base ≤ q → q < w.heap.size → (vS.ownBlock = some q ∨ vU.ownBlock = some q ∨ vP.ownBlock = some q) → W'.heap[q]? = w.heap[q]?) : EntO W' base' vS vU vP x :=
  ⟨owns_base (owns_blocks h.s fun q h1 h2 h3 => hs q h1 h2 (Or.inl h3)) hb, owns_base (owns_blocks h.u fun q h1 h2 h3 => hs q h1 h2 (Or.inr (Or.inl h3))) hb, owns_base (owns_blocks h.p fun q h1 h2 h3 => hs q h1 h2 (Or.inr (Or.inr h3))) hb, h.ls, h.lu, h.lp, h.nu, h.n1, h.n2⟩
/-- a row of entries of the call's own, and what the entries hold is the call's own too; no two share their lists of names. -/
structure EnW (w : World) (base : Nat) (u : Value) (vs : List V3) (l : List En) : Prop where
  top : w.ownsRow base 41 5 u l.length (ensC l vs)
  len : vs.length = l.length
  own : ∀ (j : Nat) (h : j < l.length) (h' : j < vs.length), EntO w base vs[j].1 vs[j].2.1 vs[j].2.2 l[j]
  dis : ∀ (i j : Nat) (h : i < vs.length) (h' : j < vs.length), i ≠ j → ∀ b, vs[i].2.1.ownBlock = some b → vs[j].2.1.ownBlock ≠ some b
theorem EnW.nil (w : World) (base : Nat) : EnW w base (.slice none 0 0) [] [] := ⟨World.ownsRow_nil _ _ _ _, rfl, fun j h => by simp at h, fun i j h => by simp at h⟩
theorem EnW.slice {w : World} {base : Nat} {u : Value} {vs : List V3} {l : List En} (h : EnW w base u vs l) : ∃ a c, u = .slice a l.length c := owns_slice h.top
theorem EnW.below {w w' : World} {base : Nat} {u : Value} {vs : List V3} {l : List En} (h : EnW w base u vs l) (hb : Below w.heap.size w w') : EnW w' base u vs l :=
  ⟨owns_below h.top hb, h.len, fun j h1 h2 => (h.own j h1 h2).blocks (Nat.le_refl _) fun q _ hq => hb.block q hq, h.dis⟩
/-- the blocks of an entry are not the row's. -/
theorem ent_ne {w : World} {base base' : Nat} {u : Value} {n : Nat} {xs : List Value} {vS vU vP : Value} {x : En} (h : w.ownsRow base 41 5 u n xs) (he : EntO w base' vS vU vP x) {q : Nat} (hq : vS.ownBlock = some q ∨ vU.ownBlock = some q ∨ vP.ownBlock = some q) : some q ≠ u.ownBlock := by
  rcases hq with hq | hq | hq
  · exact fun e => owns_ne he.s h (by decide) hq e.symm
  · exact fun e => owns_ne he.u h (by decide) hq e.symm
  · exact fun e => owns_ne he.p h (by decide) hq e.symm
theorem EnW.toS {w : World} {base : Nat} {u : Value} {vs : List V3} {l : List En} (h : EnW w base u vs l) : EnS w base u vs l :=
  ⟨h.top, h.len, fun W' hW j h1 h2 => ((h.own j h1 h2).keep (base' := base) (Nat.le_refl _) fun q _ hq hb => hW q hq (ent_ne h.top (h.own j h1 h2) hb)).ent⟩
theorem EnW.ents {w : World} {base : Nat} {u : Value} {vs : List V3} {l : List En} (h : EnW w base u vs l) (hl : l.length ≤ 1000) : EntsAt w u l := ⟨vs, h.toS.ents hl⟩
/-- a copy more. -/
theorem EnW.push {w w1 w2 : World} {base : Nat} {u : Value} {vs : List V3} {l : List En} (h : EnW w base u vs l) (hb : Below w.heap.size w w1) {x : En} {v : V3}
    (hO : EntO w1 w.heap.size v.1 v.2.1 v.2.2 x) (hbw : base ≤ w.heap.size)
    {g cap n : Nat} (hn : n = l.length) (hown : w2.ownsRow base 41 5 (.slice (some ⟨g, 0, none⟩) (n + 1) cap) (n + 1) (ensC l vs ++ enC x v)) (hg : w1.grownBy w2 u.ownBlock) :
    EnW w2 base (.slice (some ⟨g, 0, none⟩) (n + 1) cap) (vs ++ [v]) (l ++ [x]) := by
  subst hn
  have hb1 := h.below hb
  have hu : ∀ b, u.ownBlock = some b → b < w.heap.size := fun b hb => (h.top.lt b hb).2
  have hx2 : EntO w2 base v.1 v.2.1 v.2.2 x := hO.keep hbw fun q hq1 hq hqb => hg.block q hq fun e => by have := hu q e.symm; omega
  have hvb : ∀ b, v.2.1.ownBlock = some b → w.heap.size ≤ b := fun b hb => (hO.u.lt b hb).1
  refine ⟨by rw [ensC_snoc _ _ _ _ h.len]; simpa using hown, by simp [h.len], fun j hj hj' => ?_, fun i j hi hj hij b hbi hbj => ?_⟩
  · by_cases hlt : j < l.length
    · have hv : j < vs.length := by rw [h.len]; exact hlt
      rw [List.getElem_append_left hlt, List.getElem_append_left hv]
      exact (hb1.own j hlt hv).keep (Nat.le_refl _) fun q _ hq hqb => hg.block q hq (ent_ne hb1.top (hb1.own j hlt hv) hqb)
    · have e : j = l.length := by simp at hj; omega
      subst e
      have e1 : (l ++ [x])[l.length] = x := by simp
      have e2 : (vs ++ [v])[l.length] = v := by rw [List.getElem_append_right (by rw [h.len]; exact Nat.le_refl _)]; simp [h.len]
      rw [e1, e2]
      exact hx2
  · have hin : ∀ k (hk : k < vs.length), ∀ b, vs[k].2.1.ownBlock = some b → b < w.heap.size := fun k hk b hb => ((h.own k (by rw [← h.len]; exact hk) hk).u.lt b hb).2
    have hlst : ∀ k (hk : k < (vs ++ [v]).length), ¬ k < vs.length → (vs ++ [v])[k] = v := fun k hk hn => by
      rw [List.getElem_append_right (by omega)]; simp
    by_cases h1 : i < vs.length
    · rw [List.getElem_append_left h1] at hbi
      by_cases h2 : j < vs.length
      · rw [List.getElem_append_left h2] at hbj
        exact h.dis i j h1 h2 hij b hbi hbj
      · rw [hlst j hj h2] at hbj
        have := hin i h1 b hbi
        have := hvb b hbj
        omega
    · rw [hlst i hi h1] at hbi
      by_cases h2 : j < vs.length
      · rw [List.getElem_append_left h2] at hbj
        have := hin j h2 b hbj
        have := hvb b hbi
        omega
      · simp at hi hj; omega
theorem ensC_set : ∀ (l : List En) (vs : List V3) (_ : vs.length = l.length) (j : Nat) (_ : j < l.length) (x : En) (v : V3), ensC (l.set j x) (vs.set j v) = (((((ensC l vs).set (j * 5) (.string x.name)).set (j * 5 + 1) (.string x.who)).set (j * 5 + 2) v.1).set (j * 5 + 3) v.2.1).set (j * 5 + 4) v.2.2
  | [], _, _, j, h, _, _ => by simp at h
  | _ :: _, [], e, _, _, _, _ => by simp at e
  | y :: l, u :: vs, e, 0, _, x, v => by simp [ensC, enC]
  | y :: l, u :: vs, e, j + 1, h, x, v => by
    have := ensC_set l vs (by simpa using e) j (by simpa using h) x v
    have h5 : (enC y u).length = 5 := rfl
    have hs : ∀ (k : Nat) (z : Value) (L : List Value), (enC y u ++ L).set (k + 5) z = enC y u ++ L.set k z := fun k z L => by
      rw [List.set_append, if_neg (by rw [h5]; omega), h5]; simp
    simp only [List.set_cons_succ, ensC, this]
    rw [show (j + 1) * 5 = j * 5 + 5 by omega, show j * 5 + 5 + 1 = j * 5 + 1 + 5 by omega, show j * 5 + 5 + 2 = j * 5 + 2 + 5 by omega, show j * 5 + 5 + 3 = j * 5 + 3 + 5 by omega, show j * 5 + 5 + 4 = j * 5 + 4 + 5 by omega]
    rw [hs, hs, hs, hs, hs]
/-- only the name is another one. -/
theorem ensC_name : ∀ (l : List En) (vs : List V3) (_ : vs.length = l.length) (j : Nat) (hj : j < l.length) (n : Nm), ensC (l.set j { l[j] with name := n }) vs = (ensC l vs).set (j * 5) (.string n)
  | [], _, _, j, h, _ => by simp at h
  | _ :: _, [], e, _, _, _ => by simp at e
  | y :: l, u :: vs, e, 0, _, n => by simp [ensC, enC]
  | y :: l, u :: vs, e, j + 1, h, n => by
    have := ensC_name l vs (by simpa using e) j (by simpa using h) n
    have h5 : (enC y u).length = 5 := rfl
    simp only [List.set_cons_succ, ensC, List.getElem_cons_succ, this]
    rw [show (j + 1) * 5 = j * 5 + 5 by omega, List.set_append, if_neg (by rw [h5]; omega), h5]; simp
/-- what an entry uses does not stand in the row. -/
theorem ensC_uses : ∀ (l : List En) (vs : List V3) (j : Nat) (hj : j < l.length) (us : List Nm), ensC (l.set j { l[j] with uses := us }) vs = ensC l vs
  | [], _, j, h, _ => by simp at h
  | _ :: _, [], _, _, _ => by simp [ensC]
  | y :: l, u :: vs, 0, _, us => by simp [ensC, enC]
  | y :: l, u :: vs, j + 1, h, us => by
    have := ensC_uses l vs j (by simpa using h) us
    simp only [List.set_cons_succ, ensC, List.getElem_cons_succ, this]
theorem EnW.setName {w : World} {base g n c : Nat} {vs : List V3} {l : List En} (h : EnW w base (.slice (some ⟨g, 0, none⟩) n c) vs l) (hn : n = l.length) {j : Nat} (hj : j < l.length) (m : Nm) (hm : m.size ≤ 140737488355328) :
    EnW (w.setCell ⟨g, j * 5, none⟩ (.string m)) base (.slice (some ⟨g, 0, none⟩) n c) vs (l.set j { l[j] with name := m }) := by
  subst hn
  have hS := (h.top.stored (j * 5) (.string m)).1
  refine ⟨by rw [ensC_name l vs h.len j hj m, List.length_set]; exact hS, by rw [List.length_set]; exact h.len, fun k hk hk' => ?_, h.dis⟩
  have hk0 : k < l.length := by simpa using hk
  have hO := (h.own k hk0 hk').keep (W' := w.setCell ⟨g, j * 5, none⟩ (.string m)) (base' := base) (Nat.le_refl _) fun q _ hq hqb => Below.heap_setCell _ _ _ _ (fun e => ent_ne h.top (h.own k hk0 hk') hqb (by rw [e]; rfl))
  rw [List.getElem_set]
  split
  · rename_i e; subst e
    exact ⟨hO.s, hO.u, hO.p, hO.ls, hO.lu, hO.lp, hO.nu, hm, hO.n2⟩
  · exact hO
theorem EnW.setUse {w : World} {base : Nat} {u : Value} {vs : List V3} {l : List En} (h : EnW w base u vs l) {j : Nat} (hj : j < l.length) (hj' : j < vs.length) {b n c i : Nat} (hb : vs[j].2.1 = .slice (some ⟨b, 0, none⟩) n c) (hi : i < l[j].uses.length) (m : Nm) (hm : m.size ≤ 140737488355328) :
    EnW (w.setCell ⟨b, i, none⟩ (.string m)) base u vs (l.set j { l[j] with uses := l[j].uses.set i m }) := by
  have hjO := h.own j hj hj'
  have hub : vs[j].2.1.ownBlock = some b := by rw [hb]; rfl
  have hS := hjO.u
  rw [hb] at hS
  have hn : n = l[j].uses.length := by
    obtain ⟨a', c', e⟩ := owns_slice hS; cases e; rfl
  subst hn
  have hS := (hS.stored i (.string m)).1
  have hu : u.ownBlock ≠ some b := owns_ne hjO.u h.top (by decide) hub
  have hother : ∀ q, q ≠ b → (w.setCell ⟨b, i, none⟩ (.string m)).heap[q]? = w.heap[q]? := fun q hq => Below.heap_setCell _ _ _ _ hq
  refine ⟨by rw [ensC_uses l vs j hj, List.length_set]; exact ownsRow_setCell_other h.top hu _, by rw [List.length_set]; exact h.len, fun k hk hk' => ?_, h.dis⟩
  have hk0 : k < l.length := by simpa using hk
  have hkO := h.own k hk0 hk'
  by_cases e : j = k
  · subst e
    rw [List.getElem_set_self]
    refine ⟨?_, ?_, ?_, hkO.ls, by rw [List.length_set]; exact hkO.lu, hkO.lp, fun x hx => ?_, hkO.n1, hkO.n2⟩
    · exact owns_blocks hkO.s fun q _ _ hq => hother q fun e => owns_ne hkO.s hkO.u (by decide) hq (by rw [e]; exact hub)
    · rw [hb, List.length_set]
      rw [List.map_set]
      exact hS
    · exact owns_blocks hkO.p fun q _ _ hq => hother q fun e => owns_ne hkO.p hkO.u (by decide) hq (by rw [e]; exact hub)
    · rcases List.mem_or_eq_of_mem_set hx with h | rfl
      · exact hkO.nu x h
      · exact hm
  · rw [List.getElem_set_ne (by omega)]
    refine hkO.keep (Nat.le_refl _) fun q _ _ hq => hother q fun eq => ?_
    subst eq
    rcases hq with hq | hq | hq
    · exact owns_ne hkO.s hjO.u (by decide) hq hub
    · exact h.dis j k hj' hk' e q hub hq
    · exact owns_ne hkO.p hjO.u (by decide) hq hub
end Go.Proofs.YtlbjbmpkaniojaaGreat
namespace Go.Proofs.YtlbjbmpkaniojaaGreat
open Go Go.RowKit Go.Maps
def cpN (x y : Nm) : Int := if ltN x y then -1 else if ltN y x then 1 else 0
theorem cpN_lt {x y : Nm} : cpN x y < 0 ↔ ltN x y := by
  unfold cpN
  by_cases h : ltN x y
  · simp [h]
  · by_cases k : ltN y x <;> simp [h, k]
theorem bgtr (x y : Nm) : (Op.bytesLess x.toList y.toList || x.toList == y.toList) = !decide (ltN y x) := by
  rw [bless, bytes_eq]
  rcases ltN.tri x y with k | k | k
  · simp [k, k.asym]
  · subst k; simp [ltN.irr]
  · have hne : x ≠ y := fun e => by subst e; exact ltN.irr _ k
    simp [k, k.asym, hne]
/-- the cells of pairs of names. -/
def pC (L : List N2) : List Value := L.flatMap fun p => [.string p.1, .string p.2]
instance : Inhabited N2 := ⟨(ByteArray.empty, ByteArray.empty)⟩
theorem own_sortK {w : World} {base g n c k : Nat} {E : TypeId} {xs : List Value} (h : w.ownsRow base E k (.slice (some ⟨g, 0, none⟩) n c) n xs) (m : Nat) (d : Array Value) (hd : d.size = n * k) (os : Array Obj) :
    (Go.Proofs.sortWorld id w g 0 m d os).ownsRow base E k (.slice (some ⟨g, 0, none⟩) n c) n d.toList := by
  obtain ⟨h1, h2⟩ := h
  refine ⟨by simp [hd], ?_⟩
  rcases h2 with ⟨h2, -⟩ | ⟨g', cap, cur, r1, r2, r3, r4, r5, r6, r7⟩
  · cases h2
  · cases r1
    have hnk : n * k ≤ cur.size := by rw [r6]; exact Nat.mul_le_mul_right _ r4
    refine .inr ⟨g, c, Go.Sort.putCells id 0 d cur, rfl, r2, ?_, r4, r5, ?_, ?_⟩
    · unfold sortWorld Go.Sort.grow
      simp only
      have hlt := (Array.getElem?_eq_some_iff.1 r3).1
      rw [Array.getElem?_append_left (by rw [size_putRow]; exact hlt)]
      unfold Go.Sort.putRow Go.Sort.mapBlock
      simp only [Array.getElem?_modify]
      rw [if_pos trivial]
      show Option.map _ (w.heap[g]?) = _
      rw [r3]
      rfl
    · unfold Go.Sort.putCells; simpa using r6
    · apply List.ext_getElem?
      intro i
      rw [List.getElem?_take]
      by_cases hi : i < n * k
      · rw [if_pos (by omega)]
        unfold Go.Sort.putCells
        rw [Array.getElem?_toList, Array.getElem?_mapIdx, Array.getElem?_eq_getElem (show i < cur.size by omega), Array.getElem?_toList, Array.getElem?_eq_getElem (show i < d.size by omega)]
        simp only [Option.map_some]
        rw [if_pos ⟨Nat.zero_le _, by omega⟩, getElem!_pos d (i - 0) (by omega)]
        rfl
      · rw [if_neg (by omega), Array.getElem?_toList, Array.getElem?_eq_none (by omega)]
end Go.Proofs.YtlbjbmpkaniojaaGreat
namespace Go.Proofs.YtlbjbmpkaniojaaGreat
open Go Go.RowKit Go.Maps
set_option maxHeartbeats 2000000 in
set_option maxRecDepth 100000 in
theorem blame_copies (vl : Value) (l : List En) (w : World) (hl : EntsAt w vl l) (hl1 : l.length ≤ 1000) (hok : ∀ x ∈ l, EnSm x) :
    Calls Tryz.prog 65 #[vl] w fun e w' => ∃ u vs, e = .returned u ∧ EnW w' w.heap.size u vs l ∧ Below w.heap.size w w' := by
  obtain ⟨la, lc, rfl, -, ll, -, HC⟩ := hl.open
  have HC' := hid HC
  have HOK := hid hok
  have h00 := hid (EnW.nil w w.heap.size)
  clear HC hl hok
  go_enter Tryz.func65, Tryz.ntmps65
  go_wp2
  go_loopw [3, 8] (fun u kv wr => ∃ (k : Nat) (vs : List V3), k ≤ l.length ∧ kv = .int .i64 k ∧ EnW wr w.heap.size u vs (l.take k) ∧ Below w.heap.size w wr) (fun _ kv _ => l.length - (intOf kv).toNat)
  case atStart => exact ⟨0, [], by omega, rfl, by simpa using h00.out, Below.refl _ _⟩
  case round =>
    clear h00
    obtain ⟨k, vs, hk, rfl, hE, hb⟩ := hrel
    have hsz := hb.size
    by_cases hlt : k < l.length
    · obtain ⟨b, o, vS, vu, vp, rfl, c0, c1, c2, c3, c4, he⟩ := HC'.out k hlt
      have he' := he.below hb
      obtain ⟨sa, sc, rfl, -⟩ := he'.s.open
      obtain ⟨ua, uc, rfl, -⟩ := he'.u.open
      obtain ⟨pa, pc, rfl, -⟩ := he'.p.open
      have d0 := (hb.cell (World.block_lt_of_cell? _ _ c0)).trans c0
      have d1 := (hb.cell (World.block_lt_of_cell? _ _ c1)).trans c1
      have d2 := (hb.cell (World.block_lt_of_cell? _ _ c2)).trans c2
      have d3 := (hb.cell (World.block_lt_of_cell? _ _ c3)).trans c3
      have d4 := (hb.cell (World.block_lt_of_cell? _ _ c4)).trans c4
      obtain ⟨s0, s1, s2, s3⟩ := HOK.out _ (List.getElem_mem hlt)
      have HTK := hid (show l.take (k + 1) = l.take k ++ [l[k]] from List.take_succ_eq_append_getElem hlt)
      have hlen : (l.take k).length = k := by simp; omega
      obtain ⟨x, hx⟩ : ∃ x, l[k] = x := ⟨_, rfl⟩
      rw [hx] at d0 d1 d2 d3 d4 he' s0 s1 s2 s3 HTK
      obtain ⟨L, hL⟩ : ∃ L, l.take k = L := ⟨_, rfl⟩
      rw [hL] at hE HTK hlen
      clear c0 c1 c2 c3 c4 he hx hL
      have EB0 := EB.new wr x (.slice sa x.says.length sc) (.slice ua x.uses.length uc) (.slice pa x.proof.length pc) 41
      obtain ⟨W, hW⟩ : ∃ W, wr.alloc (.cells #[.string x.name, .string x.who, .slice sa x.says.length sc, .slice ua x.uses.length uc, .slice pa x.proof.length pc] 41) = W := ⟨_, rfl⟩
      have hbr : Below wr.heap.size wr W := hW ▸ (Below.refl _ _).alloc (Nat.le_refl _) _
      rw [hW] at EB0
      have HCP := hid (blame_copied (.slice sa x.says.length sc) (.slice ua x.uses.length uc) (.slice pa x.proof.length pc) x W (he'.below hbr) s0 s1 s2 s3)
      have HHW := hid hW
      have HBR := hid hbr
      have HE := hid hE
      have HB := hid hb
      clear EB0 hW hbr hE hb he'
      go_wp2_with fail
      rw [HHW.out]
      refine HCP.out.mono ?_
      rintro e w2 ⟨v, rfl, ⟨vS, vU, vP, rfl, hO⟩, hb2⟩
      have hbr2 : Below wr.heap.size wr w2 := HBR.out.trans (hb2.mono HBR.out.size)
      have hbw2 := HB.out.trans (hbr2.mono hsz)
      obtain ⟨a1, k1, rfl⟩ := owns_slice hO.s
      obtain ⟨a2, k2, rfl⟩ := owns_slice hO.u
      obtain ⟨a3, k3, rfl⟩ := owns_slice hO.p
      have HE2 := hid (HE.out.below hbr2)
      have HBR2 := hid hbr2
      have HO2 := hid hO
      have HB2 := hid hbw2
      have HSZ2 := hid hbw2.size
      have HU := hid HE.out.top.lt
      have hown2 := HE2.out.top
      rw [hlen] at hown2
      have hownA := hown2.alloc (.cells #[.string x.name, .string x.who, .slice a1 x.says.length k1, .slice a2 x.uses.length k2, .slice a3 x.proof.length k3] 41)
      have HROW := hid (row_one_ent w2 (.string x.name) (.string x.who) (.slice a1 x.says.length k1) (.slice a2 x.uses.length k2) (.slice a3 x.proof.length k3) 41)
      have HRS := hid HBR.out.size
      have HRW := hid hsz
      have hwz := hbw2.size
      clear hO hb2 hbr2 hbw2 hown2
      go_wp2_with (at_builtin; refine wpList_append_lie rfl _ _ 24 rfl w.heap.size 41 el_ent Tryz.underlying24 rfl (by decide) u3 k (ensC L vs) rfl hownA _ 1 (enC x (.slice a1 x.says.length k1, .slice a2 x.uses.length k2, .slice a3 x.proof.length k3)) rfl HROW.out (enC_one _ _ _ _ _ _ _ _ _ _) (by omega) (by omega) (by omega) (by simp; omega) _ rfl ?_; intro g cap w4 hown4 hgrow4 hat4 hlt4)
      go_roundw
      case rel =>
        refine ⟨k + 1, vs ++ [(.slice a1 x.says.length k1, .slice a2 x.uses.length k2, .slice a3 x.proof.length k3)], by omega, by go_num, ?_, (HB2.out.alloc HSZ2.out _).grown hgrow4 (by simp; have := HSZ2.out; omega) (fun q hq => (HU.out q hq).1)⟩
        rw [HTK.out]
        have hba : Below w2.heap.size w2 (w2.alloc (.cells #[.string x.name, .string x.who, .slice a1 x.says.length k1, .slice a2 x.uses.length k2, .slice a3 x.proof.length k3] 41)) := (Below.refl _ _).alloc (Nat.le_refl _) _
        exact HE.out.push (w1 := w2.alloc _) (HBR2.out.trans (hba.mono HBR2.out.size)) (HO2.out.blocks HRS.out fun q _ hq => hba.block q hq) HRW.out hlen.symm hown4 hgrow4
      case measure => simp [intOf]; omega
    · have hkl : k = l.length := by omega
      subst hkl
      rw [List.take_of_length_le (Nat.le_refl _)] at hE
      have HE := hid hE
      clear hE
      go_wp2
      go_ret
      exact ⟨_, vs, rfl, HE.out, hb⟩
theorem blame_find1 (p : Nat) (n : Nm) (y : En) (vS vU vP : Value) (w : World) (hE : w.cell? ⟨p, 0, none⟩ = some (.string n)) :
    Calls Tryz.prog 134 #[.agg #[.string y.name, .string y.who, vS, vU, vP], .pointer (some ⟨p, 0, none⟩)] w fun e w' => e = .returned (.bool (decide (y.name = n))) ∧ Below w.heap.size w w' := by
  have HB := hid (show Below w.heap.size w (w.alloc (.cells #[.string y.name, .string y.who, vS, vU, vP] 41)) from (Below.refl _ _).alloc (Nat.le_refl _) _)
  have hlt : p < w.heap.size := World.block_lt_of_cell? _ _ hE
  by_cases h : y.name = n
  · have q : (y.name.toList == n.toList) = true := by rw [bytes_eq]; simpa using h
    have HF := hid (decide_eq_true h)
    clear h
    go_enter Tryz.func134, Tryz.ntmps134
    go_wp2
    go_ret
    exact ⟨ret_bool HF.out.symm, HB.out⟩
  · have q : (y.name.toList == n.toList) = false := by rw [bytes_eq]; simpa using h
    have HF := hid (decide_eq_false h)
    clear h
    go_enter Tryz.func134, Tryz.ntmps134
    go_wp2
    go_ret
    exact ⟨ret_bool HF.out.symm, HB.out⟩
theorem firstI_idx (l : List En) (n : Nm) : firstI l.length (fun i => decide ((l.getD i en0).name = n)) = idxI l n := by
  unfold idxI
  cases h : idxN l n with
  | none =>
    refine firstI_no fun j hj => ?_
    rw [decide_eq_false_iff_not]
    have e1 : l.getD j en0 = l[j] := by rw [List.getD_eq_getElem?_getD, List.getElem?_eq_getElem hj]; rfl
    rw [e1]
    exact idxN_none h _ (List.getElem_mem hj)
  | some i =>
    have hi := (idxN_some h).1
    unfold idxN at h
    obtain ⟨h1, h2, h3⟩ := List.findIdx?_eq_some_iff_getElem.1 h
    have e1 : ∀ j (hj : j < l.length), l.getD j en0 = l[j] := fun j hj => by rw [List.getD_eq_getElem?_getD, List.getElem?_eq_getElem hj]; rfl
    refine firstI_at hi ?_ fun j hj => ?_
    · rw [e1 i hi]; simpa using h2
    · rw [e1 j (by omega)]; simpa using h3 j hj
theorem box1e (w : World) (x : Value) (t : TypeId) : (w.alloc (.cells #[x] t)).cell? ⟨w.heap.size, 0, none⟩ = some x := by rw [World.cell?_alloc_new]; rfl
theorem blame_find (vl : Value) (l : List En) (n : Nm) (w : World) (hl : EntsAt w vl l) :
    Calls Tryz.prog 80 #[vl, .string n] w fun e w' => e = .returned (.int .i64 (idxI l n)) ∧ Below w.heap.size w w' := by
  have hbW : Below w.heap.size w (w.alloc (.cells #[.string n] 9)) := (Below.refl _ _).alloc (Nat.le_refl _) _
  have k0 := box1e w (.string n) 9
  obtain ⟨W, hW⟩ : ∃ W, w.alloc (.cells #[.string n] 9) = W := ⟨_, rfl⟩
  rw [hW] at hbW k0
  have HI := hid (sl_IndexFunc_ents 134 #[.pointer (some ⟨w.heap.size, 0, none⟩)] (enters_of Tryz.func134 (by kernel_rfl) rfl) vl l W (hl.below hbW) (fun i => decide ((l.getD i en0).name = n)) (by
    intro i hi vs vu vp X hX _
    have e1 : l.getD i en0 = l[i] := by rw [List.getD_eq_getElem?_getD, List.getElem?_eq_getElem hi]; rfl
    simp only [e1]
    exact blame_find1 w.heap.size n l[i] vs vu vp X ((hX.cell (World.block_lt_of_cell? _ _ k0)).trans k0)))
  rw [firstI_idx] at HI
  obtain ⟨la, lc, rfl, -⟩ := hl.open
  have HW := hid hW
  have HB := hid hbW
  clear hl hW hbW k0
  go_enter Tryz.func80, Tryz.ntmps80
  go_wp2_with fail
  rw [HW.out]
  refine HI.out.mono ?_
  rintro e w1 ⟨rfl, hb1⟩
  go_wp2
  go_ret
  exact ⟨rfl, HB.out.trans (hb1.mono HB.out.size)⟩
set_option maxHeartbeats 1000000 in
theorem blame_used1 (p q : Nat) (n but : Nm) (y : En) (vS vU vP : Value) (w : World) (hy : EntAt w vS vU vP y) (hp : w.cell? ⟨p, 0, none⟩ = some (.string but)) (hq : w.cell? ⟨q, 0, none⟩ = some (.string n)) :
    Calls Tryz.prog 128 #[.agg #[.string y.name, .string y.who, vS, vU, vP], .pointer (some ⟨p, 0, none⟩), .pointer (some ⟨q, 0, none⟩)] w fun e w' => e = .returned (.bool (decide (y.name ≠ but) && hasN y.uses n)) ∧ Below w.heap.size w w' := by
  obtain ⟨sa, sc, rfl, -⟩ := hy.s.open
  obtain ⟨ua, uc, rfl, -⟩ := hy.u.open
  obtain ⟨pa, pc, rfl, -⟩ := hy.p.open
  have hb : Below w.heap.size w (w.alloc (.cells #[.string y.name, .string y.who, .slice sa y.says.length sc, .slice ua y.uses.length uc, .slice pa y.proof.length pc] 41)) := (Below.refl _ _).alloc (Nat.le_refl _) _
  have HC := hid (sl_Contains_strs _ y.uses n _ (hy.below hb).u)
  have HB := hid hb
  have hlt : p < w.heap.size := World.block_lt_of_cell? _ _ hp
  have hlt' : q < w.heap.size := World.block_lt_of_cell? _ _ hq
  clear hy hb
  by_cases h : y.name = but
  · have q1 : (y.name.toList == but.toList) = true := by rw [bytes_eq]; simpa using h
    have q2 : (y.name.toList != but.toList) = false := by rw [bne, q1]; rfl
    have HF := hid (show (decide (y.name ≠ but) && hasN y.uses n) = false by simp [h])
    clear h
    go_enter Tryz.func128, Tryz.ntmps128
    go_wp2
    go_ret
    exact ⟨ret_bool HF.out.symm, HB.out⟩
  · have q1 : (y.name.toList == but.toList) = false := by rw [bytes_eq]; simpa using h
    have q2 : (y.name.toList != but.toList) = true := by rw [bne, q1]; rfl
    have HF := hid (show hasN y.uses n = (decide (y.name ≠ but) && hasN y.uses n) by simp [h])
    clear h
    go_enter Tryz.func128, Tryz.ntmps128
    go_wp2_with (go_at_call 129; refine HC.out.mono ?_; rintro e w' ⟨rfl, rfl⟩)
    go_ret
    exact ⟨ret_bool HF.out, HB.out⟩
theorem used_any (l : List En) (n but : Nm) : (List.range l.length).any (fun i => decide ((l.getD i en0).name ≠ but) && hasN (l.getD i en0).uses n) = l.any (fun x => decide (x.name ≠ but) && hasN x.uses n) := by
  have e1 : ∀ j (hj : j < l.length), l.getD j en0 = l[j] := fun j hj => by rw [List.getD_eq_getElem?_getD, List.getElem?_eq_getElem hj]; rfl
  rw [Bool.eq_iff_iff, List.any_eq_true, List.any_eq_true]
  constructor
  · rintro ⟨i, hi, h⟩
    have hi := List.mem_range.1 hi
    rw [e1 i hi] at h
    exact ⟨l[i], List.getElem_mem hi, h⟩
  · rintro ⟨x, hx, h⟩
    obtain ⟨i, hi, rfl⟩ := List.getElem_of_mem hx
    exact ⟨i, List.mem_range.2 hi, by rw [e1 i hi]; exact h⟩
theorem blame_used (vl : Value) (l : List En) (n but : Nm) (w : World) (hl : EntsAt w vl l) :
    Calls Tryz.prog 78 #[vl, .string n, .string but] w fun e w' => e = .returned (.bool (l.any fun x => decide (x.name ≠ but) && hasN x.uses n)) ∧ Below w.heap.size w w' := by
  have hbV : Below w.heap.size w (w.alloc (.cells #[.string n] 9)) := (Below.refl _ _).alloc (Nat.le_refl _) _
  have k0 := box1e w (.string n) 9
  obtain ⟨V, hV⟩ : ∃ V, w.alloc (.cells #[.string n] 9) = V := ⟨_, rfl⟩
  have hVz : V.heap.size = w.heap.size + 1 := by rw [← hV]; simp
  rw [hV] at hbV k0
  have hbW : Below V.heap.size V (V.alloc (.cells #[.string but] 9)) := (Below.refl _ _).alloc (Nat.le_refl _) _
  have k1 := box1e V (.string but) 9
  have k0' := (hbW.cell (World.block_lt_of_cell? _ _ k0)).trans k0
  obtain ⟨W, hW⟩ : ∃ W, V.alloc (.cells #[.string but] 9) = W := ⟨_, rfl⟩
  rw [hW] at hbW k1 k0'
  rw [hVz] at k1
  have hb := hbV.trans (hbW.mono hbV.size)
  have HI := hid (sl_ContainsFunc_ents 128 #[.pointer (some ⟨w.heap.size + 1, 0, none⟩), .pointer (some ⟨w.heap.size, 0, none⟩)] (enters_of Tryz.func128 (by kernel_rfl) rfl) vl l W (hl.below hb) (fun i => decide ((l.getD i en0).name ≠ but) && hasN (l.getD i en0).uses n) (by
    intro i hi vs vu vp X hX he
    have e1 : l.getD i en0 = l[i] := by rw [List.getD_eq_getElem?_getD, List.getElem?_eq_getElem hi]; rfl
    simp only [e1]
    exact blame_used1 (w.heap.size + 1) w.heap.size n but l[i] vs vu vp X he ((hX.cell (World.block_lt_of_cell? _ _ k1)).trans k1) ((hX.cell (World.block_lt_of_cell? _ _ k0')).trans k0')))
  rw [used_any] at HI
  obtain ⟨la, lc, rfl, -⟩ := hl.open
  have HW : Hid ((w.alloc (.cells #[.string n] 9)).alloc (.cells #[.string but] 9) = W) := hid (by rw [hV, hW])
  have HB := hid hb
  clear hl hV hW hbV hbW hb k0 k0' k1 hVz
  go_enter Tryz.func78, Tryz.ntmps78
  go_wp2_with fail
  rw [HW.out]
  refine HI.out.mono ?_
  rintro e w1 ⟨rfl, hb1⟩
  go_wp2
  go_ret
  exact ⟨ret_bool (by simp), HB.out.trans (hb1.mono HB.out.size)⟩
end Go.Proofs.YtlbjbmpkaniojaaGreat
namespace Go.Proofs.YtlbjbmpkaniojaaGreat
open Go Go.RowKit
structure ChgAt (w : World) (vS vU vP : Value) (c : Chg) : Prop where
  e : EntAt w vS vU vP c.ent
  n1 : c.who.size ≤ 140737488355328
  n2 : c.name.size ≤ 140737488355328
  n3 : c.new.size ≤ 140737488355328
theorem ChgAt.below {w w' : World} {vS vU vP : Value} {c : Chg} (h : ChgAt w vS vU vP c) (hb : Below w.heap.size w w') : ChgAt w' vS vU vP c := ⟨h.e.below hb, h.n1, h.n2, h.n3⟩
/-- the value of a change. -/
def chV (c : Chg) (vS vU vP : Value) : Value := .agg #[.int .i64 c.kind, .string c.who, .string c.name, .string c.new, .string c.ent.name, .string c.ent.who, vS, vU, vP]
def chC (c : Chg) (v : V3) : List Value := [.int .i64 c.kind, .string c.who, .string c.name, .string c.new, .string c.ent.name, .string c.ent.who, v.1, v.2.1, v.2.2]
/-- a change in a box. -/
structure CB (w : World) (b : Nat) (c : Chg) (vS vU vP : Value) : Prop where
  c0 : w.cell? ⟨b, 0, none⟩ = some (.int .i64 c.kind)
  c1 : w.cell? ⟨b, 1, none⟩ = some (.string c.who)
  c2 : w.cell? ⟨b, 2, none⟩ = some (.string c.name)
  c3 : w.cell? ⟨b, 3, none⟩ = some (.string c.new)
  c4 : w.cell? ⟨b, 4, none⟩ = some (.string c.ent.name)
  c5 : w.cell? ⟨b, 5, none⟩ = some (.string c.ent.who)
  c6 : w.cell? ⟨b, 6, none⟩ = some vS
  c7 : w.cell? ⟨b, 7, none⟩ = some vU
  c8 : w.cell? ⟨b, 8, none⟩ = some vP
theorem CB.block {w w' : World} {b : Nat} {c : Chg} {vS vU vP : Value} (h : CB w b c vS vU vP) (hb : w'.heap[b]? = w.heap[b]?) : CB w' b c vS vU vP :=
  ⟨(World.cell?_of_block hb).trans h.c0, (World.cell?_of_block hb).trans h.c1, (World.cell?_of_block hb).trans h.c2, (World.cell?_of_block hb).trans h.c3, (World.cell?_of_block hb).trans h.c4, (World.cell?_of_block hb).trans h.c5, (World.cell?_of_block hb).trans h.c6, (World.cell?_of_block hb).trans h.c7, (World.cell?_of_block hb).trans h.c8⟩
theorem CB.below {w w' : World} {b : Nat} {c : Chg} {vS vU vP : Value} (h : CB w b c vS vU vP) (hb : Below w.heap.size w w') : CB w' b c vS vU vP :=
  h.block (hb.block b (World.block_lt_of_cell? _ _ h.c0))
theorem CB.new (w : World) (c : Chg) (vS vU vP : Value) (t : TypeId) : CB (w.alloc (.cells #[.int .i64 c.kind, .string c.who, .string c.name, .string c.new, .string c.ent.name, .string c.ent.who, vS, vU, vP] t)) w.heap.size c vS vU vP := by
  constructor <;> (rw [World.cell?_alloc_new]; rfl)
def chsC : List Chg → List V3 → List Value
  | x :: l, v :: vs => chC x v ++ chsC l vs
  | _, _ => []
theorem chsC_len : ∀ (l : List Chg) (vs : List V3), vs.length = l.length → (chsC l vs).length = l.length * 9
  | [], [], _ => rfl
  | [], _ :: _, h => by simp at h
  | _ :: _, [], h => by simp at h
  | x :: l, v :: vs, h => by
    have := chsC_len l vs (by simpa using h)
    simp [chsC, chC, this]; omega
theorem chsC_get : ∀ (l : List Chg) (vs : List V3) (_ : vs.length = l.length) (j : Nat) (h : j < l.length) (h' : j < vs.length) (r : Nat), r < 9 → (chsC l vs)[j * 9 + r]? = (chC l[j] vs[j])[r]?
  | [], _, _, j, h, _, _, _ => by simp at h
  | _ :: _, [], e, _, _, _, _, _ => by simp at e
  | x :: l, v :: vs, e, 0, _, _, r, hr => by
    show (chC x v ++ chsC l vs)[0 * 9 + r]? = _
    rw [Nat.zero_mul, Nat.zero_add, List.getElem?_append_left (by simp [chC]; exact hr)]
    rfl
  | x :: l, v :: vs, e, j + 1, h, h', r, hr => by
    show (chC x v ++ chsC l vs)[(j + 1) * 9 + r]? = _
    have h9 : (chC x v).length = 9 := rfl
    rw [List.getElem?_append_right (by rw [h9]; omega), h9, show (j + 1) * 9 + r - 9 = j * 9 + r by omega]
    exact chsC_get l vs (by simpa using e) j (by simpa using h) (by simpa using h') r hr
theorem chsC_append : ∀ (l m : List Chg) (vs us : List V3), vs.length = l.length → chsC (l ++ m) (vs ++ us) = chsC l vs ++ chsC m us
  | [], m, [], us, _ => rfl
  | [], _, _ :: _, _, h => by simp at h
  | _ :: _, _, [], _, h => by simp at h
  | x :: l, m, v :: vs, us, h => by simp [chsC, chsC_append l m vs us (by simpa using h)]
/-- a list of changes in memory. -/
def ChsV (w : World) (v : Value) (vs : List V3) (l : List Chg) : Prop := RowK w v 9 l.length (chsC l vs) ∧ vs.length = l.length ∧ ∀ (j : Nat) (h : j < l.length) (h' : j < vs.length), ChgAt w vs[j].1 vs[j].2.1 vs[j].2.2 l[j]
def ChsAt (w : World) (v : Value) (l : List Chg) : Prop := ∃ vs, ChsV w v vs l
theorem ChsV.below {w w' : World} {v : Value} {vs : List V3} {l : List Chg} (h : ChsV w v vs l) (hb : Below w.heap.size w w') : ChsV w' v vs l := ⟨h.1.below hb, h.2.1, fun j h1 h2 => (h.2.2 j h1 h2).below hb⟩
theorem ChsAt.below {w w' : World} {v : Value} {l : List Chg} (h : ChsAt w v l) (hb : Below w.heap.size w w') : ChsAt w' v l := by
  obtain ⟨vs, h⟩ := h; exact ⟨vs, h.below hb⟩
theorem ChsAt.nil (w : World) : ChsAt w (.slice none 0 0) [] := ⟨[], ⟨rfl, none, 0, rfl, Nat.le_refl _, by simp, fun _ => rfl, fun j u hj => by simp [chsC] at hj⟩, rfl, fun j h => by simp at h⟩
theorem ChsAt.open {w : World} {v : Value} {l : List Chg} (h : ChsAt w v l) :
    ∃ a cap, v = .slice a l.length cap ∧ l.length ≤ cap ∧ l.length ≤ 140737488355328 ∧ (a = none → cap = 0) ∧
      ∀ j (h : j < l.length), ∃ b o vs vu vp, a = some ⟨b, o, none⟩ ∧ w.cell? ⟨b, o + j * 9, none⟩ = some (.int .i64 l[j].kind) ∧ w.cell? ⟨b, o + j * 9 + 1, none⟩ = some (.string l[j].who) ∧ w.cell? ⟨b, o + j * 9 + 2, none⟩ = some (.string l[j].name) ∧ w.cell? ⟨b, o + j * 9 + 3, none⟩ = some (.string l[j].new) ∧ w.cell? ⟨b, o + j * 9 + 4, none⟩ = some (.string l[j].ent.name) ∧ w.cell? ⟨b, o + j * 9 + 5, none⟩ = some (.string l[j].ent.who) ∧ w.cell? ⟨b, o + j * 9 + 6, none⟩ = some vs ∧ w.cell? ⟨b, o + j * 9 + 7, none⟩ = some vu ∧ w.cell? ⟨b, o + j * 9 + 8, none⟩ = some vp ∧ ChgAt w vs vu vp l[j] := by
  obtain ⟨vs, ⟨_, a, cap, h2, h3, h4, h5, h6⟩, hl, he⟩ := h
  refine ⟨a, cap, h2, h3, h4, h5, fun j hj => ?_⟩
  have hjv : j < vs.length := by omega
  have g := fun r hr => chsC_get l vs hl j hj hjv r hr
  have key : ∀ r (hr : r < 9) u, (chC l[j] vs[j])[r]? = some u → ∃ b o, a = some ⟨b, o, none⟩ ∧ w.cell? ⟨b, o + (j * 9 + r), none⟩ = some u := fun r hr u hu => h6 _ _ ((g r hr).trans hu)
  obtain ⟨b, o, e0, q0⟩ := key 0 (by omega) _ rfl
  have key2 : ∀ r (hr : r < 9) u, (chC l[j] vs[j])[r]? = some u → w.cell? ⟨b, o + (j * 9 + r), none⟩ = some u := fun r hr u hu => by
    obtain ⟨b', o', e', q'⟩ := key r hr u hu
    rw [e0] at e'
    cases e'
    exact q'
  refine ⟨b, o, vs[j].1, vs[j].2.1, vs[j].2.2, e0, q0, ?_, ?_, ?_, ?_, ?_, ?_, ?_, ?_, he j hj hjv⟩ <;> (rw [Nat.add_assoc]; exact key2 _ (by omega) _ rfl)
/-- the first changes, and those behind them. -/
theorem ChsV.take {w : World} {a : Option Addr} {n cap : Nat} {vs : List V3} {l : List Chg} (h : ChsV w (.slice a n cap) vs l) (k : Nat) (hk : k ≤ l.length) : ChsV w (.slice a k cap) (vs.take k) (l.take k) := by
  obtain ⟨⟨h1, a', cap', h2, h3, h4, h5, h6⟩, hl, he⟩ := h
  simp only [Value.slice.injEq] at h2
  obtain ⟨rfl, rfl, rfl⟩ := h2
  have hlk : (l.take k).length = k := by rw [List.length_take]; omega
  have hvk : (vs.take k).length = k := by rw [List.length_take]; omega
  refine ⟨⟨chsC_len _ _ (by rw [hlk, hvk]), a, cap, by rw [hlk], by omega, by omega, h5, fun j u hj => ?_⟩, by rw [hlk, hvk], fun j g g' => ?_⟩
  · have e : chsC l vs = chsC (l.take k) (vs.take k) ++ chsC (l.drop k) (vs.drop k) := by
      rw [← chsC_append _ _ _ _ (by rw [hlk, hvk]), List.take_append_drop, List.take_append_drop]
    refine h6 j u ?_
    rw [e, List.getElem?_append_left (List.getElem?_eq_some_iff.1 hj).1]
    exact hj
  · simp only [List.getElem_take]
    exact he j (by omega) (by omega)
theorem ChsAt.take {w : World} {a : Option Addr} {n cap : Nat} {l : List Chg} (h : ChsAt w (.slice a n cap) l) (k : Nat) (hk : k ≤ l.length) : ChsAt w (.slice a k cap) (l.take k) := by
  obtain ⟨vs, h⟩ := h
  exact ⟨_, h.take k hk⟩
theorem ChsAt.drop {w : World} {b o n cap : Nat} {l : List Chg} (h : ChsAt w (.slice (some ⟨b, o, none⟩) n cap) l) (k : Nat) (hk : k ≤ l.length) : ChsAt w (.slice (some ⟨b, o + k * 9, none⟩) (l.length - k) (cap - k)) (l.drop k) := by
  obtain ⟨vs, ⟨h1, a', cap', h2, h3, h4, h5, h6⟩, hl, he⟩ := h
  simp only [Value.slice.injEq] at h2
  obtain ⟨rfl, rfl, rfl⟩ := h2
  have hlk : (l.take k).length = k := by rw [List.length_take]; omega
  have hvk : (vs.take k).length = k := by rw [List.length_take]; omega
  refine ⟨vs.drop k, ⟨chsC_len _ _ (by simp [hl]), some ⟨b, o + k * 9, none⟩, cap - k, by simp, by simp; omega, by simp; omega, (fun h => by cases h), fun j u hj => ?_⟩, by simp [hl], fun j g g' => ?_⟩
  · have e : chsC l vs = chsC (l.take k) (vs.take k) ++ chsC (l.drop k) (vs.drop k) := by
      rw [← chsC_append _ _ _ _ (by rw [hlk, hvk]), List.take_append_drop, List.take_append_drop]
    have hk9 : (chsC (l.take k) (vs.take k)).length = k * 9 := by rw [chsC_len _ _ (by rw [hlk, hvk]), hlk]
    have := h6 (k * 9 + j) u (by rw [e, List.getElem?_append_right (by omega), hk9, Nat.add_sub_cancel_left]; exact hj)
    obtain ⟨b', o', e', q⟩ := this
    cases e'
    exact ⟨b, o + k * 9, rfl, by rw [Nat.add_assoc]; exact q⟩
  · simp only [List.getElem_drop]
    rw [List.length_drop] at g g'
    exact he (k + j) (by omega) (by omega)
end Go.Proofs.YtlbjbmpkaniojaaGreat
namespace Go.Proofs.YtlbjbmpkaniojaaGreat
open Go Go.RowKit Go.Maps Go.Shelf
attribute [local go_sem] Oper.semAt_some
end Go.Proofs.YtlbjbmpkaniojaaGreat
namespace Go.Proofs.YtlbjbmpkaniojaaGreat
open Go Go.RowKit Go.Maps Go.Shelf
attribute [local go_sem] Oper.semAt_some
/-- a row of pairs of names. -/
def PrsAt (w : World) (v : Value) (L : List N2) : Prop := RowK w v 2 L.length (pC L)
theorem PrsAt.below {w w' : World} {v : Value} {L : List N2} (h : PrsAt w v L) (hb : Below w.heap.size w w') : PrsAt w' v L := RowK.below h hb
theorem PrsAt.nil (w : World) : PrsAt w (.slice none 0 0) [] := ⟨rfl, none, 0, rfl, Nat.le_refl _, by simp, fun _ => rfl, fun j u hj => by simp [pC] at hj⟩
/-- the box of a value that is handed to the body, behind the loop's record's turn. -/
theorem EB.turned {w w' : World} {b l : Nat} {x : En} {vS vU vP : Value} (h : EB w b x vS vU vP) (hr : RecT l w w') (hne : b ≠ l) : EB w' b x vS vU vP := by
  obtain ⟨o, rfl⟩ := hr
  exact h.block (World.putObj_heap_other (fun e => hne (by omega)))
theorem ble {x y : Nm} (h : ¬ ltN y x) : (Op.bytesLess x.toList y.toList || x.toList == y.toList) = true := by rw [bgtr, decide_eq_false h]; rfl
theorem ble' {x y : Nm} (h : ltN y x) : (Op.bytesLess x.toList y.toList || x.toList == y.toList) = false := by rw [bgtr, decide_eq_true h]; rfl
end Go.Proofs.YtlbjbmpkaniojaaGreat
namespace Go.Proofs.YtlbjbmpkaniojaaGreat
open Go Go.RowKit Go.Maps Go.Shelf
attribute [local go_sem] Oper.semAt_some
abbrev BkE := Nat × Chg × V3
def bkX (x : BkE) : Array Value := #[.int .i64 x.1, chV x.2.1 x.2.2.1 x.2.2.2.1 x.2.2.2.2]
def bkE (cs : List Chg) (pre : List BkE) (x : BkE) (_ : World) : Prop := x.1 + pre.length + 1 = cs.length ∧ cs[x.1]? = some x.2.1 ∧ ∃ a1 k1 a2 k2 a3 k3, x.2.2 = (.slice a1 x.2.1.ent.says.length k1, .slice a2 x.2.1.ent.uses.length k2, .slice a3 x.2.1.ent.proof.length k3)
set_option maxHeartbeats 2000000 in
set_option maxRecDepth 100000 in
theorem back_seq (bx : Nat) (ca : Option Addr) (cc : Nat) (cs : List Chg) (wb w0 : World) (hv : ChsAt wb (.slice ca cs.length cc) cs) (hb : Below wb.heap.size wb w0) (hc : w0.cell? ⟨bx, 0, none⟩ = some (.slice ca cs.length cc)) :
    SeqE Tryz.prog 138 #[.pointer (some ⟨bx, 0, none⟩)] bkX (bkE cs) (fun xs => xs.length = cs.length) (fun k => k < wb.heap.size ∨ k = bx) w0 := fun l' J Jx M0 W hW hM0 hJ hJx hY h0 => by
  refine callsIn_of_wp Tryz.func138 rfl trivial ?_ rfl
  simp only [Tryz.ntmps138, List.size_toArray, List.length_cons, List.length_nil, Nat.reduceAdd, Nat.reduceSub, Array.replicate_succ, Array.replicate_zero, List.push_toArray, List.append_toArray, List.nil_append, List.cons_append]
  have c1 := (hW.cell (World.block_lt_of_cell? _ _ hc)).trans hc
  have hbW := hb.trans (hW.mono hb.size)
  obtain ⟨ca', cc', e', -, hcl, -, ZC⟩ := hv.open
  cases e'
  have HCC := hid ZC
  have HM0 : Hid (∀ q, M0 q → wb.heap.size ≤ q ∧ q ≠ bx) := hid (fun q hq => by have := (hM0 q hq).1; omega)
  have HBW := hid hbW
  have HJ0 := hid h0
  have HC1 := hid c1
  have hbxW := World.block_lt_of_cell? _ _ c1
  clear hM0 h0 hc hb hv hW ZC hbW
  gi_wp2
  clear c1
  gi_loopw [3] (fun kv wr => ∃ (m : Nat) (mm : Int) (pre : List BkE) (M : Nat → Prop), kv = .int .i64 mm ∧ (m : Int) = mm + 1 ∧ pre.length + m = cs.length ∧ J pre M wr ∧ (∀ q, M q → wb.heap.size ≤ q ∧ q ≠ bx) ∧ Below wb.heap.size wb wr ∧ wr.cell? ⟨bx, 0, none⟩ = some (.slice ca cs.length cc)) (fun kv _ => (intOf kv + 1).toNat)
  case atStart => exact ⟨cs.length, (cs.length : Int) - 1, [], M0, by go_num, by omega, by simp, HJ0.out, HM0.out, HBW.out, HC1.out⟩
  case round =>
    clear HM0 HBW HJ0 HC1
    obtain ⟨m, mm, pre, M, rfl, hmm, hpl, hj, hM, hbr, hbx⟩ := hrel
    have HPL := hid hpl
    have HMM := hid hM
    have HBR := hid hbr
    have HJJ := hid hj
    have HBX := hid hbx
    clear hM hbr hj
    cases m with
    | succ k =>
      obtain rfl : mm = (k : Int) := by omega
      have hlt : k < cs.length := by omega
      have y0 : (0 : Int) ≤ (k : Int) := by omega
      have y1 : (k : Int) < (cs.length : Int) := by omega
      obtain ⟨b, o, vS, vU, vP, rfl, z0, z1, z2, z3, z4, z5, z6, z7, z8, hce⟩ := HCC.out k hlt
      replace z0 := (HBR.out.cell (World.block_lt_of_cell? _ _ z0)).trans z0
      replace z1 := (HBR.out.cell (World.block_lt_of_cell? _ _ z1)).trans z1
      replace z2 := (HBR.out.cell (World.block_lt_of_cell? _ _ z2)).trans z2
      replace z3 := (HBR.out.cell (World.block_lt_of_cell? _ _ z3)).trans z3
      replace z4 := (HBR.out.cell (World.block_lt_of_cell? _ _ z4)).trans z4
      replace z5 := (HBR.out.cell (World.block_lt_of_cell? _ _ z5)).trans z5
      replace z6 := (HBR.out.cell (World.block_lt_of_cell? _ _ z6)).trans z6
      replace z7 := (HBR.out.cell (World.block_lt_of_cell? _ _ z7)).trans z7
      replace z8 := (HBR.out.cell (World.block_lt_of_cell? _ _ z8)).trans z8
      obtain ⟨sa, sk, rfl, -⟩ := hce.e.s.open
      obtain ⟨ta, tk, rfl, -⟩ := hce.e.u.open
      obtain ⟨pa, pk, rfl, -⟩ := hce.e.p.open
      have hget : cs[k]? = some cs[k] := List.getElem?_eq_getElem hlt
      obtain ⟨c, hcx⟩ : ∃ c, cs[k] = c := ⟨_, rfl⟩
      rw [hcx] at z0 z1 z2 z3 z4 z5 z6 z7 z8 hget
      obtain ⟨fn, tmps, assign, body, hy, hR⟩ := hY pre (k, c, (.slice sa c.ent.says.length sk, .slice ta c.ent.uses.length tk, .slice pa c.ent.proof.length pk)) M wr HJJ.out ⟨by simp; omega, hget, _, _, _, _, _, _, rfl⟩
      dsimp only [bkX, chV] at hy
      have HRR := hid hR
      clear hR hce hget hcx hbx
      have hbx := HBX.out
      gi_wp2
      refine HRR.out.mono ?_
      rintro e W3 ⟨M', hM', hkb, ⟨rfl, hJ3⟩ | ⟨rfl, hJx3⟩⟩
      · have hbb3 : Below wb.heap.size wb W3 := HBR.out.trans (hkb.below HBR.out.size (fun q hq => (HMM.out q hq).1))
        have hM3 : ∀ q, M' q → wb.heap.size ≤ q ∧ q ≠ bx := by
          intro q hq
          rcases hM' q hq with h1 | h1
          · exact HMM.out q h1
          · have := HBR.out.size; have := World.block_lt_of_cell? _ _ HBX.out; simp at this; exact ⟨by omega, by omega⟩
        have hx3 : W3.cell? ⟨bx, 0, none⟩ = some (.slice (some ⟨b, o, none⟩) cs.length cc) := (World.cell?_of_block (hkb.same _ (World.block_lt_of_cell? _ _ HBX.out) (fun h => (HMM.out _ h).2 rfl))).trans HBX.out
        have HJ3 := hid hJ3
        have HB3 := hid hbb3
        have HM3 := hid hM3
        have HX3 := hid hx3
        clear hbb3 hM3 hJ3 hM' hkb hx3 z0 z1 z2 z3 z4 z5 z6 z7 z8 hbx
        gi_wp2
        go_roundw
        case rel => exact ⟨k, (k : Int) - 1, _, M', by go_num, by omega, by simp; omega, HJ3.out, HM3.out, HB3.out, HX3.out⟩
        case measure => simp [intOf]
      · gi_wp2
        refine bodyPost_ret (results_none rfl _ _ _) rfl ?_
        exact ⟨⟨_, rfl⟩, .inr ⟨_, M', hJx3⟩⟩
    | zero =>
      obtain rfl : mm = -1 := by omega
      clear hbx
      gi_wp2
      go_end0
      exact ⟨⟨_, rfl⟩, .inl ⟨pre, M, by omega, HJJ.out⟩⟩
theorem sl_Backward (a : Option Addr) (n c : Nat) (w : World) :
    Calls Tryz.prog 93 #[.slice a n c] w fun e w' => e = .returned (.func (.func 138) #[] #[.pointer (some ⟨w.heap.size, 0, none⟩)]) ∧ w.alloc (.cells #[.slice a n c] 25) = w' := by
  go_enter Tryz.func93, Tryz.ntmps93
  go_wp2
  go_ret
  exact ⟨rfl, rfl⟩
end Go.Proofs.YtlbjbmpkaniojaaGreat
namespace Go.Proofs.YtlbjbmpkaniojaaGreat
open Go Go.RowKit Go.Maps
set_option maxHeartbeats 4000000 in
set_option maxRecDepth 100000 in
theorem ref6_SameLibraryE (v u : Value) (l : List En) (w : World) (hv : EntsAt w v l) (hu : EntsAt w u l) :
    Calls Tryz.prog 17 #[v, u] w fun e w' => e = .returned (.bool true) ∧ Below w.heap.size w w' := by
  obtain ⟨a, cap, rfl, h1, hl, h3, HC⟩ := hv.open
  obtain ⟨a', cap', rfl, h1', hl', h3', HD⟩ := hu.open
  have HC' := hid HC
  have HD' := hid HD
  have hne : (((l.length : Nat) : Int) != (l.length : Int)) = false := by simp
  clear HC hv h3 HD hu h3'
  go_enter Tryz.func17, Tryz.ntmps17
  go_wp2
  go_loopw [5] (fun i wr => ∃ k : Nat, k ≤ l.length ∧ i = .int .i64 k ∧ Below w.heap.size w wr) (fun i _ => l.length - (intOf i).toNat)
  case atStart => exact ⟨0, by omega, rfl, Below.refl _ _⟩
  case round =>
    obtain ⟨k, hk, rfl, hb⟩ := hrel
    have hsz := hb.size
    by_cases hlt : k < l.length
    · obtain ⟨b, o, xS, xU, xP, rfl, c0, c1, c2, c3, c4, hx⟩ := HC'.out k hlt
      obtain ⟨b', o', yS, yU, yP, rfl, f0, f1, f2, f3, f4, hy⟩ := HD'.out k hlt
      have c0 := (hb.cell (World.block_lt_of_cell? _ _ c0)).trans c0
      have c1 := (hb.cell (World.block_lt_of_cell? _ _ c1)).trans c1
      have c2 := (hb.cell (World.block_lt_of_cell? _ _ c2)).trans c2
      have c3 := (hb.cell (World.block_lt_of_cell? _ _ c3)).trans c3
      have c4 := (hb.cell (World.block_lt_of_cell? _ _ c4)).trans c4
      have f0 := (hb.cell (World.block_lt_of_cell? _ _ f0)).trans f0
      have f1 := (hb.cell (World.block_lt_of_cell? _ _ f1)).trans f1
      have f2 := (hb.cell (World.block_lt_of_cell? _ _ f2)).trans f2
      have f3 := (hb.cell (World.block_lt_of_cell? _ _ f3)).trans f3
      have f4 := (hb.cell (World.block_lt_of_cell? _ _ f4)).trans f4
      obtain ⟨x, hxe⟩ : ∃ x, l[k] = x := ⟨_, rfl⟩
      rw [hxe] at c0 c1 f0 f1 hx hy
      have HSE := hid (fun (X : World) (hX : Below wr.heap.size wr X) => ref6_SameEntry xS xU xP yS yU yP x x X ((hx.below hb).below hX) ((hy.below hb).below hX))
      rw [decide_eq_true (rfl : x = x)] at HSE
      obtain ⟨a1, k1, rfl, -⟩ := hx.s.open
      obtain ⟨a2, k2, rfl, -⟩ := hx.u.open
      obtain ⟨a3, k3, rfl, -⟩ := hx.p.open
      obtain ⟨b1, j1, rfl, -⟩ := hy.s.open
      obtain ⟨b2, j2, rfl, -⟩ := hy.u.open
      obtain ⟨b3, j3, rfl, -⟩ := hy.p.open
      have HB := hid hb
      have y0 : (0 : Int) ≤ (k : Int) := by omega
      have y1 : (k : Int) < (l.length : Int) := by omega
      clear hb hx hy hxe
      go_wp2
      go_region_held3 (fun w' => w'.cell? ⟨b, o + k * 5, none⟩ = some (.string x.name) ∧ w'.cell? ⟨b, o + k * 5 + 1, none⟩ = some (.string x.who) ∧ w'.cell? ⟨b, o + k * 5 + 2, none⟩ = some (.slice a1 x.says.length k1) ∧ w'.cell? ⟨b, o + k * 5 + 3, none⟩ = some (.slice a2 x.uses.length k2) ∧ w'.cell? ⟨b, o + k * 5 + 4, none⟩ = some (.slice a3 x.proof.length k3) ∧
          w'.cell? ⟨b', o' + k * 5, none⟩ = some (.string x.name) ∧ w'.cell? ⟨b', o' + k * 5 + 1, none⟩ = some (.string x.who) ∧ w'.cell? ⟨b', o' + k * 5 + 2, none⟩ = some (.slice b1 x.says.length j1) ∧ w'.cell? ⟨b', o' + k * 5 + 3, none⟩ = some (.slice b2 x.uses.length j2) ∧ w'.cell? ⟨b', o' + k * 5 + 4, none⟩ = some (.slice b3 x.proof.length j3))
        (first | exact ⟨by assumption, by assumption, by assumption, by assumption, by assumption, by assumption, by assumption, by assumption, by assumption, by assumption⟩ | go_keep)
        (first
        | (go_at_call 52; (with_reducible refine (HSE.out _ (Below.refl _ _)).mono ?_); rintro e w5 ⟨rfl, hb5⟩; have hbr5 : Below wr.heap.size wr w5 := hb5; have q0 := (hbr5.cell (World.block_lt_of_cell? _ _ c0)).trans c0; have q1 := (hbr5.cell (World.block_lt_of_cell? _ _ c1)).trans c1; have q2 := (hbr5.cell (World.block_lt_of_cell? _ _ c2)).trans c2; have q3 := (hbr5.cell (World.block_lt_of_cell? _ _ c3)).trans c3; have q4 := (hbr5.cell (World.block_lt_of_cell? _ _ c4)).trans c4; have r0 := (hbr5.cell (World.block_lt_of_cell? _ _ f0)).trans f0; have r1 := (hbr5.cell (World.block_lt_of_cell? _ _ f1)).trans f1; have r2 := (hbr5.cell (World.block_lt_of_cell? _ _ f2)).trans f2; have r3 := (hbr5.cell (World.block_lt_of_cell? _ _ f3)).trans f3; have r4 := (hbr5.cell (World.block_lt_of_cell? _ _ f4)).trans f4)
        | (go_at_call 52; (with_reducible refine (HSE.out _ (Below.drew (Below.refl _ _))).mono ?_); rintro e w5 ⟨rfl, hb5⟩; have hbr5 : Below wr.heap.size wr w5 := (below_self_drew _).trans hb5; have q0 := (hbr5.cell (World.block_lt_of_cell? _ _ c0)).trans c0; have q1 := (hbr5.cell (World.block_lt_of_cell? _ _ c1)).trans c1; have q2 := (hbr5.cell (World.block_lt_of_cell? _ _ c2)).trans c2; have q3 := (hbr5.cell (World.block_lt_of_cell? _ _ c3)).trans c3; have q4 := (hbr5.cell (World.block_lt_of_cell? _ _ c4)).trans c4; have r0 := (hbr5.cell (World.block_lt_of_cell? _ _ f0)).trans f0; have r1 := (hbr5.cell (World.block_lt_of_cell? _ _ f1)).trans f1; have r2 := (hbr5.cell (World.block_lt_of_cell? _ _ f2)).trans f2; have r3 := (hbr5.cell (World.block_lt_of_cell? _ _ f3)).trans f3; have r4 := (hbr5.cell (World.block_lt_of_cell? _ _ f4)).trans f4))
      have HB5 := hid (HB.out.trans (hbr5.mono hsz))
      clear hb5 hbr5 q0 q1 q2 q3 q4 r0 r1 r2 r3 r4 c0 c1 c2 c3 c4 f0 f1 f2 f3 f4
      go_wp2
      go_roundw
      case rel => exact ⟨k + 1, by omega, by go_num, HB5.out⟩
      case measure => simp [intOf]; omega
    · go_wp2
      go_ret
      exact ⟨rfl, hb⟩
end Go.Proofs.YtlbjbmpkaniojaaGreat
