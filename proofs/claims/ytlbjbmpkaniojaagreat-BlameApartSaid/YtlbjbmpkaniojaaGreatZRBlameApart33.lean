/-
  WHAT IT HOLDS: plain words on editions: ascending libraries, changes, what a change makes of an edition, and that it is undone. No program in sight.
  WHAT IT HOLDS: plain words on plays of changes, and that changes which name each other nowhere are apart. No program in sight.
  WHAT IT HOLDS: plain words on the difference of two editions: played in one it makes the other one. No program in sight.
-/
import Derived.Test.YtlbjbmpkaniojaaGreatZRBlameApart32
import Derived.Test.YtlbjbmpkaniojaaGreatZRBlameApart18
namespace Go.Proofs.YtlbjbmpkaniojaaGreat
open Go Go.RowKit
abbrev em : Nm := ⟨#[]⟩
/-- a library in ascending order of names. -/
def AscE (l : List En) : Prop := l.Pairwise fun a b => ltN a.name b.name
instance (l : List En) : Decidable (AscE l) := inferInstanceAs (Decidable (l.Pairwise fun a b => ltN a.name b.name))
theorem AscE.unique {l m : List En} (h : AscE l) (k : AscE m) (e : ∀ x, x ∈ l ↔ x ∈ m) : l = m :=
  asc_unique (R := fun a b : En => ltN a.name b.name) (fun a => ltN.irr a.name) (fun h k => ltN.trans h k) h k e
theorem AscE.nd {l : List En} (h : AscE l) : (l.map En.name).Nodup := by
  rw [List.Nodup, List.pairwise_map]
  exact h.imp fun h e => by rw [e] at h; exact ltN.irr _ h
theorem AscE.inj {l : List En} (h : AscE l) {x y : En} (hx : x ∈ l) (hy : y ∈ l) (e : x.name = y.name) : x = y := by
  obtain ⟨i, hi, rfl⟩ := List.getElem_of_mem hx
  obtain ⟨j, hj, rfl⟩ := List.getElem_of_mem hy
  have h1 := idxN_nd h.nd hi
  have h2 := idxN_nd h.nd hj
  rw [e, h2] at h1
  cases h1
  rfl
theorem idxN_has (l : List En) (n : Nm) : (idxN l n).isSome = hasN (l.map En.name) n := by
  unfold idxN hasN
  rw [List.findIdx?_isSome]
theorem hasE_iff {l : List En} {n : Nm} : hasN (l.map En.name) n = true ↔ ∃ x ∈ l, x.name = n := by
  rw [hasN_iff, List.mem_map]
theorem hasE_no {l : List En} {n : Nm} : hasN (l.map En.name) n = false ↔ ∀ x ∈ l, x.name ≠ n := by
  rw [Bool.eq_false_iff, ne_eq, hasE_iff]
  constructor
  · intro h x hx e; exact h ⟨x, hx, e⟩
  · rintro h ⟨x, hx, e⟩; exact h x hx e
/-- an ascending list with an entry more in its place. -/
def putE (x : En) : List En → List En
  | [] => [x]
  | y :: l => if ltN x.name y.name then x :: y :: l else y :: putE x l
theorem putE_mem {x z : En} : ∀ {l : List En}, z ∈ putE x l ↔ z = x ∨ z ∈ l
  | [] => by simp [putE]
  | y :: l => by
    unfold putE
    split
    · simp
    · rw [List.mem_cons, putE_mem, List.mem_cons]; constructor <;> (intro h; rcases h with h | h | h <;> simp [h])
theorem putE_len {x : En} : ∀ {l : List En}, (putE x l).length = l.length + 1
  | [] => rfl
  | y :: l => by
    unfold putE
    split
    · rfl
    · simp [putE_len]
theorem putE_asc {x : En} : ∀ {l : List En}, AscE l → (∀ y ∈ l, y.name ≠ x.name) → AscE (putE x l)
  | [], _, _ => by simp [putE, AscE]
  | y :: l, h, hn => by
    obtain ⟨h1, h2⟩ := List.pairwise_cons.1 h
    unfold putE
    split
    · rename_i hy
      exact List.pairwise_cons.2 ⟨fun z hz => by
        rcases List.mem_cons.1 hz with rfl | hz
        · exact hy
        · exact hy.trans (h1 z hz), h⟩
    · rename_i hy
      have hyx : ltN y.name x.name := by
        rcases ltN.tri y.name x.name with k | k | k
        · exact k
        · exact (hn y (by simp) k).elim
        · exact (hy k).elim
      refine List.pairwise_cons.2 ⟨fun z hz => ?_, putE_asc h2 fun z hz => hn z (by simp [hz])⟩
      rcases putE_mem.1 hz with rfl | hz
      · exact hyx
      · exact h1 z hz
/-- a library in ascending order. -/
def srtE (l : List En) : List En := l.foldl (fun o x => putE x o) []
theorem srtE_snoc (l : List En) (x : En) : srtE (l ++ [x]) = putE x (srtE l) := by simp [srtE]
theorem srtE_mem {z : En} (l : List En) : z ∈ srtE l ↔ z ∈ l := by
  have key : ∀ (l o : List En), z ∈ l.foldl (fun o x => putE x o) o ↔ z ∈ o ∨ z ∈ l := by
    intro l
    induction l with
    | nil => intro o; simp
    | cons x l ih =>
      intro o
      rw [List.foldl_cons, ih, putE_mem, List.mem_cons]
      constructor
      · rintro ((h | h) | h) <;> simp [h]
      · rintro (h | h | h) <;> simp [h]
  rw [srtE, key]; simp
theorem srtE_len (l : List En) : (srtE l).length = l.length := by
  have key : ∀ (l o : List En), (l.foldl (fun o x => putE x o) o).length = o.length + l.length := by
    intro l
    induction l with
    | nil => intro o; simp
    | cons x l ih =>
      intro o
      rw [List.foldl_cons, ih, putE_len, List.length_cons]; omega
  rw [srtE, key]; simp
theorem srtE_asc {l : List En} (h : (l.map En.name).Nodup) : AscE (srtE l) := by
  have key : ∀ (l o : List En), AscE o → (l.map En.name).Nodup → (∀ x ∈ l, ∀ y ∈ o, y.name ≠ x.name) → AscE (l.foldl (fun o x => putE x o) o) := by
    intro l
    induction l with
    | nil => intro o h _ _; exact h
    | cons x l ih =>
      intro o h hn hd
      rw [List.foldl_cons]
      rw [List.map_cons, List.nodup_cons] at hn
      refine ih _ (putE_asc h (hd x (by simp))) hn.2 fun z hz y hy => ?_
      rcases putE_mem.1 hy with rfl | hy
      · intro e; exact hn.1 (List.mem_map.2 ⟨z, hz, e.symm⟩)
      · exact hd z (by simp [hz]) y hy
  exact key l [] (by simp [AscE]) h (by simp)
/-- what is sorted and has no name twice is the ascending list. -/
theorem srt_eq {L M pre : List En} (hp : L.Perm pre) (hs : L.Pairwise fun a b => ¬ ltN b.name a.name) (hn : (pre.map En.name).Nodup) (hm : AscE M) (e : ∀ x, x ∈ M ↔ x ∈ pre) : L = M := by
  have hn' : (L.map En.name).Nodup := (hp.map En.name).nodup_iff.2 hn
  rw [List.Nodup, List.pairwise_map] at hn'
  refine AscE.unique ((hs.and hn').imp fun {a b} ⟨h1, h2⟩ => ?_) hm fun x => by rw [hp.mem_iff, e]
  rcases ltN.tri a.name b.name with k | k | k
  · exact k
  · exact absurd k h2
  · exact absurd k h1
/-- a change: its kind, by whom it is, the names, the entry. -/
structure Chg where
  kind : Int
  who : Nm
  name : Nm
  new : Nm
  ent : En
deriving DecidableEq
def edB (s : Sg) (l : List En) : Bool := libB s l && decide (AscE l)
theorem edB_iff {s : Sg} {l : List En} : edB s l = true ↔ LibOK s l ∧ AscE l := by
  unfold edB
  rw [Bool.and_eq_true, libB_iff, decide_eq_true_eq]
def chgB (s : Sg) (c : Chg) : Bool :=
  signB s && (nmB c.who && (if c.kind = 1 ∨ c.kind = 2 then decide (c.name = em) && (decide (c.new = em) && entryB s c.ent)
    else if c.kind = 3 then nmB c.name && (nmB c.new && (decide (c.name ≠ c.new) && decide (c.ent = en0)))
    else if c.kind = 4 then nmB c.name && (decide (c.new = em) && decide (c.ent = en0)) else false))
inductive ChgOK (s : Sg) (c : Chg) : Prop where
  | put (h0 : signB s = true) (h1 : nmB c.who = true) (hk : c.kind = 1 ∨ c.kind = 2) (h2 : c.name = em) (h3 : c.new = em) (h4 : EnOK s c.ent)
  | ren (h0 : signB s = true) (h1 : nmB c.who = true) (hk : c.kind = 3) (h2 : nmB c.name = true) (h3 : nmB c.new = true) (h4 : c.name ≠ c.new) (h5 : c.ent = en0)
  | drop (h0 : signB s = true) (h1 : nmB c.who = true) (hk : c.kind = 4) (h2 : nmB c.name = true) (h3 : c.new = em) (h5 : c.ent = en0)
theorem chgB_iff {s : Sg} {c : Chg} : chgB s c = true ↔ ChgOK s c := by
  unfold chgB
  constructor
  · intro h
    rw [Bool.and_eq_true, Bool.and_eq_true] at h
    obtain ⟨h0, h1, h⟩ := h
    split at h
    · rename_i hk
      simp only [Bool.and_eq_true, decide_eq_true_eq] at h
      exact .put h0 h1 hk h.1 h.2.1 (entryB_iff.1 h.2.2)
    split at h
    · rename_i hk
      simp only [Bool.and_eq_true, decide_eq_true_eq] at h
      exact .ren h0 h1 hk h.1 h.2.1 h.2.2.1 h.2.2.2
    split at h
    · rename_i hk
      simp only [Bool.and_eq_true, decide_eq_true_eq] at h
      exact .drop h0 h1 hk h.1 h.2.1 h.2.2
    · cases h
  · intro h
    cases h with
    | put h0 h1 hk h2 h3 h4 => rw [h0, h1, if_pos hk, h2, h3, entryB_iff.2 h4]; rfl
    | ren h0 h1 hk h2 h3 h4 h5 => rw [h0, h1, if_neg (by omega), if_pos hk, h2, h3, h5]; simp [h4]
    | drop h0 h1 hk h2 h3 h5 => rw [h0, h1, if_neg (by omega), if_neg (by omega), if_pos hk, h2, h3, h5]; simp
/-- whether an entry, but the one with a name, uses a name. -/
def usedB (l : List En) (n but : Nm) : Bool := l.any fun x => decide (x.name ≠ but) && hasN x.uses n
theorem usedB_no {l : List En} {n but : Nm} : usedB l n but = false ↔ ∀ x ∈ l, x.name ≠ but → n ∉ x.uses := by
  unfold usedB
  rw [List.any_eq_false]
  constructor
  · intro h x hx hb hu
    exact h x hx (by rw [Bool.and_eq_true]; exact ⟨by simpa using hb, hasN_iff.2 hu⟩)
  · intro h x hx hc
    rw [Bool.and_eq_true] at hc
    exact h x hx (by simpa using hc.1) (hasN_iff.1 hc.2)
def subE (x y : En) : En := if y.name = x.name then x else y
def renN (n m u : Nm) : Nm := if u = n then m else u
def renE (n m : Nm) (x : En) : En := { x with name := renN n m x.name, uses := x.uses.map (renN n m) }
/-- what a change makes of an edition. -/
def doL (l : List En) (c : Chg) : List En × Int :=
  if c.kind = 1 then
    if hasN (l.map En.name) c.ent.name then ([], 6) else if 60 ≤ l.length then ([], 4) else (putE c.ent l, 0)
  else if c.kind = 2 then
    if hasN (l.map En.name) c.ent.name then if c.ent ∈ l then ([], 8) else (l.map (subE c.ent), 0) else ([], 5)
  else if c.kind = 3 then
    if hasN (l.map En.name) c.name then if hasN (l.map En.name) c.new || usedB l c.new em then ([], 6) else (srtE (l.map (renE c.name c.new)), 0) else ([], 5)
  else
    if hasN (l.map En.name) c.name then if usedB l c.name c.name then ([], 10) else (l.filter (fun x => decide (x.name ≠ c.name)), 0) else ([], 5)
/-- the change that undoes a change; error 10 if there is none. -/
def atN (l : List En) (n : Nm) : En := (l.find? fun x => decide (x.name = n)).getD en0
theorem atN_of {l : List En} (h : AscE l) {x : En} (hx : x ∈ l) : atN l x.name = x := by
  unfold atN
  cases hf : l.find? fun y => decide (y.name = x.name) with
  | none =>
    rw [List.find?_eq_none] at hf
    exact absurd (by simp) (hf x hx)
  | some y =>
    have h1 := List.mem_of_find?_eq_some hf
    have h2 := List.find?_some hf
    exact h.inj h1 hx (by simpa using h2)
def chg0 : Chg := ⟨0, em, em, em, en0⟩
def undoC (l : List En) (c : Chg) : Chg :=
  if c.kind = 1 then ⟨4, c.who, c.ent.name, em, en0⟩
  else if c.kind = 2 then ⟨2, c.who, em, em, atN l c.ent.name⟩
  else if c.kind = 3 then ⟨3, c.who, c.new, c.name, en0⟩
  else ⟨1, c.who, em, em, atN l c.name⟩
def undoL (s : Sg) (l : List En) (c : Chg) : Chg × Int :=
  if edB s l && chgB s c then
    if (doL l c).2 = 0 then if c.kind = 1 ∧ usedB l c.ent.name c.ent.name = true then (chg0, 10) else (undoC l c, 0) else (chg0, (doL l c).2)
  else (chg0, 1)
def madeL (s : Sg) (l : List En) (c : Chg) : List En × Int := if edB s l && chgB s c then doL l c else ([], 1)
theorem ChgOK.sign {s : Sg} {c : Chg} (h : ChgOK s c) : signB s = true := by cases h <;> assumption
theorem ChgOK.who {s : Sg} {c : Chg} (h : ChgOK s c) : nmB c.who = true := by cases h <;> assumption
theorem renN_inj {n m : Nm} {l : List Nm} (hm : m ∉ l) {u v : Nm} (hu : u ∈ l) (hv : v ∈ l) (e : renN n m u = renN n m v) : u = v := by
  unfold renN at e
  split at e <;> split at e
  · rename_i h1 h2; rw [h1, h2]
  · exact absurd (e ▸ hv) hm
  · exact absurd (e ▸ hu) hm
  · exact e
theorem nd_map_on {α β : Type} {f : α → β} : ∀ {l : List α}, l.Nodup → (∀ x ∈ l, ∀ y ∈ l, f x = f y → x = y) → (l.map f).Nodup
  | [], _, _ => by simp
  | x :: l, h, hf => by
    obtain ⟨h1, h2⟩ := List.nodup_cons.1 h
    rw [List.map_cons, List.nodup_cons]
    refine ⟨fun hx => ?_, nd_map_on h2 fun a ha b hb => hf a (by simp [ha]) b (by simp [hb])⟩
    obtain ⟨y, hy, e⟩ := List.mem_map.1 hx
    exact h1 (hf y (by simp [hy]) x (by simp) e ▸ hy)
theorem ren_names (n m : Nm) (l : List En) : (l.map (renE n m)).map En.name = (l.map En.name).map (renN n m) := by
  rw [List.map_map, List.map_map]; rfl
theorem ren_nd {l : List En} {n m : Nm} (h : (l.map En.name).Nodup) (hm : hasN (l.map En.name) m = false) : ((l.map (renE n m)).map En.name).Nodup := by
  rw [ren_names]
  exact nd_map_on h fun x hx y hy e => renN_inj (hasN_no.1 hm) hx hy e
theorem renE_ok {s : Sg} {x : En} {n m : Nm} (h : EnOK s x) (hm : nmB m = true) (hu : m ∉ x.uses) : EnOK s (renE n m x) where
  name := by unfold renE renN; dsimp only; split; exact hm; exact h.name
  who := h.who
  says := h.says
  can := h.can
  len := by show (x.uses.map _).length ≤ 12; rw [List.length_map]; exact h.len
  nd := nd_map_on h.nd fun a ha b hb e => renN_inj hu ha hb e
  uses := fun u hu => by
    obtain ⟨v, hv, rfl⟩ := List.mem_map.1 hu
    unfold renN; split
    · exact hm
    · exact h.uses v hv
  ax := fun h0 => by show (x.uses.map _).length = 0; rw [List.length_map]; exact h.ax h0
  proof := fun h0 => by show proofB (x.uses.map _).length x.proof = true; rw [List.length_map]; exact h.proof h0
theorem sub_names (x : En) (l : List En) : (l.map (subE x)).map En.name = l.map En.name := by
  rw [List.map_map]
  refine List.map_congr_left fun y _ => ?_
  show (subE x y).name = y.name
  unfold subE
  split
  · rename_i h; exact h.symm
  · rfl
theorem ascE_names {l m : List En} (e : l.map En.name = m.map En.name) (h : AscE l) : AscE m := by
  have h' : (l.map En.name).Pairwise ltN := List.pairwise_map.2 h
  rw [e] at h'
  exact List.pairwise_map.1 h'
theorem usedB_all {s : Sg} {l : List En} (h : LibOK s l) {n : Nm} : usedB l n em = false ↔ ∀ x ∈ l, n ∉ x.uses := by
  rw [usedB_no]
  refine ⟨fun k x hx => k x hx fun e => ?_, fun k x hx _ => k x hx⟩
  have := nmB_len (h.ents x hx).name
  rw [e] at this
  exact absurd this.1 (by decide)
/-- what is made of an edition is an edition. -/
theorem doL_ed {s : Sg} {l l' : List En} {c : Chg} (h : edB s l = true) (hc : chgB s c = true) (hd : doL l c = (l', 0)) : edB s l' = true := by
  obtain ⟨hl, ha⟩ := edB_iff.1 h
  have hc := chgB_iff.1 hc
  rw [edB_iff]
  unfold doL at hd
  split at hd
  · rename_i hk
    have h4 : EnOK s c.ent := by
      cases hc with
      | put h0 h1 hk h2 h3 h4 => exact h4
      | ren h0 h1 hk' => omega
      | drop h0 h1 hk' => omega
    split at hd
    · cases hd
    rename_i hn
    split at hd
    · cases hd
    rename_i h60
    cases hd
    have hn' := hasE_no.1 (by simpa using hn : hasN (l.map En.name) c.ent.name = false)
    refine ⟨⟨hl.sign, by rw [putE_len]; omega, fun x hx => ?_, (putE_asc ha hn').nd⟩, putE_asc ha hn'⟩
    rcases putE_mem.1 hx with rfl | hx
    · exact h4
    · exact hl.ents x hx
  split at hd
  · rename_i hk1 hk
    have h4 : EnOK s c.ent := by
      cases hc with
      | put h0 h1 hk h2 h3 h4 => exact h4
      | ren h0 h1 hk' => omega
      | drop h0 h1 hk' => omega
    split at hd
    · split at hd
      · cases hd
      cases hd
      have ha' := ascE_names (sub_names c.ent l).symm ha
      refine ⟨⟨hl.sign, by rw [List.length_map]; exact hl.len, fun x hx => ?_, ha'.nd⟩, ha'⟩
      obtain ⟨y, hy, rfl⟩ := List.mem_map.1 hx
      unfold subE
      split
      · exact h4
      · exact hl.ents y hy
    · cases hd
  split at hd
  · rename_i hk1 hk2 hk
    have h3 : nmB c.new = true := by
      cases hc with
      | put h0 h1 hk' => omega
      | ren h0 h1 hk' h2 h3 => exact h3
      | drop h0 h1 hk' => omega
    split at hd
    · split at hd
      · cases hd
      rename_i hu
      cases hd
      rw [Bool.or_eq_true, not_or] at hu
      have h1 : hasN (l.map En.name) c.new = false := by simpa using hu.1
      have h2 := (usedB_all hl).1 (by simpa using hu.2 : usedB l c.new em = false)
      have ha' := srtE_asc (ren_nd (n := c.name) hl.nd h1)
      refine ⟨⟨hl.sign, by rw [srtE_len, List.length_map]; exact hl.len, fun x hx => ?_, ha'.nd⟩, ha'⟩
      obtain ⟨y, hy, rfl⟩ := List.mem_map.1 ((srtE_mem _).1 hx)
      exact renE_ok (hl.ents y hy) h3 (h2 y hy)
    · cases hd
  split at hd
  · split at hd
    · cases hd
    cases hd
    have ha' : AscE (l.filter fun x => decide (x.name ≠ c.name)) := List.Pairwise.sublist List.filter_sublist ha
    exact ⟨⟨hl.sign, Nat.le_trans (List.length_filter_le _ _) hl.len, fun x hx => hl.ents x (List.mem_filter.1 hx).1, ha'.nd⟩, ha'⟩
  · cases hd
theorem sub_mem {l : List En} (ha : AscE l) {x : En} (hn : hasN (l.map En.name) x.name = true) {z : En} : z ∈ l.map (subE x) ↔ z = x ∨ (z ∈ l ∧ z.name ≠ x.name) := by
  rw [List.mem_map]
  constructor
  · rintro ⟨y, hy, rfl⟩
    unfold subE
    split
    · exact Or.inl rfl
    · rename_i h; exact Or.inr ⟨hy, h⟩
  · rintro (rfl | ⟨h1, h2⟩)
    · obtain ⟨y, hy, e⟩ := hasE_iff.1 hn
      exact ⟨y, hy, by unfold subE; rw [if_pos e]⟩
    · exact ⟨z, h1, by unfold subE; rw [if_neg h2]⟩
theorem renN_back {n m : Nm} {u : Nm} (h : u ≠ m) : renN m n (renN n m u) = u := by
  unfold renN
  by_cases e : u = n
  · rw [if_pos e, if_pos rfl, e]
  · rw [if_neg e, if_neg h]
theorem renE_back {n m : Nm} {x : En} (h1 : x.name ≠ m) (h2 : m ∉ x.uses) : renE m n (renE n m x) = x := by
  unfold renE
  cases x with
  | mk a b c d e =>
    simp only [En.mk.injEq, true_and, List.map_map, and_true]
    refine ⟨renN_back h1, ?_⟩
    conv => rhs; rw [← List.map_id d]
    refine List.map_congr_left fun u hu => ?_
    show renN m n (renN n m u) = u
    exact renN_back fun e => h2 (e ▸ hu)
/-- a change that can be undone is undone by what undoL answers. -/
theorem undo_back {s : Sg} {l l' : List En} {c u : Chg} (h : edB s l = true) (hc : chgB s c = true) (hd : doL l c = (l', 0)) (hu : undoL s l c = (u, 0)) : chgB s u = true ∧ doL l' u = (l, 0) := by
  obtain ⟨hl, ha⟩ := edB_iff.1 h
  have hc' := chgB_iff.1 hc
  obtain ⟨hl', ha'⟩ := edB_iff.1 (doL_ed h hc hd)
  unfold undoL at hu
  rw [h, hc, Bool.true_and, if_pos rfl, hd, if_pos rfl] at hu
  split at hu
  · cases hu
  rename_i hk0
  cases hu
  unfold undoC
  unfold doL at hd
  split at hd
  · rename_i hk
    rw [if_pos hk]
    have h4 : EnOK s c.ent := by
      cases hc' with
      | put h0 h1 hk h2 h3 h4 => exact h4
      | ren h0 h1 hk' => omega
      | drop h0 h1 hk' => omega
    split at hd
    · cases hd
    rename_i hn
    split at hd
    · cases hd
    rename_i h60
    cases hd
    have hn' := hasE_no.1 (by simpa using hn : hasN (l.map En.name) c.ent.name = false)
    have hus : usedB l c.ent.name c.ent.name = false := by
      cases hx : usedB l c.ent.name c.ent.name with
      | false => rfl
      | true => exact absurd ⟨hk, hx⟩ hk0
    refine ⟨chgB_iff.2 (.drop hl.sign hc'.who rfl h4.name rfl rfl), ?_⟩
    unfold doL
    rw [if_neg (by simp), if_neg (by simp), if_neg (by simp), if_pos (hasE_iff.2 ⟨c.ent, putE_mem.2 (Or.inl rfl), rfl⟩)]
    have hus' : usedB (putE c.ent l) c.ent.name c.ent.name = false := by
      rw [usedB_no] at hus ⊢
      intro x hx hb
      rcases putE_mem.1 hx with rfl | hx
      · exact absurd rfl hb
      · exact hus x hx hb
    rw [if_neg (by show ¬ usedB (putE c.ent l) c.ent.name c.ent.name = true; rw [hus']; simp)]
    refine Prod.ext (AscE.unique (List.Pairwise.sublist List.filter_sublist ha') ha fun x => ?_) rfl
    rw [List.mem_filter, putE_mem]
    constructor
    · rintro ⟨rfl | hx, h2⟩
      · simp at h2
      · exact hx
    · intro hx
      exact ⟨Or.inr hx, by simpa using hn' x hx⟩
  rename_i hk1
  rw [if_neg hk1]
  split at hd
  · rename_i hk
    rw [if_pos hk]
    split at hd
    · rename_i hn
      split at hd
      · cases hd
      rename_i hnm
      cases hd
      obtain ⟨y, hy, e⟩ := hasE_iff.1 hn
      have hat : atN l c.ent.name = y := by rw [← e]; exact atN_of ha hy
      rw [hat]
      refine ⟨chgB_iff.2 (.put hl.sign hc'.who (Or.inr rfl) rfl rfl (hl.ents y hy)), ?_⟩
      unfold doL
      rw [if_neg (by simp), if_pos rfl]
      have hn2 : hasN ((l.map (subE c.ent)).map En.name) y.name = true := by rw [sub_names, e]; exact hn
      rw [if_pos hn2, if_neg]
      · refine Prod.ext (AscE.unique (ascE_names (sub_names _ _).symm ha') ha fun x => ?_) rfl
        rw [sub_mem ha' hn2, sub_mem ha hn]
        constructor
        · rintro (rfl | ⟨rfl | ⟨hx, -⟩, h2⟩)
          · exact hy
          · exact absurd e.symm h2
          · exact hx
        · intro hx
          by_cases hxe : x = y
          · exact Or.inl hxe
          · exact Or.inr ⟨Or.inr ⟨hx, fun h2 => hxe (ha.inj hx hy (h2.trans e.symm))⟩, fun h2 => hxe (ha.inj hx hy h2)⟩
      · intro hin
        rcases (sub_mem ha hn).1 hin with hx | ⟨-, h2⟩
        · exact hnm (hx ▸ hy)
        · exact h2 e
    · cases hd
  rename_i hk2
  rw [if_neg hk2]
  split at hd
  · rename_i hk
    rw [if_pos hk]
    obtain ⟨h2, h3, h4⟩ : nmB c.name = true ∧ nmB c.new = true ∧ c.name ≠ c.new := by
      cases hc' with
      | put h0 h1 hk' => omega
      | ren h0 h1 hk' h2 h3 h4 => exact ⟨h2, h3, h4⟩
      | drop h0 h1 hk' => omega
    split at hd
    · rename_i hn
      split at hd
      · cases hd
      rename_i hu
      cases hd
      rw [Bool.or_eq_true, not_or] at hu
      have q1 : hasN (l.map En.name) c.new = false := by simpa using hu.1
      have q2 := (usedB_all hl).1 (by simpa using hu.2 : usedB l c.new em = false)
      refine ⟨chgB_iff.2 (.ren hl.sign hc'.who rfl h3 h2 (fun e => h4 e.symm) rfl), ?_⟩
      unfold doL
      rw [if_neg (by simp), if_neg (by simp), if_pos rfl]
      obtain ⟨y, hy, e⟩ := hasE_iff.1 hn
      have m1 : hasN ((srtE (l.map (renE c.name c.new))).map En.name) c.new = true := hasE_iff.2 ⟨renE c.name c.new y, (srtE_mem _).2 (List.mem_map.2 ⟨y, hy, rfl⟩), by show renN c.name c.new y.name = c.new; unfold renN; rw [if_pos e]⟩
      have m2 : hasN ((srtE (l.map (renE c.name c.new))).map En.name) c.name = false := hasE_no.2 fun x hx e => by
        obtain ⟨z, hz, rfl⟩ := List.mem_map.1 ((srtE_mem _).1 hx)
        have e : renN c.name c.new z.name = c.name := e
        unfold renN at e
        split at e
        · exact h4 e.symm
        · rename_i h; exact h e
      have m3 : usedB (srtE (l.map (renE c.name c.new))) c.name em = false := by
        rw [usedB_all hl']
        intro x hx hu
        obtain ⟨z, hz, rfl⟩ := List.mem_map.1 ((srtE_mem _).1 hx)
        obtain ⟨v, hv, e⟩ := List.mem_map.1 (show c.name ∈ z.uses.map (renN c.name c.new) from hu)
        unfold renN at e
        split at e
        · exact h4 e.symm
        · rename_i h; exact h e
      rw [if_pos m1, if_neg (by show ¬ (hasN ((srtE (l.map (renE c.name c.new))).map En.name) c.name || usedB (srtE (l.map (renE c.name c.new))) c.name em) = true; rw [m2, m3]; simp)]
      refine Prod.ext (AscE.unique (srtE_asc (ren_nd hl'.nd m2)) ha fun x => ?_) rfl
      rw [srtE_mem, List.mem_map]
      constructor
      · rintro ⟨z, hz, rfl⟩
        obtain ⟨v, hv, rfl⟩ := List.mem_map.1 ((srtE_mem _).1 hz)
        rw [show renE c.new c.name (renE c.name c.new v) = v from renE_back (hasE_no.1 q1 v hv) (q2 v hv)]
        exact hv
      · intro hx
        exact ⟨renE c.name c.new x, (srtE_mem _).2 (List.mem_map.2 ⟨x, hx, rfl⟩), renE_back (hasE_no.1 q1 x hx) (q2 x hx)⟩
    · cases hd
  rename_i hk3
  rw [if_neg hk3]
  split at hd
  · rename_i hn
    split at hd
    · cases hd
    rename_i hu
    cases hd
    obtain ⟨y, hy, e⟩ := hasE_iff.1 hn
    have hat : atN l c.name = y := by rw [← e]; exact atN_of ha hy
    rw [hat]
    refine ⟨chgB_iff.2 (.put hl.sign hc'.who (Or.inl rfl) rfl rfl (hl.ents y hy)), ?_⟩
    unfold doL
    rw [if_pos rfl]
    have m1 : hasN ((l.filter fun x => decide (x.name ≠ c.name)).map En.name) y.name = false := hasE_no.2 fun x hx e' => by
      have := (List.mem_filter.1 hx).2
      simp at this
      exact this (e'.trans e)
    have m2 : (l.filter fun x => decide (x.name ≠ c.name)).length < l.length := by
      refine Nat.lt_of_le_of_ne (List.length_filter_le _ _) fun he => ?_
      rw [List.length_filter_eq_length_iff] at he
      have := he y hy
      simp [e] at this
    rw [if_neg (by show ¬ hasN ((l.filter fun x => decide (x.name ≠ c.name)).map En.name) y.name = true; rw [m1]; simp), if_neg (by have := hl.len; omega)]
    refine Prod.ext (AscE.unique (putE_asc (List.Pairwise.sublist List.filter_sublist ha) (hasE_no.1 m1)) ha fun x => ?_) rfl
    rw [putE_mem, List.mem_filter]
    constructor
    · rintro (rfl | ⟨hx, -⟩)
      · exact hy
      · exact hx
    · intro hx
      by_cases hxe : x = y
      · exact Or.inl hxe
      · exact Or.inr ⟨hx, by simpa using fun h2 => hxe (ha.inj hx hy (h2.trans e.symm))⟩
  · cases hd
end Go.Proofs.YtlbjbmpkaniojaaGreat
namespace Go.Proofs.YtlbjbmpkaniojaaGreat
open Go Go.RowKit
def playL : List En → List Chg → Int → List En × Int × Int
  | l, [], _ => (l, -1, 0)
  | l, c :: cs, i => if (doL l c).2 = 0 then playL (doL l c).1 cs (i + 1) else ([], i, (doL l c).2)
/-- the error of a list of changes. -/
def lstL (s : Sg) (cs : List Chg) : Int := if (signB s && cs.all (chgB s)) = true then (if 200 < cs.length then 7 else 0) else 1
theorem lstL_ok {s : Sg} {cs : List Chg} : lstL s cs = 0 ↔ signB s = true ∧ (∀ c ∈ cs, chgB s c = true) ∧ cs.length ≤ 200 := by
  unfold lstL
  split
  · rename_i h
    rw [Bool.and_eq_true, List.all_eq_true] at h
    split
    · constructor
      · intro h; cases h
      · rintro ⟨-, -, h⟩; omega
    · exact ⟨fun _ => ⟨h.1, h.2, by omega⟩, fun _ => rfl⟩
  · rename_i h
    constructor
    · intro h; cases h
    · rintro ⟨h1, h2, -⟩
      exact absurd (by rw [Bool.and_eq_true, List.all_eq_true]; exact ⟨h1, h2⟩) h
theorem edB_nil {s : Sg} (h : signB s = true) : edB s [] = true := edB_iff.2 ⟨⟨h, by simp, by simp, by simp⟩, by simp [AscE]⟩
def apartR (s : Sg) (l : List En) (c d : Chg) : Bool × Int :=
  if (edB s l && (chgB s c && chgB s d)) = true then (decide ((playL l [c, d] 0).2.2 = 0) && (decide ((playL l [d, c] 0).2.2 = 0) && decide ((playL l [c, d] 0).1 = (playL l [d, c] 0).1)), 0) else (false, 1)
def namesL (c : Chg) : List Nm := [c.name, c.new, c.ent.name] ++ c.ent.uses
def aptB (c d : Chg) : Bool := (namesL d).all fun n => !(decide (n ≠ em) && hasN (namesL c) n)
def trC (c : Chg) (y : En) : En := if c.kind = 2 then subE c.ent y else if c.kind = 3 then renE c.name c.new y else y
def goneC (c : Chg) (n : Nm) : Prop := c.kind = 4 ∧ n = c.name
def addC (c : Chg) (z : En) : Prop := c.kind = 1 ∧ z = c.ent
/-- whether a change can be made. -/
inductive OkC (l : List En) (c : Chg) : Prop where
  | add (hk : c.kind = 1) (h1 : ∀ x ∈ l, x.name ≠ c.ent.name) (h2 : l.length < 60)
  | set (hk : c.kind = 2) (h1 : ∃ x ∈ l, x.name = c.ent.name) (h2 : c.ent ∉ l)
  | ren (hk : c.kind = 3) (h1 : ∃ x ∈ l, x.name = c.name) (h2 : ∀ x ∈ l, x.name ≠ c.new) (h3 : ∀ x ∈ l, c.new ∉ x.uses)
  | drop (hk : c.kind = 4) (h1 : ∃ x ∈ l, x.name = c.name) (h2 : ∀ x ∈ l, x.name ≠ c.name → c.name ∉ x.uses)
theorem ChgOK.kinds {s : Sg} {c : Chg} (h : ChgOK s c) : c.kind = 1 ∨ c.kind = 2 ∨ c.kind = 3 ∨ c.kind = 4 := by
  cases h with
  | put h0 h1 hk => omega
  | ren h0 h1 hk => omega
  | drop h0 h1 hk => omega
theorem okC_iff {s : Sg} {l : List En} {c : Chg} (hl : LibOK s l) (hc : ChgOK s c) : (doL l c).2 = 0 ↔ OkC l c := by
  unfold doL
  constructor
  · intro h
    split at h
    · rename_i hk
      split at h
      · cases h
      rename_i hn
      split at h
      · cases h
      rename_i h60
      exact .add hk (hasE_no.1 (by simpa using hn)) (by omega)
    split at h
    · rename_i hk
      split at h
      · rename_i hn
        split at h
        · cases h
        rename_i hm
        exact .set hk (hasE_iff.1 hn) hm
      · cases h
    split at h
    · rename_i hk
      split at h
      · rename_i hn
        split at h
        · cases h
        rename_i hu
        rw [Bool.or_eq_true, not_or] at hu
        exact .ren hk (hasE_iff.1 hn) (hasE_no.1 (by simpa using hu.1)) ((usedB_all hl).1 (by simpa using hu.2))
      · cases h
    rename_i k1 k2 k3
    split at h
    · rename_i hn
      split at h
      · cases h
      rename_i hu
      exact .drop (by have := hc.kinds; omega) (hasE_iff.1 hn) (usedB_no.1 (by simpa using hu))
    · cases h
  · intro h
    cases h with
    | add hk h1 h2 => rw [if_pos hk, if_neg (by rw [hasE_no.2 h1]; simp), if_neg (by omega)]
    | set hk h1 h2 => rw [if_neg (by omega), if_pos hk, if_pos (hasE_iff.2 h1), if_neg h2]
    | ren hk h1 h2 h3 => rw [if_neg (by omega), if_neg (by omega), if_pos hk, if_pos (hasE_iff.2 h1), if_neg (by rw [hasE_no.2 h2, (usedB_all hl).2 h3]; simp)]
    | drop hk h1 h2 => rw [if_neg (by omega), if_neg (by omega), if_neg (by omega), if_pos (hasE_iff.2 h1), if_neg (by rw [usedB_no.2 h2]; simp)]
/-- the members of what a change makes. -/
theorem doL_mem {s : Sg} {l : List En} {c : Chg} (hl : LibOK s l) (hc : ChgOK s c) (h : OkC l c) (z : En) : z ∈ (doL l c).1 ↔ (∃ y ∈ l, ¬ goneC c y.name ∧ z = trC c y) ∨ addC c z := by
  unfold doL goneC trC addC
  cases h with
  | add hk h1 h2 =>
    rw [if_pos hk, if_neg (by rw [hasE_no.2 h1]; simp), if_neg (by omega)]
    simp only [hk]
    rw [putE_mem]
    constructor
    · rintro (h | h)
      · exact Or.inr ⟨by simp, h⟩
      · exact Or.inl ⟨z, h, by simp, by simp⟩
    · rintro (⟨y, hy, -, e⟩ | ⟨-, h⟩)
      · exact Or.inr (by simp at e; rw [e]; exact hy)
      · exact Or.inl h
  | set hk h1 h2 =>
    rw [if_neg (by omega), if_pos hk, if_pos (hasE_iff.2 h1), if_neg h2]
    simp only [hk]
    rw [List.mem_map]
    constructor
    · rintro ⟨y, hy, e⟩
      exact Or.inl ⟨y, hy, by simp, by simp [e]⟩
    · rintro (⟨y, hy, -, e⟩ | ⟨h, -⟩)
      · exact ⟨y, hy, by simpa using e.symm⟩
      · exact absurd h (by decide)
  | ren hk h1 h2 h3 =>
    rw [if_neg (by omega), if_neg (by omega), if_pos hk, if_pos (hasE_iff.2 h1), if_neg (by rw [hasE_no.2 h2, (usedB_all hl).2 h3]; simp)]
    simp only [hk]
    rw [srtE_mem, List.mem_map]
    constructor
    · rintro ⟨y, hy, e⟩
      exact Or.inl ⟨y, hy, by simp, by simp [e]⟩
    · rintro (⟨y, hy, -, e⟩ | ⟨h, -⟩)
      · exact ⟨y, hy, by simpa using e.symm⟩
      · exact absurd h (by decide)
  | drop hk h1 h2 =>
    rw [if_neg (by omega), if_neg (by omega), if_neg (by omega), if_pos (hasE_iff.2 h1), if_neg (by rw [usedB_no.2 h2]; simp)]
    simp only [hk]
    rw [List.mem_filter]
    constructor
    · rintro ⟨h, h'⟩
      exact Or.inl ⟨z, h, by simpa using h', by simp⟩
    · rintro (⟨y, hy, hg, e⟩ | ⟨h, -⟩)
      · simp at e
        subst e
        exact ⟨hy, by simpa using hg⟩
      · exact absurd h (by decide)
/-- the names of a change that are names. -/
def Nam (c : Chg) (n : Nm) : Prop := n ∈ namesL c ∧ n ≠ em
theorem apt_nam {c d : Chg} (h : aptB c d = true) {n : Nm} (hd : Nam d n) (hc : n ∈ namesL c) : False := by
  unfold aptB at h
  rw [List.all_eq_true] at h
  have := h n hd.1
  rw [Bool.not_eq_true', Bool.and_eq_false_iff] at this
  rcases this with h1 | h1
  · simp at h1; exact hd.2 h1
  · exact hasN_no.1 h1 hc
theorem apt_symm {c d : Chg} (h : aptB c d = true) : aptB d c = true := by
  unfold aptB
  rw [List.all_eq_true]
  intro n hn
  rw [Bool.not_eq_true', Bool.and_eq_false_iff]
  by_cases h0 : n = em
  · exact Or.inl (by simp [h0])
  · refine Or.inr (hasN_no.2 fun hd => apt_nam h ⟨hd, h0⟩ hn)
theorem nm_ne {n : Nm} (h : nmB n = true) : n ≠ em := fun e => by
  have := (nmB_len h).1
  rw [e] at this
  exact absurd this (by decide)
theorem mem_names {c : Chg} : c.name ∈ namesL c ∧ c.new ∈ namesL c ∧ c.ent.name ∈ namesL c ∧ ∀ u ∈ c.ent.uses, u ∈ namesL c := by
  unfold namesL
  refine ⟨by simp, by simp, by simp, fun u hu => by simp [hu]⟩
theorem trC_name {s : Sg} {c : Chg} (hc : ChgOK s c) {n : Nm} (hn : n ∉ namesL c) (y : En) : (trC c y).name = n ↔ y.name = n := by
  obtain ⟨m1, m2, m3, m4⟩ := mem_names (c := c)
  unfold trC
  split
  · unfold subE
    split
    · rename_i h; rw [h]
    · rfl
  split
  · show renN c.name c.new y.name = n ↔ _
    unfold renN
    split
    · rename_i h
      constructor
      · intro e; exact absurd (e ▸ m2) hn
      · intro e; exact absurd (by rw [← e, h]; exact m1) hn
    · rfl
  · rfl
theorem trC_uses {c : Chg} {n : Nm} (hn : n ∉ namesL c) {y : En} (h : n ∈ (trC c y).uses) : n ∈ y.uses := by
  obtain ⟨m1, m2, m3, m4⟩ := mem_names (c := c)
  unfold trC at h
  split at h
  · unfold subE at h
    split at h
    · exact absurd (m4 n h) hn
    · exact h
  split at h
  · obtain ⟨v, hv, e⟩ := List.mem_map.1 (show n ∈ y.uses.map (renN c.name c.new) from h)
    unfold renN at e
    split at e
    · exact absurd (e ▸ m2) hn
    · exact e ▸ hv
  · exact h
/-- an entry that names nothing of a change stays. -/
theorem trC_fix {c : Chg} {y : En} (h1 : y.name ∉ namesL c) (h2 : ∀ u ∈ y.uses, u ∉ namesL c) : trC c y = y := by
  obtain ⟨m1, m2, m3, m4⟩ := mem_names (c := c)
  unfold trC
  split
  · unfold subE
    rw [if_neg fun (e : y.name = c.ent.name) => h1 (by rw [e]; exact m3)]
  split
  · unfold renE
    cases y with
    | mk a b c' d e =>
      simp only [En.mk.injEq, true_and, and_true]
      refine ⟨by unfold renN; rw [if_neg fun (e : a = c.name) => h1 (show a ∈ namesL c by rw [e]; exact m1)], ?_⟩
      conv => rhs; rw [← List.map_id d]
      refine List.map_congr_left fun u hu => ?_
      unfold renN
      rw [if_neg fun (e : u = c.name) => h2 u hu (by rw [e]; exact m1)]
      rfl
  · rfl
theorem nam_ent {s : Sg} {c : Chg} (hc : ChgOK s c) (hk : c.kind = 1 ∨ c.kind = 2) : Nam c c.ent.name ∧ ∀ u ∈ c.ent.uses, Nam c u := by
  obtain ⟨m1, m2, m3, m4⟩ := mem_names (c := c)
  cases hc with
  | put h0 h1 hk h2 h3 h4 => exact ⟨⟨m3, nm_ne h4.name⟩, fun u hu => ⟨m4 u hu, nm_ne (h4.uses u hu)⟩⟩
  | ren h0 h1 hk' => omega
  | drop h0 h1 hk' => omega
theorem nam_name {s : Sg} {c : Chg} (hc : ChgOK s c) (hk : c.kind = 3 ∨ c.kind = 4) : Nam c c.name := by
  obtain ⟨m1, m2, m3, m4⟩ := mem_names (c := c)
  cases hc with
  | put h0 h1 hk h2 h3 h4 => omega
  | ren h0 h1 hk' h2 => exact ⟨m1, nm_ne h2⟩
  | drop h0 h1 hk' h2 => exact ⟨m1, nm_ne h2⟩
theorem nam_new {s : Sg} {c : Chg} (hc : ChgOK s c) (hk : c.kind = 3) : Nam c c.new := by
  obtain ⟨m1, m2, m3, m4⟩ := mem_names (c := c)
  cases hc with
  | put h0 h1 hk h2 h3 h4 => omega
  | ren h0 h1 hk' h2 h3 => exact ⟨m2, nm_ne h3⟩
  | drop h0 h1 hk' h2 => omega
theorem renE_sub {x y : En} {n m : Nm} (hx1 : x.name ≠ n) (hx2 : x.name ≠ m) (hf : renE n m x = x) : renE n m (subE x y) = subE x (renE n m y) := by
  unfold subE
  by_cases e : y.name = x.name
  · rw [if_pos e, hf, if_pos]
    show renN n m y.name = x.name
    unfold renN
    rw [if_neg (by rw [e]; exact hx1), e]
  · rw [if_neg e, if_neg]
    show ¬ renN n m y.name = x.name
    unfold renN
    split
    · exact fun e' => hx2 e'.symm
    · exact e
theorem renN_comm {n m n' m' u : Nm} (h1 : n ≠ n') (h2 : m ≠ n') (h3 : m' ≠ n) : renN n' m' (renN n m u) = renN n m (renN n' m' u) := by
  unfold renN
  by_cases e : u = n
  · subst e
    rw [if_pos rfl, if_neg h2, if_neg h1, if_pos rfl]
  · rw [if_neg e]
    by_cases e' : u = n'
    · subst e'
      rw [if_pos rfl, if_neg h3]
    · rw [if_neg e', if_neg e]
theorem trC_comm {s : Sg} {c d : Chg} (hc : ChgOK s c) (hd : ChgOK s d) (ha : aptB c d = true) (y : En) : trC d (trC c y) = trC c (trC d y) := by
  have hb := apt_symm ha
  have no := fun {n : Nm} (h1 : Nam c n) (h2 : n ∈ namesL d) => apt_nam hb h1 h2
  have no' := fun {n : Nm} (h1 : Nam d n) (h2 : n ∈ namesL c) => apt_nam ha h1 h2
  obtain ⟨m1, m2, m3, m4⟩ := mem_names (c := c)
  obtain ⟨q1, q2, q3, q4⟩ := mem_names (c := d)
  by_cases c2 : c.kind = 2
  · obtain ⟨n1, n2⟩ := nam_ent hc (Or.inr c2)
    have hfix := trC_fix (c := d) (y := c.ent) (no n1) (fun u hu => no (n2 u hu))
    have ec : ∀ z, trC c z = subE c.ent z := fun z => by unfold trC; rw [if_pos c2]
    by_cases d2 : d.kind = 2
    · have ed : ∀ z, trC d z = subE d.ent z := fun z => by unfold trC; rw [if_pos d2]
      have hne : c.ent.name ≠ d.ent.name := fun e => no n1 (e ▸ q3)
      rw [ec, ed, ed, ec]
      unfold subE
      have hne' : d.ent.name ≠ c.ent.name := fun e => hne e.symm
      by_cases e1 : y.name = c.ent.name
      · simp [e1, hne]
      · by_cases e2 : y.name = d.ent.name
        · simp [e2, hne']
        · simp [e1, e2]
    by_cases d3 : d.kind = 3
    · have ed : ∀ z, trC d z = renE d.name d.new z := fun z => by unfold trC; rw [if_neg d2, if_pos d3]
      rw [ed] at hfix
      rw [ec, ed, ed, ec]
      exact renE_sub (fun e => no n1 (e ▸ q1)) (fun e => no n1 (e ▸ q2)) hfix
    · have ed : ∀ z, trC d z = z := fun z => by unfold trC; rw [if_neg d2, if_neg d3]
      rw [ed, ed]
  by_cases c3 : c.kind = 3
  · have ec : ∀ z, trC c z = renE c.name c.new z := fun z => by unfold trC; rw [if_neg c2, if_pos c3]
    by_cases d2 : d.kind = 2
    · obtain ⟨n1, n2⟩ := nam_ent hd (Or.inr d2)
      have hfix := trC_fix (c := c) (y := d.ent) (no' n1) (fun u hu => no' (n2 u hu))
      have ed : ∀ z, trC d z = subE d.ent z := fun z => by unfold trC; rw [if_pos d2]
      rw [ec] at hfix
      rw [ec, ed, ed, ec]
      exact (renE_sub (fun e => no' n1 (e ▸ m1)) (fun e => no' n1 (e ▸ m2)) hfix).symm
    by_cases d3 : d.kind = 3
    · have ed : ∀ z, trC d z = renE d.name d.new z := fun z => by unfold trC; rw [if_neg d2, if_pos d3]
      have k1 := nam_name hc (Or.inl c3)
      have k2 := nam_new hc c3
      have k3 := nam_new hd d3
      have hcm : ∀ u, renN d.name d.new (renN c.name c.new u) = renN c.name c.new (renN d.name d.new u) := fun u => renN_comm (fun e => no k1 (e ▸ q1)) (fun e => no k2 (e ▸ q1)) (fun e => no' k3 (e ▸ m1))
      rw [ec, ed, ed, ec]
      unfold renE
      simp only [En.mk.injEq, true_and, and_true, List.map_map]
      exact ⟨hcm _, List.map_congr_left fun u _ => hcm u⟩
    · have ed : ∀ z, trC d z = z := fun z => by unfold trC; rw [if_neg d2, if_neg d3]
      rw [ed, ed]
  · have ec : ∀ z, trC c z = z := fun z => by unfold trC; rw [if_neg c2, if_neg c3]
    rw [ec, ec]
/-- a change that can be made can be made behind one that is apart. -/
theorem okC_next {s : Sg} {l : List En} {c d : Chg} (hl : LibOK s l) (hc : ChgOK s c) (hd : ChgOK s d) (kc : OkC l c) (kd : OkC l d) (ha : aptB c d = true) (h60 : l.length + 2 ≤ 60) (hlen : (doL l c).1.length ≤ l.length + 1) : OkC (doL l c).1 d := by
  have mem := doL_mem hl hc kc
  have no := fun {n : Nm} (h1 : Nam c n) (h2 : n ∈ namesL d) => apt_nam (apt_symm ha) h1 h2
  have no' := fun {n : Nm} (h1 : Nam d n) (h2 : n ∈ namesL c) => apt_nam ha h1 h2
  obtain ⟨m1, m2, m3, m4⟩ := mem_names (c := c)
  obtain ⟨q1, q2, q3, q4⟩ := mem_names (c := d)
  -- a name of d that is there is there still
  have there : ∀ n, Nam d n → (∃ x ∈ l, x.name = n) → ∃ x ∈ (doL l c).1, x.name = n := by
    rintro n hn ⟨x, hx, rfl⟩
    exact ⟨trC c x, (mem _).2 (Or.inl ⟨x, hx, fun hg => no' hn (by rw [hg.2]; exact m1), rfl⟩), (trC_name hc (no' hn) x).2 rfl⟩
  have away : ∀ n, Nam d n → (∀ x ∈ l, x.name ≠ n) → ∀ x ∈ (doL l c).1, x.name ≠ n := by
    intro n hn h x hx e
    rcases (mem x).1 hx with ⟨y, hy, -, rfl⟩ | ⟨hk, rfl⟩
    · exact h y hy ((trC_name hc (no' hn) y).1 e)
    · exact no' hn (e ▸ m3)
  have unused : ∀ n, Nam d n → ∀ x ∈ (doL l c).1, n ∈ x.uses → ∃ y ∈ l, x = trC c y ∧ n ∈ y.uses := by
    intro n hn x hx hu
    rcases (mem x).1 hx with ⟨y, hy, -, rfl⟩ | ⟨hk, rfl⟩
    · exact ⟨y, hy, rfl, trC_uses (no' hn) hu⟩
    · exact absurd (m4 n hu) (no' hn)
  cases kd with
  | add hk h1 h2 => exact .add hk (away _ (nam_ent hd (Or.inl hk)).1 h1) (by omega)
  | set hk h1 h2 =>
    obtain ⟨n1, n2⟩ := nam_ent hd (Or.inr hk)
    refine .set hk (there _ n1 h1) fun hin => ?_
    rcases (mem _).1 hin with ⟨y, hy, -, e⟩ | ⟨-, e⟩
    · have hyn : y.name = d.ent.name := (trC_name hc (no' n1) y).1 (by rw [← e])
      have hfix := trC_fix (c := c) (y := d.ent) (no' n1) (fun u hu => no' (n2 u hu))
      -- y is d.ent
      unfold trC at e
      split at e
      · unfold subE at e
        split at e
        · rename_i e'
          exact no' n1 (by rw [← hyn, e']; exact m3)
        · exact h2 (e ▸ hy)
      split at e
      · rename_i hk3
        have k2 := nam_new hc hk3
        have hu : y.uses.map (renN c.name c.new) = d.ent.uses := (congrArg En.uses e).symm
        have hfix2 : y.uses.map (renN c.name c.new) = y.uses := by
          conv => rhs; rw [← List.map_id y.uses]
          refine List.map_congr_left fun u hu' => ?_
          unfold renN
          split
          · rename_i e2
            have : renN c.name c.new u ∈ d.ent.uses := by rw [← hu]; exact List.mem_map.2 ⟨u, hu', rfl⟩
            unfold renN at this
            rw [if_pos e2] at this
            exact (no k2 (q4 _ this)).elim
          · rfl
        refine h2 ?_
        have hy2 : y = d.ent := by
          rw [e]
          unfold renE
          cases y with
          | mk a b c' d' e' =>
            simp only [En.mk.injEq, true_and, and_true]
            refine ⟨?_, hfix2.symm⟩
            unfold renN
            split
            · rename_i e2
              exact (no' n1 (by rw [← hyn]; show a ∈ _; rw [show a = c.name from e2]; exact m1)).elim
            · rfl
        exact hy2 ▸ hy
      · exact h2 (e ▸ hy)
    · exact no' n1 (by rw [e]; exact m3)
  | ren hk h1 h2 h3 =>
    refine .ren hk (there _ (nam_name hd (Or.inl hk)) h1) (away _ (nam_new hd hk) h2) fun x hx hu => ?_
    obtain ⟨y, hy, -, hyu⟩ := unused _ (nam_new hd hk) x hx hu
    exact h3 y hy hyu
  | drop hk h1 h2 =>
    have n1 := nam_name hd (Or.inr hk)
    refine .drop hk (there _ n1 h1) fun x hx hne hu => ?_
    obtain ⟨y, hy, rfl, hyu⟩ := unused _ n1 x hx hu
    exact h2 y hy (fun e => hne ((trC_name hc (no' n1) y).2 e)) hyu
theorem doL_len {l : List En} {c : Chg} : (doL l c).1.length ≤ l.length + 1 := by
  unfold doL
  repeat' split
  all_goals first
    | (simp; done)
    | (simp [putE_len]; done)
    | (simp [srtE_len]; done)
    | (show (l.map _).length ≤ _; rw [List.length_map]; omega)
    | (show (srtE _).length ≤ _; rw [srtE_len, List.length_map]; omega)
    | (exact Nat.le_trans (List.length_filter_le _ _) (Nat.le_succ _))
/-- changes that name each other nowhere are apart. -/
theorem apart_ok {s : Sg} {l : List En} {c d : Chg} (hl : edB s l = true) (hc : chgB s c = true) (hd : chgB s d = true) (kc : (doL l c).2 = 0) (kd : (doL l d).2 = 0) (h60 : l.length + 2 ≤ 60) (ha : aptB c d = true) : (apartR s l c d).1 = true := by
  have hb := apt_symm ha
  obtain ⟨L, A⟩ := edB_iff.1 hl
  have C := chgB_iff.1 hc
  have D := chgB_iff.1 hd
  have kc' := (okC_iff L C).1 kc
  have kd' := (okC_iff L D).1 kd
  obtain ⟨Lc, Ac⟩ := edB_iff.1 (doL_ed hl hc (Prod.ext rfl kc : doL l c = ((doL l c).1, 0)))
  obtain ⟨Ld, Ad⟩ := edB_iff.1 (doL_ed hl hd (Prod.ext rfl kd : doL l d = ((doL l d).1, 0)))
  have k1 := okC_next L C D kc' kd' ha h60 doL_len
  have k2 := okC_next L D C kd' kc' hb h60 doL_len
  have e1 := (okC_iff Lc D).2 k1
  have e2 := (okC_iff Ld C).2 k2
  obtain ⟨-, A1⟩ := edB_iff.1 (doL_ed (edB_iff.2 ⟨Lc, Ac⟩) hd (Prod.ext rfl e1 : doL (doL l c).1 d = ((doL (doL l c).1 d).1, 0)))
  obtain ⟨-, A2⟩ := edB_iff.1 (doL_ed (edB_iff.2 ⟨Ld, Ad⟩) hc (Prod.ext rfl e2 : doL (doL l d).1 c = ((doL (doL l d).1 c).1, 0)))
  have mm : ∀ (c d : Chg), ChgOK s c → ChgOK s d → OkC l c → LibOK s (doL l c).1 → OkC (doL l c).1 d → aptB c d = true → ∀ z, z ∈ (doL (doL l c).1 d).1 → (∃ y ∈ l, ¬ goneC c y.name ∧ ¬ goneC d y.name ∧ z = trC d (trC c y)) ∨ addC c z ∨ addC d z := by
    intro c d C D kc Lc k1 ha z hz
    have hb := apt_symm ha
    rcases (doL_mem Lc D k1 z).1 hz with ⟨y, hy, hg, rfl⟩ | h
    · rcases (doL_mem L C kc y).1 hy with ⟨x, hx, hg', rfl⟩ | ⟨hk, rfl⟩
      · refine Or.inl ⟨x, hx, hg', fun hg2 => hg ⟨hg2.1, ?_⟩, rfl⟩
        rw [trC_name C (fun h => apt_nam ha (nam_name D (Or.inr hg2.1)) h)]
        exact hg2.2
      · obtain ⟨n1, n2⟩ := nam_ent C (Or.inl hk)
        exact Or.inr (Or.inl ⟨hk, trC_fix (fun h => apt_nam hb n1 h) fun u hu h => apt_nam hb (n2 u hu) h⟩)
    · exact Or.inr (Or.inr h)
  have mm2 : ∀ (c d : Chg), ChgOK s c → ChgOK s d → OkC l c → LibOK s (doL l c).1 → OkC (doL l c).1 d → aptB c d = true → ∀ z, ((∃ y ∈ l, ¬ goneC c y.name ∧ ¬ goneC d y.name ∧ z = trC d (trC c y)) ∨ addC c z ∨ addC d z) → z ∈ (doL (doL l c).1 d).1 := by
    intro c d C D kc Lc k1 ha z hz
    have hb := apt_symm ha
    rw [doL_mem Lc D k1 z]
    rcases hz with ⟨x, hx, hg, hg2, rfl⟩ | ⟨hk, rfl⟩ | h
    · refine Or.inl ⟨trC c x, (doL_mem L C kc _).2 (Or.inl ⟨x, hx, hg, rfl⟩), fun hg3 => hg2 ⟨hg3.1, ?_⟩, rfl⟩
      exact (trC_name C (fun h => apt_nam ha (nam_name D (Or.inr hg3.1)) h) x).1 hg3.2
    · obtain ⟨n1, n2⟩ := nam_ent C (Or.inl hk)
      refine Or.inl ⟨c.ent, (doL_mem L C kc _).2 (Or.inr ⟨hk, rfl⟩), fun hg => ?_, (trC_fix (fun h => apt_nam hb n1 h) fun u hu h => apt_nam hb (n2 u hu) h).symm⟩
      exact apt_nam hb n1 (by rw [hg.2]; exact mem_names.1)
    · exact Or.inr h
  have heq : (doL (doL l c).1 d).1 = (doL (doL l d).1 c).1 := by
    refine AscE.unique A1 A2 fun z => ⟨fun hz => ?_, fun hz => ?_⟩
    · refine mm2 d c D C kd' Ld k2 hb z ?_
      rcases mm c d C D kc' Lc k1 ha z hz with ⟨y, hy, g1, g2, rfl⟩ | h | h
      · exact Or.inl ⟨y, hy, g2, g1, trC_comm C D ha y⟩
      · exact Or.inr (Or.inr h)
      · exact Or.inr (Or.inl h)
    · refine mm2 c d C D kc' Lc k1 ha z ?_
      rcases mm d c D C kd' Ld k2 hb z hz with ⟨y, hy, g1, g2, rfl⟩ | h | h
      · exact Or.inl ⟨y, hy, g2, g1, (trC_comm C D ha y).symm⟩
      · exact Or.inr (Or.inr h)
      · exact Or.inr (Or.inl h)
  unfold apartR
  rw [hl, hc, hd, if_pos (by rfl)]
  have p1 : playL l [c, d] 0 = ((doL (doL l c).1 d).1, -1, 0) := by
    rw [playL, if_pos kc, playL, if_pos e1, playL]
  have p2 : playL l [d, c] 0 = ((doL (doL l d).1 c).1, -1, 0) := by
    rw [playL, if_pos kd, playL, if_pos e2, playL]
  rw [p1, p2, heq]
  simp
end Go.Proofs.YtlbjbmpkaniojaaGreat
namespace Go.Proofs.YtlbjbmpkaniojaaGreat
open Go Go.RowKit
theorem nd_len_le {α : Type} [DecidableEq α] : ∀ {l m : List α}, l.Nodup → (∀ x ∈ l, x ∈ m) → l.length ≤ m.length
  | [], _, _, _ => Nat.zero_le _
  | x :: l, m, h, hs => by
    obtain ⟨h1, h2⟩ := List.nodup_cons.1 h
    have hx := hs x (by simp)
    have := nd_len_le (m := m.erase x) h2 fun y hy => (List.mem_erase_of_ne (fun (e : y = x) => h1 (by rw [← e]; exact hy))).2 (hs y (by simp [hy]))
    rw [List.length_erase_of_mem hx] at this
    have := List.length_pos_of_mem hx
    rw [List.length_cons]
    omega
end Go.Proofs.YtlbjbmpkaniojaaGreat
