/-
  WHAT IT HOLDS: plain words on editions: ascending libraries, changes, what a change makes of an edition, and that it is undone. No program in sight.
  WHAT IT HOLDS: plain words on plays of changes, and that changes which name each other nowhere are apart. No program in sight.
  WHAT IT HOLDS: plain words on the difference of two editions: played in one it makes the other one. No program in sight.
-/
import Derived.Test.YtlbjbmpkaniojaaGreatZRTopUndone34
import Derived.Test.YtlbjbmpkaniojaaGreatZRTopUndone19
namespace Go.Proofs.YtlbjbmpkaniojaaGreat
open Go Go.RowKit
abbrev em : Nm := ⟨#[]⟩
/-- a library in ascending order of names. -/
def AscE (l : List En) : Prop := l.Pairwise fun a b => ltN a.name b.name
instance (l : List En) : Decidable (AscE l) := inferInstanceAs (Decidable (l.Pairwise fun a b => ltN a.name b.name))
theorem AscE.unique {l m : List En} (h : AscE l) (k : AscE m) (e : ∀ x, x ∈ l ↔ x ∈ m) : l = m :=
  asc_unique (R := fun a b : En => ltN a.name b.name) (fun a => ltN.irr a.name) (fun h k => ltN.trans h k) h k e
theorem AscE.nd {l : List En} (h : AscE l) : (l.map En.name).Nodup := by
  rw [List.Nodup, List.pairwise_map]
  exact h.imp fun h e => by rw [e] at h; exact ltN.irr _ h
theorem AscE.inj {l : List En} (h : AscE l) {x y : En} (hx : x ∈ l) (hy : y ∈ l) (e : x.name = y.name) : x = y := by
  obtain ⟨i, hi, rfl⟩ := List.getElem_of_mem hx
  obtain ⟨j, hj, rfl⟩ := List.getElem_of_mem hy
  have h1 := idxN_nd h.nd hi
  have h2 := idxN_nd h.nd hj
  rw [e, h2] at h1
  cases h1
  rfl
theorem idxN_has (l : List En) (n : Nm) : (idxN l n).isSome = hasN (l.map En.name) n := by
  unfold idxN hasN
  rw [List.findIdx?_isSome]
theorem hasE_iff {l : List En} {n : Nm} : hasN (l.map En.name) n = true ↔ ∃ x ∈ l, x.name = n := by
  rw [hasN_iff, List.mem_map]
theorem hasE_no {l : List En} {n : Nm} : hasN (l.map En.name) n = false ↔ ∀ x ∈ l, x.name ≠ n := by
  rw [Bool.eq_false_iff, ne_eq, hasE_iff]
  constructor
  · intro h x hx e; exact h ⟨x, hx, e⟩
  · rintro h ⟨x, hx, e⟩; exact h x hx e
/-- an ascending list with an entry more in its place. -/
def putE (x : En) : List En → List En
  | [] => [x]
  | y :: l => if ltN x.name y.name then x :: y :: l else y :: putE x l
theorem putE_mem {x z : En} : ∀ {l : List En}, z ∈ putE x l ↔ z = x ∨ z ∈ l
  | [] => by simp [putE]
  | y :: l => by
    unfold putE
    split
    · simp
    · rw [List.mem_cons, putE_mem, List.mem_cons]; constructor <;> (intro h; rcases h with h | h | h <;> simp [h])
theorem putE_len {x : En} : ∀ {l : List En}, (putE x l).length = l.length + 1
  | [] => rfl
  | y :: l => by
    unfold putE
    split
    · rfl
    · simp [putE_len]
theorem putE_asc {x : En} : ∀ {l : List En}, AscE l → (∀ y ∈ l, y.name ≠ x.name) → AscE (putE x l)
  | [], _, _ => by simp [putE, AscE]
  | y :: l, h, hn => by
    obtain ⟨h1, h2⟩ := List.pairwise_cons.1 h
    unfold putE
    split
    · rename_i hy
      exact List.pairwise_cons.2 ⟨fun z hz => by
        rcases List.mem_cons.1 hz with rfl | hz
        · exact hy
        · exact hy.trans (h1 z hz), h⟩
    · rename_i hy
      have hyx : ltN y.name x.name := by
        rcases ltN.tri y.name x.name with k | k | k
        · exact k
        · exact (hn y (by simp) k).elim
        · exact (hy k).elim
      refine List.pairwise_cons.2 ⟨fun z hz => ?_, putE_asc h2 fun z hz => hn z (by simp [hz])⟩
      rcases putE_mem.1 hz with rfl | hz
      · exact hyx
      · exact h1 z hz
/-- a library in ascending order. -/
def srtE (l : List En) : List En := l.foldl (fun o x => putE x o) []
theorem srtE_mem {z : En} (l : List En) : z ∈ srtE l ↔ z ∈ l := by
  have key : ∀ (l o : List En), z ∈ l.foldl (fun o x => putE x o) o ↔ z ∈ o ∨ z ∈ l := by
    intro l
    induction l with
    | nil => intro o; simp
    | cons x l ih =>
      intro o
      rw [List.foldl_cons, ih, putE_mem, List.mem_cons]
      constructor
      · rintro ((h | h) | h) <;> simp [h]
      · rintro (h | h | h) <;> simp [h]
  rw [srtE, key]; simp
theorem srtE_len (l : List En) : (srtE l).length = l.length := by
  have key : ∀ (l o : List En), (l.foldl (fun o x => putE x o) o).length = o.length + l.length := by
    intro l
    induction l with
    | nil => intro o; simp
    | cons x l ih =>
      intro o
      rw [List.foldl_cons, ih, putE_len, List.length_cons]; omega
  rw [srtE, key]; simp
theorem srtE_asc {l : List En} (h : (l.map En.name).Nodup) : AscE (srtE l) := by
  have key : ∀ (l o : List En), AscE o → (l.map En.name).Nodup → (∀ x ∈ l, ∀ y ∈ o, y.name ≠ x.name) → AscE (l.foldl (fun o x => putE x o) o) := by
    intro l
    induction l with
    | nil => intro o h _ _; exact h
    | cons x l ih =>
      intro o h hn hd
      rw [List.foldl_cons]
      rw [List.map_cons, List.nodup_cons] at hn
      refine ih _ (putE_asc h (hd x (by simp))) hn.2 fun z hz y hy => ?_
      rcases putE_mem.1 hy with rfl | hy
      · intro e; exact hn.1 (List.mem_map.2 ⟨z, hz, e.symm⟩)
      · exact hd z (by simp [hz]) y hy
  exact key l [] (by simp [AscE]) h (by simp)
/-- what is sorted and has no name twice is the ascending list. -/
theorem srt_eq {L M pre : List En} (hp : L.Perm pre) (hs : L.Pairwise fun a b => ¬ ltN b.name a.name) (hn : (pre.map En.name).Nodup) (hm : AscE M) (e : ∀ x, x ∈ M ↔ x ∈ pre) : L = M := by
  have hn' : (L.map En.name).Nodup := (hp.map En.name).nodup_iff.2 hn
  rw [List.Nodup, List.pairwise_map] at hn'
  refine AscE.unique ((hs.and hn').imp fun {a b} ⟨h1, h2⟩ => ?_) hm fun x => by rw [hp.mem_iff, e]
  rcases ltN.tri a.name b.name with k | k | k
  · exact k
  · exact absurd k h2
  · exact absurd k h1
/-- a change: its kind, by whom it is, the names, the entry. -/
structure Chg where
  kind : Int
  who : Nm
  name : Nm
  new : Nm
  ent : En
deriving DecidableEq
def edB (s : Sg) (l : List En) : Bool := libB s l && decide (AscE l)
theorem edB_iff {s : Sg} {l : List En} : edB s l = true ↔ LibOK s l ∧ AscE l := by
  unfold edB
  rw [Bool.and_eq_true, libB_iff, decide_eq_true_eq]
def chgB (s : Sg) (c : Chg) : Bool :=
  signB s && (nmB c.who && (if c.kind = 1 ∨ c.kind = 2 then decide (c.name = em) && (decide (c.new = em) && entryB s c.ent)
    else if c.kind = 3 then nmB c.name && (nmB c.new && (decide (c.name ≠ c.new) && decide (c.ent = en0)))
    else if c.kind = 4 then nmB c.name && (decide (c.new = em) && decide (c.ent = en0)) else false))
inductive ChgOK (s : Sg) (c : Chg) : Prop where
  | put (h0 : signB s = true) (h1 : nmB c.who = true) (hk : c.kind = 1 ∨ c.kind = 2) (h2 : c.name = em) (h3 : c.new = em) (h4 : EnOK s c.ent)
  | ren (h0 : signB s = true) (h1 : nmB c.who = true) (hk : c.kind = 3) (h2 : nmB c.name = true) (h3 : nmB c.new = true) (h4 : c.name ≠ c.new) (h5 : c.ent = en0)
  | drop (h0 : signB s = true) (h1 : nmB c.who = true) (hk : c.kind = 4) (h2 : nmB c.name = true) (h3 : c.new = em) (h5 : c.ent = en0)
theorem chgB_iff {s : Sg} {c : Chg} : chgB s c = true ↔ ChgOK s c := by
  unfold chgB
  constructor
  · intro h
    rw [Bool.and_eq_true, Bool.and_eq_true] at h
    obtain ⟨h0, h1, h⟩ := h
    split at h
    · rename_i hk
      simp only [Bool.and_eq_true, decide_eq_true_eq] at h
      exact .put h0 h1 hk h.1 h.2.1 (entryB_iff.1 h.2.2)
    split at h
    · rename_i hk
      simp only [Bool.and_eq_true, decide_eq_true_eq] at h
      exact .ren h0 h1 hk h.1 h.2.1 h.2.2.1 h.2.2.2
    split at h
    · rename_i hk
      simp only [Bool.and_eq_true, decide_eq_true_eq] at h
      exact .drop h0 h1 hk h.1 h.2.1 h.2.2
    · cases h
  · intro h
    cases h with
    | put h0 h1 hk h2 h3 h4 => rw [h0, h1, if_pos hk, h2, h3, entryB_iff.2 h4]; rfl
    | ren h0 h1 hk h2 h3 h4 h5 => rw [h0, h1, if_neg (by omega), if_pos hk, h2, h3, h5]; simp [h4]
    | drop h0 h1 hk h2 h3 h5 => rw [h0, h1, if_neg (by omega), if_neg (by omega), if_pos hk, h2, h3, h5]; simp
/-- whether an entry, but the one with a name, uses a name. -/
def usedB (l : List En) (n but : Nm) : Bool := l.any fun x => decide (x.name ≠ but) && hasN x.uses n
theorem usedB_no {l : List En} {n but : Nm} : usedB l n but = false ↔ ∀ x ∈ l, x.name ≠ but → n ∉ x.uses := by
  unfold usedB
  rw [List.any_eq_false]
  constructor
  · intro h x hx hb hu
    exact h x hx (by rw [Bool.and_eq_true]; exact ⟨by simpa using hb, hasN_iff.2 hu⟩)
  · intro h x hx hc
    rw [Bool.and_eq_true] at hc
    exact h x hx (by simpa using hc.1) (hasN_iff.1 hc.2)
def subE (x y : En) : En := if y.name = x.name then x else y
def renN (n m u : Nm) : Nm := if u = n then m else u
def renE (n m : Nm) (x : En) : En := { x with name := renN n m x.name, uses := x.uses.map (renN n m) }
/-- what a change makes of an edition. -/
def doL (l : List En) (c : Chg) : List En × Int :=
  if c.kind = 1 then
    if hasN (l.map En.name) c.ent.name then ([], 6) else if 60 ≤ l.length then ([], 4) else (putE c.ent l, 0)
  else if c.kind = 2 then
    if hasN (l.map En.name) c.ent.name then if c.ent ∈ l then ([], 8) else (l.map (subE c.ent), 0) else ([], 5)
  else if c.kind = 3 then
    if hasN (l.map En.name) c.name then if hasN (l.map En.name) c.new || usedB l c.new em then ([], 6) else (srtE (l.map (renE c.name c.new)), 0) else ([], 5)
  else
    if hasN (l.map En.name) c.name then if usedB l c.name c.name then ([], 10) else (l.filter (fun x => decide (x.name ≠ c.name)), 0) else ([], 5)
/-- the change that undoes a change; error 10 if there is none. -/
def atN (l : List En) (n : Nm) : En := (l.find? fun x => decide (x.name = n)).getD en0
theorem atN_of {l : List En} (h : AscE l) {x : En} (hx : x ∈ l) : atN l x.name = x := by
  unfold atN
  cases hf : l.find? fun y => decide (y.name = x.name) with
  | none =>
    rw [List.find?_eq_none] at hf
    exact absurd (by simp) (hf x hx)
  | some y =>
    have h1 := List.mem_of_find?_eq_some hf
    have h2 := List.find?_some hf
    exact h.inj h1 hx (by simpa using h2)
def chg0 : Chg := ⟨0, em, em, em, en0⟩
def undoC (l : List En) (c : Chg) : Chg :=
  if c.kind = 1 then ⟨4, c.who, c.ent.name, em, en0⟩
  else if c.kind = 2 then ⟨2, c.who, em, em, atN l c.ent.name⟩
  else if c.kind = 3 then ⟨3, c.who, c.new, c.name, en0⟩
  else ⟨1, c.who, em, em, atN l c.name⟩
def undoL (s : Sg) (l : List En) (c : Chg) : Chg × Int :=
  if edB s l && chgB s c then
    if (doL l c).2 = 0 then if c.kind = 1 ∧ usedB l c.ent.name c.ent.name = true then (chg0, 10) else (undoC l c, 0) else (chg0, (doL l c).2)
  else (chg0, 1)
def madeL (s : Sg) (l : List En) (c : Chg) : List En × Int := if edB s l && chgB s c then doL l c else ([], 1)
theorem nd_of_asc {l : List En} (h : AscE l) : l.Nodup := h.imp fun h e => by rw [e] at h; exact ltN.irr _ h
theorem ChgOK.sign {s : Sg} {c : Chg} (h : ChgOK s c) : signB s = true := by cases h <;> assumption
theorem ChgOK.who {s : Sg} {c : Chg} (h : ChgOK s c) : nmB c.who = true := by cases h <;> assumption
theorem renN_inj {n m : Nm} {l : List Nm} (hm : m ∉ l) {u v : Nm} (hu : u ∈ l) (hv : v ∈ l) (e : renN n m u = renN n m v) : u = v := by
  unfold renN at e
  split at e <;> split at e
  · rename_i h1 h2; rw [h1, h2]
  · exact absurd (e ▸ hv) hm
  · exact absurd (e ▸ hu) hm
  · exact e
theorem nd_map_on {α β : Type} {f : α → β} : ∀ {l : List α}, l.Nodup → (∀ x ∈ l, ∀ y ∈ l, f x = f y → x = y) → (l.map f).Nodup
  | [], _, _ => by simp
  | x :: l, h, hf => by
    obtain ⟨h1, h2⟩ := List.nodup_cons.1 h
    rw [List.map_cons, List.nodup_cons]
    refine ⟨fun hx => ?_, nd_map_on h2 fun a ha b hb => hf a (by simp [ha]) b (by simp [hb])⟩
    obtain ⟨y, hy, e⟩ := List.mem_map.1 hx
    exact h1 (hf y (by simp [hy]) x (by simp) e ▸ hy)
theorem ren_names (n m : Nm) (l : List En) : (l.map (renE n m)).map En.name = (l.map En.name).map (renN n m) := by
  rw [List.map_map, List.map_map]; rfl
theorem ren_nd {l : List En} {n m : Nm} (h : (l.map En.name).Nodup) (hm : hasN (l.map En.name) m = false) : ((l.map (renE n m)).map En.name).Nodup := by
  rw [ren_names]
  exact nd_map_on h fun x hx y hy e => renN_inj (hasN_no.1 hm) hx hy e
theorem renE_ok {s : Sg} {x : En} {n m : Nm} (h : EnOK s x) (hm : nmB m = true) (hu : m ∉ x.uses) : EnOK s (renE n m x) where
  name := by unfold renE renN; dsimp only; split; exact hm; exact h.name
  who := h.who
  says := h.says
  can := h.can
  len := by show (x.uses.map _).length ≤ 12; rw [List.length_map]; exact h.len
  nd := nd_map_on h.nd fun a ha b hb e => renN_inj hu ha hb e
  uses := fun u hu => by
    obtain ⟨v, hv, rfl⟩ := List.mem_map.1 hu
    unfold renN; split
    · exact hm
    · exact h.uses v hv
  ax := fun h0 => by show (x.uses.map _).length = 0; rw [List.length_map]; exact h.ax h0
  proof := fun h0 => by show proofB (x.uses.map _).length x.proof = true; rw [List.length_map]; exact h.proof h0
theorem sub_names (x : En) (l : List En) : (l.map (subE x)).map En.name = l.map En.name := by
  rw [List.map_map]
  refine List.map_congr_left fun y _ => ?_
  show (subE x y).name = y.name
  unfold subE
  split
  · rename_i h; exact h.symm
  · rfl
theorem ascE_names {l m : List En} (e : l.map En.name = m.map En.name) (h : AscE l) : AscE m := by
  have h' : (l.map En.name).Pairwise ltN := List.pairwise_map.2 h
  rw [e] at h'
  exact List.pairwise_map.1 h'
theorem usedB_all {s : Sg} {l : List En} (h : LibOK s l) {n : Nm} : usedB l n em = false ↔ ∀ x ∈ l, n ∉ x.uses := by
  rw [usedB_no]
  refine ⟨fun k x hx => k x hx fun e => ?_, fun k x hx _ => k x hx⟩
  have := nmB_len (h.ents x hx).name
  rw [e] at this
  exact absurd this.1 (by decide)
/-- what is made of an edition is an edition. -/
theorem doL_ed {s : Sg} {l l' : List En} {c : Chg} (h : edB s l = true) (hc : chgB s c = true) (hd : doL l c = (l', 0)) : edB s l' = true := by
  obtain ⟨hl, ha⟩ := edB_iff.1 h
  have hc := chgB_iff.1 hc
  rw [edB_iff]
  unfold doL at hd
  split at hd
  · rename_i hk
    have h4 : EnOK s c.ent := by
      cases hc with
      | put h0 h1 hk h2 h3 h4 => exact h4
      | ren h0 h1 hk' => omega
      | drop h0 h1 hk' => omega
    split at hd
    · cases hd
    rename_i hn
    split at hd
    · cases hd
    rename_i h60
    cases hd
    have hn' := hasE_no.1 (by simpa using hn : hasN (l.map En.name) c.ent.name = false)
    refine ⟨⟨hl.sign, by rw [putE_len]; omega, fun x hx => ?_, (putE_asc ha hn').nd⟩, putE_asc ha hn'⟩
    rcases putE_mem.1 hx with rfl | hx
    · exact h4
    · exact hl.ents x hx
  split at hd
  · rename_i hk1 hk
    have h4 : EnOK s c.ent := by
      cases hc with
      | put h0 h1 hk h2 h3 h4 => exact h4
      | ren h0 h1 hk' => omega
      | drop h0 h1 hk' => omega
    split at hd
    · split at hd
      · cases hd
      cases hd
      have ha' := ascE_names (sub_names c.ent l).symm ha
      refine ⟨⟨hl.sign, by rw [List.length_map]; exact hl.len, fun x hx => ?_, ha'.nd⟩, ha'⟩
      obtain ⟨y, hy, rfl⟩ := List.mem_map.1 hx
      unfold subE
      split
      · exact h4
      · exact hl.ents y hy
    · cases hd
  split at hd
  · rename_i hk1 hk2 hk
    have h3 : nmB c.new = true := by
      cases hc with
      | put h0 h1 hk' => omega
      | ren h0 h1 hk' h2 h3 => exact h3
      | drop h0 h1 hk' => omega
    split at hd
    · split at hd
      · cases hd
      rename_i hu
      cases hd
      rw [Bool.or_eq_true, not_or] at hu
      have h1 : hasN (l.map En.name) c.new = false := by simpa using hu.1
      have h2 := (usedB_all hl).1 (by simpa using hu.2 : usedB l c.new em = false)
      have ha' := srtE_asc (ren_nd (n := c.name) hl.nd h1)
      refine ⟨⟨hl.sign, by rw [srtE_len, List.length_map]; exact hl.len, fun x hx => ?_, ha'.nd⟩, ha'⟩
      obtain ⟨y, hy, rfl⟩ := List.mem_map.1 ((srtE_mem _).1 hx)
      exact renE_ok (hl.ents y hy) h3 (h2 y hy)
    · cases hd
  split at hd
  · split at hd
    · cases hd
    cases hd
    have ha' : AscE (l.filter fun x => decide (x.name ≠ c.name)) := List.Pairwise.sublist List.filter_sublist ha
    exact ⟨⟨hl.sign, Nat.le_trans (List.length_filter_le _ _) hl.len, fun x hx => hl.ents x (List.mem_filter.1 hx).1, ha'.nd⟩, ha'⟩
  · cases hd
theorem sub_mem {l : List En} (ha : AscE l) {x : En} (hn : hasN (l.map En.name) x.name = true) {z : En} : z ∈ l.map (subE x) ↔ z = x ∨ (z ∈ l ∧ z.name ≠ x.name) := by
  rw [List.mem_map]
  constructor
  · rintro ⟨y, hy, rfl⟩
    unfold subE
    split
    · exact Or.inl rfl
    · rename_i h; exact Or.inr ⟨hy, h⟩
  · rintro (rfl | ⟨h1, h2⟩)
    · obtain ⟨y, hy, e⟩ := hasE_iff.1 hn
      exact ⟨y, hy, by unfold subE; rw [if_pos e]⟩
    · exact ⟨z, h1, by unfold subE; rw [if_neg h2]⟩
theorem renN_back {n m : Nm} {u : Nm} (h : u ≠ m) : renN m n (renN n m u) = u := by
  unfold renN
  by_cases e : u = n
  · rw [if_pos e, if_pos rfl, e]
  · rw [if_neg e, if_neg h]
theorem renE_back {n m : Nm} {x : En} (h1 : x.name ≠ m) (h2 : m ∉ x.uses) : renE m n (renE n m x) = x := by
  unfold renE
  cases x with
  | mk a b c d e =>
    simp only [En.mk.injEq, true_and, List.map_map, and_true]
    refine ⟨renN_back h1, ?_⟩
    conv => rhs; rw [← List.map_id d]
    refine List.map_congr_left fun u hu => ?_
    show renN m n (renN n m u) = u
    exact renN_back fun e => h2 (e ▸ hu)
/-- a change that can be undone is undone by what undoL answers. -/
theorem undo_back {s : Sg} {l l' : List En} {c u : Chg} (h : edB s l = true) (hc : chgB s c = true) (hd : doL l c = (l', 0)) (hu : undoL s l c = (u, 0)) : chgB s u = true ∧ doL l' u = (l, 0) := by
  obtain ⟨hl, ha⟩ := edB_iff.1 h
  have hc' := chgB_iff.1 hc
  obtain ⟨hl', ha'⟩ := edB_iff.1 (doL_ed h hc hd)
  unfold undoL at hu
  rw [h, hc, Bool.true_and, if_pos rfl, hd, if_pos rfl] at hu
  split at hu
  · cases hu
  rename_i hk0
  cases hu
  unfold undoC
  unfold doL at hd
  split at hd
  · rename_i hk
    rw [if_pos hk]
    have h4 : EnOK s c.ent := by
      cases hc' with
      | put h0 h1 hk h2 h3 h4 => exact h4
      | ren h0 h1 hk' => omega
      | drop h0 h1 hk' => omega
    split at hd
    · cases hd
    rename_i hn
    split at hd
    · cases hd
    rename_i h60
    cases hd
    have hn' := hasE_no.1 (by simpa using hn : hasN (l.map En.name) c.ent.name = false)
    have hus : usedB l c.ent.name c.ent.name = false := by
      cases hx : usedB l c.ent.name c.ent.name with
      | false => rfl
      | true => exact absurd ⟨hk, hx⟩ hk0
    refine ⟨chgB_iff.2 (.drop hl.sign hc'.who rfl h4.name rfl rfl), ?_⟩
    unfold doL
    rw [if_neg (by simp), if_neg (by simp), if_neg (by simp), if_pos (hasE_iff.2 ⟨c.ent, putE_mem.2 (Or.inl rfl), rfl⟩)]
    have hus' : usedB (putE c.ent l) c.ent.name c.ent.name = false := by
      rw [usedB_no] at hus ⊢
      intro x hx hb
      rcases putE_mem.1 hx with rfl | hx
      · exact absurd rfl hb
      · exact hus x hx hb
    rw [if_neg (by show ¬ usedB (putE c.ent l) c.ent.name c.ent.name = true; rw [hus']; simp)]
    refine Prod.ext (AscE.unique (List.Pairwise.sublist List.filter_sublist ha') ha fun x => ?_) rfl
    rw [List.mem_filter, putE_mem]
    constructor
    · rintro ⟨rfl | hx, h2⟩
      · simp at h2
      · exact hx
    · intro hx
      exact ⟨Or.inr hx, by simpa using hn' x hx⟩
  rename_i hk1
  rw [if_neg hk1]
  split at hd
  · rename_i hk
    rw [if_pos hk]
    split at hd
    · rename_i hn
      split at hd
      · cases hd
      rename_i hnm
      cases hd
      obtain ⟨y, hy, e⟩ := hasE_iff.1 hn
      have hat : atN l c.ent.name = y := by rw [← e]; exact atN_of ha hy
      rw [hat]
      refine ⟨chgB_iff.2 (.put hl.sign hc'.who (Or.inr rfl) rfl rfl (hl.ents y hy)), ?_⟩
      unfold doL
      rw [if_neg (by simp), if_pos rfl]
      have hn2 : hasN ((l.map (subE c.ent)).map En.name) y.name = true := by rw [sub_names, e]; exact hn
      rw [if_pos hn2, if_neg]
      · refine Prod.ext (AscE.unique (ascE_names (sub_names _ _).symm ha') ha fun x => ?_) rfl
        rw [sub_mem ha' hn2, sub_mem ha hn]
        constructor
        · rintro (rfl | ⟨rfl | ⟨hx, -⟩, h2⟩)
          · exact hy
          · exact absurd e.symm h2
          · exact hx
        · intro hx
          by_cases hxe : x = y
          · exact Or.inl hxe
          · exact Or.inr ⟨Or.inr ⟨hx, fun h2 => hxe (ha.inj hx hy (h2.trans e.symm))⟩, fun h2 => hxe (ha.inj hx hy h2)⟩
      · intro hin
        rcases (sub_mem ha hn).1 hin with hx | ⟨-, h2⟩
        · exact hnm (hx ▸ hy)
        · exact h2 e
    · cases hd
  rename_i hk2
  rw [if_neg hk2]
  split at hd
  · rename_i hk
    rw [if_pos hk]
    obtain ⟨h2, h3, h4⟩ : nmB c.name = true ∧ nmB c.new = true ∧ c.name ≠ c.new := by
      cases hc' with
      | put h0 h1 hk' => omega
      | ren h0 h1 hk' h2 h3 h4 => exact ⟨h2, h3, h4⟩
      | drop h0 h1 hk' => omega
    split at hd
    · rename_i hn
      split at hd
      · cases hd
      rename_i hu
      cases hd
      rw [Bool.or_eq_true, not_or] at hu
      have q1 : hasN (l.map En.name) c.new = false := by simpa using hu.1
      have q2 := (usedB_all hl).1 (by simpa using hu.2 : usedB l c.new em = false)
      refine ⟨chgB_iff.2 (.ren hl.sign hc'.who rfl h3 h2 (fun e => h4 e.symm) rfl), ?_⟩
      unfold doL
      rw [if_neg (by simp), if_neg (by simp), if_pos rfl]
      obtain ⟨y, hy, e⟩ := hasE_iff.1 hn
      have m1 : hasN ((srtE (l.map (renE c.name c.new))).map En.name) c.new = true := hasE_iff.2 ⟨renE c.name c.new y, (srtE_mem _).2 (List.mem_map.2 ⟨y, hy, rfl⟩), by show renN c.name c.new y.name = c.new; unfold renN; rw [if_pos e]⟩
      have m2 : hasN ((srtE (l.map (renE c.name c.new))).map En.name) c.name = false := hasE_no.2 fun x hx e => by
        obtain ⟨z, hz, rfl⟩ := List.mem_map.1 ((srtE_mem _).1 hx)
        have e : renN c.name c.new z.name = c.name := e
        unfold renN at e
        split at e
        · exact h4 e.symm
        · rename_i h; exact h e
      have m3 : usedB (srtE (l.map (renE c.name c.new))) c.name em = false := by
        rw [usedB_all hl']
        intro x hx hu
        obtain ⟨z, hz, rfl⟩ := List.mem_map.1 ((srtE_mem _).1 hx)
        obtain ⟨v, hv, e⟩ := List.mem_map.1 (show c.name ∈ z.uses.map (renN c.name c.new) from hu)
        unfold renN at e
        split at e
        · exact h4 e.symm
        · rename_i h; exact h e
      rw [if_pos m1, if_neg (by show ¬ (hasN ((srtE (l.map (renE c.name c.new))).map En.name) c.name || usedB (srtE (l.map (renE c.name c.new))) c.name em) = true; rw [m2, m3]; simp)]
      refine Prod.ext (AscE.unique (srtE_asc (ren_nd hl'.nd m2)) ha fun x => ?_) rfl
      rw [srtE_mem, List.mem_map]
      constructor
      · rintro ⟨z, hz, rfl⟩
        obtain ⟨v, hv, rfl⟩ := List.mem_map.1 ((srtE_mem _).1 hz)
        rw [show renE c.new c.name (renE c.name c.new v) = v from renE_back (hasE_no.1 q1 v hv) (q2 v hv)]
        exact hv
      · intro hx
        exact ⟨renE c.name c.new x, (srtE_mem _).2 (List.mem_map.2 ⟨x, hx, rfl⟩), renE_back (hasE_no.1 q1 x hx) (q2 x hx)⟩
    · cases hd
  rename_i hk3
  rw [if_neg hk3]
  split at hd
  · rename_i hn
    split at hd
    · cases hd
    rename_i hu
    cases hd
    obtain ⟨y, hy, e⟩ := hasE_iff.1 hn
    have hat : atN l c.name = y := by rw [← e]; exact atN_of ha hy
    rw [hat]
    refine ⟨chgB_iff.2 (.put hl.sign hc'.who (Or.inl rfl) rfl rfl (hl.ents y hy)), ?_⟩
    unfold doL
    rw [if_pos rfl]
    have m1 : hasN ((l.filter fun x => decide (x.name ≠ c.name)).map En.name) y.name = false := hasE_no.2 fun x hx e' => by
      have := (List.mem_filter.1 hx).2
      simp at this
      exact this (e'.trans e)
    have m2 : (l.filter fun x => decide (x.name ≠ c.name)).length < l.length := by
      refine Nat.lt_of_le_of_ne (List.length_filter_le _ _) fun he => ?_
      rw [List.length_filter_eq_length_iff] at he
      have := he y hy
      simp [e] at this
    rw [if_neg (by show ¬ hasN ((l.filter fun x => decide (x.name ≠ c.name)).map En.name) y.name = true; rw [m1]; simp), if_neg (by have := hl.len; omega)]
    refine Prod.ext (AscE.unique (putE_asc (List.Pairwise.sublist List.filter_sublist ha) (hasE_no.1 m1)) ha fun x => ?_) rfl
    rw [putE_mem, List.mem_filter]
    constructor
    · rintro (rfl | ⟨hx, -⟩)
      · exact hy
      · exact hx
    · intro hx
      by_cases hxe : x = y
      · exact Or.inl hxe
      · exact Or.inr ⟨hx, by simpa using fun h2 => hxe (ha.inj hx hy (h2.trans e.symm))⟩
  · cases hd
end Go.Proofs.YtlbjbmpkaniojaaGreat
namespace Go.Proofs.YtlbjbmpkaniojaaGreat
open Go Go.RowKit
def playL : List En → List Chg → Int → List En × Int × Int
  | l, [], _ => (l, -1, 0)
  | l, c :: cs, i => if (doL l c).2 = 0 then playL (doL l c).1 cs (i + 1) else ([], i, (doL l c).2)
/-- the error of a list of changes. -/
def lstL (s : Sg) (cs : List Chg) : Int := if (signB s && cs.all (chgB s)) = true then (if 200 < cs.length then 7 else 0) else 1
def askL (s : Sg) (l : List En) (cs : List Chg) : Int := if edB s l = true then lstL s cs else 1
def playedL (s : Sg) (l : List En) (cs : List Chg) : List En × Int × Int := if askL s l cs = 0 then playL l cs 0 else ([], 0, askL s l cs)
theorem lstL_ok {s : Sg} {cs : List Chg} : lstL s cs = 0 ↔ signB s = true ∧ (∀ c ∈ cs, chgB s c = true) ∧ cs.length ≤ 200 := by
  unfold lstL
  split
  · rename_i h
    rw [Bool.and_eq_true, List.all_eq_true] at h
    split
    · constructor
      · intro h; cases h
      · rintro ⟨-, -, h⟩; omega
    · exact ⟨fun _ => ⟨h.1, h.2, by omega⟩, fun _ => rfl⟩
  · rename_i h
    constructor
    · intro h; cases h
    · rintro ⟨h1, h2, -⟩
      exact absurd (by rw [Bool.and_eq_true, List.all_eq_true]; exact ⟨h1, h2⟩) h
/-- whether a change can be made. -/
inductive OkC (l : List En) (c : Chg) : Prop where
  | add (hk : c.kind = 1) (h1 : ∀ x ∈ l, x.name ≠ c.ent.name) (h2 : l.length < 60)
  | set (hk : c.kind = 2) (h1 : ∃ x ∈ l, x.name = c.ent.name) (h2 : c.ent ∉ l)
  | ren (hk : c.kind = 3) (h1 : ∃ x ∈ l, x.name = c.name) (h2 : ∀ x ∈ l, x.name ≠ c.new) (h3 : ∀ x ∈ l, c.new ∉ x.uses)
  | drop (hk : c.kind = 4) (h1 : ∃ x ∈ l, x.name = c.name) (h2 : ∀ x ∈ l, x.name ≠ c.name → c.name ∉ x.uses)
theorem ChgOK.kinds {s : Sg} {c : Chg} (h : ChgOK s c) : c.kind = 1 ∨ c.kind = 2 ∨ c.kind = 3 ∨ c.kind = 4 := by
  cases h with
  | put h0 h1 hk => omega
  | ren h0 h1 hk => omega
  | drop h0 h1 hk => omega
theorem okC_iff {s : Sg} {l : List En} {c : Chg} (hl : LibOK s l) (hc : ChgOK s c) : (doL l c).2 = 0 ↔ OkC l c := by
  unfold doL
  constructor
  · intro h
    split at h
    · rename_i hk
      split at h
      · cases h
      rename_i hn
      split at h
      · cases h
      rename_i h60
      exact .add hk (hasE_no.1 (by simpa using hn)) (by omega)
    split at h
    · rename_i hk
      split at h
      · rename_i hn
        split at h
        · cases h
        rename_i hm
        exact .set hk (hasE_iff.1 hn) hm
      · cases h
    split at h
    · rename_i hk
      split at h
      · rename_i hn
        split at h
        · cases h
        rename_i hu
        rw [Bool.or_eq_true, not_or] at hu
        exact .ren hk (hasE_iff.1 hn) (hasE_no.1 (by simpa using hu.1)) ((usedB_all hl).1 (by simpa using hu.2))
      · cases h
    rename_i k1 k2 k3
    split at h
    · rename_i hn
      split at h
      · cases h
      rename_i hu
      exact .drop (by have := hc.kinds; omega) (hasE_iff.1 hn) (usedB_no.1 (by simpa using hu))
    · cases h
  · intro h
    cases h with
    | add hk h1 h2 => rw [if_pos hk, if_neg (by rw [hasE_no.2 h1]; simp), if_neg (by omega)]
    | set hk h1 h2 => rw [if_neg (by omega), if_pos hk, if_pos (hasE_iff.2 h1), if_neg h2]
    | ren hk h1 h2 h3 => rw [if_neg (by omega), if_neg (by omega), if_pos hk, if_pos (hasE_iff.2 h1), if_neg (by rw [hasE_no.2 h2, (usedB_all hl).2 h3]; simp)]
    | drop hk h1 h2 => rw [if_neg (by omega), if_neg (by omega), if_neg (by omega), if_pos (hasE_iff.2 h1), if_neg (by rw [usedB_no.2 h2]; simp)]
end Go.Proofs.YtlbjbmpkaniojaaGreat
namespace Go.Proofs.YtlbjbmpkaniojaaGreat
open Go Go.RowKit
def setC (who : Nm) (x : En) : Chg := ⟨2, who, em, em, x⟩
def dropC (who n : Nm) : Chg := ⟨4, who, n, em, en0⟩
def addCh (who : Nm) (x : En) : Chg := ⟨1, who, em, em, x⟩
/-- whether an entry of b is another one in a. -/
def difB (a : List En) (x : En) : Bool := hasN (a.map En.name) x.name && !decide (x ∈ a)
def now0 (a b : List En) : List En := b.foldl (fun now x => now.map (subE x)) a
def gonB (b : List En) (x : En) : Bool := !hasN (b.map En.name) x.name
def lastD (now b : List En) : Option En := (now.filter fun x => gonB b x && !usedB now x.name x.name).getLast?
def dropsL : Nat → List En → List En → Option (List Nm)
  | 0, _, _ => some []
  | k + 1, now, b => if now.any (gonB b) then match lastD now b with
    | none => none
    | some x => (dropsL k (now.filter fun y => decide (y.name ≠ x.name)) b).map (x.name :: ·)
    else some []
def diffL (s : Sg) (a b : List En) (who : Nm) : List Chg × Int :=
  if (edB s a && (edB s b && nmB who)) = true then match dropsL a.length (now0 a b) b with
    | none => ([], 10)
    | some ds => (((b.filter (difB a)).map (setC who) ++ ds.map (dropC who)) ++ (b.filter (gonB a)).map (addCh who), 0)
  else ([], 1)
theorem sub_same {l : List En} (ha : AscE l) {x : En} (h : x ∈ l) : l.map (subE x) = l := by
  conv => rhs; rw [← List.map_id l]
  refine List.map_congr_left fun y hy => ?_
  unfold subE
  split
  · rename_i e; exact (ha.inj hy h e).symm
  · rfl
theorem sub_none {l : List En} {x : En} (h : hasN (l.map En.name) x.name = false) : l.map (subE x) = l := by
  conv => rhs; rw [← List.map_id l]
  refine List.map_congr_left fun y hy => ?_
  unfold subE
  rw [if_neg (hasE_no.1 h y hy)]
  rfl
/-- one round of the sets: only an entry that is another one is put in. -/
theorem sub_dif {l : List En} (ha : AscE l) {x : En} (h : difB l x = false) : l.map (subE x) = l := by
  unfold difB at h
  rw [Bool.and_eq_false_iff] at h
  rcases h with h | h
  · exact sub_none h
  · exact sub_same ha (by simpa using h)
theorem fold_names : ∀ (b a : List En), (now0 a b).map En.name = a.map En.name
  | [], a => rfl
  | x :: b, a => by
    show (now0 (a.map (subE x)) b).map En.name = _
    rw [fold_names b, sub_names]
theorem now0_asc {a : List En} (h : AscE a) (b : List En) : AscE (now0 a b) := ascE_names (fold_names b a).symm h
/-- what stands behind the sets: of b's entries those of b, the others as they were. -/
theorem now0_mem : ∀ (b a : List En), (b.map En.name).Nodup → ∀ {z : En}, z ∈ now0 a b → z ∈ b ∨ (z ∈ a ∧ hasN (b.map En.name) z.name = false)
  | [], a, _, z, h => Or.inr ⟨h, rfl⟩
  | x :: b, a, hn, z, h => by
    rw [List.map_cons, List.nodup_cons] at hn
    rcases now0_mem b _ hn.2 h with h | ⟨h1, h2⟩
    · exact Or.inl (by simp [h])
    · obtain ⟨y, hy, rfl⟩ := List.mem_map.1 h1
      unfold subE at h2 ⊢
      by_cases e : y.name = x.name
      · rw [if_pos e]; exact Or.inl (by simp)
      · rw [if_neg e] at h2 ⊢
        refine Or.inr ⟨hy, ?_⟩
        rw [hasN_no] at h2 ⊢
        rw [List.map_cons, List.mem_cons, not_or]
        exact ⟨e, h2⟩
/-- an entry not set yet is the one of a. -/
theorem dif_now {b' : List En} {x : En} (hx : x.name ∉ b'.map En.name) : ∀ (a : List En), difB (now0 a b') x = difB a x := by
  induction b' with
  | nil => intro a; rfl
  | cons y b' ih =>
    intro a
    rw [List.map_cons, List.mem_cons, not_or] at hx
    show difB (now0 (a.map (subE y)) b') x = _
    rw [ih hx.2]
    unfold difB
    rw [sub_names]
    congr 2
    refine decide_eq_decide.2 ⟨fun h => ?_, fun h => ?_⟩
    · obtain ⟨z, hz, e⟩ := List.mem_map.1 h
      unfold subE at e
      split at e
      · exact absurd (by rw [e]) hx.1
      · exact e ▸ hz
    · refine List.mem_map.2 ⟨x, h, ?_⟩
      unfold subE
      rw [if_neg hx.1]
theorem doL_set {l : List En} {who : Nm} {x : En} (h : difB l x = true) : doL l (setC who x) = (l.map (subE x), 0) := by
  unfold difB at h
  rw [Bool.and_eq_true, Bool.not_eq_true', decide_eq_false_iff_not] at h
  unfold doL setC
  rw [if_neg (by simp), if_pos rfl, if_pos h.1, if_neg h.2]
theorem play_sets {who : Nm} : ∀ (b : List En) (a : List En) (cs : List Chg) (i : Int), AscE a → (b.map En.name).Nodup → ∃ j, playL a ((b.filter (difB a)).map (setC who) ++ cs) i = playL (now0 a b) cs j
  | [], a, cs, i, _, _ => ⟨i, rfl⟩
  | x :: b, a, cs, i, ha, hn => by
    rw [List.map_cons, List.nodup_cons] at hn
    have hf : b.filter (difB a) = b.filter (difB (a.map (subE x))) := by
      refine List.filter_congr fun y hy => ?_
      have := dif_now (b' := [x]) (x := y) (by
        intro h
        have h : y.name = x.name := by simpa using h
        exact hn.1 (List.mem_map.2 ⟨y, hy, h⟩)) a
      exact this.symm
    have ha' := ascE_names (sub_names x a).symm ha
    cases hd : difB a x with
    | true =>
      rw [List.filter_cons_of_pos hd, List.map_cons, List.cons_append, playL, if_pos (by rw [doL_set hd]), doL_set hd, hf]
      exact play_sets b _ cs _ ha' hn.2
    | false =>
      rw [List.filter_cons_of_neg (by rw [hd]; simp)]
      have e := sub_dif ha hd
      obtain ⟨j, hj⟩ := play_sets b a cs i ha hn.2
      exact ⟨j, by rw [hj]; show _ = playL (now0 (a.map (subE x)) b) cs j; rw [e]⟩
theorem lastD_some {now b : List En} {x : En} (h : lastD now b = some x) : x ∈ now ∧ gonB b x = true ∧ usedB now x.name x.name = false := by
  have := List.mem_of_getLast? h
  obtain ⟨h1, h2⟩ := List.mem_filter.1 this
  rw [Bool.and_eq_true, Bool.not_eq_true'] at h2
  exact ⟨h1, h2.1, h2.2⟩
theorem doL_drop {l : List En} {who n : Nm} (h : hasN (l.map En.name) n = true) (hu : usedB l n n = false) : doL l (dropC who n) = (l.filter (fun x => decide (x.name ≠ n)), 0) := by
  unfold doL dropC
  rw [if_neg (by simp), if_neg (by simp), if_neg (by simp), if_pos h, if_neg (by rw [hu]; simp)]
theorem play_drops {who : Nm} {b : List En} : ∀ (k : Nat) (now : List En) (ds : List Nm) (cs : List Chg) (i : Int), now.length ≤ k → dropsL k now b = some ds → ∃ j, playL now (ds.map (dropC who) ++ cs) i = playL (now.filter fun x => !gonB b x) cs j
  | 0, now, ds, cs, i, hk, h => by
    cases h
    have : now = [] := List.length_eq_zero_iff.1 (by omega)
    subst this
    exact ⟨i, rfl⟩
  | k + 1, now, ds, cs, i, hk, h => by
    unfold dropsL at h
    split at h
    · split at h
      · cases h
      rename_i x hx
      obtain ⟨h1, h2, h3⟩ := lastD_some hx
      obtain ⟨ds', hd, rfl⟩ := Option.map_eq_some_iff.1 h
      have hh : hasN (now.map En.name) x.name = true := hasE_iff.2 ⟨x, h1, rfl⟩
      rw [List.map_cons, List.cons_append, playL, if_pos (by rw [doL_drop hh h3]), doL_drop hh h3]
      have hlt : (now.filter fun y => decide (y.name ≠ x.name)).length < now.length := by
        refine Nat.lt_of_le_of_ne (List.length_filter_le _ _) fun he => ?_
        rw [List.length_filter_eq_length_iff] at he
        have := he x h1
        simp at this
      obtain ⟨j, hj⟩ := play_drops k _ ds' cs (i + 1) (by omega) hd
      refine ⟨j, hj.trans ?_⟩
      congr 1
      rw [List.filter_filter]
      refine List.filter_congr fun y hy => ?_
      by_cases e : y.name = x.name
      · have : gonB b y = true := by unfold gonB at h2 ⊢; rw [e]; exact h2
        rw [this]; rfl
      · simp [e]
    · rename_i hg
      cases h
      refine ⟨i, ?_⟩
      rw [List.map_nil, List.nil_append]
      congr 1
      refine (List.filter_eq_self.2 fun y hy => ?_).symm
      rw [Bool.not_eq_true, List.any_eq_false] at hg
      simpa using hg y hy
theorem dropsL_mem {b : List En} : ∀ (k : Nat) (now : List En) (ds : List Nm), dropsL k now b = some ds → (∀ n ∈ ds, ∃ x ∈ now, x.name = n) ∧ ds.length ≤ k
  | 0, now, ds, h => by cases h; exact ⟨by simp, by simp⟩
  | k + 1, now, ds, h => by
    unfold dropsL at h
    split at h
    · split at h
      · cases h
      rename_i x hx
      obtain ⟨ds', hd, rfl⟩ := Option.map_eq_some_iff.1 h
      obtain ⟨h1, h2⟩ := dropsL_mem k _ ds' hd
      refine ⟨fun n hn => ?_, by simp; omega⟩
      rcases List.mem_cons.1 hn with rfl | hn
      · exact ⟨x, (lastD_some hx).1, rfl⟩
      · obtain ⟨y, hy, e⟩ := h1 n hn
        exact ⟨y, (List.mem_filter.1 hy).1, e⟩
    · cases h; exact ⟨by simp, by simp⟩
theorem play_adds {who : Nm} : ∀ (xs now : List En) (i : Int), AscE now → (xs.map En.name).Nodup → (∀ x ∈ xs, ∀ y ∈ now, y.name ≠ x.name) → now.length + xs.length ≤ 60 → ∃ M, playL now (xs.map (addCh who)) i = (M, -1, 0) ∧ AscE M ∧ ∀ z, z ∈ M ↔ z ∈ now ∨ z ∈ xs
  | [], now, i, ha, _, _, _ => ⟨now, rfl, ha, by simp⟩
  | x :: xs, now, i, ha, hn, hd, hl => by
    rw [List.map_cons, List.nodup_cons] at hn
    rw [List.length_cons] at hl
    have hno : hasN (now.map En.name) x.name = false := hasE_no.2 (hd x (by simp))
    have e : doL now (addCh who x) = (putE x now, 0) := by
      unfold doL addCh
      rw [if_pos rfl, if_neg (by show ¬ hasN (now.map En.name) x.name = true; rw [hno]; simp), if_neg (by omega)]
    rw [List.map_cons, playL, if_pos (by rw [e]), e]
    obtain ⟨M, h1, h2, h3⟩ := play_adds xs (putE x now) (i + 1) (putE_asc ha (hd x (by simp))) hn.2 (fun z hz y hy => by
      rcases putE_mem.1 hy with rfl | hy
      · intro e; exact hn.1 (List.mem_map.2 ⟨z, hz, e.symm⟩)
      · exact hd z (by simp [hz]) y hy) (by rw [putE_len]; omega)
    refine ⟨M, h1, h2, fun z => ?_⟩
    rw [h3, putE_mem, List.mem_cons]
    constructor
    · rintro ((h | h) | h) <;> simp [h]
    · rintro (h | h | h) <;> simp [h]
theorem nd_len_le {α : Type} [DecidableEq α] : ∀ {l m : List α}, l.Nodup → (∀ x ∈ l, x ∈ m) → l.length ≤ m.length
  | [], _, _, _ => Nat.zero_le _
  | x :: l, m, h, hs => by
    obtain ⟨h1, h2⟩ := List.nodup_cons.1 h
    have hx := hs x (by simp)
    have := nd_len_le (m := m.erase x) h2 fun y hy => (List.mem_erase_of_ne (fun (e : y = x) => h1 (by rw [← e]; exact hy))).2 (hs y (by simp [hy]))
    rw [List.length_erase_of_mem hx] at this
    have := List.length_pos_of_mem hx
    rw [List.length_cons]
    omega
/-- the difference, played in a, makes b. -/
theorem diff_played {s : Sg} {a b : List En} {who : Nm} (h : (diffL s a b who).2 = 0) : playedL s a (diffL s a b who).1 = (b, -1, 0) := by
  unfold diffL at h ⊢
  split at h
  case isFalse => cases h
  rename_i hh
  rw [if_pos hh]
  rw [Bool.and_eq_true, Bool.and_eq_true] at hh
  obtain ⟨Ha, Hb, hw⟩ := hh
  obtain ⟨La, Aa⟩ := edB_iff.1 Ha
  obtain ⟨Lb, Ab⟩ := edB_iff.1 Hb
  split at h
  · cases h
  rename_i ds hds
  obtain ⟨hm, hdl⟩ := dropsL_mem _ _ _ hds
  have hall : ∀ c ∈ ((b.filter (difB a)).map (setC who) ++ ds.map (dropC who)) ++ (b.filter (gonB a)).map (addCh who), chgB s c = true := by
    intro c hc
    rw [List.mem_append, List.mem_append] at hc
    rcases hc with (hc | hc) | hc
    · obtain ⟨x, hx, rfl⟩ := List.mem_map.1 hc
      exact chgB_iff.2 (.put La.sign hw (Or.inr rfl) rfl rfl (Lb.ents x (List.mem_filter.1 hx).1))
    · obtain ⟨n, hn, rfl⟩ := List.mem_map.1 hc
      obtain ⟨x, hx, rfl⟩ := hm n hn
      obtain ⟨y, hy, e⟩ := List.mem_map.1 (show x.name ∈ a.map En.name by rw [← fold_names b a]; exact List.mem_map.2 ⟨x, hx, rfl⟩)
      exact chgB_iff.2 (.drop La.sign hw rfl (show nmB x.name = true from e ▸ (La.ents y hy).name) rfl rfl)
    · obtain ⟨x, hx, rfl⟩ := List.mem_map.1 hc
      exact chgB_iff.2 (.put La.sign hw (Or.inl rfl) rfl rfl (Lb.ents x (List.mem_filter.1 hx).1))
  have h200 : (((b.filter (difB a)).map (setC who) ++ ds.map (dropC who)) ++ (b.filter (gonB a)).map (addCh who)).length ≤ 200 := by
    simp only [List.length_append, List.length_map]
    have := List.length_filter_le (difB a) b
    have := List.length_filter_le (gonB a) b
    have := La.len
    have := Lb.len
    omega
  unfold playedL
  have hask : askL s a (((b.filter (difB a)).map (setC who) ++ ds.map (dropC who)) ++ (b.filter (gonB a)).map (addCh who)) = 0 := by
    unfold askL
    rw [if_pos Ha]
    exact lstL_ok.2 ⟨La.sign, hall, h200⟩
  rw [if_pos hask, List.append_assoc]
  obtain ⟨j, hj⟩ := play_sets (who := who) b a (ds.map (dropC who) ++ (b.filter (gonB a)).map (addCh who)) 0 Aa Ab.nd
  have hlen : (now0 a b).length = a.length := by
    have := congrArg List.length (fold_names b a)
    simpa using this
  obtain ⟨j', hj'⟩ := play_drops (who := who) (b := b) a.length (now0 a b) ds ((b.filter (gonB a)).map (addCh who)) j (by rw [hlen]; exact Nat.le_refl _) hds
  rw [hj, hj']
  have An := now0_asc Aa b
  have Af : AscE ((now0 a b).filter fun x => !gonB b x) := List.Pairwise.sublist List.filter_sublist An
  -- what stands behind the drops is of b
  have hin : ∀ z ∈ (now0 a b).filter fun x => !gonB b x, z ∈ b := by
    intro z hz
    obtain ⟨h1, h2⟩ := List.mem_filter.1 hz
    rcases now0_mem b a Ab.nd h1 with h | ⟨-, h⟩
    · exact h
    · unfold gonB at h2
      rw [h] at h2
      cases h2
  have hna : ∀ z ∈ (now0 a b).filter fun x => !gonB b x, hasN (a.map En.name) z.name = true := by
    intro z hz
    rw [← fold_names b a]
    exact hasE_iff.2 ⟨z, (List.mem_filter.1 hz).1, rfl⟩
  have hdis : ∀ x ∈ b.filter (gonB a), ∀ y ∈ (now0 a b).filter (fun x => !gonB b x), y.name ≠ x.name := by
    intro x hx y hy e
    have h1 := hna y hy
    have h2 := (List.mem_filter.1 hx).2
    unfold gonB at h2
    rw [← e, h1] at h2
    cases h2
  have hA : ((b.filter (gonB a)).map En.name).Nodup := Ab.nd.sublist (List.filter_sublist.map En.name)
  have hl60 : ((now0 a b).filter fun x => !gonB b x).length + (b.filter (gonB a)).length ≤ 60 := by
    have hnd : (((now0 a b).filter fun x => !gonB b x) ++ b.filter (gonB a)).Nodup := by
      rw [List.nodup_append]
      refine ⟨nd_of_asc Af, (nd_of_asc Ab).sublist List.filter_sublist, fun x hx y hy e => ?_⟩
      exact hdis y hy x hx (by rw [e])
    have hsub : ∀ z ∈ ((now0 a b).filter fun x => !gonB b x) ++ b.filter (gonB a), z ∈ b := by
      intro z hz
      rcases List.mem_append.1 hz with h | h
      · exact hin z h
      · exact (List.mem_filter.1 h).1
    have := nd_len_le hnd hsub
    rw [List.length_append] at this
    have := Lb.len
    omega
  obtain ⟨M, h1, h2, h3⟩ := play_adds (who := who) (b.filter (gonB a)) _ j' Af hA hdis hl60
  rw [h1]
  rw [AscE.unique h2 Ab fun z => ?_]
  rw [h3]
  constructor
  · rintro (h | h)
    · exact hin z h
    · exact (List.mem_filter.1 h).1
  · intro hz
    cases hg : gonB a z with
    | true => exact Or.inr (List.mem_filter.2 ⟨hz, hg⟩)
    | false =>
      refine Or.inl (List.mem_filter.2 ⟨?_, ?_⟩)
      · unfold gonB at hg
        rw [Bool.not_eq_false', ← fold_names b a] at hg
        obtain ⟨y, hy, e⟩ := hasE_iff.1 hg
        rcases now0_mem b a Ab.nd hy with h | ⟨-, h⟩
        · exact (Ab.inj h hz e) ▸ hy
        · rw [e] at h
          exact absurd rfl (hasE_no.1 h z hz)
      · show (!gonB b z) = true
        unfold gonB
        rw [hasE_iff.2 ⟨z, hz, rfl⟩]; rfl
end Go.Proofs.YtlbjbmpkaniojaaGreat
