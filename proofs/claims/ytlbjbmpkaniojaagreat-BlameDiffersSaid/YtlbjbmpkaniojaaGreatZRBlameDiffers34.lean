/-
  WHAT IT HOLDS: plain words on plays of changes, and that changes which name each other nowhere are apart. No program in sight.
  WHAT IT HOLDS: plain words on the difference of two editions: played in one it makes the other one. No program in sight.
  WHAT IT HOLDS: contracts of Valid and valid of package blame: whether changes are valid. Conditions: the arguments read as data; small signs.
  WHAT IT HOLDS: contracts of SameChange and SameChanges of the reference of layer 9 at changes that are the same. Conditions: the arguments read as data.
  WHAT IT HOLDS: contract of SameChanges of the reference of layer 9 at lists that are the same. Conditions: the arguments read as data. Printed by wip/gen_sc.py.
-/
import Derived.Deep.RegionHeld3
import Derived.Test.YtlbjbmpkaniojaaGreatZRBlameDiffers33
import Derived.Test.YtlbjbmpkaniojaaGreatZRBlameDiffers25
namespace Go.Proofs.YtlbjbmpkaniojaaGreat
open Go Go.RowKit
def playL : List En → List Chg → Int → List En × Int × Int
  | l, [], _ => (l, -1, 0)
  | l, c :: cs, i => if (doL l c).2 = 0 then playL (doL l c).1 cs (i + 1) else ([], i, (doL l c).2)
/-- the error of a list of changes. -/
def lstL (s : Sg) (cs : List Chg) : Int := if (signB s && cs.all (chgB s)) = true then (if 200 < cs.length then 7 else 0) else 1
def askL (s : Sg) (l : List En) (cs : List Chg) : Int := if edB s l = true then lstL s cs else 1
def playedL (s : Sg) (l : List En) (cs : List Chg) : List En × Int × Int := if askL s l cs = 0 then playL l cs 0 else ([], 0, askL s l cs)
theorem lstL_ok {s : Sg} {cs : List Chg} : lstL s cs = 0 ↔ signB s = true ∧ (∀ c ∈ cs, chgB s c = true) ∧ cs.length ≤ 200 := by
  unfold lstL
  split
  · rename_i h
    rw [Bool.and_eq_true, List.all_eq_true] at h
    split
    · constructor
      · intro h; cases h
      · rintro ⟨-, -, h⟩; omega
    · exact ⟨fun _ => ⟨h.1, h.2, by omega⟩, fun _ => rfl⟩
  · rename_i h
    constructor
    · intro h; cases h
    · rintro ⟨h1, h2, -⟩
      exact absurd (by rw [Bool.and_eq_true, List.all_eq_true]; exact ⟨h1, h2⟩) h
theorem edB_nil {s : Sg} (h : signB s = true) : edB s [] = true := edB_iff.2 ⟨⟨h, by simp, by simp, by simp⟩, by simp [AscE]⟩
def trC (c : Chg) (y : En) : En := if c.kind = 2 then subE c.ent y else if c.kind = 3 then renE c.name c.new y else y
def goneC (c : Chg) (n : Nm) : Prop := c.kind = 4 ∧ n = c.name
def addC (c : Chg) (z : En) : Prop := c.kind = 1 ∧ z = c.ent
/-- whether a change can be made. -/
inductive OkC (l : List En) (c : Chg) : Prop where
  | add (hk : c.kind = 1) (h1 : ∀ x ∈ l, x.name ≠ c.ent.name) (h2 : l.length < 60)
  | set (hk : c.kind = 2) (h1 : ∃ x ∈ l, x.name = c.ent.name) (h2 : c.ent ∉ l)
  | ren (hk : c.kind = 3) (h1 : ∃ x ∈ l, x.name = c.name) (h2 : ∀ x ∈ l, x.name ≠ c.new) (h3 : ∀ x ∈ l, c.new ∉ x.uses)
  | drop (hk : c.kind = 4) (h1 : ∃ x ∈ l, x.name = c.name) (h2 : ∀ x ∈ l, x.name ≠ c.name → c.name ∉ x.uses)
theorem ChgOK.kinds {s : Sg} {c : Chg} (h : ChgOK s c) : c.kind = 1 ∨ c.kind = 2 ∨ c.kind = 3 ∨ c.kind = 4 := by
  cases h with
  | put h0 h1 hk => omega
  | ren h0 h1 hk => omega
  | drop h0 h1 hk => omega
theorem okC_iff {s : Sg} {l : List En} {c : Chg} (hl : LibOK s l) (hc : ChgOK s c) : (doL l c).2 = 0 ↔ OkC l c := by
  unfold doL
  constructor
  · intro h
    split at h
    · rename_i hk
      split at h
      · cases h
      rename_i hn
      split at h
      · cases h
      rename_i h60
      exact .add hk (hasE_no.1 (by simpa using hn)) (by omega)
    split at h
    · rename_i hk
      split at h
      · rename_i hn
        split at h
        · cases h
        rename_i hm
        exact .set hk (hasE_iff.1 hn) hm
      · cases h
    split at h
    · rename_i hk
      split at h
      · rename_i hn
        split at h
        · cases h
        rename_i hu
        rw [Bool.or_eq_true, not_or] at hu
        exact .ren hk (hasE_iff.1 hn) (hasE_no.1 (by simpa using hu.1)) ((usedB_all hl).1 (by simpa using hu.2))
      · cases h
    rename_i k1 k2 k3
    split at h
    · rename_i hn
      split at h
      · cases h
      rename_i hu
      exact .drop (by have := hc.kinds; omega) (hasE_iff.1 hn) (usedB_no.1 (by simpa using hu))
    · cases h
  · intro h
    cases h with
    | add hk h1 h2 => rw [if_pos hk, if_neg (by rw [hasE_no.2 h1]; simp), if_neg (by omega)]
    | set hk h1 h2 => rw [if_neg (by omega), if_pos hk, if_pos (hasE_iff.2 h1), if_neg h2]
    | ren hk h1 h2 h3 => rw [if_neg (by omega), if_neg (by omega), if_pos hk, if_pos (hasE_iff.2 h1), if_neg (by rw [hasE_no.2 h2, (usedB_all hl).2 h3]; simp)]
    | drop hk h1 h2 => rw [if_neg (by omega), if_neg (by omega), if_neg (by omega), if_pos (hasE_iff.2 h1), if_neg (by rw [usedB_no.2 h2]; simp)]
/-- the members of what a change makes. -/
theorem doL_mem {s : Sg} {l : List En} {c : Chg} (hl : LibOK s l) (hc : ChgOK s c) (h : OkC l c) (z : En) : z ∈ (doL l c).1 ↔ (∃ y ∈ l, ¬ goneC c y.name ∧ z = trC c y) ∨ addC c z := by
  unfold doL goneC trC addC
  cases h with
  | add hk h1 h2 =>
    rw [if_pos hk, if_neg (by rw [hasE_no.2 h1]; simp), if_neg (by omega)]
    simp only [hk]
    rw [putE_mem]
    constructor
    · rintro (h | h)
      · exact Or.inr ⟨by simp, h⟩
      · exact Or.inl ⟨z, h, by simp, by simp⟩
    · rintro (⟨y, hy, -, e⟩ | ⟨-, h⟩)
      · exact Or.inr (by simp at e; rw [e]; exact hy)
      · exact Or.inl h
  | set hk h1 h2 =>
    rw [if_neg (by omega), if_pos hk, if_pos (hasE_iff.2 h1), if_neg h2]
    simp only [hk]
    rw [List.mem_map]
    constructor
    · rintro ⟨y, hy, e⟩
      exact Or.inl ⟨y, hy, by simp, by simp [e]⟩
    · rintro (⟨y, hy, -, e⟩ | ⟨h, -⟩)
      · exact ⟨y, hy, by simpa using e.symm⟩
      · exact absurd h (by decide)
  | ren hk h1 h2 h3 =>
    rw [if_neg (by omega), if_neg (by omega), if_pos hk, if_pos (hasE_iff.2 h1), if_neg (by rw [hasE_no.2 h2, (usedB_all hl).2 h3]; simp)]
    simp only [hk]
    rw [srtE_mem, List.mem_map]
    constructor
    · rintro ⟨y, hy, e⟩
      exact Or.inl ⟨y, hy, by simp, by simp [e]⟩
    · rintro (⟨y, hy, -, e⟩ | ⟨h, -⟩)
      · exact ⟨y, hy, by simpa using e.symm⟩
      · exact absurd h (by decide)
  | drop hk h1 h2 =>
    rw [if_neg (by omega), if_neg (by omega), if_neg (by omega), if_pos (hasE_iff.2 h1), if_neg (by rw [usedB_no.2 h2]; simp)]
    simp only [hk]
    rw [List.mem_filter]
    constructor
    · rintro ⟨h, h'⟩
      exact Or.inl ⟨z, h, by simpa using h', by simp⟩
    · rintro (⟨y, hy, hg, e⟩ | ⟨h, -⟩)
      · simp at e
        subst e
        exact ⟨hy, by simpa using hg⟩
      · exact absurd h (by decide)
theorem nm_ne {n : Nm} (h : nmB n = true) : n ≠ em := fun e => by
  have := (nmB_len h).1
  rw [e] at this
  exact absurd this (by decide)
end Go.Proofs.YtlbjbmpkaniojaaGreat
namespace Go.Proofs.YtlbjbmpkaniojaaGreat
open Go Go.RowKit
def setC (who : Nm) (x : En) : Chg := ⟨2, who, em, em, x⟩
def dropC (who n : Nm) : Chg := ⟨4, who, n, em, en0⟩
def addCh (who : Nm) (x : En) : Chg := ⟨1, who, em, em, x⟩
/-- whether an entry of b is another one in a. -/
def difB (a : List En) (x : En) : Bool := hasN (a.map En.name) x.name && !decide (x ∈ a)
def now0 (a b : List En) : List En := b.foldl (fun now x => now.map (subE x)) a
def gonB (b : List En) (x : En) : Bool := !hasN (b.map En.name) x.name
def lastD (now b : List En) : Option En := (now.filter fun x => gonB b x && !usedB now x.name x.name).getLast?
def dropsL : Nat → List En → List En → Option (List Nm)
  | 0, _, _ => some []
  | k + 1, now, b => if now.any (gonB b) then match lastD now b with
    | none => none
    | some x => (dropsL k (now.filter fun y => decide (y.name ≠ x.name)) b).map (x.name :: ·)
    else some []
def diffL (s : Sg) (a b : List En) (who : Nm) : List Chg × Int :=
  if (edB s a && (edB s b && nmB who)) = true then match dropsL a.length (now0 a b) b with
    | none => ([], 10)
    | some ds => (((b.filter (difB a)).map (setC who) ++ ds.map (dropC who)) ++ (b.filter (gonB a)).map (addCh who), 0)
  else ([], 1)
theorem sub_same {l : List En} (ha : AscE l) {x : En} (h : x ∈ l) : l.map (subE x) = l := by
  conv => rhs; rw [← List.map_id l]
  refine List.map_congr_left fun y hy => ?_
  unfold subE
  split
  · rename_i e; exact (ha.inj hy h e).symm
  · rfl
theorem sub_none {l : List En} {x : En} (h : hasN (l.map En.name) x.name = false) : l.map (subE x) = l := by
  conv => rhs; rw [← List.map_id l]
  refine List.map_congr_left fun y hy => ?_
  unfold subE
  rw [if_neg (hasE_no.1 h y hy)]
  rfl
/-- one round of the sets: only an entry that is another one is put in. -/
theorem sub_dif {l : List En} (ha : AscE l) {x : En} (h : difB l x = false) : l.map (subE x) = l := by
  unfold difB at h
  rw [Bool.and_eq_false_iff] at h
  rcases h with h | h
  · exact sub_none h
  · exact sub_same ha (by simpa using h)
theorem fold_names : ∀ (b a : List En), (now0 a b).map En.name = a.map En.name
  | [], a => rfl
  | x :: b, a => by
    show (now0 (a.map (subE x)) b).map En.name = _
    rw [fold_names b, sub_names]
theorem now0_asc {a : List En} (h : AscE a) (b : List En) : AscE (now0 a b) := ascE_names (fold_names b a).symm h
/-- what stands behind the sets: of b's entries those of b, the others as they were. -/
theorem now0_mem : ∀ (b a : List En), (b.map En.name).Nodup → ∀ {z : En}, z ∈ now0 a b → z ∈ b ∨ (z ∈ a ∧ hasN (b.map En.name) z.name = false)
  | [], a, _, z, h => Or.inr ⟨h, rfl⟩
  | x :: b, a, hn, z, h => by
    rw [List.map_cons, List.nodup_cons] at hn
    rcases now0_mem b _ hn.2 h with h | ⟨h1, h2⟩
    · exact Or.inl (by simp [h])
    · obtain ⟨y, hy, rfl⟩ := List.mem_map.1 h1
      unfold subE at h2 ⊢
      by_cases e : y.name = x.name
      · rw [if_pos e]; exact Or.inl (by simp)
      · rw [if_neg e] at h2 ⊢
        refine Or.inr ⟨hy, ?_⟩
        rw [hasN_no] at h2 ⊢
        rw [List.map_cons, List.mem_cons, not_or]
        exact ⟨e, h2⟩
/-- an entry not set yet is the one of a. -/
theorem dif_now {b' : List En} {x : En} (hx : x.name ∉ b'.map En.name) : ∀ (a : List En), difB (now0 a b') x = difB a x := by
  induction b' with
  | nil => intro a; rfl
  | cons y b' ih =>
    intro a
    rw [List.map_cons, List.mem_cons, not_or] at hx
    show difB (now0 (a.map (subE y)) b') x = _
    rw [ih hx.2]
    unfold difB
    rw [sub_names]
    congr 2
    refine decide_eq_decide.2 ⟨fun h => ?_, fun h => ?_⟩
    · obtain ⟨z, hz, e⟩ := List.mem_map.1 h
      unfold subE at e
      split at e
      · exact absurd (by rw [e]) hx.1
      · exact e ▸ hz
    · refine List.mem_map.2 ⟨x, h, ?_⟩
      unfold subE
      rw [if_neg hx.1]
theorem doL_set {l : List En} {who : Nm} {x : En} (h : difB l x = true) : doL l (setC who x) = (l.map (subE x), 0) := by
  unfold difB at h
  rw [Bool.and_eq_true, Bool.not_eq_true', decide_eq_false_iff_not] at h
  unfold doL setC
  rw [if_neg (by simp), if_pos rfl, if_pos h.1, if_neg h.2]
theorem play_sets {who : Nm} : ∀ (b : List En) (a : List En) (cs : List Chg) (i : Int), AscE a → (b.map En.name).Nodup → ∃ j, playL a ((b.filter (difB a)).map (setC who) ++ cs) i = playL (now0 a b) cs j
  | [], a, cs, i, _, _ => ⟨i, rfl⟩
  | x :: b, a, cs, i, ha, hn => by
    rw [List.map_cons, List.nodup_cons] at hn
    have hf : b.filter (difB a) = b.filter (difB (a.map (subE x))) := by
      refine List.filter_congr fun y hy => ?_
      have := dif_now (b' := [x]) (x := y) (by
        intro h
        have h : y.name = x.name := by simpa using h
        exact hn.1 (List.mem_map.2 ⟨y, hy, h⟩)) a
      exact this.symm
    have ha' := ascE_names (sub_names x a).symm ha
    cases hd : difB a x with
    | true =>
      rw [List.filter_cons_of_pos hd, List.map_cons, List.cons_append, playL, if_pos (by rw [doL_set hd]), doL_set hd, hf]
      exact play_sets b _ cs _ ha' hn.2
    | false =>
      rw [List.filter_cons_of_neg (by rw [hd]; simp)]
      have e := sub_dif ha hd
      obtain ⟨j, hj⟩ := play_sets b a cs i ha hn.2
      exact ⟨j, by rw [hj]; show _ = playL (now0 (a.map (subE x)) b) cs j; rw [e]⟩
theorem lastD_some {now b : List En} {x : En} (h : lastD now b = some x) : x ∈ now ∧ gonB b x = true ∧ usedB now x.name x.name = false := by
  have := List.mem_of_getLast? h
  obtain ⟨h1, h2⟩ := List.mem_filter.1 this
  rw [Bool.and_eq_true, Bool.not_eq_true'] at h2
  exact ⟨h1, h2.1, h2.2⟩
theorem doL_drop {l : List En} {who n : Nm} (h : hasN (l.map En.name) n = true) (hu : usedB l n n = false) : doL l (dropC who n) = (l.filter (fun x => decide (x.name ≠ n)), 0) := by
  unfold doL dropC
  rw [if_neg (by simp), if_neg (by simp), if_neg (by simp), if_pos h, if_neg (by rw [hu]; simp)]
theorem play_drops {who : Nm} {b : List En} : ∀ (k : Nat) (now : List En) (ds : List Nm) (cs : List Chg) (i : Int), now.length ≤ k → dropsL k now b = some ds → ∃ j, playL now (ds.map (dropC who) ++ cs) i = playL (now.filter fun x => !gonB b x) cs j
  | 0, now, ds, cs, i, hk, h => by
    cases h
    have : now = [] := List.length_eq_zero_iff.1 (by omega)
    subst this
    exact ⟨i, rfl⟩
  | k + 1, now, ds, cs, i, hk, h => by
    unfold dropsL at h
    split at h
    · split at h
      · cases h
      rename_i x hx
      obtain ⟨h1, h2, h3⟩ := lastD_some hx
      obtain ⟨ds', hd, rfl⟩ := Option.map_eq_some_iff.1 h
      have hh : hasN (now.map En.name) x.name = true := hasE_iff.2 ⟨x, h1, rfl⟩
      rw [List.map_cons, List.cons_append, playL, if_pos (by rw [doL_drop hh h3]), doL_drop hh h3]
      have hlt : (now.filter fun y => decide (y.name ≠ x.name)).length < now.length := by
        refine Nat.lt_of_le_of_ne (List.length_filter_le _ _) fun he => ?_
        rw [List.length_filter_eq_length_iff] at he
        have := he x h1
        simp at this
      obtain ⟨j, hj⟩ := play_drops k _ ds' cs (i + 1) (by omega) hd
      refine ⟨j, hj.trans ?_⟩
      congr 1
      rw [List.filter_filter]
      refine List.filter_congr fun y hy => ?_
      by_cases e : y.name = x.name
      · have : gonB b y = true := by unfold gonB at h2 ⊢; rw [e]; exact h2
        rw [this]; rfl
      · simp [e]
    · rename_i hg
      cases h
      refine ⟨i, ?_⟩
      rw [List.map_nil, List.nil_append]
      congr 1
      refine (List.filter_eq_self.2 fun y hy => ?_).symm
      rw [Bool.not_eq_true, List.any_eq_false] at hg
      simpa using hg y hy
theorem dropsL_mem {b : List En} : ∀ (k : Nat) (now : List En) (ds : List Nm), dropsL k now b = some ds → (∀ n ∈ ds, ∃ x ∈ now, x.name = n) ∧ ds.length ≤ k
  | 0, now, ds, h => by cases h; exact ⟨by simp, by simp⟩
  | k + 1, now, ds, h => by
    unfold dropsL at h
    split at h
    · split at h
      · cases h
      rename_i x hx
      obtain ⟨ds', hd, rfl⟩ := Option.map_eq_some_iff.1 h
      obtain ⟨h1, h2⟩ := dropsL_mem k _ ds' hd
      refine ⟨fun n hn => ?_, by simp; omega⟩
      rcases List.mem_cons.1 hn with rfl | hn
      · exact ⟨x, (lastD_some hx).1, rfl⟩
      · obtain ⟨y, hy, e⟩ := h1 n hn
        exact ⟨y, (List.mem_filter.1 hy).1, e⟩
    · cases h; exact ⟨by simp, by simp⟩
theorem play_adds {who : Nm} : ∀ (xs now : List En) (i : Int), AscE now → (xs.map En.name).Nodup → (∀ x ∈ xs, ∀ y ∈ now, y.name ≠ x.name) → now.length + xs.length ≤ 60 → ∃ M, playL now (xs.map (addCh who)) i = (M, -1, 0) ∧ AscE M ∧ ∀ z, z ∈ M ↔ z ∈ now ∨ z ∈ xs
  | [], now, i, ha, _, _, _ => ⟨now, rfl, ha, by simp⟩
  | x :: xs, now, i, ha, hn, hd, hl => by
    rw [List.map_cons, List.nodup_cons] at hn
    rw [List.length_cons] at hl
    have hno : hasN (now.map En.name) x.name = false := hasE_no.2 (hd x (by simp))
    have e : doL now (addCh who x) = (putE x now, 0) := by
      unfold doL addCh
      rw [if_pos rfl, if_neg (by show ¬ hasN (now.map En.name) x.name = true; rw [hno]; simp), if_neg (by omega)]
    rw [List.map_cons, playL, if_pos (by rw [e]), e]
    obtain ⟨M, h1, h2, h3⟩ := play_adds xs (putE x now) (i + 1) (putE_asc ha (hd x (by simp))) hn.2 (fun z hz y hy => by
      rcases putE_mem.1 hy with rfl | hy
      · intro e; exact hn.1 (List.mem_map.2 ⟨z, hz, e.symm⟩)
      · exact hd z (by simp [hz]) y hy) (by rw [putE_len]; omega)
    refine ⟨M, h1, h2, fun z => ?_⟩
    rw [h3, putE_mem, List.mem_cons]
    constructor
    · rintro ((h | h) | h) <;> simp [h]
    · rintro (h | h | h) <;> simp [h]
theorem nd_len_le {α : Type} [DecidableEq α] : ∀ {l m : List α}, l.Nodup → (∀ x ∈ l, x ∈ m) → l.length ≤ m.length
  | [], _, _, _ => Nat.zero_le _
  | x :: l, m, h, hs => by
    obtain ⟨h1, h2⟩ := List.nodup_cons.1 h
    have hx := hs x (by simp)
    have := nd_len_le (m := m.erase x) h2 fun y hy => (List.mem_erase_of_ne (fun (e : y = x) => h1 (by rw [← e]; exact hy))).2 (hs y (by simp [hy]))
    rw [List.length_erase_of_mem hx] at this
    have := List.length_pos_of_mem hx
    rw [List.length_cons]
    omega
/-- the difference, played in a, makes b. -/
theorem diff_played {s : Sg} {a b : List En} {who : Nm} (h : (diffL s a b who).2 = 0) : playedL s a (diffL s a b who).1 = (b, -1, 0) := by
  unfold diffL at h ⊢
  split at h
  case isFalse => cases h
  rename_i hh
  rw [if_pos hh]
  rw [Bool.and_eq_true, Bool.and_eq_true] at hh
  obtain ⟨Ha, Hb, hw⟩ := hh
  obtain ⟨La, Aa⟩ := edB_iff.1 Ha
  obtain ⟨Lb, Ab⟩ := edB_iff.1 Hb
  split at h
  · cases h
  rename_i ds hds
  obtain ⟨hm, hdl⟩ := dropsL_mem _ _ _ hds
  have hall : ∀ c ∈ ((b.filter (difB a)).map (setC who) ++ ds.map (dropC who)) ++ (b.filter (gonB a)).map (addCh who), chgB s c = true := by
    intro c hc
    rw [List.mem_append, List.mem_append] at hc
    rcases hc with (hc | hc) | hc
    · obtain ⟨x, hx, rfl⟩ := List.mem_map.1 hc
      exact chgB_iff.2 (.put La.sign hw (Or.inr rfl) rfl rfl (Lb.ents x (List.mem_filter.1 hx).1))
    · obtain ⟨n, hn, rfl⟩ := List.mem_map.1 hc
      obtain ⟨x, hx, rfl⟩ := hm n hn
      obtain ⟨y, hy, e⟩ := List.mem_map.1 (show x.name ∈ a.map En.name by rw [← fold_names b a]; exact List.mem_map.2 ⟨x, hx, rfl⟩)
      exact chgB_iff.2 (.drop La.sign hw rfl (show nmB x.name = true from e ▸ (La.ents y hy).name) rfl rfl)
    · obtain ⟨x, hx, rfl⟩ := List.mem_map.1 hc
      exact chgB_iff.2 (.put La.sign hw (Or.inl rfl) rfl rfl (Lb.ents x (List.mem_filter.1 hx).1))
  have h200 : (((b.filter (difB a)).map (setC who) ++ ds.map (dropC who)) ++ (b.filter (gonB a)).map (addCh who)).length ≤ 200 := by
    simp only [List.length_append, List.length_map]
    have := List.length_filter_le (difB a) b
    have := List.length_filter_le (gonB a) b
    have := La.len
    have := Lb.len
    omega
  unfold playedL
  have hask : askL s a (((b.filter (difB a)).map (setC who) ++ ds.map (dropC who)) ++ (b.filter (gonB a)).map (addCh who)) = 0 := by
    unfold askL
    rw [if_pos Ha]
    exact lstL_ok.2 ⟨La.sign, hall, h200⟩
  rw [if_pos hask, List.append_assoc]
  obtain ⟨j, hj⟩ := play_sets (who := who) b a (ds.map (dropC who) ++ (b.filter (gonB a)).map (addCh who)) 0 Aa Ab.nd
  have hlen : (now0 a b).length = a.length := by
    have := congrArg List.length (fold_names b a)
    simpa using this
  obtain ⟨j', hj'⟩ := play_drops (who := who) (b := b) a.length (now0 a b) ds ((b.filter (gonB a)).map (addCh who)) j (by rw [hlen]; exact Nat.le_refl _) hds
  rw [hj, hj']
  have An := now0_asc Aa b
  have Af : AscE ((now0 a b).filter fun x => !gonB b x) := List.Pairwise.sublist List.filter_sublist An
  -- what stands behind the drops is of b
  have hin : ∀ z ∈ (now0 a b).filter fun x => !gonB b x, z ∈ b := by
    intro z hz
    obtain ⟨h1, h2⟩ := List.mem_filter.1 hz
    rcases now0_mem b a Ab.nd h1 with h | ⟨-, h⟩
    · exact h
    · unfold gonB at h2
      rw [h] at h2
      cases h2
  have hna : ∀ z ∈ (now0 a b).filter fun x => !gonB b x, hasN (a.map En.name) z.name = true := by
    intro z hz
    rw [← fold_names b a]
    exact hasE_iff.2 ⟨z, (List.mem_filter.1 hz).1, rfl⟩
  have hdis : ∀ x ∈ b.filter (gonB a), ∀ y ∈ (now0 a b).filter (fun x => !gonB b x), y.name ≠ x.name := by
    intro x hx y hy e
    have h1 := hna y hy
    have h2 := (List.mem_filter.1 hx).2
    unfold gonB at h2
    rw [← e, h1] at h2
    cases h2
  have hA : ((b.filter (gonB a)).map En.name).Nodup := Ab.nd.sublist (List.filter_sublist.map En.name)
  have hl60 : ((now0 a b).filter fun x => !gonB b x).length + (b.filter (gonB a)).length ≤ 60 := by
    have hnd : (((now0 a b).filter fun x => !gonB b x) ++ b.filter (gonB a)).Nodup := by
      rw [List.nodup_append]
      refine ⟨nd_of_asc Af, (nd_of_asc Ab).sublist List.filter_sublist, fun x hx y hy e => ?_⟩
      exact hdis y hy x hx (by rw [e])
    have hsub : ∀ z ∈ ((now0 a b).filter fun x => !gonB b x) ++ b.filter (gonB a), z ∈ b := by
      intro z hz
      rcases List.mem_append.1 hz with h | h
      · exact hin z h
      · exact (List.mem_filter.1 h).1
    have := nd_len_le hnd hsub
    rw [List.length_append] at this
    have := Lb.len
    omega
  obtain ⟨M, h1, h2, h3⟩ := play_adds (who := who) (b.filter (gonB a)) _ j' Af hA hdis hl60
  rw [h1]
  rw [AscE.unique h2 Ab fun z => ?_]
  rw [h3]
  constructor
  · rintro (h | h)
    · exact hin z h
    · exact (List.mem_filter.1 h).1
  · intro hz
    cases hg : gonB a z with
    | true => exact Or.inr (List.mem_filter.2 ⟨hz, hg⟩)
    | false =>
      refine Or.inl (List.mem_filter.2 ⟨?_, ?_⟩)
      · unfold gonB at hg
        rw [Bool.not_eq_false', ← fold_names b a] at hg
        obtain ⟨y, hy, e⟩ := hasE_iff.1 hg
        rcases now0_mem b a Ab.nd hy with h | ⟨-, h⟩
        · exact (Ab.inj h hz e) ▸ hy
        · rw [e] at h
          exact absurd rfl (hasE_no.1 h z hz)
      · show (!gonB b z) = true
        unfold gonB
        rw [hasE_iff.2 ⟨z, hz, rfl⟩]; rfl
/-- an edition does not differ from itself. -/
theorem diff_self {s : Sg} {a : List En} {who : Nm} (h : edB s a = true) (hw : nmB who = true) : diffL s a a who = ([], 0) := by
  obtain ⟨-, Aa⟩ := edB_iff.1 h
  have e0 : ∀ (b : List En), (∀ x ∈ b, x ∈ a) → now0 a b = a := by
    intro b
    induction b with
    | nil => intro _; rfl
    | cons x b ih =>
      intro hx
      show now0 (a.map (subE x)) b = a
      rw [sub_same Aa (hx x (by simp))]
      exact ih fun y hy => hx y (by simp [hy])
  have hg : ∀ x ∈ a, gonB a x = false := by
    intro x hx
    unfold gonB
    rw [hasE_iff.2 ⟨x, hx, rfl⟩]; rfl
  have hd : dropsL a.length a a = some [] := by
    cases hl : a.length with
    | zero => rfl
    | succ k =>
      unfold dropsL
      rw [if_neg]
      rw [Bool.not_eq_true, List.any_eq_false]
      intro x hx
      rw [hg x hx]; simp
  unfold diffL
  rw [h, hw, if_pos (by rfl), e0 a fun _ h => h, hd]
  have f1 : a.filter (difB a) = [] := List.filter_eq_nil_iff.2 fun x hx => by unfold difB; simp [hx]
  have f2 : a.filter (gonB a) = [] := List.filter_eq_nil_iff.2 fun x hx => by rw [hg x hx]; simp
  simp only [f1, f2]
  rfl
end Go.Proofs.YtlbjbmpkaniojaaGreat
namespace Go.Proofs.YtlbjbmpkaniojaaGreat
open Go Go.RowKit Go.Maps
theorem chgB_eq (s : Sg) (c : Chg) : chgB s c = (nmB c.who && (signB s && (if c.kind = 1 ∨ c.kind = 2 then entryB s c.ent && (decide (c.name = em) && decide (c.new = em))
    else if c.kind = 3 then nmB c.name && (nmB c.new && (decide (c.name ≠ c.new) && decide (c.ent = en0)))
    else if c.kind = 4 then nmB c.name && (decide (c.new = em) && decide (c.ent = en0)) else false))) := by
  unfold chgB
  by_cases h : c.kind = 1 ∨ c.kind = 2
  · rw [if_pos h, if_pos h]
    cases signB s <;> cases nmB c.who <;> cases entryB s c.ent <;> cases decide (c.name = em) <;> cases decide (c.new = em) <;> rfl
  · rw [if_neg h, if_neg h]
    cases signB s <;> cases nmB c.who <;> rfl
theorem em_toL : (em : Nm).toList = [] := by rw [ByteArray.toList_eq]
theorem str_em {x : Nm} (h : x = em) : (x.toList == ([] : List UInt8)) = true ∧ x.toList = [] ∧ x.toList.isEmpty = true := by
  subst h; rw [em_toL]; exact ⟨rfl, rfl, rfl⟩
theorem str_ne {x : Nm} (h : x ≠ em) : (x.toList == ([] : List UInt8)) = false ∧ ¬ x.toList = [] ∧ x.toList.isEmpty = false := by
  have h0 : x.toList ≠ [] := fun e => h (by
    have h1 := bytes_eq x em
    rw [em_toL, e] at h1
    simpa using h1)
  exact ⟨by simpa using h0, h0, by simpa using h0⟩
set_option maxHeartbeats 4000000 in
set_option maxRecDepth 100000 in
theorem blame_Valid (vs vS vU vP : Value) (s : Sg) (c : Chg) (w : World) (hs : SignAt w vs s) (hc : ChgAt w vS vU vP c) (hs1 : s.length ≤ 1000) :
    Calls Tryz.prog 26 #[vs, chV c vS vU vP] w fun e w' => e = .returned (.bool (chgB s c)) ∧ Below w.heap.size w w' := by
  obtain ⟨sa, sc, rfl, -⟩ := hc.e.s.open
  obtain ⟨ua, uc, rfl, -⟩ := hc.e.u.open
  obtain ⟨pa, pc, rfl, -⟩ := hc.e.p.open
  unfold chV
  have hCB := CB.new w c (.slice sa c.ent.says.length sc) (.slice ua c.ent.uses.length uc) (.slice pa c.ent.proof.length pc) 43
  obtain ⟨V, hV⟩ : ∃ V, w.alloc (.cells #[.int .i64 c.kind, .string c.who, .string c.name, .string c.new, .string c.ent.name, .string c.ent.who, .slice sa c.ent.says.length sc, .slice ua c.ent.uses.length uc, .slice pa c.ent.proof.length pc] 43) = V := ⟨_, rfl⟩
  have hbV : Below w.heap.size w V := hV ▸ (Below.refl _ _).alloc (Nat.le_refl _) _
  rw [hV] at hCB
  have HSM := hid (blame_Same _ _ _ (.slice none 0 0) (.slice none 0 0) (.slice none 0 0) c.ent en0 V (hc.e.below hbV) (EntAt.zero V))
  have HNM := hid (fun (n : Nm) (X : World) (hn : n.size ≤ 140737488355328) => deps_Name n X hn)
  have HSG := hid (fun (X : World) (hX : Below V.heap.size V X) => term_ValidSign vs s X ((hs.below hbV).below hX) hs1)
  have HVE := hid (fun (X : World) (hX : Below V.heap.size V X) => deps_ValidEntry vs _ _ _ s c.ent X ((hs.below hbV).below hX) ((hc.e.below hbV).below hX) hs1)
  have HR := hid (chgB_eq s c)
  have HW := hid hV
  have HBV := hid hbV
  have HCB := hid hCB
  have HN := hid (And.intro hc.n1 (And.intro hc.n2 hc.n3))
  obtain ⟨c0, c1, c2, c3, c4, c5, c6, c7, c8⟩ := hCB
  clear hV hbV hc hs
  go_enter Tryz.func26, Tryz.ntmps26
  go_wp2_with (rw [HW.out])
  refine HSM.out.mono ?_
  rintro e w1 ⟨rfl, hb1⟩
  obtain ⟨d0, d1, d2, d3, d4, d5, d6, d7, d8⟩ := HCB.out.below hb1
  have HB1 := hid hb1
  have HD := hid (HCB.out.below hb1)
  obtain ⟨eb, heb⟩ : ∃ eb, decide (c.ent = en0) = eb := ⟨_, rfl⟩
  rw [heb]
  rw [heb] at HR
  clear c0 c1 c2 c3 c4 c5 c6 c7 c8 hb1 heb HSM HCB
  cases g1 : nmB c.who
  · have HF : Hid (chgB s c = false) := hid (by rw [HR.out, g1]; rfl)
    have HN1 := hid (HNM.out c.who w1 HN.out.1)
    rw [g1] at HN1
    clear g1
    go_wp2_with (go_at_call 71; refine HN1.out.mono ?_; rintro e w' ⟨rfl, rfl⟩)
    go_ret
    exact ⟨ret_bool HF.out.symm, HBV.out.trans (HB1.out.mono HBV.out.size)⟩
  have HN1 := hid (HNM.out c.who w1 HN.out.1)
  rw [g1] at HN1 HR
  clear g1
  cases g2 : signB s
  · have HF : Hid (chgB s c = false) := hid (by rw [HR.out, g2]; rfl)
    have HS1 := hid (HSG.out w1 HB1.out)
    rw [g2] at HS1
    clear g2
    go_wp2_with (first | (go_at_call 71; refine HN1.out.mono ?_; rintro e w' ⟨rfl, rfl⟩) | (go_at_call 72; refine HS1.out.mono ?_; rintro e w2 ⟨rfl, hb2⟩))
    go_ret
    exact ⟨ret_bool HF.out.symm, HBV.out.trans ((HB1.out.trans (hb2.mono HB1.out.size)).mono HBV.out.size)⟩
  have HS1 := hid (HSG.out w1 HB1.out)
  rw [g2] at HS1 HR
  clear g2
  by_cases k12 : c.kind = 1 ∨ c.kind = 2
  · rw [if_pos k12] at HR
    have q1 : (c.kind == 1) = true ∨ ((c.kind == 1) = false ∧ (c.kind == 2) = true) := by
      rcases k12 with k | k
      · exact Or.inl (by simpa using k)
      · exact Or.inr ⟨by rw [k]; rfl, by simpa using k⟩
    clear k12
    have HVEE := HVE
    cases g3 : entryB s c.ent
    · have HF : Hid (chgB s c = false) := hid (by rw [HR.out, g3]; rfl)
      simp only [g3] at HVEE
      clear g3
      rcases q1 with q1 | ⟨q1, q2⟩
      all_goals
        go_wp2_with (first | (go_at_call 71; refine HN1.out.mono ?_; rintro e w' ⟨rfl, rfl⟩) | (go_at_call 72; refine HS1.out.mono ?_; rintro e w2 ⟨rfl, hb2⟩; obtain ⟨d0, d1, d2, d3, d4, d5, d6, d7, d8⟩ := HD.out.below hb2; have hb12 := HB1.out.trans (hb2.mono HB1.out.size)) | (go_at_call 73; refine (HVEE.out _ hb12).mono ?_; rintro e w3 ⟨rfl, hb3⟩; have hb13 := hb12.trans (hb3.mono hb12.size)))
        go_ret
        exact ⟨ret_bool HF.out.symm, HBV.out.trans (hb13.mono HBV.out.size)⟩
    · rw [g3] at HR
      simp only [g3] at HVEE
      clear g3
      by_cases n1 : c.name = em
      · by_cases n2 : c.new = em
        · have HF : Hid (chgB s c = true) := hid (by rw [HR.out, n1, n2]; rfl)
          obtain ⟨r1, r2, r3⟩ := str_em n1
          obtain ⟨t1, t2, t3⟩ := str_em n2
          clear n1 n2
          rcases q1 with q1 | ⟨q1, q2⟩
          all_goals
            go_wp2_with (first | (go_at_call 71; refine HN1.out.mono ?_; rintro e w' ⟨rfl, rfl⟩) | (go_at_call 72; refine HS1.out.mono ?_; rintro e w2 ⟨rfl, hb2⟩; obtain ⟨d0, d1, d2, d3, d4, d5, d6, d7, d8⟩ := HD.out.below hb2; have hb12 := HB1.out.trans (hb2.mono HB1.out.size)) | (go_at_call 73; refine (HVEE.out _ hb12).mono ?_; rintro e w3 ⟨rfl, hb3⟩; have hb13 := hb12.trans (hb3.mono hb12.size); obtain ⟨d0, d1, d2, d3, d4, d5, d6, d7, d8⟩ := HD.out.below (hb2.trans (hb3.mono hb2.size))))
            go_ret
            exact ⟨ret_bool HF.out.symm, HBV.out.trans (hb13.mono HBV.out.size)⟩
        · have HF : Hid (chgB s c = false) := hid (by rw [HR.out, n1, decide_eq_false n2]; rfl)
          obtain ⟨r1, r2, r3⟩ := str_em n1
          obtain ⟨t1, t2, t3⟩ := str_ne n2
          clear n1 n2
          rcases q1 with q1 | ⟨q1, q2⟩
          all_goals
            go_wp2_with (first | (go_at_call 71; refine HN1.out.mono ?_; rintro e w' ⟨rfl, rfl⟩) | (go_at_call 72; refine HS1.out.mono ?_; rintro e w2 ⟨rfl, hb2⟩; obtain ⟨d0, d1, d2, d3, d4, d5, d6, d7, d8⟩ := HD.out.below hb2; have hb12 := HB1.out.trans (hb2.mono HB1.out.size)) | (go_at_call 73; refine (HVEE.out _ hb12).mono ?_; rintro e w3 ⟨rfl, hb3⟩; have hb13 := hb12.trans (hb3.mono hb12.size); obtain ⟨d0, d1, d2, d3, d4, d5, d6, d7, d8⟩ := HD.out.below (hb2.trans (hb3.mono hb2.size))))
            go_ret
            exact ⟨ret_bool HF.out.symm, HBV.out.trans (hb13.mono HBV.out.size)⟩
      · have HF : Hid (chgB s c = false) := hid (by rw [HR.out, decide_eq_false n1]; rfl)
        obtain ⟨r1, r2, r3⟩ := str_ne n1
        clear n1
        rcases q1 with q1 | ⟨q1, q2⟩
        all_goals
          go_wp2_with (first | (go_at_call 71; refine HN1.out.mono ?_; rintro e w' ⟨rfl, rfl⟩) | (go_at_call 72; refine HS1.out.mono ?_; rintro e w2 ⟨rfl, hb2⟩; obtain ⟨d0, d1, d2, d3, d4, d5, d6, d7, d8⟩ := HD.out.below hb2; have hb12 := HB1.out.trans (hb2.mono HB1.out.size)) | (go_at_call 73; refine (HVEE.out _ hb12).mono ?_; rintro e w3 ⟨rfl, hb3⟩; have hb13 := hb12.trans (hb3.mono hb12.size); obtain ⟨d0, d1, d2, d3, d4, d5, d6, d7, d8⟩ := HD.out.below (hb2.trans (hb3.mono hb2.size))))
          go_ret
          exact ⟨ret_bool HF.out.symm, HBV.out.trans (hb13.mono HBV.out.size)⟩
  rw [if_neg k12] at HR
  have j1 : (c.kind == 1) = false := by simp; omega
  have j2 : (c.kind == 2) = false := by simp; omega
  clear HVE
  by_cases k3 : c.kind = 3
  · rw [if_pos k3] at HR
    have j3 : (c.kind == 3) = true := by simpa using k3
    clear k12 k3
    have HP := hid (fun (X : World) => HNM.out c.name X HN.out.2.1)
    have HQ := hid (fun (X : World) => HNM.out c.new X HN.out.2.2)
    cases g3 : nmB c.name
    · have HF : Hid (chgB s c = false) := hid (by rw [HR.out, g3]; rfl)
      simp only [g3] at HP
      clear g3
      go_wp2_with (first | (go_at_call 72; refine HS1.out.mono ?_; rintro e w2 ⟨rfl, hb2⟩; obtain ⟨d0, d1, d2, d3, d4, d5, d6, d7, d8⟩ := HD.out.below hb2; have hb12 := HB1.out.trans (hb2.mono HB1.out.size)) | (go_at_call 71; (with_reducible refine HN1.out.mono ?_); rintro e w' ⟨rfl, rfl⟩) | (go_at_call 71; (with_reducible refine (HP.out _).mono ?_); rintro e w' ⟨rfl, rfl⟩))
      go_ret
      exact ⟨ret_bool HF.out.symm, HBV.out.trans (hb12.mono HBV.out.size)⟩
    rw [g3] at HR
    simp only [g3] at HP
    clear g3
    cases g4 : nmB c.new
    · have HF : Hid (chgB s c = false) := hid (by rw [HR.out, g4]; rfl)
      simp only [g4] at HQ
      clear g4
      go_wp2_with (first | (go_at_call 72; refine HS1.out.mono ?_; rintro e w2 ⟨rfl, hb2⟩; obtain ⟨d0, d1, d2, d3, d4, d5, d6, d7, d8⟩ := HD.out.below hb2; have hb12 := HB1.out.trans (hb2.mono HB1.out.size)) | (go_at_call 71; (with_reducible refine HN1.out.mono ?_); rintro e w' ⟨rfl, rfl⟩) | (go_at_call 71; (with_reducible refine (HP.out _).mono ?_); rintro e w' ⟨rfl, rfl⟩) | (go_at_call 71; (with_reducible refine (HQ.out _).mono ?_); rintro e w' ⟨rfl, rfl⟩))
      go_ret
      exact ⟨ret_bool HF.out.symm, HBV.out.trans (hb12.mono HBV.out.size)⟩
    rw [g4] at HR
    simp only [g4] at HQ
    clear g4
    by_cases hne : c.name = c.new
    · have HF : Hid (chgB s c = false) := hid (by rw [HR.out, decide_eq_false (fun h => h hne)]; rfl)
      have q1 : (c.name.toList == c.new.toList) = true := by rw [bytes_eq]; simpa using hne
      have q2 : (c.name.toList != c.new.toList) = false := by rw [bne, q1]; rfl
      clear hne
      go_wp2_with (first | (go_at_call 72; refine HS1.out.mono ?_; rintro e w2 ⟨rfl, hb2⟩; obtain ⟨d0, d1, d2, d3, d4, d5, d6, d7, d8⟩ := HD.out.below hb2; have hb12 := HB1.out.trans (hb2.mono HB1.out.size)) | (go_at_call 71; (with_reducible refine HN1.out.mono ?_); rintro e w' ⟨rfl, rfl⟩) | (go_at_call 71; (with_reducible refine (HP.out _).mono ?_); rintro e w' ⟨rfl, rfl⟩) | (go_at_call 71; (with_reducible refine (HQ.out _).mono ?_); rintro e w' ⟨rfl, rfl⟩))
      go_ret
      exact ⟨ret_bool HF.out.symm, HBV.out.trans (hb12.mono HBV.out.size)⟩
    · have HF : Hid (chgB s c = eb) := hid (by rw [HR.out, decide_eq_true (show c.name ≠ c.new from hne)]; rfl)
      have q1 : (c.name.toList == c.new.toList) = false := by rw [bytes_eq]; simpa using hne
      have q2 : (c.name.toList != c.new.toList) = true := by rw [bne, q1]; rfl
      clear hne
      go_wp2_with (first | (go_at_call 72; refine HS1.out.mono ?_; rintro e w2 ⟨rfl, hb2⟩; obtain ⟨d0, d1, d2, d3, d4, d5, d6, d7, d8⟩ := HD.out.below hb2; have hb12 := HB1.out.trans (hb2.mono HB1.out.size)) | (go_at_call 71; (with_reducible refine HN1.out.mono ?_); rintro e w' ⟨rfl, rfl⟩) | (go_at_call 71; (with_reducible refine (HP.out _).mono ?_); rintro e w' ⟨rfl, rfl⟩) | (go_at_call 71; (with_reducible refine (HQ.out _).mono ?_); rintro e w' ⟨rfl, rfl⟩))
      go_ret
      exact ⟨ret_bool HF.out.symm, HBV.out.trans (hb12.mono HBV.out.size)⟩
  rw [if_neg k3] at HR
  have j3 : (c.kind == 3) = false := by simpa using k3
  by_cases k4 : c.kind = 4
  · rw [if_pos k4] at HR
    have j4 : (c.kind == 4) = true := by simpa using k4
    clear k12 k3 k4
    have HP := hid (fun (X : World) => HNM.out c.name X HN.out.2.1)
    cases g3 : nmB c.name
    · have HF : Hid (chgB s c = false) := hid (by rw [HR.out, g3]; rfl)
      simp only [g3] at HP
      clear g3
      go_wp2_with (first | (go_at_call 72; refine HS1.out.mono ?_; rintro e w2 ⟨rfl, hb2⟩; obtain ⟨d0, d1, d2, d3, d4, d5, d6, d7, d8⟩ := HD.out.below hb2; have hb12 := HB1.out.trans (hb2.mono HB1.out.size)) | (go_at_call 71; (with_reducible refine HN1.out.mono ?_); rintro e w' ⟨rfl, rfl⟩) | (go_at_call 71; (with_reducible refine (HP.out _).mono ?_); rintro e w' ⟨rfl, rfl⟩))
      go_ret
      exact ⟨ret_bool HF.out.symm, HBV.out.trans (hb12.mono HBV.out.size)⟩
    rw [g3] at HR
    simp only [g3] at HP
    clear g3
    by_cases n2 : c.new = em
    · have HF : Hid (chgB s c = eb) := hid (by rw [HR.out, decide_eq_true n2]; rfl)
      obtain ⟨t1, t2, t3⟩ := str_em n2
      clear n2
      go_wp2_with (first | (go_at_call 72; refine HS1.out.mono ?_; rintro e w2 ⟨rfl, hb2⟩; obtain ⟨d0, d1, d2, d3, d4, d5, d6, d7, d8⟩ := HD.out.below hb2; have hb12 := HB1.out.trans (hb2.mono HB1.out.size)) | (go_at_call 71; (with_reducible refine HN1.out.mono ?_); rintro e w' ⟨rfl, rfl⟩) | (go_at_call 71; (with_reducible refine (HP.out _).mono ?_); rintro e w' ⟨rfl, rfl⟩))
      go_ret
      exact ⟨ret_bool HF.out.symm, HBV.out.trans (hb12.mono HBV.out.size)⟩
    · have HF : Hid (chgB s c = false) := hid (by rw [HR.out, decide_eq_false n2]; rfl)
      obtain ⟨t1, t2, t3⟩ := str_ne n2
      clear n2
      go_wp2_with (first | (go_at_call 72; refine HS1.out.mono ?_; rintro e w2 ⟨rfl, hb2⟩; obtain ⟨d0, d1, d2, d3, d4, d5, d6, d7, d8⟩ := HD.out.below hb2; have hb12 := HB1.out.trans (hb2.mono HB1.out.size)) | (go_at_call 71; (with_reducible refine HN1.out.mono ?_); rintro e w' ⟨rfl, rfl⟩) | (go_at_call 71; (with_reducible refine (HP.out _).mono ?_); rintro e w' ⟨rfl, rfl⟩))
      go_ret
      exact ⟨ret_bool HF.out.symm, HBV.out.trans (hb12.mono HBV.out.size)⟩
  rw [if_neg k4] at HR
  have j4 : (c.kind == 4) = false := by simpa using k4
  have HF : Hid (chgB s c = false) := hid (by rw [HR.out]; rfl)
  clear k12 k3 k4
  go_wp2_with (first | (go_at_call 72; refine HS1.out.mono ?_; rintro e w2 ⟨rfl, hb2⟩; obtain ⟨d0, d1, d2, d3, d4, d5, d6, d7, d8⟩ := HD.out.below hb2; have hb12 := HB1.out.trans (hb2.mono HB1.out.size)) | (go_at_call 71; (with_reducible refine HN1.out.mono ?_); rintro e w' ⟨rfl, rfl⟩))
  go_ret
  exact ⟨ret_bool HF.out.symm, HBV.out.trans (hb12.mono HBV.out.size)⟩
end Go.Proofs.YtlbjbmpkaniojaaGreat
namespace Go.Proofs.YtlbjbmpkaniojaaGreat
open Go Go.RowKit Go.Maps
set_option maxHeartbeats 1000000 in
theorem ref9_SameChangeE (vS vU vP uS uU uP : Value) (c : Chg) (w : World) (hv : ChgAt w vS vU vP c) (hu : ChgAt w uS uU uP c) :
    Calls Tryz.prog 31 #[chV c vS vU vP, chV c uS uU uP] w fun e w' => e = .returned (.bool true) ∧ Below w.heap.size w w' := by
  obtain ⟨sa, sc, rfl, -⟩ := hv.e.s.open
  obtain ⟨ua, uc, rfl, -⟩ := hv.e.u.open
  obtain ⟨pa, pc, rfl, -⟩ := hv.e.p.open
  obtain ⟨sb, sd, rfl, -⟩ := hu.e.s.open
  obtain ⟨ub, ud, rfl, -⟩ := hu.e.u.open
  obtain ⟨pb, pd, rfl, -⟩ := hu.e.p.open
  have hCB := CB.new w c (.slice sa c.ent.says.length sc) (.slice ua c.ent.uses.length uc) (.slice pa c.ent.proof.length pc) 43
  obtain ⟨V, hV⟩ : ∃ V, w.alloc (.cells #[.int .i64 c.kind, .string c.who, .string c.name, .string c.new, .string c.ent.name, .string c.ent.who, .slice sa c.ent.says.length sc, .slice ua c.ent.uses.length uc, .slice pa c.ent.proof.length pc] 43) = V := ⟨_, rfl⟩
  have hbV : Below w.heap.size w V := hV ▸ (Below.refl _ _).alloc (Nat.le_refl _) _
  rw [hV] at hCB
  have hCD := CB.new V c (.slice sb c.ent.says.length sd) (.slice ub c.ent.uses.length ud) (.slice pb c.ent.proof.length pd) 43
  obtain ⟨X, hX⟩ : ∃ X, V.alloc (.cells #[.int .i64 c.kind, .string c.who, .string c.name, .string c.new, .string c.ent.name, .string c.ent.who, .slice sb c.ent.says.length sd, .slice ub c.ent.uses.length ud, .slice pb c.ent.proof.length pd] 43) = X := ⟨_, rfl⟩
  have hbX : Below V.heap.size V X := hX ▸ (Below.refl _ _).alloc (Nat.le_refl _) _
  rw [hX] at hCD
  have hb := hbV.trans (hbX.mono hbV.size)
  have hCC := hCB.below hbX
  have HSE := hid (ref6_SameEntry _ _ _ _ _ _ c.ent c.ent X (hv.e.below hb) (hu.e.below hb))
  simp only [decide_true] at HSE
  have HW := hid hV
  have HX := hid hX
  have HB := hid hb
  unfold chV
  obtain ⟨c0, c1, c2, c3, c4, c5, c6, c7, c8⟩ := hCC
  obtain ⟨d0, d1, d2, d3, d4, d5, d6, d7, d8⟩ := hCD
  have q0 : (c.kind == c.kind) = true := by simp
  have q1 : (c.who.toList == c.who.toList) = true := by simp
  have q2 : (c.name.toList == c.name.toList) = true := by simp
  have q3 : (c.new.toList == c.new.toList) = true := by simp
  clear hV hX hbV hbX hb hv hu hCB
  go_enter Tryz.func31, Tryz.ntmps31
  go_wp2_with (first | rw [HW.out] | rw [HX.out])
  refine HSE.out.mono ?_
  rintro e w1 ⟨rfl, hb1⟩
  go_wp2
  go_ret
  exact ⟨rfl, HB.out.trans (hb1.mono HB.out.size)⟩
end Go.Proofs.YtlbjbmpkaniojaaGreat
namespace Go.Proofs.YtlbjbmpkaniojaaGreat
open Go Go.RowKit Go.Maps
set_option maxHeartbeats 4000000 in
set_option maxRecDepth 100000 in
theorem ref9_SameChangesE (v u : Value) (l : List Chg) (w : World) (hv : ChsAt w v l) (hu : ChsAt w u l) :
    Calls Tryz.prog 34 #[v, u] w fun e w' => e = .returned (.bool true) ∧ Below w.heap.size w w' := by
  obtain ⟨a, cap, rfl, h1, hl, h3, HC⟩ := hv.open
  obtain ⟨a', cap', rfl, h1', hl', h3', HD⟩ := hu.open
  have HC' := hid HC
  have HD' := hid HD
  have hne : (((l.length : Nat) : Int) != (l.length : Int)) = false := by simp
  clear HC hv h3 HD hu h3'
  go_enter Tryz.func34, Tryz.ntmps34
  go_wp2
  go_loopw [5] (fun i wr => ∃ k : Nat, k ≤ l.length ∧ i = .int .i64 k ∧ Below w.heap.size w wr) (fun i _ => l.length - (intOf i).toNat)
  case atStart => exact ⟨0, by omega, rfl, Below.refl _ _⟩
  case round =>
    obtain ⟨k, hk, rfl, hb⟩ := hrel
    have hsz := hb.size
    by_cases hlt : k < l.length
    · obtain ⟨b, o, xS, xU, xP, rfl, c0, c1, c2, c3, c4, c5, c6, c7, c8, hx⟩ := HC'.out k hlt
      obtain ⟨b', o', yS, yU, yP, rfl, f0, f1, f2, f3, f4, f5, f6, f7, f8, hy⟩ := HD'.out k hlt
      replace c0 := (hb.cell (World.block_lt_of_cell? _ _ c0)).trans c0
      replace c1 := (hb.cell (World.block_lt_of_cell? _ _ c1)).trans c1
      replace c2 := (hb.cell (World.block_lt_of_cell? _ _ c2)).trans c2
      replace c3 := (hb.cell (World.block_lt_of_cell? _ _ c3)).trans c3
      replace c4 := (hb.cell (World.block_lt_of_cell? _ _ c4)).trans c4
      replace c5 := (hb.cell (World.block_lt_of_cell? _ _ c5)).trans c5
      replace c6 := (hb.cell (World.block_lt_of_cell? _ _ c6)).trans c6
      replace c7 := (hb.cell (World.block_lt_of_cell? _ _ c7)).trans c7
      replace c8 := (hb.cell (World.block_lt_of_cell? _ _ c8)).trans c8
      replace f0 := (hb.cell (World.block_lt_of_cell? _ _ f0)).trans f0
      replace f1 := (hb.cell (World.block_lt_of_cell? _ _ f1)).trans f1
      replace f2 := (hb.cell (World.block_lt_of_cell? _ _ f2)).trans f2
      replace f3 := (hb.cell (World.block_lt_of_cell? _ _ f3)).trans f3
      replace f4 := (hb.cell (World.block_lt_of_cell? _ _ f4)).trans f4
      replace f5 := (hb.cell (World.block_lt_of_cell? _ _ f5)).trans f5
      replace f6 := (hb.cell (World.block_lt_of_cell? _ _ f6)).trans f6
      replace f7 := (hb.cell (World.block_lt_of_cell? _ _ f7)).trans f7
      replace f8 := (hb.cell (World.block_lt_of_cell? _ _ f8)).trans f8
      obtain ⟨x, hxe⟩ : ∃ x, l[k] = x := ⟨_, rfl⟩
      rw [hxe] at c0 c1 c2 c3 c4 c5 f0 f1 f2 f3 f4 f5 hx hy
      have HSE := hid (fun (X : World) (hX : Below wr.heap.size wr X) => ref9_SameChangeE xS xU xP yS yU yP x X ((hx.below hb).below hX) ((hy.below hb).below hX))
      obtain ⟨a1, k1, rfl, -⟩ := hx.e.s.open
      obtain ⟨a2, k2, rfl, -⟩ := hx.e.u.open
      obtain ⟨a3, k3, rfl, -⟩ := hx.e.p.open
      obtain ⟨b1, j1, rfl, -⟩ := hy.e.s.open
      obtain ⟨b2, j2, rfl, -⟩ := hy.e.u.open
      obtain ⟨b3, j3, rfl, -⟩ := hy.e.p.open
      unfold chV at HSE
      have C0 := hid c0
      have C1 := hid c1
      have C2 := hid c2
      have C3 := hid c3
      have C4 := hid c4
      have C5 := hid c5
      have C6 := hid c6
      have C7 := hid c7
      have C8 := hid c8
      have F0 := hid f0
      have F1 := hid f1
      have F2 := hid f2
      have F3 := hid f3
      have F4 := hid f4
      have F5 := hid f5
      have F6 := hid f6
      have F7 := hid f7
      have F8 := hid f8
      have HB := hid hb
      have hvz : wr.heap.size ≤ wr.heap.size := Nat.le_refl _
      have y0 : (0 : Int) ≤ (k : Int) := by omega
      have y1 : (k : Int) < (l.length : Int) := by omega
      clear hb hx hy hxe
      go_wp2
      go_region_held3 (fun w' => w'.cell? ⟨b, o + k * 9, none⟩ = some (.int .i64 x.kind) ∧ w'.cell? ⟨b, o + k * 9 + 1, none⟩ = some (.string x.who) ∧ w'.cell? ⟨b, o + k * 9 + 2, none⟩ = some (.string x.name) ∧ w'.cell? ⟨b, o + k * 9 + 3, none⟩ = some (.string x.new) ∧ w'.cell? ⟨b, o + k * 9 + 4, none⟩ = some (.string x.ent.name) ∧ w'.cell? ⟨b, o + k * 9 + 5, none⟩ = some (.string x.ent.who) ∧ w'.cell? ⟨b, o + k * 9 + 6, none⟩ = some (.slice a1 x.ent.says.length k1) ∧ w'.cell? ⟨b, o + k * 9 + 7, none⟩ = some (.slice a2 x.ent.uses.length k2) ∧ w'.cell? ⟨b, o + k * 9 + 8, none⟩ = some (.slice a3 x.ent.proof.length k3) ∧ w'.cell? ⟨b', o' + k * 9, none⟩ = some (.int .i64 x.kind) ∧ w'.cell? ⟨b', o' + k * 9 + 1, none⟩ = some (.string x.who) ∧ w'.cell? ⟨b', o' + k * 9 + 2, none⟩ = some (.string x.name) ∧ w'.cell? ⟨b', o' + k * 9 + 3, none⟩ = some (.string x.new) ∧ w'.cell? ⟨b', o' + k * 9 + 4, none⟩ = some (.string x.ent.name) ∧ w'.cell? ⟨b', o' + k * 9 + 5, none⟩ = some (.string x.ent.who) ∧ w'.cell? ⟨b', o' + k * 9 + 6, none⟩ = some (.slice b1 x.ent.says.length j1) ∧ w'.cell? ⟨b', o' + k * 9 + 7, none⟩ = some (.slice b2 x.ent.uses.length j2) ∧ w'.cell? ⟨b', o' + k * 9 + 8, none⟩ = some (.slice b3 x.ent.proof.length j3))
        (first | exact ⟨by assumption, by assumption, by assumption, by assumption, by assumption, by assumption, by assumption, by assumption, by assumption, by assumption, by assumption, by assumption, by assumption, by assumption, by assumption, by assumption, by assumption, by assumption⟩ | go_keep)
        (first
          | (go_at_call 31; (with_reducible refine (HSE.out _ (by (repeat (first | with_reducible assumption | with_reducible exact Below.refl _ _ | with_reducible exact below_self_drewN _ _ | with_reducible refine Below.drew ?_ | with_reducible refine below_drewN ?_ _ | (with_reducible refine Below.alloc ?_ ?_ _; rotate_left; focus (first | (simp; done) | omega | (simp; omega))))))).mono ?_); rintro e wz ⟨rfl, hbz⟩; have hbr : Below wr.heap.size wr wz := Below.trans (by (repeat (first | with_reducible assumption | with_reducible exact Below.refl _ _ | with_reducible exact below_self_drewN _ _ | with_reducible refine Below.drew ?_ | with_reducible refine below_drewN ?_ _ | (with_reducible refine Below.alloc ?_ ?_ _; rotate_left; focus (first | (simp; done) | omega | (simp; omega)))))) (hbz.mono (by (first | (simp; done) | omega | (simp; omega)))); have hvz := hbr.size; have c0 := (hbr.cell (World.block_lt_of_cell? _ _ C0.out)).trans C0.out; have c1 := (hbr.cell (World.block_lt_of_cell? _ _ C1.out)).trans C1.out; have c2 := (hbr.cell (World.block_lt_of_cell? _ _ C2.out)).trans C2.out; have c3 := (hbr.cell (World.block_lt_of_cell? _ _ C3.out)).trans C3.out; have c4 := (hbr.cell (World.block_lt_of_cell? _ _ C4.out)).trans C4.out; have c5 := (hbr.cell (World.block_lt_of_cell? _ _ C5.out)).trans C5.out; have c6 := (hbr.cell (World.block_lt_of_cell? _ _ C6.out)).trans C6.out; have c7 := (hbr.cell (World.block_lt_of_cell? _ _ C7.out)).trans C7.out; have c8 := (hbr.cell (World.block_lt_of_cell? _ _ C8.out)).trans C8.out; have f0 := (hbr.cell (World.block_lt_of_cell? _ _ F0.out)).trans F0.out; have f1 := (hbr.cell (World.block_lt_of_cell? _ _ F1.out)).trans F1.out; have f2 := (hbr.cell (World.block_lt_of_cell? _ _ F2.out)).trans F2.out; have f3 := (hbr.cell (World.block_lt_of_cell? _ _ F3.out)).trans F3.out; have f4 := (hbr.cell (World.block_lt_of_cell? _ _ F4.out)).trans F4.out; have f5 := (hbr.cell (World.block_lt_of_cell? _ _ F5.out)).trans F5.out; have f6 := (hbr.cell (World.block_lt_of_cell? _ _ F6.out)).trans F6.out; have f7 := (hbr.cell (World.block_lt_of_cell? _ _ F7.out)).trans F7.out; have f8 := (hbr.cell (World.block_lt_of_cell? _ _ F8.out)).trans F8.out))
      have HB5 := hid (HB.out.trans (hbr.mono hsz))
      clear hbz hbr hvz c0 c1 c2 c3 c4 c5 c6 c7 c8 f0 f1 f2 f3 f4 f5 f6 f7 f8
      go_wp2
      go_roundw
      case rel => exact ⟨k + 1, by omega, by go_num, HB5.out⟩
      case measure => simp [intOf]; omega
    · go_wp2
      go_ret
      exact ⟨rfl, hb⟩
end Go.Proofs.YtlbjbmpkaniojaaGreat
