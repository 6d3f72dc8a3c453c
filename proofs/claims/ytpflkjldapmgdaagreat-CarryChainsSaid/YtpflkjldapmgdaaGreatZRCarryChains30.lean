/-
  WHAT IT HOLDS: contracts of Variable, Match and Instance of the reference of layer 2. Conditions: the arguments read as data.
  WHAT IT HOLDS: contracts of over and Over of package find, of alike, under and Over of the reference of layer 5. Conditions: the arguments read as data; the shelf and the sign are small.
  WHAT IT HOLDS: contracts of canonical, grouped of the reference of layer 5, of form and grouped of package find. Conditions: the arguments read as data; the terms are valid.
  WHAT IT HOLDS: contract of grouped of the reference of layer 5. Conditions: the argument reads as data.
  WHAT IT HOLDS: contracts of form, grouped, Groups of package find. Conditions: the arguments read as data; the shelf and the sign are small.
  WHAT IT HOLDS: contract of Groups of package find. Conditions: the arguments read as data; the shelf and the sign are small.
  WHAT IT HOLDS: contract of firsts of package find. Conditions: the arguments read as data; the shelf and the sign are small.
  WHAT IT HOLDS: the plain law of bases (FindBases): what Base and IsBase answer, that the base is one, least, and alike what each other base has. No program in sight. No condition.
-/
import Derived.WalkSpells
import Derived.Deep.RegionLaw
import Derived.Laws.EntriesVeiled
import Derived.Shelf.Abstract
import Derived.Test.YtpflkjldapmgdaaGreatZRCarryChains29
import Derived.Test.YtpflkjldapmgdaaGreatZRCarryChains16
import Derived.Test.YtpflkjldapmgdaaGreatZRCarryChains2
import Derived.Test.YtpflkjldapmgdaaGreatZRCarryChains5
import Derived.Test.YtpflkjldapmgdaaGreatZRCarryChains6
import Derived.Test.YtpflkjldapmgdaaGreatZRCarryChains20
import Derived.Test.YtpflkjldapmgdaaGreatZRCarryChains8
namespace Go.Proofs.YtpflkjldapmgdaaGreat
open Go Go.RowKit Go.Maps
/-- the binds that a match tells. -/
def bindL (m : MM) (k : Nat) : List (Nat × List Int) := (List.range k).filterMap fun (v : Nat) => match m (-(v : Int) - 1) with | some l => if l = [-(v : Int) - 1] then none else some (v, l) | none => none
theorem bindL_succ (m : MM) (k : Nat) : bindL m (k + 1) = bindL m k ++ match m (-(k : Int) - 1) with | some l => if l = [-(k : Int) - 1] then [] else [(k, l)] | none => [] := by
  unfold bindL
  rw [List.range_succ, List.filterMap_append]
  congr 1
  cases h : m (-(k : Int) - 1) with
  | none => simp [h]
  | some l =>
    simp only [List.filterMap_cons, List.filterMap_nil, h]
    by_cases e : l = [-(k : Int) - 1] <;> simp [e]
theorem bindL_len (m : MM) (k : Nat) : (bindL m k).length ≤ k := by
  unfold bindL
  exact Nat.le_trans (List.length_filterMap_le _ _) (by simp)
abbrev BT := Nat × Value × List Int
def bCells (bs : List BT) : List Value := bs.flatMap fun b => [.int .i64 b.1, b.2.1]
def bPure (bs : List BT) : List (Nat × List Int) := bs.map fun b => (b.1, b.2.2)
theorem row_two_new (w : World) (x y : Value) (t : TypeId) : RowK (w.alloc (.cells #[x, y] t)) (.slice (some ⟨w.heap.size, 0, none⟩) 1 1) 2 1 [x, y] := by
  refine ⟨rfl, _, _, rfl, Nat.le_refl _, by omega, (fun h => by cases h), fun j u hj => ⟨_, _, rfl, ?_⟩⟩
  rw [World.cell?_alloc_new]
  match j, hj with
  | 0, hj => simpa using hj
  | 1, hj => simpa using hj
  | j + 2, hj => simp at hj
theorem arr12 (w : World) (ty : TypeId) : ArrT (w.alloc (.cells #[.slice none 0 0, .slice none 0 0, .slice none 0 0, .slice none 0 0, .slice none 0 0, .slice none 0 0, .slice none 0 0, .slice none 0 0, .slice none 0 0, .slice none 0 0, .slice none 0 0, .slice none 0 0] ty)) w.heap.size 0 12 (fun _ => none) := by
  refine ⟨_, ty, (MapKept.heap_alloc w _).1, fun i u hi => ?_, fun v hv => ⟨?_, fun _ _ h => by cases h⟩⟩
  · have hm := Array.mem_of_getElem? hi
    simp at hm
    exact ⟨_, _, _, hm⟩
  · match v, hv with
    | 0, _ => rfl
    | 1, _ => rfl
    | 2, _ => rfl
    | 3, _ => rfl
    | 4, _ => rfl
    | 5, _ => rfl
    | 6, _ => rfl
    | 7, _ => rfl
    | 8, _ => rfl
    | 9, _ => rfl
    | 10, _ => rfl
    | 11, _ => rfl
    | v + 12, h => omega
theorem mR_none : mR (fun _ => none) = noM := by
  funext x
  unfold mR noM
  split <;> rfl
end Go.Proofs.YtpflkjldapmgdaaGreat
namespace Go.Proofs.YtpflkjldapmgdaaGreat
open Go Go.RowKit Go.Maps
def underB (s : Sg) (a b : List Int) : Bool := instB s a b && !instB s b a
theorem underB_canon {s : Sg} {a b : List Int} (ha : termB s a = true) (hb : termB s b = true) : (instB s a b && !decide (canonL a = canonL b)) = underB s a b := by
  unfold underB
  cases h : instB s a b
  · rfl
  · simp only [Bool.true_and]
    congr 1
    have := alikeB_iff (s := s) (a := a) (b := b)
    rw [h] at this
    unfold alikeB at this
    rw [ha, hb] at this
    simp only [Bool.true_and, true_and] at this
    cases h2 : instB s b a
    · rw [h2] at this
      simpa using this
    · rw [h2] at this
      simpa using this
def overL (s : Sg) (l : List (List Int)) (x : List Int) : List Bool := l.map fun t => underB s t x
theorem allB_get {s : Sg} {l : List (List Int)} (h : allB s l = true) {k : Nat} (hk : k < l.length) : termB s l[k] = true := by
  unfold allB at h
  exact List.all_eq_true.1 h _ (List.getElem_mem hk)
def overB (s : Sg) (l : List (List Int)) (i : Int) : List Int × Int :=
  if shelfB s l then (if inB i 0 (l.length - 1) then (chosenL 0 (overL s l (l.getD i.toNat [])), 0) else ([], 5)) else ([], 1)
theorem shelfB_facts {s : Sg} {l : List (List Int)} (h : shelfB s l = true) : signB s = true ∧ 1 ≤ l.length ∧ l.length ≤ 60 ∧ allB s l = true ∧ 1 ≤ s.length ∧ s.length ≤ 12 := by
  unfold shelfB at h
  simp only [Bool.and_eq_true] at h
  have h1 := signB_len h.1.1
  have h2 := inB_true.1 h.1.2
  exact ⟨h.1.1, by omega, by omega, h.2, h1.1, h1.2⟩
/-- a row of bools that is filled from the front. -/
def fillB (bs : List Bool) (k : Nat) : List Bool := bs.take k ++ List.replicate (bs.length - k) false
theorem fillB_len (bs : List Bool) {k : Nat} (h : k ≤ bs.length) : (fillB bs k).length = bs.length := by simp [fillB]; omega
theorem fillB_zero (bs : List Bool) : fillB bs 0 = List.replicate bs.length false := by simp [fillB]
theorem fillB_all (bs : List Bool) : fillB bs bs.length = bs := by simp [fillB]
theorem fillB_get (bs : List Bool) {k : Nat} (h : k < bs.length) : ((fillB bs k).map Value.bool)[k]? = some (.bool false) := by
  have : (fillB bs k)[k]? = some false := by
    unfold fillB
    rw [List.getElem?_append_right (by simp; omega)]
    have e1 : k - (bs.take k).length = 0 := by simp; omega
    rw [e1, List.getElem?_replicate, if_pos (by omega)]
  rw [List.getElem?_map, this]; rfl
theorem fillB_set (bs : List Bool) {k : Nat} (h : k < bs.length) : ((fillB bs k).map Value.bool).set k (.bool bs[k]) = (fillB bs (k + 1)).map Value.bool := by
  rw [← List.map_set]
  congr 1
  unfold fillB
  rw [List.set_append_right _ _ (by simp; omega)]
  have e1 : k - (bs.take k).length = 0 := by simp; omega
  obtain ⟨r, hr⟩ : ∃ r, bs.length - k = r + 1 := ⟨bs.length - k - 1, by omega⟩
  have hr2 : bs.length - (k + 1) = r := by omega
  rw [e1, hr, hr2, List.replicate_succ, List.set_cons_zero, List.take_succ_eq_append_getElem h, List.append_assoc]
  rfl
end Go.Proofs.YtpflkjldapmgdaaGreat
namespace Go.Proofs.YtpflkjldapmgdaaGreat
open Go Go.RowKit Go.Maps
theorem Terms.at {w : World} {a : Option Addr} {n cap : Nat} {l : List (List Int)} (h : Terms w (.slice a n cap) l) {k : Nat} (hk : k < l.length) : ∃ b o u, a = some ⟨b, o, none⟩ ∧ w.cell? ⟨b, o + k, none⟩ = some u ∧ Ints w u l[k] := by
  obtain ⟨a', cap', h1, _, _, _, h2⟩ := h.open
  simp only [Value.slice.injEq] at h1
  obtain ⟨rfl, _, rfl⟩ := h1
  exact h2 k hk
/-- the groups while the new element's place is looked for. -/
def inG (ks : List (List Int)) (n : Nat) (x : List Int) (j : Nat) : List (List Int) := if x ∈ (hdsL ks n).take j then grpL ks (n + 1) else grpL ks n
theorem inG_zero (ks : List (List Int)) (n : Nat) (x : List Int) : inG ks n x 0 = grpL ks n := by simp [inG]
theorem take_mem_succ {D : List (List Int)} {j : Nat} (hj : j < D.length) (x : List Int) : x ∈ D.take (j + 1) ↔ x ∈ D.take j ∨ x = D[j] := by
  rw [List.take_succ_eq_append_getElem hj, List.mem_append, List.mem_singleton]
theorem idx_of_nodup {D : List (List Int)} (h : D.Nodup) {j : Nat} (hj : j < D.length) {x : List Int} (e : x = D[j]) : D.idxOf x = j := by rw [e]; exact List.Nodup.idxOf_getElem h j hj
theorem not_take_of_nodup {D : List (List Int)} (h : D.Nodup) {j : Nat} (hj : j < D.length) {x : List Int} (e : x = D[j]) : x ∉ D.take j := by
  intro hm
  rw [List.mem_iff_getElem?] at hm
  obtain ⟨i, hi⟩ := hm
  rw [List.getElem?_take] at hi
  split at hi
  · rename_i hij
    obtain ⟨h1, h2⟩ := List.getElem?_eq_some_iff.1 hi
    have e1 := idx_of_nodup h hj e
    have e2 := idx_of_nodup h h1 h2.symm
    omega
  · cases hi
/-- one step of the look. -/
theorem inG_step {ks : List (List Int)} {n : Nat} (hn : n < ks.length) {j : Nat} (hj : j < (grpL ks n).length) :
    ∃ (hl : (inG ks n ks[n] j).length = (grpL ks n).length) (k0 : Nat), (inG ks n ks[n] j)[j]'(by omega) = (grpL ks n)[j] ∧ 0 < (grpL ks n)[j].length ∧ (grpL ks n)[j].head? = some (k0 : Int) ∧ k0 < n ∧ (∃ h0 : k0 < ks.length,
      (ks[k0] = ks[n] → ks[n] ∉ (hdsL ks n).take j ∧ inG ks n ks[n] (j + 1) = (inG ks n ks[n] j).set j ((grpL ks n)[j] ++ [(n : Int)]) ∧ decide (ks[n] ∈ (hdsL ks n).take (j + 1)) = true) ∧
      (ks[k0] ≠ ks[n] → inG ks n ks[n] (j + 1) = inG ks n ks[n] j ∧ decide (ks[n] ∈ (hdsL ks n).take (j + 1)) = decide (ks[n] ∈ (hdsL ks n).take j))) := by
  obtain ⟨hjh, k0, f1, f2, f3⟩ := grpL_first (Nat.le_of_lt hn) hj
  have hnd := hdsL_nodup ks n
  obtain ⟨h0, f4⟩ := List.getElem?_eq_some_iff.1 f3
  have hold : ks[n] ∈ (hdsL ks n).take j → ∃ J, (hdsL ks n).idxOf ks[n] = J ∧ J < j := by
    intro hm
    refine ⟨_, rfl, ?_⟩
    rw [List.mem_iff_getElem?] at hm
    obtain ⟨i, hi⟩ := hm
    rw [List.getElem?_take] at hi
    split at hi
    · rename_i hij
      obtain ⟨h1, h2⟩ := List.getElem?_eq_some_iff.1 hi
      rw [idx_of_nodup hnd h1 h2.symm]; exact hij
    · cases hi
  have hlen : (inG ks n ks[n] j).length = (grpL ks n).length := by
    unfold inG
    split
    · rename_i hm
      have hx : ks[n] ∈ hdsL ks n := List.mem_of_mem_take hm
      rw [grpL_old hn hx rfl (by rw [grpL_len]; exact List.idxOf_lt_length_of_mem hx)]
      simp
    · rfl
  have hsame : (inG ks n ks[n] j)[j]'(by omega) = (grpL ks n)[j] := by
    have : (inG ks n ks[n] j)[j]? = (grpL ks n)[j]? := by
      unfold inG
      split
      · rename_i hm
        obtain ⟨J, hJ, hJj⟩ := hold hm
        have hx : ks[n] ∈ hdsL ks n := List.mem_of_mem_take hm
        rw [grpL_old hn hx hJ (by omega), List.getElem?_set_ne (by omega)]
      · rfl
    rw [List.getElem?_eq_getElem (by omega), List.getElem?_eq_getElem hj] at this
    exact Option.some.inj this
  refine ⟨hlen, k0, hsame, ?_, f1, f2, h0, fun e => ?_, fun e => ?_⟩
  · cases h : (grpL ks n)[j] with
    | nil => rw [h] at f1; simp at f1
    | cons => simp
  · have ex : ks[n] = (hdsL ks n)[j] := by rw [← e, f4]
    have hnot := not_take_of_nodup hnd hjh ex
    refine ⟨hnot, ?_, ?_⟩
    · have hx : ks[n] ∈ hdsL ks n := by rw [ex]; exact List.getElem_mem hjh
      unfold inG
      rw [if_pos ((take_mem_succ hjh _).2 (Or.inr ex)), if_neg hnot]
      exact grpL_old hn hx (idx_of_nodup hnd hjh ex) hj
    · simpa using (take_mem_succ hjh _).2 (Or.inr ex)
  · have ex : ks[n] ≠ (hdsL ks n)[j] := by rw [← f4]; exact fun h => e h.symm
    have hiff : ks[n] ∈ (hdsL ks n).take (j + 1) ↔ ks[n] ∈ (hdsL ks n).take j := by
      rw [take_mem_succ hjh]
      exact ⟨fun h => h.resolve_right ex, Or.inl⟩
    constructor
    · unfold inG
      by_cases hm : ks[n] ∈ (hdsL ks n).take j
      · rw [if_pos hm, if_pos (hiff.2 hm)]
      · rw [if_neg hm, if_neg (fun h => hm (hiff.1 h))]
    · by_cases hm : ks[n] ∈ (hdsL ks n).take j
      · rw [decide_eq_true hm, decide_eq_true (hiff.2 hm)]
      · rw [decide_eq_false hm, decide_eq_false (fun h => hm (hiff.1 h))]
theorem inG_all {ks : List (List Int)} {n : Nat} (hn : n < ks.length) {j : Nat} (hj : (grpL ks n).length ≤ j) :
    (ks[n] ∈ (hdsL ks n).take j → inG ks n ks[n] j = grpL ks (n + 1)) ∧ (ks[n] ∉ (hdsL ks n).take j → inG ks n ks[n] j = grpL ks n ∧ grpL ks (n + 1) = grpL ks n ++ [[(n : Int)]]) := by
  rw [grpL_len] at hj
  rw [List.take_of_length_le hj]
  unfold inG
  rw [List.take_of_length_le hj]
  exact ⟨fun h => if_pos h, fun h => ⟨if_neg h, grpL_new hn h⟩⟩
end Go.Proofs.YtpflkjldapmgdaaGreat
namespace Go.Proofs.YtpflkjldapmgdaaGreat
open Go Go.RowKit Go.Maps
theorem grpL_rows_len (ks : List (List Int)) (n : Nat) : ∀ g ∈ grpL ks n, g.length ≤ n := by
  intro g hg
  obtain ⟨h, _, rfl⟩ := List.mem_map.1 hg
  exact clsL_len ks n h
end Go.Proofs.YtpflkjldapmgdaaGreat
namespace Go.Proofs.YtpflkjldapmgdaaGreat
open Go Go.RowKit Go.Maps
abbrev KB := List UInt8
def ekS (k : KB) : Value := .string ⟨k.toArray⟩
theorem ekS_inj : ∀ x y : KB, ekS x = ekS y → x = y := by intro x y h; simpa [ekS] using h
theorem ekS_keyB (t : List Int) : ekS (keyL t) = .string (keyB t) := rfl
theorem ekS_key (k : KB) (h : k.length ≤ 1000) : ∃ kl, keyOf Tryz.prog 9 (ekS k) = some kl := by
  have hl : (⟨k.toArray⟩ : ByteArray).size ≤ maxLen := by show k.toArray.size ≤ maxLen; simp [maxLen]; omega
  refine ⟨.string k, ?_⟩
  unfold ekS
  simp [keyOf, Tryz.underlying9, mapKey, hl]
def idxM (ds : List KB) (x : KB) : Option Int := if x ∈ ds then some (ds.idxOf x : Int) else none
theorem idxM_yes {ds : List KB} {x : KB} (h : x ∈ ds) : idxM ds x = some (ds.idxOf x : Int) := by unfold idxM; rw [if_pos h]
theorem idxM_no {ds : List KB} {x : KB} (h : x ∉ ds) : idxM ds x = none := by unfold idxM; rw [if_neg h]
theorem idxM_ins {ds : List KB} {x : KB} (h : x ∉ ds) : (fun y => if y = x then some (ds.length : Int) else idxM ds y) = idxM (ds ++ [x]) := by
  funext y
  unfold idxM
  by_cases e : y = x
  · subst e
    simp [List.idxOf_append, h]
  · rw [if_neg e]
    by_cases hy : y ∈ ds
    · rw [if_pos hy, if_pos (by simp [hy]), List.idxOf_append, if_pos hy]
    · rw [if_neg hy, if_neg (by simp [hy, e])]
abbrev GMap (w : World) (b : Nat) (ds : List KB) : Prop := MapK Tryz.prog 9 ekS eI w b ds.length (idxM ds)
theorem gmap_ins {w : World} {b : Nat} {ds : List KB} {x : KB} (hN : idxM ds x = none) (hI : (fun y => if y = x then some (ds.length : Int) else idxM ds y) = idxM (ds ++ [x]))
    (h : MapK Tryz.prog 9 ekS eI w b (if (idxM ds x).isSome then ds.length else ds.length + 1) (fun y => if y = x then some (ds.length : Int) else idxM ds y)) : GMap w b (ds ++ [x]) := by
  rw [hN, hI] at h
  simpa [GMap] using h
theorem keyL_inj {t u : List Int} (h : ∀ x ∈ t, -12 ≤ x ∧ x ≤ 200) (h' : ∀ x ∈ u, -12 ≤ x ∧ x ≤ 200) (he : keyL t = keyL u) : t = u := keyB_inj h h' (by unfold keyB; rw [he])
theorem key_mem {ds : List (List Int)} {x : List Int} (hd : ∀ d ∈ ds, ∀ z ∈ d, -12 ≤ z ∧ z ≤ 200) (hx : ∀ z ∈ x, -12 ≤ z ∧ z ≤ 200) : keyL x ∈ ds.map keyL ↔ x ∈ ds := by
  constructor
  · intro h
    obtain ⟨d, h1, h2⟩ := List.mem_map.1 h
    have := keyL_inj (hd d h1) hx h2
    exact this ▸ h1
  · intro h; exact List.mem_map.2 ⟨x, h, rfl⟩
theorem key_idx {ds : List (List Int)} {x : List Int} (hd : ∀ d ∈ ds, ∀ z ∈ d, -12 ≤ z ∧ z ≤ 200) (hx : ∀ z ∈ x, -12 ≤ z ∧ z ≤ 200) : (ds.map keyL).idxOf (keyL x) = ds.idxOf x := by
  induction ds with
  | nil => rfl
  | cons d ds ih =>
    simp only [List.map_cons, List.idxOf_cons]
    by_cases e : d = x
    · subst e; simp
    · have e' : keyL d ≠ keyL x := fun q => e (keyL_inj (hd d (by simp)) hx q)
      rw [show (keyL d == keyL x) = false by simpa using e', show (d == x) = false by simpa using e]
      simp only [cond_false]
      rw [ih fun y hy => hd y (by simp [hy])]
end Go.Proofs.YtpflkjldapmgdaaGreat
namespace Go.Proofs.YtpflkjldapmgdaaGreat
open Go Go.RowKit Go.Maps
theorem nodup_bound : ∀ (n : Nat) (l : List Int), l.Nodup → (∀ x ∈ l, -(n : Int) ≤ x ∧ x < 0) → l.length ≤ n := by
  intro n
  induction n with
  | zero => intro l _ h; cases l with
    | nil => simp
    | cons a l => have := h a (by simp); omega
  | succ n ih =>
    intro l hd h
    have h1 := ih (l.erase (-((n + 1 : Nat) : Int))) (hd.erase _) fun x hx => by
      have h2 := (List.Nodup.mem_erase_iff hd).1 hx
      have := h x h2.2
      have := h2.1
      omega
    have h3 := List.length_erase (a := (-((n + 1 : Nat) : Int))) (l := l)
    split at h3 <;> omega
theorem vars_le {s : Sg} {t : List Int} (h : IsT s 12 t) : (varsF [] t).length ≤ 12 :=
  nodup_bound 12 _ (varsF_nodup t [] (by simp)) fun x hx => by
    rcases (varsF_mem t [] x).1 hx with h1 | h1
    · simp at h1
    · have := h.vars x h1.1 h1.2
      omega
end Go.Proofs.YtpflkjldapmgdaaGreat
namespace Go.Proofs.YtpflkjldapmgdaaGreat
open Go Go.RowKit Go.Maps
def firstsL (l : List (List Int)) : List Int := (grpL (l.map canonL) l.length).map fun g => g.headD 0
theorem firstsL_len (l : List (List Int)) : (firstsL l).length ≤ l.length := by
  unfold firstsL
  rw [List.length_map, grpL_len]
  exact hdsL_len _ _
end Go.Proofs.YtpflkjldapmgdaaGreat
namespace Go.Proofs.YtpflkjldapmgdaaGreat
open Go Go.RowKit Go.Maps
/-- whether a statement stands in the first least base. -/
def basOne (s : Sg) (l : List (List Int)) (i : Nat) : Bool := (List.range l.length).all fun k => !(underB s (l.getD k []) (l.getD i []) || (decide (k < i) && decide (canonL (l.getD k []) = canonL (l.getD i []))))
def basB (s : Sg) (l : List (List Int)) : List Bool := (List.range l.length).map (basOne s l)
def basQ (s : Sg) (l : List (List Int)) : List Int × Int := if shelfB s l then (chosenL 0 (basB s l), 0) else ([], 1)
theorem basB_len (s : Sg) (l : List (List Int)) : (basB s l).length = l.length := by simp [basB]
theorem basB_get (s : Sg) (l : List (List Int)) {i : Nat} (h : i < (basB s l).length) : (basB s l)[i] = basOne s l i := by simp [basB]
/-- whether a statement has one above it. -/
def upB (s : Sg) (l : List (List Int)) (i : Int) : Bool := (overL s l (l.getD i.toNat [])).any id
theorem upB_iff {s : Sg} {l : List (List Int)} {i : Nat} : upB s l i = true ↔ ∃ t ∈ l, underB s t (l.getD i []) = true := by
  unfold upB overL
  rw [Int.toNat_natCast, List.any_map, List.any_eq_true]
  rfl
def hdOf (ks : List (List Int)) (n : Nat) : List Int := (grpL ks n).map fun g => g.headD 0
theorem headD_append {a b : List Int} (h : a ≠ []) : (a ++ b).headD 0 = a.headD 0 := by
  cases a with
  | nil => exact absurd rfl h
  | cons x r => rfl
theorem hdOf_succ {ks : List (List Int)} {n : Nat} (h : n < ks.length) : hdOf ks (n + 1) = hdOf ks n ++ if ks[n] ∈ hdsL ks n then [] else [(n : Int)] := by
  have old : (hdsL ks n).map (fun x => (clsL ks (n + 1) x).headD 0) = (hdsL ks n).map (fun x => (clsL ks n x).headD 0) := by
    refine List.map_congr_left fun x hx => ?_
    rw [clsL_succ h, headD_append (clsL_ne (Nat.le_of_lt h) hx)]
  unfold hdOf grpL
  rw [hdsL_succ h]
  simp only [List.map_map]
  by_cases hm : ks[n] ∈ hdsL ks n
  · rw [if_pos hm, if_pos hm, List.append_nil]
    exact old
  · rw [if_neg hm, if_neg hm, List.map_append]
    congr 1
    simp only [List.map_cons, List.map_nil, Function.comp_apply]
    rw [clsL_succ h, clsL_none hm]
    simp
theorem hdOf_zero (ks : List (List Int)) : hdOf ks 0 = [] := by simp [hdOf, grpL, hdsL, dedF]
theorem hds_not {ks : List (List Int)} {n : Nat} (h : n < ks.length) : ks[n] ∉ hdsL ks n ↔ ∀ k (hk : k < n), ks[k] ≠ ks[n] := by
  have hm : ks[n] ∈ hdsL ks n ↔ ks[n] ∈ ks.take n := by unfold hdsL; rw [dedF_mem]; simp
  rw [hm]
  constructor
  · intro h1 k hk he
    exact h1 (by rw [List.mem_take_iff_getElem]; exact ⟨k, by omega, he⟩)
  · intro h1 h2
    rw [List.mem_take_iff_getElem] at h2
    obtain ⟨k, hk, he⟩ := h2
    exact h1 k (by omega) he
theorem basOne_iff {s : Sg} {l : List (List Int)} {i : Nat} : basOne s l i = true ↔ (∀ t ∈ l, underB s t (l.getD i []) = false) ∧ ∀ k, k < i → k < l.length → canonL (l.getD k []) ≠ canonL (l.getD i []) := by
  unfold basOne
  rw [List.all_eq_true]
  constructor
  · intro h
    refine ⟨fun t ht => ?_, fun k hk hl he => ?_⟩
    · obtain ⟨k, hk, rfl⟩ := List.getElem_of_mem ht
      have := h k (by simpa using hk)
      simp only [Bool.not_eq_true', Bool.or_eq_false_iff] at this
      have h1 := this.1
      rwa [show l.getD k [] = l[k] by simp [List.getD, hk]] at h1
    · have := h k (by simpa using hl)
      simp only [Bool.not_eq_true', Bool.or_eq_false_iff, Bool.and_eq_false_iff, decide_eq_false_iff_not] at this
      rcases this.2 with h2 | h2
      · exact h2 hk
      · exact h2 he
  · rintro ⟨h1, h2⟩ k hk
    have hk' : k < l.length := by simpa using hk
    simp only [Bool.not_eq_true', Bool.or_eq_false_iff, Bool.and_eq_false_iff, decide_eq_false_iff_not]
    refine ⟨?_, ?_⟩
    · rw [show l.getD k [] = l[k] by simp [List.getD, hk']]
      exact h1 _ (List.getElem_mem hk')
    · by_cases hki : k < i
      · exact Or.inr (h2 k hki hk')
      · exact Or.inl hki
theorem bas_firsts (s : Sg) (l : List (List Int)) : ∀ n, n ≤ l.length → (hdOf (l.map canonL) n).filter (fun i => !upB s l i) = chosenL 0 ((basB s l).take n)
  | 0, _ => by rw [hdOf_zero]; simp [chosenL]
  | n + 1, h => by
    have hn : n < l.length := by omega
    have ih := bas_firsts s l n (by omega)
    have hb : n < (basB s l).length := by rw [basB_len]; omega
    rw [hdOf_succ (by simpa using hn), List.filter_append, ih, chosenL_take_succ hb, basB_get]
    congr 1
    have hnot := hds_not (ks := l.map canonL) (n := n) (by simpa using hn)
    by_cases hm : (l.map canonL)[n]'(by simpa using hn) ∈ hdsL (l.map canonL) n
    · rw [if_pos hm]
      have : basOne s l n = false := by
        rw [← Bool.not_eq_true]
        intro hc
        refine hnot.2 (fun k hk => ?_) hm
        have := (basOne_iff.1 hc).2 k hk (by omega)
        simpa [List.getD, hn, show k < l.length by omega] using this
      rw [this]; rfl
    · rw [if_neg hm]
      have h1 := hnot.1 hm
      have e : basOne s l n = !upB s l n := by
        rw [Bool.eq_iff_iff, basOne_iff, Bool.not_eq_true', ← Bool.not_eq_true, upB_iff]
        constructor
        · rintro ⟨h2, _⟩ ⟨t, ht, hu⟩
          rw [h2 t ht] at hu; cases hu
        · intro h2
          refine ⟨fun t ht => ?_, fun k hk hl he => ?_⟩
          · rw [← Bool.not_eq_true]; exact fun hu => h2 ⟨t, ht, hu⟩
          · refine h1 k hk ?_
            simpa [List.getD, hl, hn] using he
      rw [e]
      cases hu : upB s l n <;> simp [List.filter_cons, hu]
theorem bas_all (s : Sg) (l : List (List Int)) : (firstsL l).filter (fun i => !upB s l i) = chosenL 0 (basB s l) := by
  have := bas_firsts s l l.length (Nat.le_refl _)
  rw [List.take_of_length_le (by rw [basB_len]; omega)] at this
  exact this
def idxB (n : Nat) (b : List Int) (i : Nat) : Bool := inB (b.getD i 0) 0 ((n : Int) - 1) && (decide (i = 0) || decide (b.getD (i - 1) 0 < b.getD i 0))
def isbB (s : Sg) (l : List (List Int)) (b : List Int) : Bool := shelfB s l && ((List.range b.length).all (idxB l.length b) && l.all fun t => b.any fun k => instB s (l.getD k.toNat []) t)
theorem cnt_lt {α : Type} {P Q : α → Bool} : ∀ (l : List α), (∀ a ∈ l, P a = true → Q a = true) → (∃ a ∈ l, P a = false ∧ Q a = true) → l.countP P < l.countP Q
  | [], _, h => by obtain ⟨a, h, _⟩ := h; simp at h
  | x :: l, h, hx => by
    rw [List.countP_cons, List.countP_cons]
    have hle : l.countP P ≤ l.countP Q := List.countP_mono_left fun a ha hp => h a (by simp [ha]) hp
    rcases hx with ⟨a, ha, h1, h2⟩
    rcases List.mem_cons.1 ha with rfl | ha
    · rw [h1, h2]; simp; omega
    · have := cnt_lt l (fun a ha => h a (by simp [ha])) ⟨a, ha, h1, h2⟩
      by_cases hp : P x = true
      · rw [hp, h x (by simp) hp]; simp; omega
      · simp only [hp]
        split <;> simp_all <;> omega
/-- above each statement there is one that has none above it. -/
theorem top_of {s : Sg} {l : List (List Int)} : ∀ (m : Nat) (t : List Int), t ∈ l → l.length - l.countP (instB s t) ≤ m → termB s t = true → ∃ u ∈ l, instB s u t = true ∧ ∀ x ∈ l, underB s x u = false := by
  intro m
  induction m with
  | zero =>
    intro t ht hm hv
    refine ⟨t, ht, by rw [instB_refl]; exact hv, fun x hx => ?_⟩
    rw [← Bool.not_eq_true]
    intro hu
    unfold underB at hu
    simp only [Bool.and_eq_true, Bool.not_eq_true'] at hu
    have h1 := cnt_lt (P := instB s t) (Q := instB s x) l (fun a _ h => instB_trans hu.1 h) ⟨x, hx, hu.2, by rw [instB_refl]; exact (instB_iff.1 hu.1).1⟩
    have h2 := List.countP_le_length (p := instB s x) (l := l)
    omega
  | succ m ih =>
    intro t ht hm hv
    by_cases hx : ∃ x ∈ l, underB s x t = true
    · obtain ⟨x, hx, hu⟩ := hx
      unfold underB at hu
      simp only [Bool.and_eq_true, Bool.not_eq_true'] at hu
      have h1 := cnt_lt (P := instB s t) (Q := instB s x) l (fun a _ h => instB_trans hu.1 h) ⟨x, hx, hu.2, by rw [instB_refl]; exact (instB_iff.1 hu.1).1⟩
      have h2 := List.countP_le_length (p := instB s x) (l := l)
      obtain ⟨u, hu1, hu2, hu3⟩ := ih x hx (by omega) (instB_iff.1 hu.1).1
      exact ⟨u, hu1, instB_trans hu2 hu.1, hu3⟩
    · refine ⟨t, ht, by rw [instB_refl]; exact hv, fun x hx' => ?_⟩
      rw [← Bool.not_eq_true]
      exact fun hu => hx ⟨x, hx', hu⟩
theorem alike_canon {s : Sg} {a b : List Int} (ha : termB s a = true) (hb : termB s b = true) (h : canonL a = canonL b) : instB s a b = true ∧ instB s b a = true := by
  have : alikeB s a b = true := by unfold alikeB; rw [ha, hb, h]; simp
  exact alikeB_iff.1 this
theorem underB_alike {s : Sg} {x a b : List Int} (ha : termB s a = true) (hb : termB s b = true) (h : canonL a = canonL b) : underB s x a = underB s x b := by
  have hi := alike_canon ha hb h
  unfold underB
  have e1 : instB s x a = instB s x b := by
    rw [Bool.eq_iff_iff]; exact ⟨fun k => instB_trans k hi.1, fun k => instB_trans k hi.2⟩
  have e2 : instB s a x = instB s b x := by
    rw [Bool.eq_iff_iff]; exact ⟨fun k => instB_trans hi.2 k, fun k => instB_trans hi.1 k⟩
  rw [e1, e2]
theorem first_of {l : List (List Int)} {c : List Int} : ∀ (n k : Nat), k ≤ n → k < l.length → canonL (l.getD k []) = c → ∃ i, i ≤ k ∧ canonL (l.getD i []) = c ∧ ∀ j, j < i → canonL (l.getD j []) ≠ c := by
  intro n
  induction n with
  | zero =>
    intro k hk _ hc
    exact ⟨k, Nat.le_refl _, hc, fun j hj => by omega⟩
  | succ n ih =>
    intro k hk hl hc
    by_cases h : ∃ j, j < k ∧ canonL (l.getD j []) = c
    · obtain ⟨j, hj, he⟩ := h
      obtain ⟨i, hi, h1, h2⟩ := ih j (by omega) (by omega) he
      exact ⟨i, by omega, h1, h2⟩
    · exact ⟨k, Nat.le_refl _, hc, fun j hj he => h ⟨j, hj, he⟩⟩
theorem chosenL_memB : ∀ (bs : List Bool) (i k : Nat), ((k : Int) ∈ chosenL i bs) ↔ (i ≤ k ∧ bs[k - i]? = some true)
  | [], i, k => by simp [chosenL]
  | b :: bs, i, k => by
    have ih := chosenL_memB bs (i + 1) k
    have hgt : i + 1 ≤ k → (b :: bs)[k - i]? = bs[k - (i + 1)]? := fun h => by
      rw [show k - i = (k - (i + 1)) + 1 by omega, List.getElem?_cons_succ]
    have heq : k = i → (b :: bs)[k - i]? = some b := fun h => by rw [h, Nat.sub_self]; rfl
    cases b
    · simp only [chosenL, Bool.false_eq_true, if_false]
      rw [ih]
      constructor
      · rintro ⟨h1, h2⟩
        exact ⟨by omega, by rw [hgt h1]; exact h2⟩
      · rintro ⟨h1, h2⟩
        by_cases h : k = i
        · rw [heq h] at h2; simp at h2
        · exact ⟨by omega, by rw [← hgt (by omega)]; exact h2⟩
    · simp only [chosenL, if_true, List.mem_cons]
      rw [ih]
      constructor
      · rintro (h | ⟨h1, h2⟩)
        · exact ⟨by omega, heq (by omega)⟩
        · exact ⟨by omega, by rw [hgt h1]; exact h2⟩
      · rintro ⟨h1, h2⟩
        by_cases h : k = i
        · left; omega
        · exact Or.inr ⟨by omega, by rw [← hgt (by omega)]; exact h2⟩
theorem bas_get {s : Sg} {l : List (List Int)} {x : Int} (h : x ∈ chosenL 0 (basB s l)) : ∃ i : Nat, x = i ∧ i < l.length ∧ basOne s l i = true := by
  obtain ⟨i, rfl⟩ : ∃ i : Nat, x = i := by
    have hx : ∀ (bs : List Bool) (i : Nat), x ∈ chosenL i bs → 0 ≤ x := by
      intro bs
      induction bs with
      | nil => intro i h; simp [chosenL] at h
      | cons b r ih =>
        intro i h
        unfold chosenL at h
        split at h
        · rcases List.mem_cons.1 h with h | h
          · omega
          · exact ih _ h
        · exact ih _ h
    exact Int.eq_ofNat_of_zero_le (hx _ _ h)
  have h2 := (chosenL_memB _ _ _).1 h
  obtain ⟨h3, h4⟩ := List.getElem?_eq_some_iff.1 h2.2
  rw [basB_get] at h4
  rw [basB_len] at h3
  exact ⟨i, rfl, by simpa using h3, by simpa using h4⟩
theorem bas_put {s : Sg} {l : List (List Int)} {i : Nat} (hi : i < l.length) (h : basOne s l i = true) : (i : Int) ∈ chosenL 0 (basB s l) := by
  refine (chosenL_memB _ 0 i).2 ⟨Nat.zero_le _, ?_⟩
  have hb : i < (basB s l).length := by rw [basB_len]; exact hi
  rw [Nat.sub_zero, List.getElem?_eq_getElem hb, basB_get, h]
theorem chosen_sorted : ∀ (bs : List Bool) (i : Nat), (chosenL i bs).Pairwise (· < ·) ∧ ∀ x ∈ chosenL i bs, (i : Int) ≤ x
  | [], i => by simp [chosenL]
  | b :: r, i => by
    have ih := chosen_sorted r (i + 1)
    unfold chosenL
    cases b
    · simp only [Bool.false_eq_true, if_false]
      exact ⟨ih.1, fun x hx => by have := ih.2 x hx; omega⟩
    · simp only [if_true, List.pairwise_cons, List.mem_cons]
      exact ⟨⟨fun x hx => by have := ih.2 x hx; omega, ih.1⟩, fun x hx => by
        rcases hx with rfl | hx
        · omega
        · have := ih.2 x hx; omega⟩
theorem pairwise_lt {b : List Int} (h : b.Pairwise (· < ·)) {i : Nat} (hi : i + 1 < b.length) : b[i] < b[i + 1] := List.pairwise_iff_getElem.1 h i (i + 1) (by omega) hi (by omega)
theorem bas_isb {s : Sg} {l : List (List Int)} (h : shelfB s l = true) : isbB s l (chosenL 0 (basB s l)) = true := by
  obtain ⟨-, -, -, hall, -, -⟩ := shelfB_facts h
  have hT : ∀ t ∈ l, termB s t = true := by unfold allB at hall; exact List.all_eq_true.1 hall
  unfold isbB
  rw [h, Bool.true_and, Bool.and_eq_true, List.all_eq_true, List.all_eq_true]
  have hs := chosen_sorted (basB s l) 0
  refine ⟨fun i hi => ?_, fun t ht => ?_⟩
  · have hi' : i < (chosenL 0 (basB s l)).length := by simpa using hi
    have e : (chosenL 0 (basB s l)).getD i 0 = (chosenL 0 (basB s l))[i] := by simp [List.getD, hi']
    obtain ⟨k, hk, hkl, _⟩ := bas_get (List.getElem_mem hi')
    unfold idxB
    rw [Bool.and_eq_true, inB_true, e, hk]
    refine ⟨by omega, ?_⟩
    cases i with
    | zero => simp
    | succ i =>
      rw [← hk]
      have hlt := pairwise_lt hs.1 hi'
      have e1 : (chosenL 0 (basB s l)).getD i 0 = (chosenL 0 (basB s l))[i] := by simp [List.getD, show i < (chosenL 0 (basB s l)).length by omega]
      simp only [Nat.add_sub_cancel, Bool.or_eq_true, decide_eq_true_eq]
      right
      rw [e1]; exact hlt
  · obtain ⟨u, hu, h1, h2⟩ := top_of _ t ht (Nat.le_refl _) (hT t ht)
    obtain ⟨k, hk, rfl⟩ := List.getElem_of_mem hu
    have ek : l.getD k [] = l[k] := by simp [List.getD, hk]
    obtain ⟨i, hi, hc, hf⟩ := first_of k k (Nat.le_refl _) hk rfl
    have hil : i < l.length := by omega
    have ei : l.getD i [] = l[i] := by simp [List.getD, hil]
    rw [ek, ei] at hc
    rw [List.any_eq_true]
    refine ⟨(i : Int), bas_put hil (basOne_iff.2 ⟨fun x hx => ?_, fun j hj _ => ?_⟩), ?_⟩
    · rw [ei, underB_alike (hT _ (List.getElem_mem hil)) (hT _ (List.getElem_mem hk)) hc]
      exact h2 x hx
    · have := hf j hj
      rw [ek] at this
      rw [ei, hc]; exact this
    · rw [Int.toNat_natCast, ei]
      exact instB_trans (alike_canon (hT _ (List.getElem_mem hil)) (hT _ (List.getElem_mem hk)) hc).1 h1
theorem over_none {s : Sg} {l : List (List Int)} {i : Nat} (h : basOne s l i = true) : chosenL 0 (overL s l (l.getD i [])) = [] := by
  have h1 := (basOne_iff.1 h).1
  have h2 : ∀ (bs : List Bool) (j : Nat), (∀ b ∈ bs, b = false) → chosenL j bs = [] := by
    intro bs
    induction bs with
    | nil => intro j _; rfl
    | cons b r ih =>
      intro j hb
      unfold chosenL
      rw [hb b (by simp)]
      exact ih _ fun x hx => hb x (by simp [hx])
  refine h2 _ _ fun b hb => ?_
  obtain ⟨t, ht, rfl⟩ := List.mem_map.1 hb
  exact h1 t ht
/-- P5.4: each other base has one alike each statement of the base. -/
theorem bas_there {s : Sg} {l : List (List Int)} {b : List Int} (h : isbB s l b = true) {i : Nat} (hi : i < l.length) (hb : basOne s l i = true) : ∃ x ∈ b, ∃ k : Nat, x = k ∧ k < l.length ∧ alikeB s (l.getD k []) (l.getD i []) = true := by
  unfold isbB at h
  simp only [Bool.and_eq_true, List.all_eq_true] at h
  obtain ⟨h0, h1, h2⟩ := h
  have ei : l.getD i [] = l[i] := by simp [List.getD, hi]
  have h3 := h2 l[i] (List.getElem_mem hi)
  rw [List.any_eq_true] at h3
  obtain ⟨x, hx, hin⟩ := h3
  obtain ⟨q, hq, rfl⟩ := List.getElem_of_mem hx
  have h4 := h1 q (by simpa using hq)
  unfold idxB at h4
  rw [show b.getD q 0 = b[q] by simp [List.getD, hq], Bool.and_eq_true, inB_true] at h4
  obtain ⟨k, hk⟩ := Int.eq_ofNat_of_zero_le h4.1.1
  have hkl : k < l.length := by omega
  rw [hk, Int.toNat_natCast] at hin
  refine ⟨b[q], hx, k, hk, hkl, ?_⟩
  have h5 := (basOne_iff.1 hb).1 l[k] (List.getElem_mem hkl)
  have ek : l.getD k [] = l[k] := by simp [List.getD, hkl]
  rw [ek] at hin ⊢
  rw [ei] at h5 ⊢
  unfold underB at h5
  rw [hin, Bool.true_and, Bool.not_eq_false'] at h5
  exact alikeB_iff.2 ⟨hin, h5⟩
end Go.Proofs.YtpflkjldapmgdaaGreat
