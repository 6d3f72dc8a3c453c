/-
  WHAT IT HOLDS: contracts of Shape of package term, and of shape and Shaped of package find. Conditions: the arguments read as data; the shelf and the sign are small.
  WHAT IT HOLDS: a new solver of the reference (layer 2). No condition.
  WHAT IT HOLDS: the walk of the law FindWithin.
  WHAT IT HOLDS: contracts of asked, Meeting, Instances, Generals, Alike, Shaped of package lemmaryref05, and of ref1's Flat. Conditions: the arguments read as data; at most 1000 terms and symbols.
-/
import Derived.Deep.WholeRow
import Derived.Test.YtldgkidojepdlaaZRFindRanks37
import Derived.Test.YtldgkidojepdlaaZRFindRanks36
import Derived.Test.YtldgkidojepdlaaZRFindRanks35
import Derived.Test.YtldgkidojepdlaaZRFindRanks19
import Derived.Test.YtldgkidojepdlaaZRFindRanks39
import Derived.Test.YtldgkidojepdlaaZRFindRanks13
namespace Go.Proofs.Ytldgkidojepdlaa
open Go Go.RowKit Go.Maps
def shapeL (t : List Int) : List Int := t.map fun n => max n (-1)
def shapK (t : List Int) (k : Nat) : List Int := shapeL (t.take k) ++ t.drop k
theorem shapK_all (t : List Int) {k : Nat} (h : t.length ≤ k) : shapK t k = shapeL t := by
  unfold shapK
  rw [List.take_of_length_le h, List.drop_eq_nil_of_le h, List.append_nil]
theorem shapK_step (t : List Int) {k : Nat} (h : k < t.length) : shapK t (k + 1) = (shapK t k).set k (if t[k] < -1 then -1 else t[k]) := by
  rw [show (if t[k] < -1 then -1 else t[k]) = max t[k] (-1) by split <;> omega]
  unfold shapK shapeL
  rw [List.take_succ_eq_append_getElem h, List.map_append, List.set_append_right _ _ (by simp; omega)]
  have e2 : k - ((t.take k).map fun n => max n (-1)).length = 0 := by simp; omega
  rw [e2, List.drop_eq_getElem_cons h, List.set_cons_zero, List.append_assoc]
  rfl
theorem shapK_get (t : List Int) {k : Nat} (h : k < t.length) : ((shapK t k).map (Value.int .i64))[k]? = some (.int .i64 t[k]) := by
  have : (shapK t k)[k]? = some t[k] := by
    unfold shapK shapeL
    rw [List.getElem?_append_right (by simp; omega)]
    simp
    have : k - min k t.length = 0 := by omega
    rw [this]; simp [h]
  rw [List.getElem?_map, this]; rfl
theorem shape_canon {a b : List Int} (h : canonL a = canonL b) : shapeL a = shapeL b := by
  have key : ∀ t, shapeL (canonL t) = shapeL t := by
    intro t
    unfold shapeL canonL
    rw [List.map_map]
    apply List.map_congr_left
    intro n _
    simp only [Function.comp]
    by_cases hn : n < 0
    · have := (numV_neg (vs := varsF [] t) (n := n)).2 hn
      omega
    · unfold numV; rw [if_neg hn]
  rw [← key a, ← key b, h]
end Go.Proofs.Ytldgkidojepdlaa
namespace Go.Proofs.Ytldgkidojepdlaa
open Go Go.RowKit Go.Maps
theorem mR_none' : mR (fun _ => none) = noM := by
  funext x
  unfold mR noM
  split <;> rfl
theorem rsol_new (w : World) (s : Sg) (sa : Option Addr) (sc : Nat) (ty : TypeId) (hs : SignAt w (.slice sa s.length sc) s) : RSol (w.alloc (.cells #[.slice sa s.length sc, .slice none 0 0, .slice none 0 0, .slice none 0 0, .slice none 0 0, .slice none 0 0, .slice none 0 0, .slice none 0 0, .slice none 0 0, .slice none 0 0, .slice none 0 0, .slice none 0 0, .slice none 0 0, .slice none 0 0, .slice none 0 0, .slice none 0 0, .slice none 0 0, .slice none 0 0, .slice none 0 0, .slice none 0 0, .slice none 0 0, .slice none 0 0, .slice none 0 0, .slice none 0 0, .slice none 0 0] ty)) w.heap.size (.slice sa s.length sc) s (fun _ => none) := by
  have hh := (MapKept.heap_alloc w (.cells #[.slice sa s.length sc, .slice none 0 0, .slice none 0 0, .slice none 0 0, .slice none 0 0, .slice none 0 0, .slice none 0 0, .slice none 0 0, .slice none 0 0, .slice none 0 0, .slice none 0 0, .slice none 0 0, .slice none 0 0, .slice none 0 0, .slice none 0 0, .slice none 0 0, .slice none 0 0, .slice none 0 0, .slice none 0 0, .slice none 0 0, .slice none 0 0, .slice none 0 0, .slice none 0 0, .slice none 0 0, .slice none 0 0] ty)).1
  refine ⟨(cell_of_row _ _ 0 _ ty (0, 0) hh).trans rfl, ⟨_, ty, hh, fun i u hi => ?_, fun v hv => ⟨?_, fun _ _ h => by cases h⟩⟩, hs.below ((Below.refl _ _).alloc (Nat.le_refl _) _), fun _ _ => rfl⟩
  · have hm := Array.mem_of_getElem? hi
    simp at hm
    rcases hm with h | h <;> exact ⟨_, _, _, h⟩
  · match v, hv with
    | 0, _ => rfl
    | 1, _ => rfl
    | 2, _ => rfl
    | 3, _ => rfl
    | 4, _ => rfl
    | 5, _ => rfl
    | 6, _ => rfl
    | 7, _ => rfl
    | 8, _ => rfl
    | 9, _ => rfl
    | 10, _ => rfl
    | 11, _ => rfl
    | 12, _ => rfl
    | 13, _ => rfl
    | 14, _ => rfl
    | 15, _ => rfl
    | 16, _ => rfl
    | 17, _ => rfl
    | 18, _ => rfl
    | 19, _ => rfl
    | 20, _ => rfl
    | 21, _ => rfl
    | 22, _ => rfl
    | 23, _ => rfl
    | v + 24, h => omega
end Go.Proofs.Ytldgkidojepdlaa
namespace Go.Proofs.Ytldgkidojepdlaa
open Go Go.RowKit Go.Maps
theorem chosenL_mem : ∀ (bs : List Bool) (i k : Nat), ((k : Int) ∈ chosenL i bs) ↔ (i ≤ k ∧ bs[k - i]? = some true)
  | [], i, k => by simp [chosenL]
  | b :: bs, i, k => by
    have ih := chosenL_mem bs (i + 1) k
    have hgt : i + 1 ≤ k → (b :: bs)[k - i]? = bs[k - (i + 1)]? := fun h => by
      rw [show k - i = (k - (i + 1)) + 1 by omega, List.getElem?_cons_succ]
    have heq : k = i → (b :: bs)[k - i]? = some b := fun h => by rw [h, Nat.sub_self]; rfl
    cases b
    · simp only [chosenL, Bool.false_eq_true, if_false]
      rw [ih]
      constructor
      · rintro ⟨h1, h2⟩
        exact ⟨by omega, by rw [hgt h1]; exact h2⟩
      · rintro ⟨h1, h2⟩
        by_cases h : k = i
        · rw [heq h] at h2; simp at h2
        · exact ⟨by omega, by rw [← hgt (by omega)]; exact h2⟩
    · simp only [chosenL, if_true, List.mem_cons]
      rw [ih]
      constructor
      · rintro (h | ⟨h1, h2⟩)
        · exact ⟨by omega, heq (by omega)⟩
        · exact ⟨by omega, by rw [hgt h1]; exact h2⟩
      · rintro ⟨h1, h2⟩
        by_cases h : k = i
        · left; omega
        · exact Or.inr ⟨by omega, by rw [← hgt (by omega)]; exact h2⟩
theorem chosenL_dec {f : List Int → Bool} {l : List (List Int)} {k : Nat} (h : k < l.length) : decide ((k : Int) ∈ chosenL 0 (l.map f)) = f l[k] := by
  rw [Bool.eq_iff_iff, decide_eq_true_eq, chosenL_mem]
  simp [h]
theorem meets_of_inst {s : Sg} {a b : List Int} (h : instB s a b = true ∨ instB s b a = true) : MeetsQ s a b := by
  have key : ∀ {c : List Int}, instB s a c = true → instB s b c = true → MeetsQ s a b := by
    intro c h1 h2
    obtain ⟨va, _, ia⟩ := instB_iff.1 h1
    obtain ⟨vb, _, ib⟩ := instB_iff.1 h2
    obtain ⟨σ, g, e0, e1⟩ := unif_of_inst (termB_T va) (termB_T vb) ia ib
    exact ⟨va, vb, fun h => h σ ⟨12, g⟩ (e0.trans e1.symm)⟩
  rcases h with h | h
  · exact key h (by rw [instB_refl]; exact (instB_iff.1 h).2.1)
  · exact key (by rw [instB_refl]; exact (instB_iff.1 h).2.1) h
theorem terms_lit1 {w : World} {v0 : Value} {l0 : List Int} (h0 : Ints w v0 l0) (T : TypeId) : Terms (w.alloc (.cells #[v0] T)) (.slice (some ⟨w.heap.size, 0, none⟩) 1 1) [l0] := by
  have hb : Below w.heap.size w (w.alloc (.cells #[v0] T)) := (Below.refl _ _).alloc (Nat.le_refl _) _
  refine ⟨[v0], ?_, rfl, fun i u t h1' h2' => ?_⟩
  · refine ⟨rfl, _, _, rfl, Nat.le_refl _, by simp, (fun h => by cases h), fun j u hj => ⟨_, _, rfl, ?_⟩⟩
    rw [Nat.zero_add, World.cell?_alloc_new]
    simpa using hj
  · match i, h1', h2' with
    | 0, h1', h2' => simp at h1' h2'; subst h1'; subst h2'; exact h0.below hb
    | i + 1, h1', _ => simp at h1'
theorem meetsF (s : Sg) (q : List Int) : ∃ f : List Int → Bool, ∀ t, MeetsA s t q (f t) := by
  have h : ∀ t, ∃ z : Bool, MeetsA s t q z := fun t => by
    by_cases h : MeetsQ s t q
    · exact ⟨true, by unfold MeetsA; simpa using h⟩
    · exact ⟨false, by unfold MeetsA; simpa using h⟩
  exact ⟨fun t => Classical.choose (h t), fun t => Classical.choose_spec (h t)⟩
end Go.Proofs.Ytldgkidojepdlaa
namespace Go.Proofs.Ytldgkidojepdlaa
open Go Go.RowKit Go.Maps
def rowP (p : List Int → Bool) (l : List (List Int)) (k : Nat) : List Bool := (l.take k).map p ++ List.replicate (l.length - k) false
def rowQ (p : List Int → Bool) (l : List (List Int)) (k : Nat) (b : Bool) : List Bool := (l.take k).map p ++ b :: List.replicate (l.length - (k + 1)) false
theorem rowP_at (p : List Int → Bool) (l : List (List Int)) (k : Nat) (h : k < l.length) : rowP p l k = rowQ p l k false := by
  unfold rowP rowQ
  rw [show l.length - k = (l.length - (k + 1)) + 1 by omega, List.replicate_succ]
theorem rowQ_get (p : List Int → Bool) (l : List (List Int)) (k : Nat) (b : Bool) (h : k < l.length) : (rowQ p l k b)[k]? = some b := by
  unfold rowQ
  rw [List.getElem?_append_right (by simp; omega)]
  simp [Nat.min_eq_left (Nat.le_of_lt h)]
theorem rowQ_set (p : List Int → Bool) (l : List (List Int)) (k : Nat) (b c : Bool) (h : k < l.length) : ((rowQ p l k b).map Value.bool).set k (.bool c) = (rowQ p l k c).map Value.bool := by
  unfold rowQ
  simp only [List.map_append, List.map_cons]
  rw [List.set_append_right _ _ (by simp; omega)]
  simp [Nat.min_eq_left (Nat.le_of_lt h)]
theorem rowQ_next (p : List Int → Bool) (l : List (List Int)) (k : Nat) (h : k < l.length) : rowQ p l k (p l[k]) = rowP p l (k + 1) := by
  unfold rowP rowQ
  rw [List.take_succ_eq_append_getElem h, List.map_append]
  simp only [List.map_cons, List.map_nil, List.append_assoc, List.singleton_append]
theorem rowP_len (p : List Int → Bool) (l : List (List Int)) (k : Nat) (h : k ≤ l.length) : (rowP p l k).length = l.length := by
  unfold rowP; simp; omega
theorem rowP_all (p : List Int → Bool) (l : List (List Int)) (k : Nat) (h : l.length ≤ k) : rowP p l k = l.map p := by
  unfold rowP
  rw [List.take_of_length_le h, show l.length - k = 0 by omega]; simp
theorem searchB_1 {s : Sg} {l : List (List Int)} {q : List Int} (bs : List Bool) (h : (shelfB s l && termB s q) = false) : searchB s l q bs = ([], 1) := by unfold searchB; rw [h]; rfl
theorem searchB_0 {s : Sg} {l : List (List Int)} {q : List Int} (bs : List Bool) (h : (shelfB s l && termB s q) = true) : searchB s l q bs = (chosenL 0 bs, 0) := by unfold searchB; rw [h]; rfl
theorem shelf_at {s : Sg} {l : List (List Int)} (h : shelfB s l = true) {k : Nat} (hk : k < l.length) : termB s l[k] = true := by
  unfold shelfB at h
  simp only [Bool.and_eq_true] at h
  have h2 := h.2
  unfold allB at h2
  rw [List.all_eq_true] at h2
  exact h2 _ (List.getElem_mem hk)
theorem ref5_asked (v vl vq : Value) (s : Sg) (l : List (List Int)) (q : List Int) (w : World) (hs : SignAt w v s) (hv : Terms w vl l) (hq : Ints w vq q) :
    Calls Try.prog 47 #[v, vl, vq] w fun e w' => e = .returned (.bool (shelfB s l && termB s q)) ∧ ∃ n, w' = w.drewN n := by
  go_enter Try.func47, Try.ntmps47
  go_wp2_with fail
  refine (ref5_Valid _ _ _ _ _ hs hv).mono ?_
  rintro e w1 ⟨rfl, n1, rfl⟩
  cases h : shelfB s l
  · go_wp2
    go_ret
    exact ⟨by rw [h]; rfl, n1, rfl⟩
  · go_wp2_with fail
    refine (ref1_Valid _ _ s q _ (hs.drewN n1) (hq.drewN n1)).mono ?_
    rintro e w2 ⟨rfl, n2, rfl⟩
    go_wp2
    go_ret
    exact ⟨by rw [h, Bool.true_and]; rfl, n1 + n2, by simp⟩
theorem searchB_congr {s : Sg} {l : List (List Int)} {q : List Int} {p p' : List Int → Bool} (h : ∀ t, termB s t = true → termB s q = true → p t = p' t) : searchB s l q (l.map p) = searchB s l q (l.map p') := by
  cases hv : (shelfB s l && termB s q)
  · rw [searchB_1 _ hv, searchB_1 _ hv]
  · rw [searchB_0 _ hv, searchB_0 _ hv]
    rw [Bool.and_eq_true] at hv
    have : l.map p = l.map p' := List.map_congr_left fun t ht => by
      obtain ⟨k, hk, rfl⟩ := List.getElem_of_mem ht
      exact h _ (shelf_at hv.1 hk) hv.2
    rw [this]
end Go.Proofs.Ytldgkidojepdlaa
