/-
  WHAT IT HOLDS: a new solver of the reference (layer 2). No condition.
  WHAT IT HOLDS: the walk of the law FindWithin.
  WHAT IT HOLDS: contracts of asked, Meeting, Instances, Generals, Alike, Shaped of package lemmaryref05, and of ref1's Flat. Conditions: the arguments read as data; at most 1000 terms and symbols.
  WHAT IT HOLDS: contracts of where, Where, Having of package lemmaryref05. Conditions: the arguments read as data; small signs and shelves.
  WHAT IT HOLDS: contracts of Common and Join of the reference of layer 2. Conditions: the arguments read as data.
-/
import Derived.Deep.WholeRow
import Derived.Test.YtldgkidojepdlaaGreatZRTopCarriedShelves22
import Derived.Test.YtldgkidojepdlaaGreatZRTopCarriedShelves21
import Derived.Test.YtldgkidojepdlaaGreatZRTopCarriedShelves23
import Derived.Test.YtldgkidojepdlaaGreatZRTopCarriedShelves6
import Derived.Test.YtldgkidojepdlaaGreatZRTopCarriedShelves30
import Derived.Test.YtldgkidojepdlaaGreatZRTopCarriedShelves9
import Derived.Test.YtldgkidojepdlaaGreatZRTopCarriedShelves38
import Derived.Test.YtldgkidojepdlaaGreatZRTopCarriedShelves37
import Derived.Test.YtldgkidojepdlaaGreatZRTopCarriedShelves15
import Derived.Test.YtldgkidojepdlaaGreatZRTopCarriedShelves5
namespace Go.Proofs.YtldgkidojepdlaaGreat
open Go Go.RowKit Go.Maps
theorem mR_none' : mR (fun _ => none) = noM := by
  funext x
  unfold mR noM
  split <;> rfl
theorem rsol_new (w : World) (s : Sg) (sa : Option Addr) (sc : Nat) (ty : TypeId) (hs : SignAt w (.slice sa s.length sc) s) : RSol (w.alloc (.cells #[.slice sa s.length sc, .slice none 0 0, .slice none 0 0, .slice none 0 0, .slice none 0 0, .slice none 0 0, .slice none 0 0, .slice none 0 0, .slice none 0 0, .slice none 0 0, .slice none 0 0, .slice none 0 0, .slice none 0 0, .slice none 0 0, .slice none 0 0, .slice none 0 0, .slice none 0 0, .slice none 0 0, .slice none 0 0, .slice none 0 0, .slice none 0 0, .slice none 0 0, .slice none 0 0, .slice none 0 0, .slice none 0 0] ty)) w.heap.size (.slice sa s.length sc) s (fun _ => none) := by
  have hh := (MapKept.heap_alloc w (.cells #[.slice sa s.length sc, .slice none 0 0, .slice none 0 0, .slice none 0 0, .slice none 0 0, .slice none 0 0, .slice none 0 0, .slice none 0 0, .slice none 0 0, .slice none 0 0, .slice none 0 0, .slice none 0 0, .slice none 0 0, .slice none 0 0, .slice none 0 0, .slice none 0 0, .slice none 0 0, .slice none 0 0, .slice none 0 0, .slice none 0 0, .slice none 0 0, .slice none 0 0, .slice none 0 0, .slice none 0 0, .slice none 0 0] ty)).1
  refine ⟨(cell_of_row _ _ 0 _ ty (0, 0) hh).trans rfl, ⟨_, ty, hh, fun i u hi => ?_, fun v hv => ⟨?_, fun _ _ h => by cases h⟩⟩, hs.below ((Below.refl _ _).alloc (Nat.le_refl _) _), fun _ _ => rfl⟩
  · have hm := Array.mem_of_getElem? hi
    simp at hm
    rcases hm with h | h <;> exact ⟨_, _, _, h⟩
  · match v, hv with
    | 0, _ => rfl
    | 1, _ => rfl
    | 2, _ => rfl
    | 3, _ => rfl
    | 4, _ => rfl
    | 5, _ => rfl
    | 6, _ => rfl
    | 7, _ => rfl
    | 8, _ => rfl
    | 9, _ => rfl
    | 10, _ => rfl
    | 11, _ => rfl
    | 12, _ => rfl
    | 13, _ => rfl
    | 14, _ => rfl
    | 15, _ => rfl
    | 16, _ => rfl
    | 17, _ => rfl
    | 18, _ => rfl
    | 19, _ => rfl
    | 20, _ => rfl
    | 21, _ => rfl
    | 22, _ => rfl
    | 23, _ => rfl
    | v + 24, h => omega
end Go.Proofs.YtldgkidojepdlaaGreat
namespace Go.Proofs.YtldgkidojepdlaaGreat
open Go Go.RowKit Go.Maps
theorem chosenL_mem : ∀ (bs : List Bool) (i k : Nat), ((k : Int) ∈ chosenL i bs) ↔ (i ≤ k ∧ bs[k - i]? = some true)
  | [], i, k => by simp [chosenL]
  | b :: bs, i, k => by
    have ih := chosenL_mem bs (i + 1) k
    have hgt : i + 1 ≤ k → (b :: bs)[k - i]? = bs[k - (i + 1)]? := fun h => by
      rw [show k - i = (k - (i + 1)) + 1 by omega, List.getElem?_cons_succ]
    have heq : k = i → (b :: bs)[k - i]? = some b := fun h => by rw [h, Nat.sub_self]; rfl
    cases b
    · simp only [chosenL, Bool.false_eq_true, if_false]
      rw [ih]
      constructor
      · rintro ⟨h1, h2⟩
        exact ⟨by omega, by rw [hgt h1]; exact h2⟩
      · rintro ⟨h1, h2⟩
        by_cases h : k = i
        · rw [heq h] at h2; simp at h2
        · exact ⟨by omega, by rw [← hgt (by omega)]; exact h2⟩
    · simp only [chosenL, if_true, List.mem_cons]
      rw [ih]
      constructor
      · rintro (h | ⟨h1, h2⟩)
        · exact ⟨by omega, heq (by omega)⟩
        · exact ⟨by omega, by rw [hgt h1]; exact h2⟩
      · rintro ⟨h1, h2⟩
        by_cases h : k = i
        · left; omega
        · exact Or.inr ⟨by omega, by rw [← hgt (by omega)]; exact h2⟩
theorem chosenL_dec {f : List Int → Bool} {l : List (List Int)} {k : Nat} (h : k < l.length) : decide ((k : Int) ∈ chosenL 0 (l.map f)) = f l[k] := by
  rw [Bool.eq_iff_iff, decide_eq_true_eq, chosenL_mem]
  simp [h]
theorem meets_of_inst {s : Sg} {a b : List Int} (h : instB s a b = true ∨ instB s b a = true) : MeetsQ s a b := by
  have key : ∀ {c : List Int}, instB s a c = true → instB s b c = true → MeetsQ s a b := by
    intro c h1 h2
    obtain ⟨va, _, ia⟩ := instB_iff.1 h1
    obtain ⟨vb, _, ib⟩ := instB_iff.1 h2
    obtain ⟨σ, g, e0, e1⟩ := unif_of_inst (termB_T va) (termB_T vb) ia ib
    exact ⟨va, vb, fun h => h σ ⟨12, g⟩ (e0.trans e1.symm)⟩
  rcases h with h | h
  · exact key h (by rw [instB_refl]; exact (instB_iff.1 h).2.1)
  · exact key (by rw [instB_refl]; exact (instB_iff.1 h).2.1) h
theorem terms_lit1 {w : World} {v0 : Value} {l0 : List Int} (h0 : Ints w v0 l0) (T : TypeId) : Terms (w.alloc (.cells #[v0] T)) (.slice (some ⟨w.heap.size, 0, none⟩) 1 1) [l0] := by
  have hb : Below w.heap.size w (w.alloc (.cells #[v0] T)) := (Below.refl _ _).alloc (Nat.le_refl _) _
  refine ⟨[v0], ?_, rfl, fun i u t h1' h2' => ?_⟩
  · refine ⟨rfl, _, _, rfl, Nat.le_refl _, by simp, (fun h => by cases h), fun j u hj => ⟨_, _, rfl, ?_⟩⟩
    rw [Nat.zero_add, World.cell?_alloc_new]
    simpa using hj
  · match i, h1', h2' with
    | 0, h1', h2' => simp at h1' h2'; subst h1'; subst h2'; exact h0.below hb
    | i + 1, h1', _ => simp at h1'
theorem meetsF (s : Sg) (q : List Int) : ∃ f : List Int → Bool, ∀ t, MeetsA s t q (f t) := by
  have h : ∀ t, ∃ z : Bool, MeetsA s t q z := fun t => by
    by_cases h : MeetsQ s t q
    · exact ⟨true, by unfold MeetsA; simpa using h⟩
    · exact ⟨false, by unfold MeetsA; simpa using h⟩
  exact ⟨fun t => Classical.choose (h t), fun t => Classical.choose_spec (h t)⟩
end Go.Proofs.YtldgkidojepdlaaGreat
namespace Go.Proofs.YtldgkidojepdlaaGreat
open Go Go.RowKit Go.Maps
def rowP (p : List Int → Bool) (l : List (List Int)) (k : Nat) : List Bool := (l.take k).map p ++ List.replicate (l.length - k) false
def rowQ (p : List Int → Bool) (l : List (List Int)) (k : Nat) (b : Bool) : List Bool := (l.take k).map p ++ b :: List.replicate (l.length - (k + 1)) false
theorem rowP_at (p : List Int → Bool) (l : List (List Int)) (k : Nat) (h : k < l.length) : rowP p l k = rowQ p l k false := by
  unfold rowP rowQ
  rw [show l.length - k = (l.length - (k + 1)) + 1 by omega, List.replicate_succ]
theorem rowQ_get (p : List Int → Bool) (l : List (List Int)) (k : Nat) (b : Bool) (h : k < l.length) : (rowQ p l k b)[k]? = some b := by
  unfold rowQ
  rw [List.getElem?_append_right (by simp; omega)]
  simp [Nat.min_eq_left (Nat.le_of_lt h)]
theorem rowQ_set (p : List Int → Bool) (l : List (List Int)) (k : Nat) (b c : Bool) (h : k < l.length) : ((rowQ p l k b).map Value.bool).set k (.bool c) = (rowQ p l k c).map Value.bool := by
  unfold rowQ
  simp only [List.map_append, List.map_cons]
  rw [List.set_append_right _ _ (by simp; omega)]
  simp [Nat.min_eq_left (Nat.le_of_lt h)]
theorem rowQ_next (p : List Int → Bool) (l : List (List Int)) (k : Nat) (h : k < l.length) : rowQ p l k (p l[k]) = rowP p l (k + 1) := by
  unfold rowP rowQ
  rw [List.take_succ_eq_append_getElem h, List.map_append]
  simp only [List.map_cons, List.map_nil, List.append_assoc, List.singleton_append]
theorem rowP_len (p : List Int → Bool) (l : List (List Int)) (k : Nat) (h : k ≤ l.length) : (rowP p l k).length = l.length := by
  unfold rowP; simp; omega
theorem rowP_all (p : List Int → Bool) (l : List (List Int)) (k : Nat) (h : l.length ≤ k) : rowP p l k = l.map p := by
  unfold rowP
  rw [List.take_of_length_le h, show l.length - k = 0 by omega]; simp
theorem searchB_1 {s : Sg} {l : List (List Int)} {q : List Int} (bs : List Bool) (h : (shelfB s l && termB s q) = false) : searchB s l q bs = ([], 1) := by unfold searchB; rw [h]; rfl
theorem searchB_0 {s : Sg} {l : List (List Int)} {q : List Int} (bs : List Bool) (h : (shelfB s l && termB s q) = true) : searchB s l q bs = (chosenL 0 bs, 0) := by unfold searchB; rw [h]; rfl
theorem shelf_at {s : Sg} {l : List (List Int)} (h : shelfB s l = true) {k : Nat} (hk : k < l.length) : termB s l[k] = true := by
  unfold shelfB at h
  simp only [Bool.and_eq_true] at h
  have h2 := h.2
  unfold allB at h2
  rw [List.all_eq_true] at h2
  exact h2 _ (List.getElem_mem hk)
theorem searchB_congr {s : Sg} {l : List (List Int)} {q : List Int} {p p' : List Int → Bool} (h : ∀ t, termB s t = true → termB s q = true → p t = p' t) : searchB s l q (l.map p) = searchB s l q (l.map p') := by
  cases hv : (shelfB s l && termB s q)
  · rw [searchB_1 _ hv, searchB_1 _ hv]
  · rw [searchB_0 _ hv, searchB_0 _ hv]
    rw [Bool.and_eq_true] at hv
    have : l.map p = l.map p' := List.map_congr_left fun t ht => by
      obtain ⟨k, hk, rfl⟩ := List.getElem_of_mem ht
      exact h _ (shelf_at hv.1 hk) hv.2
    rw [this]
end Go.Proofs.YtldgkidojepdlaaGreat
namespace Go.Proofs.YtldgkidojepdlaaGreat
open Go Go.RowKit Go.Maps
attribute [local go_sem] Oper.semAt_some
def whrF (s : Sg) (t q : List Int) (n : Nat) : List (List Int) := (((prs s [[]] t).take n).filter fun x => instB s q x.2).map Prod.fst
theorem whrF_all {s : Sg} {t q : List Int} {n : Nat} (h : (prs s [[]] t).length ≤ n) : whrF s t q n = whrL s t q := by unfold whrF whrL; rw [List.take_of_length_le h]
theorem prs_at {s : Sg} {t v r p : List Int} {n : Nat} (hT : IsT s 12 t) (hv : IsT s 12 v) (hd : t.drop n = v ++ r) (hp : (wayL s t)[n]? = some p) : (prs s [[]] t)[n]? = some (p, v) := by
  have h := (List.getElem?_eq_some_iff.1 hp).1
  have h2 := (List.getElem?_eq_some_iff.1 hp).2
  have hl : n < (prs s [[]] t).length := by unfold wayL at h; rwa [List.length_map] at h
  rw [List.getElem?_eq_getElem hl]
  have e2 := prs_get t [[]] n hl
  rw [hd, tk_one hv] at e2
  have e1 : (prs s [[]] t)[n].1 = p := by
    rw [← h2]; simp [wayL]
  rw [← e1, ← e2]
theorem whrF_succ {s : Sg} {t v p q : List Int} {n : Nat} (h : (prs s [[]] t)[n]? = some (p, v)) : whrF s t q (n + 1) = whrF s t q n ++ (if instB s q v then [p] else []) := by
  unfold whrF
  rw [List.take_add_one, h, List.filter_append, List.map_append]
  cases hi : instB s q v <;> simp [hi]
theorem whrF_len (s : Sg) (t q : List Int) (n : Nat) : (whrF s t q n).length ≤ n := by
  unfold whrF
  rw [List.length_map]
  exact Nat.le_trans (List.length_filter_le _ _) (List.length_take_le _ _)
theorem whrF_short {s : Sg} {t q : List Int} {n : Nat} : ∀ p ∈ whrF s t q n, p.length ≤ t.length := by
  intro p hp
  unfold whrF at hp
  obtain ⟨x, hx, rfl⟩ := List.mem_map.1 hp
  have := way_small t [[]] 0 (by simp) x (List.mem_of_mem_take (List.mem_filter.1 hx).1)
  omega
def whereR (s : Sg) (t q : List Int) : List (List Int) × Int := if (termB s t && termB s q) = true then (whrL s t q, 0) else ([], 1)
theorem whereR_0 {s : Sg} {t q : List Int} (h1 : termB s t = true) (h2 : termB s q = true) : whereR s t q = (whrL s t q, 0) := by unfold whereR; rw [h1, h2]; rfl
theorem whereR_1 {s : Sg} {t q : List Int} (h : termB s t = false ∨ termB s q = false) : whereR s t q = ([], 1) := by unfold whereR; rcases h with h | h <;> simp [h]
theorem terms_nilW (w : World) : Terms w (.slice none 0 0) [] := ⟨[], ⟨rfl, none, 0, rfl, Nat.le_refl _, by simp, fun _ => rfl, fun j u hj => by simp at hj⟩, rfl, fun i u t h => by simp at h⟩
def hasB (s : Sg) (q t : List Int) : Bool := decide (0 < (whrL s t q).length)
set_option maxHeartbeats 1000000 in
theorem find_Having1 (vs vt vq : Value) (ps pq : Nat) (s : Sg) (t q : List Int) (w : World) (hs : SignAt w vs s) (ht : Ints w vt t) (hq : Ints w vq q) (hT : termB s t = true) (hs1 : s.length ≤ 1000) (c1 : w.cell? ⟨ps, 0, none⟩ = some vs) (c2 : w.cell? ⟨pq, 0, none⟩ = some vq) :
    Calls Tryz.prog 22 #[vt, .pointer (some ⟨ps, 0, none⟩), .pointer (some ⟨pq, 0, none⟩)] w fun e w' => e = .returned (.bool (hasB s q t)) ∧ Below w.heap.size w w' := by
  have HW := hid (find_where vs vt vq s t q w hs ht hq hT hs1)
  obtain ⟨sa, sc, rfl, -⟩ := hs.open
  obtain ⟨ta, tc, rfl, -⟩ := ht.open
  obtain ⟨qa, qc, rfl, -⟩ := hq.open
  clear hs ht hq
  go_enter Tryz.func22, Tryz.ntmps22
  go_wp2_with fail
  refine HW.out.mono ?_
  rintro e w1 ⟨u, rfl, hu, hb1⟩
  obtain ⟨ua, uc, rfl, -⟩ := hu.open
  have HB1 := hid hb1
  clear hu hb1
  go_wp2
  go_ret
  exact ⟨rfl, HB1.out⟩
set_option maxHeartbeats 1000000 in
theorem find_Having (v vl vq : Value) (s : Sg) (l : List (List Int)) (q : List Int) (w : World) (hs : SignAt w v s) (hv : Terms w vl l) (hq : Ints w vq q) (b1 : s.length ≤ 1000) (b2 : l.length ≤ 1000) :
    Calls Tryz.prog 11 #[v, vl, vq] w fun e w' => ∃ u, e = .returned (.tuple #[u, .int .i64 (searchB s l q (l.map (hasB s q))).2]) ∧ w'.ownsRow w.heap.size 3 1 u (searchB s l q (l.map (hasB s q))).1.length ((searchB s l q (l.map (hasB s q))).1.map (Value.int .i64)) ∧ Below w.heap.size w w' := by
  obtain ⟨sa, scap, rfl, _⟩ := hs.open
  obtain ⟨qa, qcap, rfl, _⟩ := hq.open
  obtain ⟨k1, k2, k3⟩ := boxes2 w (.slice sa s.length scap) (.slice qa q.length qcap) 23 29
  have KS := find_search 22 #[.pointer (some ⟨w.heap.size, 0, none⟩), .pointer (some ⟨w.heap.size + 1, 0, none⟩)] (enters_of Tryz.func22 (by kernel_rfl) rfl) (.slice sa s.length scap) vl (.slice qa q.length qcap) s l q (l.map (hasB s q)) _ (hs.below k3) (hv.below k3) (hq.below k3) b1 b2 (by simp) (by
    intro hsh _ i y W hi hi' hy hbW
    rw [List.getElem_map]
    refine find_Having1 _ _ _ w.heap.size (w.heap.size + 1) s l[i] q W ((hs.below k3).below hbW) hy ((hq.below k3).below hbW) (shelf_at hsh hi) b1 ?_ ?_
    · rw [hbW.cell (p := ⟨w.heap.size, 0, none⟩) (by simp; omega)]; exact k1
    · rw [hbW.cell (p := ⟨w.heap.size + 1, 0, none⟩) (by simp)]; exact k2)
  have KS' := hid KS
  have K3 := hid k3
  clear KS hs hv hq
  go_enter Tryz.func11, Tryz.ntmps11
  go_wp2_with fail
  refine KS'.out.mono ?_
  rintro e w1 ⟨u, rfl, hown, hb1⟩
  have HO := hid (owns_base hown (b' := w.heap.size) (by simp; omega))
  have HB := hid (K3.out.trans (hb1.mono (by simp; omega)))
  clear hown hb1
  go_wp2
  go_ret2
  exact ⟨_, rfl, HO.out, HB.out⟩
end Go.Proofs.YtldgkidojepdlaaGreat
namespace Go.Proofs.YtldgkidojepdlaaGreat
open Go Go.RowKit Go.Maps
def kzs (gL gR : List (List Int)) : List KK := (gL.zip gR).map fun p => (keyL p.1, keyL p.2)
theorem keyL_eq {s : Sg} (hs : s.length ≤ 100) {t u : List Int} (h : IsT s 12 t) (h' : IsT s 12 u) (he : keyL t = keyL u) : t = u :=
  keyB_inj (T_small' h hs) (T_small' h' hs) (by unfold keyB; rw [he])
theorem kzs_len {gL gR : List (List Int)} (h : gL.length = gR.length) : (kzs gL gR).length = gL.length := by
  unfold kzs; rw [List.length_map, List.length_zip]; omega
theorem kzs_get {gL gR : List (List Int)} (h : gL.length = gR.length) {k : Nat} (hk : k < gL.length) : (kzs gL gR)[k]? = some (keyL gL[k], keyL (gR[k]'(by omega))) := by
  unfold kzs
  have hk' : k < gR.length := by omega
  have hz : (gL.zip gR)[k]? = some (gL[k], gR[k]) := List.getElem?_zip_eq_some.2 ⟨by simp, by simp⟩
  rw [List.getElem?_map, hz]; rfl
theorem kzs_snoc {gL gR : List (List Int)} (h : gL.length = gR.length) (p q : List Int) : kzs (gL ++ [p]) (gR ++ [q]) = kzs gL gR ++ [(keyL p, keyL q)] := by
  unfold kzs
  rw [List.zip_append h]
  simp
/-- the plain part of what holds at a round's head. -/
structure CP (s : Sg) (a b : List Int) (i j : Nat) (gL gR : List (List Int)) (outs : List Int) (us vs : List (List Int)) : Prop where
  ul : us.length = vs.length
  ut : ∀ x ∈ us, IsT s 12 x
  vt : ∀ x ∈ vs, IsT s 12 x
  ad : a.drop i = us.flatten
  bd : b.drop j = vs.flatten
  ia : i ≤ a.length
  jb : j ≤ b.length
  gl : gL.length = gR.length
  tL : ∀ g ∈ gL, IsT s 12 g ∧ g.length ≤ 60
  tR : ∀ g ∈ gR, IsT s 12 g ∧ g.length ≤ 60
  gi : gL.length ≤ i
  oi : outs.length ≤ i
  com : outs ++ (comW s us.flatten vs.flatten (kzs gL gR)).1 = (comW s a b []).1
theorem CP.start {s : Sg} {a b : List Int} (ha : IsT s 12 a) (hb : IsT s 12 b) : CP s a b 0 0 [] [] [] [a] [b] :=
  ⟨rfl, by simpa using ha, by simpa using hb, by simp, by simp, by simp, by simp, rfl, by simp, by simp, by simp, by simp, by simp [kzs]⟩
theorem CP.done {s : Sg} {a b : List Int} {i j : Nat} {gL gR : List (List Int)} {outs : List Int} {vs : List (List Int)} (h : CP s a b i j gL gR outs [] vs) : outs = (comW s a b []).1 ∧ i = a.length := by
  have h1 := h.com
  rw [List.flatten_nil, comW_nil] at h1
  have h2 := congrArg List.length h.ad
  rw [List.length_drop] at h2
  have h3 := h.ia
  refine ⟨by simpa using h1, ?_⟩
  simp at h2
  omega
theorem CP.cut {s : Sg} {a b : List Int} {i j : Nat} {gL gR : List (List Int)} {outs : List Int} {p q : List Int} {us vs : List (List Int)} (h : CP s a b i j gL gR outs (p :: us) (q :: vs)) :
    IsT s 12 p ∧ IsT s 12 q ∧ a.drop i = p ++ us.flatten ∧ b.drop j = q ++ vs.flatten ∧ i + p.length + us.flatten.length = a.length ∧ j + q.length + vs.flatten.length = b.length ∧ 0 < p.length ∧ 0 < q.length := by
  have hp := h.ut p (by simp)
  have hq := h.vt q (by simp)
  have h1 := h.ad
  have h2 := h.bd
  rw [List.flatten_cons] at h1 h2
  have l1 := congrArg List.length h1
  have l2 := congrArg List.length h2
  rw [List.length_drop, List.length_append] at l1 l2
  have := h.ia
  have := h.jb
  have := hp.ne
  have := hq.ne
  exact ⟨hp, hq, h1, h2, by omega, by omega, by omega, by omega⟩
theorem CP.heads {s : Sg} {a b : List Int} {i j : Nat} {gL gR : List (List Int)} {outs : List Int} {p q : List Int} {us vs : List (List Int)} (h : CP s a b i j gL gR outs (p :: us) (q :: vs)) (hi : i < a.length) (hj : j < b.length) :
    p.head? = some a[i] ∧ q.head? = some b[j] := by
  obtain ⟨hp, hq, h1, h2, _⟩ := h.cut
  rw [List.drop_eq_getElem_cons hi] at h1
  rw [List.drop_eq_getElem_cons hj] at h2
  exact ⟨head_of_append hp.nonempty h1, head_of_append hq.nonempty h2⟩
theorem CP.same {s : Sg} {a b : List Int} {i j : Nat} {gL gR : List (List Int)} {outs : List Int} {p q : List Int} {us vs : List (List Int)} (h : CP s a b i j gL gR outs (p :: us) (q :: vs)) (hi : i < a.length) (hj : j < b.length) (he : a[i] = b[j]) (h0 : 0 ≤ a[i]) :
    ∃ us' vs', CP s a b (i + 1) (j + 1) gL gR (outs ++ [a[i]]) us' vs' := by
  obtain ⟨hp, hq, h1, h2, h3, h4, _⟩ := h.cut
  obtain ⟨e1, e2⟩ := h.heads hi hj
  have d1 := h1
  have d2 := h2
  rw [List.drop_eq_getElem_cons hi] at d1
  rw [List.drop_eq_getElem_cons hj] at d2
  generalize a[i] = x at *
  generalize b[j] = y at *
  subst he
  cases hp with
  | var n k1 k2 => simp at e1; omega
  | app c zs k1 k2 k3 =>
    cases hq with
    | var n m1 m2 => simp at e2; omega
    | app d ws m1 m2 m3 =>
      simp at e1 e2
      have hcd : c = d := by omega
      subst hcd
      subst e1
      have hl : zs.length = ws.length := by omega
      refine ⟨zs ++ us, ws ++ vs, ?_⟩
      have hc := h.com
      rw [List.flatten_cons, List.flatten_cons, List.cons_append, List.cons_append, comW_same ⟨rfl, by omega⟩] at hc
      simp only [List.cons_append, List.cons.injEq, true_and] at d1 d2
      have hul := h.ul
      simp only [List.length_cons] at hul
      refine ⟨by simp [hl]; omega, fun x hx => ?_, fun x hx => ?_, by rw [d1]; simp, by rw [d2]; simp, by omega, by omega, h.gl, h.tL, h.tR, by have := h.gi; omega, by have := h.oi; simp; omega, ?_⟩
      · rcases List.mem_append.1 hx with hx | hx
        · exact k3 x hx
        · exact h.ut x (by simp [hx])
      · rcases List.mem_append.1 hx with hx | hx
        · exact m3 x hx
        · exact h.vt x (by simp [hx])
      · rw [List.flatten_append, List.flatten_append, List.append_assoc]
        exact hc
theorem CP.next {s : Sg} {a b : List Int} {i j : Nat} {gL gR gL' gR' : List (List Int)} {outs : List Int} {p q : List Int} {us vs : List (List Int)} (h : CP s a b i j gL gR outs (p :: us) (q :: vs)) (hi : i < a.length) (hj : j < b.length) (hne : ¬ (a[i] = b[j] ∧ 0 ≤ a[i]))
    {k : Nat} (hk : numK (kzs gL gR) (keyL p, keyL q) = -(k : Int) - 1) (hi2 : insK (kzs gL gR) (keyL p, keyL q) = kzs gL' gR') (g1 : gL'.length = gR'.length) (g2 : ∀ g ∈ gL', IsT s 12 g ∧ g.length ≤ 60) (g3 : ∀ g ∈ gR', IsT s 12 g ∧ g.length ≤ 60) (g4 : gL'.length ≤ gL.length + 1) :
    CP s a b (i + p.length) (j + q.length) gL' gR' (outs ++ [-(k : Int) - 1]) us vs := by
  obtain ⟨hp, hq, h1, h2, h3, h4, h5, h6⟩ := h.cut
  obtain ⟨e1, e2⟩ := h.heads hi hj
  have hc := h.com
  rw [List.flatten_cons, List.flatten_cons, comW_diff hp hq e1 e2 hne, hk, hi2] at hc
  have hul := h.ul
  simp only [List.length_cons] at hul
  refine ⟨by omega, fun x hx => h.ut x (by simp [hx]), fun x hx => h.vt x (by simp [hx]), ?_, ?_, by omega, by omega, g1, g2, g3, by have := h.gi; omega, by have := h.oi; simp; omega, by rw [List.append_assoc]; exact hc⟩
  · rw [← List.drop_drop, h1, List.drop_left]
  · rw [← List.drop_drop, h2, List.drop_left]
theorem idxOf_first {α : Type} [BEq α] [LawfulBEq α] {x : α} : ∀ {l : List α} {k : Nat}, l[k]? = some x → (∀ k', k' < k → l[k']? ≠ some x) → l.idxOf x = k
  | [], k, h, _ => by simp at h
  | y :: l, 0, h, _ => by simp at h; subst h; simp
  | y :: l, k + 1, h, hn => by
    have h0 := hn 0 (by omega)
    simp at h0
    have h1 : (y == x) = false := by simpa using h0
    rw [List.idxOf_cons, h1]
    simp only [cond_false]
    rw [idxOf_first (l := l) (k := k) (by simpa using h) (fun k' hk' => by have := hn (k' + 1) (by omega); simpa using this)]
def noHit (gL gR : List (List Int)) (p q : List Int) (k : Nat) : Prop := ∀ k', k' < k → ¬ (gL[k']? = some p ∧ gR[k']? = some q)
theorem CP.nokey {s : Sg} (hsl : s.length ≤ 100) {a b : List Int} {i j : Nat} {gL gR : List (List Int)} {outs : List Int} {us vs : List (List Int)} (h : CP s a b i j gL gR outs us vs) {p q : List Int} (hp : IsT s 12 p) (hq : IsT s 12 q) {k : Nat} (hk : k < gL.length) (hn : ¬ (gL[k]? = some p ∧ gR[k]? = some q)) : (kzs gL gR)[k]? ≠ some (keyL p, keyL q) := by
  intro he
  have hk' : k < gR.length := by have := h.gl; omega
  rw [kzs_get h.gl hk] at he
  simp only [Option.some.injEq, Prod.mk.injEq] at he
  refine hn ⟨?_, ?_⟩
  · rw [List.getElem?_eq_getElem hk, keyL_eq hsl (h.tL _ (List.getElem_mem hk)).1 hp he.1]
  · rw [List.getElem?_eq_getElem hk', keyL_eq hsl (h.tR _ (List.getElem_mem hk')).1 hq he.2]
theorem CP.old {s : Sg} (hsl : s.length ≤ 100) {a b : List Int} {i j : Nat} {gL gR : List (List Int)} {outs : List Int} {p q : List Int} {us vs : List (List Int)} (h : CP s a b i j gL gR outs (p :: us) (q :: vs)) (hi : i < a.length) (hj : j < b.length) (hne : ¬ (a[i] = b[j] ∧ 0 ≤ a[i]))
    {k : Nat} (hk : k < gL.length) (hit : gL[k]? = some p ∧ gR[k]? = some q) (hno : noHit gL gR p q k) : CP s a b (i + p.length) (j + q.length) gL gR (outs ++ [-(k : Int) - 1]) us vs := by
  obtain ⟨hp, hq, _⟩ := h.cut
  have hk' : k < gR.length := by have := h.gl; omega
  have e1 : (kzs gL gR)[k]? = some (keyL p, keyL q) := by
    rw [kzs_get h.gl hk]
    have x1 := hit.1
    have x2 := hit.2
    rw [List.getElem?_eq_getElem hk] at x1
    rw [List.getElem?_eq_getElem hk'] at x2
    simp only [Option.some.injEq] at x1 x2
    rw [x1, x2]
  have e2 := idxOf_first e1 fun k' hk' => h.nokey hsl hp hq (by omega) (hno k' hk')
  refine h.next hi hj hne (k := k) (by unfold numK; rw [e2]) ?_ h.gl h.tL h.tR (by omega)
  unfold insK
  rw [if_pos (List.mem_of_getElem? e1)]
theorem CP.new {s : Sg} (hsl : s.length ≤ 100) {a b : List Int} {i j : Nat} {gL gR : List (List Int)} {outs : List Int} {p q : List Int} {us vs : List (List Int)} (h : CP s a b i j gL gR outs (p :: us) (q :: vs)) (hi : i < a.length) (hj : j < b.length) (hne : ¬ (a[i] = b[j] ∧ 0 ≤ a[i]))
    (hla : a.length ≤ 60) (hlb : b.length ≤ 60) (hno : noHit gL gR p q gL.length) : CP s a b (i + p.length) (j + q.length) (gL ++ [p]) (gR ++ [q]) (outs ++ [-(gL.length : Int) - 1]) us vs := by
  obtain ⟨hp, hq, _, _, h5, h6, _⟩ := h.cut
  have hm : (keyL p, keyL q) ∉ kzs gL gR := by
    intro hm
    obtain ⟨k, hk⟩ := List.getElem?_of_mem hm
    have hkl := (List.getElem?_eq_some_iff.1 hk).1
    rw [kzs_len h.gl] at hkl
    exact h.nokey hsl hp hq hkl (hno k hkl) hk
  refine h.next hi hj hne (k := gL.length) ?_ ?_ (by simp [h.gl]) ?_ ?_ (by simp)
  · unfold numK; rw [List.idxOf_eq_length hm, kzs_len h.gl]
  · unfold insK
    rw [if_neg hm, kzs_snoc h.gl]
  · intro g hg
    rcases List.mem_append.1 hg with hg | hg
    · exact h.tL g hg
    · simp at hg; subst hg; exact ⟨hp, by omega⟩
  · intro g hg
    rcases List.mem_append.1 hg with hg | hg
    · exact h.tR g hg
    · simp at hg; subst hg; exact ⟨hq, by omega⟩
def CM (wr : World) (base : Nat) (e E : TypeId) (u uL uR : Value) (gL gR : List (List Int)) (outs : List Int) : Prop :=
  ∃ vL vR ins, Sep wr base (rwT e u outs :: ⟨E, 1, uL, gL.length, vL⟩ :: ⟨E, 1, uR, gR.length, vR⟩ :: ins) ∧ InS e ins vL gL ∧ InS e ins vR gR
theorem CM.start (wr : World) (base : Nat) (e E : TypeId) : CM wr base e E (.slice none 0 0) (.slice none 0 0) (.slice none 0 0) [] [] [] :=
  ⟨[], [], [], (((Sep.nil wr base).consNil E 1).consNil E 1).consNil e 1, InS.nil _ _, InS.nil _ _⟩
theorem CM.below {wr w1 : World} {base : Nat} {e E : TypeId} {u uL uR : Value} {gL gR : List (List Int)} {outs : List Int} (h : CM wr base e E u uL uR gL gR outs) (hb : Below wr.heap.size wr w1) : CM w1 base e E u uL uR gL gR outs := by
  obtain ⟨vL, vR, ins, h1, h2⟩ := h
  exact ⟨vL, vR, ins, h1.below hb, h2⟩
theorem CM.own {wr : World} {base : Nat} {e E : TypeId} {u uL uR : Value} {gL gR : List (List Int)} {outs : List Int} (h : CM wr base e E u uL uR gL gR outs) : wr.ownsRow base e 1 u outs.length (outs.map (Value.int .i64)) := by
  obtain ⟨vL, vR, ins, h1, h2⟩ := h
  exact h1.1 (rwT e u outs) (by simp)
theorem CM.put {wr w4 : World} {base : Nat} {e E : TypeId} {u uL uR : Value} {gL gR : List (List Int)} {outs : List Int} (h : CM wr base e E u uL uR gL gR outs) {x : Int} {g cap : Nat} (hown : w4.ownsRow base e 1 (.slice (some ⟨g, 0, none⟩) (outs.length + 1) cap) (outs.length + 1) (outs.map (Value.int .i64) ++ [.int .i64 x]))
    (hg : wr.grownBy w4 u.ownBlock) {H : Nat} (hH : wr.heap.size = H) (hat : u.ownBlock = some g ∨ g = H) : CM w4 base e E (.slice (some ⟨g, 0, none⟩) (outs.length + 1) cap) uL uR gL gR (outs ++ [x]) := by
  obtain ⟨vL, vR, ins, h1, h2⟩ := h
  refine ⟨vL, vR, ins, ?_, h2⟩
  have := h1.app hg hown hH hat
  unfold rwT
  rw [List.map_append, List.length_append]
  exact this
theorem CM.terms {wr : World} {base : Nat} {e E : TypeId} {u uL uR : Value} {gL gR : List (List Int)} {outs : List Int} (h : CM wr base e E u uL uR gL gR outs) (hn : gL.length ≤ 100) (hl : gL.length = gR.length) (tL : ∀ g ∈ gL, g.length ≤ 60) (tR : ∀ g ∈ gR, g.length ≤ 60) : Terms wr uL gL ∧ Terms wr uR gR := by
  obtain ⟨vL, vR, ins, h1, h2, h3⟩ := h
  have hs : ∀ r ∈ ins, r ∈ (rwT e u outs :: ⟨E, 1, uL, gL.length, vL⟩ :: ⟨E, 1, uR, gR.length, vR⟩ :: ins) := fun r hr => by simp [hr]
  exact ⟨h1.terms (h2.mono hs) (h1.1 ⟨E, 1, uL, gL.length, vL⟩ (by simp)) (by omega) (fun g hg => by have := tL g hg; omega), h1.terms (h3.mono hs) (h1.1 ⟨E, 1, uR, gR.length, vR⟩ (by simp)) (by omega) (fun g hg => by have := tR g hg; omega)⟩
theorem CM.push {wr w1 w2 : World} {base : Nat} {e E : TypeId} {u uL uR vp vq : Value} {gL gR : List (List Int)} {outs p q : List Int} (h : CM wr base e E u uL uR gL gR outs) (hbase : base ≤ wr.heap.size)
    (hb1 : Below wr.heap.size wr w1) (hp : w1.ownsRow wr.heap.size e 1 vp p.length (p.map (Value.int .i64))) (hb2 : Below w1.heap.size w1 w2) (hq : w2.ownsRow w1.heap.size e 1 vq q.length (q.map (Value.int .i64))) :
    ∃ vL vR, ∀ {w3 : World}, Below w2.heap.size w2 w3 → w3.ownsRow base E 1 uL gL.length vL ∧ w3.ownsRow base E 1 uR gR.length vR ∧
      ∀ (w4 : World) (n gl cl H : Nat), n = gL.length → w4.ownsRow base E 1 (.slice (some ⟨gl, 0, none⟩) (n + 1) cl) (n + 1) (vL ++ [vp]) → w3.grownBy w4 uL.ownBlock → w3.heap.size = H → (uL.ownBlock = some gl ∨ gl = H) → ∀ w5, Below w4.heap.size w4 w5 →
        (w5.ownsRow base E 1 uR gR.length vR ∧ ∀ (w6 : World) (n' gr cr H' : Nat), n' = gR.length → (w6.ownsRow base E 1 (.slice (some ⟨gr, 0, none⟩) (n' + 1) cr) (n' + 1) (vR ++ [vq]) → w5.grownBy w6 uR.ownBlock → w5.heap.size = H' → (uR.ownBlock = some gr ∨ gr = H') →
        CM w6 base e E u (.slice (some ⟨gl, 0, none⟩) (n + 1) cl) (.slice (some ⟨gr, 0, none⟩) (n' + 1) cr) (gL ++ [p]) (gR ++ [q]) outs)) := by
  obtain ⟨vL, vR, ins, h1, h2, h3⟩ := h
  have s1 := h1.cons hb1 (Nat.le_refl _) hbase (r := rwT e vp p) hp
  have s2 := s1.cons hb2 (Nat.le_refl _) (Nat.le_trans hbase hb1.size) (r := rwT e vq q) hq
  refine ⟨vL, vR, fun {w3} hb3 => ?_⟩
  have s3 := s2.below hb3
  refine ⟨s3.1 ⟨E, 1, uL, gL.length, vL⟩ (by simp), s3.1 ⟨E, 1, uR, gR.length, vR⟩ (by simp), ?_⟩
  intro w4 n gl cl H hn o4 hg4 hH hat4 w5 hb5
  subst hn
  have s4 := s3.perm (List.perm_middle (l₁ := [rwT e vq q, rwT e vp p, rwT e u outs]) (a := Rw.mk E 1 uL gL.length vL) (l₂ := Rw.mk E 1 uR gR.length vR :: ins))
  have s5 := (s4.app hg4 o4 hH hat4).below hb5
  refine ⟨s5.1 ⟨E, 1, uR, gR.length, vR⟩ (by simp), ?_⟩
  intro w6 n' gr cr H' hn' o6 hg6 hH' hat6
  subst hn'
  have s6 := s5.perm (List.perm_middle (l₁ := [Rw.mk E 1 (.slice (some ⟨gl, 0, none⟩) (gL.length + 1) cl) (gL.length + 1) (vL ++ [vp]), rwT e vq q, rwT e vp p, rwT e u outs]) (a := Rw.mk E 1 uR gR.length vR) (l₂ := ins))
  have s7 := s6.app hg6 o6 hH' hat6
  have s8 := s7.perm (List.perm_middle (l₁ := [Rw.mk E 1 (.slice (some ⟨gr, 0, none⟩) (gR.length + 1) cr) (gR.length + 1) (vR ++ [vq]), Rw.mk E 1 (.slice (some ⟨gl, 0, none⟩) (gL.length + 1) cl) (gL.length + 1) (vL ++ [vp]), rwT e vq q, rwT e vp p]) (a := rwT e u outs) (l₂ := ins))
  have s9 := s8.perm ((List.Perm.swap _ _ _).cons _)
  refine ⟨vL ++ [vp], vR ++ [vq], rwT e vq q :: rwT e vp p :: ins, ?_, (h2.mono (by intro r hr; simp [hr])).push (by simp), (h3.mono (by intro r hr; simp [hr])).push (by simp)⟩
  rw [List.length_append, List.length_append]
  exact s9
theorem vars_len_le (t : List Int) : (varsF [] t).length ≤ t.length := by
  have key : ∀ (t vs : List Int), (varsF vs t).length ≤ vs.length + t.length := by
    intro t
    induction t with
    | nil => intro vs; simp [varsF]
    | cons x t ih =>
      intro vs
      simp only [varsF, List.length_cons]
      split
      · have := ih (vs ++ [x]); simp at this; omega
      · have := ih vs; omega
  simpa using key t []
end Go.Proofs.YtldgkidojepdlaaGreat
