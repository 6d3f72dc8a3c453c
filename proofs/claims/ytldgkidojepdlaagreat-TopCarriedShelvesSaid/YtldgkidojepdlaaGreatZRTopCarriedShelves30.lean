/-
  WHAT IT HOLDS: contracts of Variable, Match and Instance of the reference of layer 2. Conditions: the arguments read as data.
  WHAT IT HOLDS: contracts of over and Over of package find, of alike, under and Over of the reference of layer 5. Conditions: the arguments read as data; the shelf and the sign are small.
  WHAT IT HOLDS: contracts of canonical, grouped of the reference of layer 5, of form and grouped of package find. Conditions: the arguments read as data; the terms are valid.
  WHAT IT HOLDS: contract of grouped of the reference of layer 5. Conditions: the argument reads as data.
-/
import Derived.WalkSpells
import Derived.Deep.RegionLaw
import Derived.Test.YtldgkidojepdlaaGreatZRTopCarriedShelves29
import Derived.Test.YtldgkidojepdlaaGreatZRTopCarriedShelves20
import Derived.Test.YtldgkidojepdlaaGreatZRTopCarriedShelves18
import Derived.Test.YtldgkidojepdlaaGreatZRTopCarriedShelves6
import Derived.Test.YtldgkidojepdlaaGreatZRTopCarriedShelves9
import Derived.Test.YtldgkidojepdlaaGreatZRTopCarriedShelves1
import Derived.Test.YtldgkidojepdlaaGreatZRTopCarriedShelves15
namespace Go.Proofs.YtldgkidojepdlaaGreat
open Go Go.RowKit Go.Maps
/-- the binds that a match tells. -/
def bindL (m : MM) (k : Nat) : List (Nat × List Int) := (List.range k).filterMap fun (v : Nat) => match m (-(v : Int) - 1) with | some l => if l = [-(v : Int) - 1] then none else some (v, l) | none => none
theorem bindL_succ (m : MM) (k : Nat) : bindL m (k + 1) = bindL m k ++ match m (-(k : Int) - 1) with | some l => if l = [-(k : Int) - 1] then [] else [(k, l)] | none => [] := by
  unfold bindL
  rw [List.range_succ, List.filterMap_append]
  congr 1
  cases h : m (-(k : Int) - 1) with
  | none => simp [h]
  | some l =>
    simp only [List.filterMap_cons, List.filterMap_nil, h]
    by_cases e : l = [-(k : Int) - 1] <;> simp [e]
theorem bindL_len (m : MM) (k : Nat) : (bindL m k).length ≤ k := by
  unfold bindL
  exact Nat.le_trans (List.length_filterMap_le _ _) (by simp)
abbrev BT := Nat × Value × List Int
def bCells (bs : List BT) : List Value := bs.flatMap fun b => [.int .i64 b.1, b.2.1]
def bPure (bs : List BT) : List (Nat × List Int) := bs.map fun b => (b.1, b.2.2)
theorem row_two_new (w : World) (x y : Value) (t : TypeId) : RowK (w.alloc (.cells #[x, y] t)) (.slice (some ⟨w.heap.size, 0, none⟩) 1 1) 2 1 [x, y] := by
  refine ⟨rfl, _, _, rfl, Nat.le_refl _, by omega, (fun h => by cases h), fun j u hj => ⟨_, _, rfl, ?_⟩⟩
  rw [World.cell?_alloc_new]
  match j, hj with
  | 0, hj => simpa using hj
  | 1, hj => simpa using hj
  | j + 2, hj => simp at hj
theorem arr12 (w : World) (ty : TypeId) : ArrT (w.alloc (.cells #[.slice none 0 0, .slice none 0 0, .slice none 0 0, .slice none 0 0, .slice none 0 0, .slice none 0 0, .slice none 0 0, .slice none 0 0, .slice none 0 0, .slice none 0 0, .slice none 0 0, .slice none 0 0] ty)) w.heap.size 0 12 (fun _ => none) := by
  refine ⟨_, ty, (MapKept.heap_alloc w _).1, fun i u hi => ?_, fun v hv => ⟨?_, fun _ _ h => by cases h⟩⟩
  · have hm := Array.mem_of_getElem? hi
    simp at hm
    exact ⟨_, _, _, hm⟩
  · match v, hv with
    | 0, _ => rfl
    | 1, _ => rfl
    | 2, _ => rfl
    | 3, _ => rfl
    | 4, _ => rfl
    | 5, _ => rfl
    | 6, _ => rfl
    | 7, _ => rfl
    | 8, _ => rfl
    | 9, _ => rfl
    | 10, _ => rfl
    | 11, _ => rfl
    | v + 12, h => omega
theorem mR_none : mR (fun _ => none) = noM := by
  funext x
  unfold mR noM
  split <;> rfl
end Go.Proofs.YtldgkidojepdlaaGreat
namespace Go.Proofs.YtldgkidojepdlaaGreat
open Go Go.RowKit Go.Maps
def underB (s : Sg) (a b : List Int) : Bool := instB s a b && !instB s b a
theorem underB_canon {s : Sg} {a b : List Int} (ha : termB s a = true) (hb : termB s b = true) : (instB s a b && !decide (canonL a = canonL b)) = underB s a b := by
  unfold underB
  cases h : instB s a b
  · rfl
  · simp only [Bool.true_and]
    congr 1
    have := alikeB_iff (s := s) (a := a) (b := b)
    rw [h] at this
    unfold alikeB at this
    rw [ha, hb] at this
    simp only [Bool.true_and, true_and] at this
    cases h2 : instB s b a
    · rw [h2] at this
      simpa using this
    · rw [h2] at this
      simpa using this
def overL (s : Sg) (l : List (List Int)) (x : List Int) : List Bool := l.map fun t => underB s t x
theorem allB_get {s : Sg} {l : List (List Int)} (h : allB s l = true) {k : Nat} (hk : k < l.length) : termB s l[k] = true := by
  unfold allB at h
  exact List.all_eq_true.1 h _ (List.getElem_mem hk)
set_option maxHeartbeats 1000000 in
set_option maxRecDepth 100000 in
theorem find_over (vs vl : Value) (s : Sg) (l : List (List Int)) (i : Nat) (w : World) (hs : SignAt w vs s) (hv : Terms w vl l) (hs1 : s.length ≤ 1000) (hl1 : l.length ≤ 1000) (hi : i < l.length) :
    Calls Tryz.prog 27 #[vs, vl, .int .i64 i] w fun e w' => ∃ u, e = .returned u ∧ w'.ownsRow w.heap.size 3 1 u (chosenL 0 (overL s l l[i])).length ((chosenL 0 (overL s l l[i])).map (Value.int .i64)) ∧ Below w.heap.size w w' := by
  obtain ⟨a, cap, rfl, hlc, hl, -, HC⟩ := hv.open
  have HC' := hid HC
  have HS := hid hs
  obtain ⟨bs, hbs⟩ : ∃ bs, overL s l l[i] = bs := ⟨_, rfl⟩
  have hbl : bs.length = l.length := by rw [← hbs]; simp [overL]
  have hbg : ∀ k (h : k < l.length) (h' : k < bs.length), bs[k] = underB s l[k] l[i] := by
    intro k h h'
    subst hbs
    simp [overL]
  obtain ⟨bi, oi, xi, rfl, hcelli0, hxi⟩ := HC i hi
  rw [hbs]
  have HBL := hid hbl
  have HBG := hid hbg
  have HXI := hid hxi
  clear HC hv hs hbs hbl hbg hxi
  go_enter Tryz.func27, Tryz.ntmps27
  go_wp2
  go_loopw [7, 12] (fun u kv wr => ∃ k : Nat, k ≤ l.length ∧ kv = .int .i64 k ∧ wr.ownsRow w.heap.size 3 1 u (chosenL 0 (bs.take k)).length ((chosenL 0 (bs.take k)).map (Value.int .i64)) ∧ Below w.heap.size w wr) (fun _ kv _ => l.length - (intOf kv).toNat)
  case atStart => exact ⟨0, by omega, rfl, World.ownsRow_nil _ _ _ _, Below.refl _ _⟩
  case round =>
    obtain ⟨k, hk, rfl, hown, hb⟩ := hrel
    have hsz := hb.size
    by_cases hlt : k < l.length
    · obtain ⟨b, o, x, hxe, hcell0, hx⟩ := HC'.out k hlt
      obtain ⟨rfl, rfl⟩ : bi = b ∧ oi = o := by simpa using hxe
      have hcell : wr.cell? ⟨bi, oi + k, none⟩ = some x := (hb.cell (World.block_lt_of_cell? _ _ hcell0)).trans hcell0
      have hcelli : wr.cell? ⟨bi, oi + i, none⟩ = some xi := (hb.cell (World.block_lt_of_cell? _ _ hcelli0)).trans hcelli0
      have hkb : k < bs.length := by have := HBL.out; omega
      have hbk := HBG.out k hlt hkb
      have HSU := hid (chosenL_take_succ hkb)
      have hcl := chosenL_le (bs.take k) 0
      have hcl' : (chosenL 0 (bs.take k)).length ≤ k := by simp at hcl; omega
      have HI1 := hid (unify_Instance vs x xi s l[k] l[i] wr (HS.out.below hb) (hx.below hb) (HXI.out.below hb) hs1)
      have HX := hid hx
      have HOWN := hid hown
      clear hcl hcell0 hx hown hxe
      unfold underB at hbk
      cases h1 : instB s l[k] l[i]
      · have HBK : Hid (bs[k] = false) := hid (by rw [hbk, h1]; rfl)
        rw [h1] at HI1
        clear hbk h1
        go_wp2_with fail
        refine HI1.out.mono ?_
        rintro e w1 ⟨rfl, hb1⟩
        go_wp2
        go_roundw
        case rel =>
          refine ⟨k + 1, by omega, by go_num, ?_, hb.trans (hb1.mono hsz)⟩
          rw [HSU.out, HBK.out]
          simpa using owns_below HOWN.out hb1
        case measure => simp [intOf]; omega
      · rw [h1] at HI1
        go_wp2_with fail
        refine HI1.out.mono ?_
        rintro e w1 ⟨rfl, hb1⟩
        have hb01 := hb.trans (hb1.mono hsz)
        have hcelli1 := (hb1.cell (World.block_lt_of_cell? _ _ hcelli)).trans hcelli
        have HI2 := hid (unify_Instance vs xi x s l[i] l[k] w1 (HS.out.below hb01) (HXI.out.below hb01) (HX.out.below hb01) hs1)
        cases h2 : instB s l[i] l[k]
        · have HBK : Hid (bs[k] = true) := hid (by rw [hbk, h1, h2]; rfl)
          rw [h2] at HI2
          clear hbk h1 h2
          go_wp2_with fail
          refine HI2.out.mono ?_
          rintro e w3 ⟨rfl, hb2⟩
          have hb3 := hb01.trans (hb2.mono hb01.size)
          have hown3 := owns_below (owns_below HOWN.out hb1) hb2
          have hsz3 := hb3.size
          go_wp2_with (at_builtin; refine wpList_append_row rfl _ _ 28 rfl w.heap.size 3 el_int Tryz.underlying28 rfl (by decide) _ _ _ rfl (hown3.alloc _) _ 1 [.int .i64 k] rfl (row_one_new _ _ _) (oneCell_one rfl) (by omega) (by omega) (by simp; omega) ?_; intro v' w4 hown4 hgrow4 _)
          have hb4 : Below w.heap.size w w4 := (hb3.alloc hsz3 _).grown hgrow4 (by simp; omega) (fun q hq => (hown3.lt q hq).1)
          go_roundw
          case rel => exact ⟨k + 1, by omega, by go_num, by rw [HSU.out, HBK.out]; simpa using hown4, hb4⟩
          case measure => simp [intOf]; omega
        · have HBK : Hid (bs[k] = false) := hid (by rw [hbk, h1, h2]; rfl)
          rw [h2] at HI2
          clear hbk h1 h2
          go_wp2_with fail
          refine HI2.out.mono ?_
          rintro e w3 ⟨rfl, hb2⟩
          have hb3 := hb01.trans (hb2.mono hb01.size)
          go_wp2
          go_roundw
          case rel =>
            refine ⟨k + 1, by omega, by go_num, ?_, hb3⟩
            rw [HSU.out, HBK.out]
            simpa using owns_below (owns_below HOWN.out hb1) hb2
          case measure => simp [intOf]; omega
    · have HT : Hid (bs.take k = bs) := hid (List.take_of_length_le (by have := HBL.out; omega))
      have HOWN := hid hown
      clear hown
      go_wp2
      go_ret
      exact ⟨_, rfl, by have := HOWN.out; rw [HT.out] at this; exact this, hb⟩
def overB (s : Sg) (l : List (List Int)) (i : Int) : List Int × Int :=
  if shelfB s l then (if inB i 0 (l.length - 1) then (chosenL 0 (overL s l (l.getD i.toNat [])), 0) else ([], 5)) else ([], 1)
theorem shelfB_facts {s : Sg} {l : List (List Int)} (h : shelfB s l = true) : signB s = true ∧ 1 ≤ l.length ∧ l.length ≤ 60 ∧ allB s l = true ∧ 1 ≤ s.length ∧ s.length ≤ 12 := by
  unfold shelfB at h
  simp only [Bool.and_eq_true] at h
  have h1 := signB_len h.1.1
  have h2 := inB_true.1 h.1.2
  exact ⟨h.1.1, by omega, by omega, h.2, h1.1, h1.2⟩
/-- a row of bools that is filled from the front. -/
def fillB (bs : List Bool) (k : Nat) : List Bool := bs.take k ++ List.replicate (bs.length - k) false
theorem fillB_len (bs : List Bool) {k : Nat} (h : k ≤ bs.length) : (fillB bs k).length = bs.length := by simp [fillB]; omega
theorem fillB_zero (bs : List Bool) : fillB bs 0 = List.replicate bs.length false := by simp [fillB]
theorem fillB_all (bs : List Bool) : fillB bs bs.length = bs := by simp [fillB]
theorem fillB_get (bs : List Bool) {k : Nat} (h : k < bs.length) : ((fillB bs k).map Value.bool)[k]? = some (.bool false) := by
  have : (fillB bs k)[k]? = some false := by
    unfold fillB
    rw [List.getElem?_append_right (by simp; omega)]
    have e1 : k - (bs.take k).length = 0 := by simp; omega
    rw [e1, List.getElem?_replicate, if_pos (by omega)]
  rw [List.getElem?_map, this]; rfl
theorem fillB_set (bs : List Bool) {k : Nat} (h : k < bs.length) : ((fillB bs k).map Value.bool).set k (.bool bs[k]) = (fillB bs (k + 1)).map Value.bool := by
  rw [← List.map_set]
  congr 1
  unfold fillB
  rw [List.set_append_right _ _ (by simp; omega)]
  have e1 : k - (bs.take k).length = 0 := by simp; omega
  obtain ⟨r, hr⟩ : ∃ r, bs.length - k = r + 1 := ⟨bs.length - k - 1, by omega⟩
  have hr2 : bs.length - (k + 1) = r := by omega
  rw [e1, hr, hr2, List.replicate_succ, List.set_cons_zero, List.take_succ_eq_append_getElem h, List.append_assoc]
  rfl
end Go.Proofs.YtldgkidojepdlaaGreat
namespace Go.Proofs.YtldgkidojepdlaaGreat
open Go Go.RowKit Go.Maps
theorem Terms.at {w : World} {a : Option Addr} {n cap : Nat} {l : List (List Int)} (h : Terms w (.slice a n cap) l) {k : Nat} (hk : k < l.length) : ∃ b o u, a = some ⟨b, o, none⟩ ∧ w.cell? ⟨b, o + k, none⟩ = some u ∧ Ints w u l[k] := by
  obtain ⟨a', cap', h1, _, _, _, h2⟩ := h.open
  simp only [Value.slice.injEq] at h1
  obtain ⟨rfl, _, rfl⟩ := h1
  exact h2 k hk
/-- the groups while the new element's place is looked for. -/
def inG (ks : List (List Int)) (n : Nat) (x : List Int) (j : Nat) : List (List Int) := if x ∈ (hdsL ks n).take j then grpL ks (n + 1) else grpL ks n
theorem inG_zero (ks : List (List Int)) (n : Nat) (x : List Int) : inG ks n x 0 = grpL ks n := by simp [inG]
theorem take_mem_succ {D : List (List Int)} {j : Nat} (hj : j < D.length) (x : List Int) : x ∈ D.take (j + 1) ↔ x ∈ D.take j ∨ x = D[j] := by
  rw [List.take_succ_eq_append_getElem hj, List.mem_append, List.mem_singleton]
theorem idx_of_nodup {D : List (List Int)} (h : D.Nodup) {j : Nat} (hj : j < D.length) {x : List Int} (e : x = D[j]) : D.idxOf x = j := by rw [e]; exact List.Nodup.idxOf_getElem h j hj
theorem not_take_of_nodup {D : List (List Int)} (h : D.Nodup) {j : Nat} (hj : j < D.length) {x : List Int} (e : x = D[j]) : x ∉ D.take j := by
  intro hm
  rw [List.mem_iff_getElem?] at hm
  obtain ⟨i, hi⟩ := hm
  rw [List.getElem?_take] at hi
  split at hi
  · rename_i hij
    obtain ⟨h1, h2⟩ := List.getElem?_eq_some_iff.1 hi
    have e1 := idx_of_nodup h hj e
    have e2 := idx_of_nodup h h1 h2.symm
    omega
  · cases hi
/-- one step of the look. -/
theorem inG_step {ks : List (List Int)} {n : Nat} (hn : n < ks.length) {j : Nat} (hj : j < (grpL ks n).length) :
    ∃ (hl : (inG ks n ks[n] j).length = (grpL ks n).length) (k0 : Nat), (inG ks n ks[n] j)[j]'(by omega) = (grpL ks n)[j] ∧ 0 < (grpL ks n)[j].length ∧ (grpL ks n)[j].head? = some (k0 : Int) ∧ k0 < n ∧ (∃ h0 : k0 < ks.length,
      (ks[k0] = ks[n] → ks[n] ∉ (hdsL ks n).take j ∧ inG ks n ks[n] (j + 1) = (inG ks n ks[n] j).set j ((grpL ks n)[j] ++ [(n : Int)]) ∧ decide (ks[n] ∈ (hdsL ks n).take (j + 1)) = true) ∧
      (ks[k0] ≠ ks[n] → inG ks n ks[n] (j + 1) = inG ks n ks[n] j ∧ decide (ks[n] ∈ (hdsL ks n).take (j + 1)) = decide (ks[n] ∈ (hdsL ks n).take j))) := by
  obtain ⟨hjh, k0, f1, f2, f3⟩ := grpL_first (Nat.le_of_lt hn) hj
  have hnd := hdsL_nodup ks n
  obtain ⟨h0, f4⟩ := List.getElem?_eq_some_iff.1 f3
  have hold : ks[n] ∈ (hdsL ks n).take j → ∃ J, (hdsL ks n).idxOf ks[n] = J ∧ J < j := by
    intro hm
    refine ⟨_, rfl, ?_⟩
    rw [List.mem_iff_getElem?] at hm
    obtain ⟨i, hi⟩ := hm
    rw [List.getElem?_take] at hi
    split at hi
    · rename_i hij
      obtain ⟨h1, h2⟩ := List.getElem?_eq_some_iff.1 hi
      rw [idx_of_nodup hnd h1 h2.symm]; exact hij
    · cases hi
  have hlen : (inG ks n ks[n] j).length = (grpL ks n).length := by
    unfold inG
    split
    · rename_i hm
      have hx : ks[n] ∈ hdsL ks n := List.mem_of_mem_take hm
      rw [grpL_old hn hx rfl (by rw [grpL_len]; exact List.idxOf_lt_length_of_mem hx)]
      simp
    · rfl
  have hsame : (inG ks n ks[n] j)[j]'(by omega) = (grpL ks n)[j] := by
    have : (inG ks n ks[n] j)[j]? = (grpL ks n)[j]? := by
      unfold inG
      split
      · rename_i hm
        obtain ⟨J, hJ, hJj⟩ := hold hm
        have hx : ks[n] ∈ hdsL ks n := List.mem_of_mem_take hm
        rw [grpL_old hn hx hJ (by omega), List.getElem?_set_ne (by omega)]
      · rfl
    rw [List.getElem?_eq_getElem (by omega), List.getElem?_eq_getElem hj] at this
    exact Option.some.inj this
  refine ⟨hlen, k0, hsame, ?_, f1, f2, h0, fun e => ?_, fun e => ?_⟩
  · cases h : (grpL ks n)[j] with
    | nil => rw [h] at f1; simp at f1
    | cons => simp
  · have ex : ks[n] = (hdsL ks n)[j] := by rw [← e, f4]
    have hnot := not_take_of_nodup hnd hjh ex
    refine ⟨hnot, ?_, ?_⟩
    · have hx : ks[n] ∈ hdsL ks n := by rw [ex]; exact List.getElem_mem hjh
      unfold inG
      rw [if_pos ((take_mem_succ hjh _).2 (Or.inr ex)), if_neg hnot]
      exact grpL_old hn hx (idx_of_nodup hnd hjh ex) hj
    · simpa using (take_mem_succ hjh _).2 (Or.inr ex)
  · have ex : ks[n] ≠ (hdsL ks n)[j] := by rw [← f4]; exact fun h => e h.symm
    have hiff : ks[n] ∈ (hdsL ks n).take (j + 1) ↔ ks[n] ∈ (hdsL ks n).take j := by
      rw [take_mem_succ hjh]
      exact ⟨fun h => h.resolve_right ex, Or.inl⟩
    constructor
    · unfold inG
      by_cases hm : ks[n] ∈ (hdsL ks n).take j
      · rw [if_pos hm, if_pos (hiff.2 hm)]
      · rw [if_neg hm, if_neg (fun h => hm (hiff.1 h))]
    · by_cases hm : ks[n] ∈ (hdsL ks n).take j
      · rw [decide_eq_true hm, decide_eq_true (hiff.2 hm)]
      · rw [decide_eq_false hm, decide_eq_false (fun h => hm (hiff.1 h))]
theorem inG_all {ks : List (List Int)} {n : Nat} (hn : n < ks.length) {j : Nat} (hj : (grpL ks n).length ≤ j) :
    (ks[n] ∈ (hdsL ks n).take j → inG ks n ks[n] j = grpL ks (n + 1)) ∧ (ks[n] ∉ (hdsL ks n).take j → inG ks n ks[n] j = grpL ks n ∧ grpL ks (n + 1) = grpL ks n ++ [[(n : Int)]]) := by
  rw [grpL_len] at hj
  rw [List.take_of_length_le hj]
  unfold inG
  rw [List.take_of_length_le hj]
  exact ⟨fun h => if_pos h, fun h => ⟨if_neg h, grpL_new hn h⟩⟩
end Go.Proofs.YtldgkidojepdlaaGreat
namespace Go.Proofs.YtldgkidojepdlaaGreat
open Go Go.RowKit Go.Maps
theorem grpL_rows_len (ks : List (List Int)) (n : Nat) : ∀ g ∈ grpL ks n, g.length ≤ n := by
  intro g hg
  obtain ⟨h, _, rfl⟩ := List.mem_map.1 hg
  exact clsL_len ks n h
end Go.Proofs.YtldgkidojepdlaaGreat
