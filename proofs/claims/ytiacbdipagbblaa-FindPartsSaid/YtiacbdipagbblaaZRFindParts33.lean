/-
  WHAT IT HOLDS: contracts of full of package unify's solver: a term with all that is bound put in, or false if it is longer than 60. Conditions: the solver reads as data; what it binds leans on nothing of itself.
  WHAT IT HOLDS: contract of size of the reference's solver (layer 2). Conditions: the solver reads as data; the term is a term of at most 60 numbers; what is known is so.
-/
import Derived.OneCell
import Derived.Deep.RegionHeld3
import Derived.Test.YtiacbdipagbblaaZRFindParts32
import Derived.Test.YtiacbdipagbblaaZRFindParts30
namespace Go.Proofs.Ytiacbdipagbblaa
open Go Go.RowKit Go.Maps
theorem fw_one {s : Sg} {m : MM} (h : MOK s m) {n : Int} (hn : m n = none) : fw m [n] = [n] := by
  by_cases h0 : n < 0
  · exact sg_none h h0 hn
  · rw [fw_app _ (by omega)]; unfold fw; rw [full_nil]
theorem fw_take {m : MM} (t : List Int) {i : Nat} (h : i < t.length) : fw m (t.take (i + 1)) = fw m (t.take i) ++ fw m [t[i]] := by
  rw [List.take_succ_eq_append_getElem h, fw_append]
theorem fw_take_le (m : MM) (t : List Int) (i : Nat) : (fw m (t.take i)).length ≤ (fw m t).length := by
  conv => rhs; rw [← List.take_append_drop i t, fw_append, List.length_append]
  omega
def aparL (t : List Int) : List Int := t.map fun n => if n < 0 then n - 12 else n
def aparK (t : List Int) (k : Nat) : List Int := aparL (t.take k) ++ t.drop k
theorem aparK_len (t : List Int) (k : Nat) : (aparK t k).length = t.length := by
  unfold aparK aparL
  rw [List.length_append, List.length_map, ← List.length_append, List.take_append_drop]
theorem aparK_all (t : List Int) {k : Nat} (h : t.length ≤ k) : aparK t k = aparL t := by
  unfold aparK
  rw [List.take_of_length_le h, List.drop_eq_nil_of_le h, List.append_nil]
theorem aparK_get (t : List Int) {k : Nat} (h : k < t.length) : ((aparK t k).map (Value.int .i64))[k]? = some (.int .i64 t[k]) := by
  have : (aparK t k)[k]? = some t[k] := by
    unfold aparK aparL
    rw [List.getElem?_append_right (by simp; omega)]
    simp
    have : k - min k t.length = 0 := by omega
    rw [this]; simp [h]
  rw [List.getElem?_map, this]; rfl
theorem aparK_step (t : List Int) {k : Nat} (h : k < t.length) : aparK t (k + 1) = (aparK t k).set k (if t[k] < 0 then t[k] - 12 else t[k]) := by
  unfold aparK aparL
  rw [List.take_succ_eq_append_getElem h, List.map_append, List.set_append_right _ _ (by simp; omega)]
  have e2 : k - ((t.take k).map fun n => if n < 0 then n - 12 else n).length = 0 := by simp; omega
  rw [e2, List.drop_eq_getElem_cons h, List.set_cons_zero, List.append_assoc]
  rfl
theorem aparK_same (t : List Int) {k : Nat} (h : k < t.length) (h0 : ¬ t[k] < 0) : aparK t (k + 1) = aparK t k := by
  rw [aparK_step t h, if_neg h0]
  have h1 : k < (aparK t k).length := by rw [aparK_len]; exact h
  have : (aparK t k)[k] = t[k] := by
    have := aparK_get t h
    simpa [h1] using this
  rw [← this, List.set_getElem_self]
set_option maxHeartbeats 1000000 in
set_option maxRecDepth 100000 in
theorem unify_apart (v : Value) (t : List Int) (w : World) (ht : Ints w v t) (h0 : 0 < t.length) (hl : t.length ≤ 1000) (hr : ∀ x ∈ t, -1000000 ≤ x ∧ x ≤ 1000000) :
    Calls Try.prog 135 #[v] w fun e w' => ∃ u, e = .returned u ∧ w'.ownsRow w.heap.size 3 1 u (aparL t).length ((aparL t).map (Value.int .i64)) ∧ Below w.heap.size w w' := by
  obtain ⟨ta, tcap, rfl, ht1, ht2, -, TC⟩ := ht.open
  have TC' := hid TC
  have HR := hid hr
  have HT := hid ht
  clear TC ht hr
  go_enter Try.func135, Try.ntmps135
  go_wp2_with fail
  refine (sl_CloneT _ t _ HT.out h0 hl).mono ?_
  rintro e w1 ⟨u, rfl, hown, hb1⟩
  obtain ⟨g, cap, rfl, hg, hgc⟩ := owns_some hown h0
  have HOWN := hid hown
  have HB1 := hid hb1
  clear hown hb1
  go_wp2
  go_loopw [10] (fun kv wr => ∃ k : Nat, k ≤ t.length ∧ kv = .int .i64 k ∧ wr.ownsRow w.heap.size 3 1 (.slice (some ⟨g, 0, none⟩) t.length cap) t.length ((aparK t k).map (Value.int .i64)) ∧ Below w.heap.size w wr) (fun kv _ => t.length - (intOf kv).toNat)
  case atStart => exact ⟨0, by omega, rfl, by simpa [aparK, aparL] using HOWN.out, HB1.out⟩
  case round =>
    clear HOWN HB1
    obtain ⟨k, hk, rfl, hown, hb⟩ := hrel
    by_cases hlt : k < t.length
    · obtain ⟨tb, to, rfl, hc0⟩ := TC'.out k hlt
      have hcell := (hb.cell (World.block_lt_of_cell? _ _ hc0)).trans hc0
      have hrk := HR.out t[k] (List.getElem_mem hlt)
      by_cases hn : t[k] < 0
      · have hge : decide (t[k] < 0) = true := by simp; omega
        have hst := aparK_step t hlt
        rw [if_pos hn] at hst
        have hc1 := hown.cellAt k (by omega)
        rw [aparK_get t hlt] at hc1
        have hf1 := hown.frozenAt k
        have HST := hid (hown.stored k (.int .i64 (t[k] - 12)))
        have HB2 : Hid (Below w.heap.size w (wr.setCell ⟨g, k, none⟩ (.int .i64 (t[k] - 12)))) := hid (hb.setCell (p := ⟨g, k, none⟩) (by show w.heap.size ≤ g; omega) _)
        have HS := hid hst
        clear hst hown hc0
        go_wp2
        go_roundw
        case rel => exact ⟨k + 1, by omega, by go_num, by rw [HS.out, List.map_set]; exact HST.out.1, HB2.out⟩
        case measure => simp [intOf]; omega
      · have hge : decide (t[k] < 0) = false := by simp; omega
        have HS := hid (aparK_same t hlt hn)
        clear hc0
        go_wp2
        go_roundw
        case rel => exact ⟨k + 1, by omega, by go_num, by rw [HS.out]; exact hown, hb⟩
        case measure => simp [intOf]; omega
    · have HE := hid (aparK_all t (k := k) (by omega))
      rw [HE.out] at hown
      have HL : Hid ((aparL t).length = t.length) := hid (by simp [aparL])
      have HOW := hid hown
      clear hown
      go_wp2
      go_ret
      exact ⟨_, rfl, by rw [HL.out]; exact HOW.out, hb⟩
end Go.Proofs.Ytiacbdipagbblaa
namespace Go.Proofs.Ytiacbdipagbblaa
open Go Go.RowKit Go.Maps
def szT (m : MM) (t : List Int) : Nat := min (fw m t).length 61
def Kno (m : MM) (cs : Array Value) : Prop := cs.size = 24 ∧ ∀ v : Nat, v < 24 → ∃ x : Nat, cs[v]? = some (.int .i64 x) ∧ (x = 0 ∨ ∃ p, m (-(v : Int) - 1) = some p ∧ x = szT m p)
theorem Kno.set {m : MM} {cs : Array Value} (h : Kno m cs) (v : Nat) {p : List Int} (hp : m (-(v : Int) - 1) = some p) : Kno m (cs.setIfInBounds v (.int .i64 (szT m p))) := by
  refine ⟨by simpa using h.1, fun x hx => ?_⟩
  rw [Array.getElem?_setIfInBounds]
  by_cases e : v = x
  · subst e
    exact ⟨szT m p, by simp [h.1, hx], Or.inr ⟨p, hp, rfl⟩⟩
  · rw [if_neg e]
    exact h.2 x hx
theorem Kno.at {m : MM} {cs : Array Value} (h : Kno m cs) {v : Nat} (hv : v < 24) {w : World} {pd : Nat} (ha : ArrV w pd cs) : ∃ x3 : Nat, Kno m cs ∧ ArrV w pd cs ∧ w.cell? ⟨pd, v, none⟩ = some (.int .i64 x3) := by
  obtain ⟨x, h1, -⟩ := h.2 v hv
  exact ⟨x, h, ha, by rw [ha.cell]; exact h1⟩
def SzI (m : MM) (t : List Int) (i n : Nat) : Prop := n ≤ 121 ∧ (n ≤ 60 → n = (fw m (t.take i)).length) ∧ (60 < n → 60 < (fw m (t.take i)).length)
theorem SzI.zero (m : MM) (t : List Int) : SzI m t 0 0 := ⟨by omega, fun _ => by simp [fw, full_nil], fun h => by omega⟩
theorem SzI.next {m : MM} {t : List Int} {i n : Nat} (h : SzI m t i n) (hn : n ≤ 60) (hi : i < t.length) {X : Nat} (hX : min (fw m [t[i]]).length 61 = X) : SzI m t (i + 1) (n + X) := by
  have h1 := h.2.1 hn
  unfold SzI
  rw [fw_take t hi, List.length_append]
  refine ⟨by omega, fun _ => by omega, fun _ => by omega⟩
theorem SzI.fin {m : MM} {t : List Int} {i n : Nat} (h : SzI m t i n) (hi : t.length ≤ i) (hn : n ≤ 60) : n = szT m t := by
  have h1 := h.2.1 hn
  rw [List.take_of_length_le hi] at h1
  unfold szT
  omega
theorem SzI.big {m : MM} {t : List Int} {i n : Nat} (h : SzI m t i n) (hn : 60 < n) : 61 = szT m t := by
  have h1 := h.2.2 hn
  have h2 := fw_take_le m t i
  unfold szT
  omega
theorem below_self_drewN' {w0 w : World} (h : Below w0.heap.size w0 w) (n : Nat) : Below w0.heap.size w (w.drewN n) := (below_self_drewN w n).mono h.size
end Go.Proofs.Ytiacbdipagbblaa
