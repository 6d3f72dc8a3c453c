/-
  WHAT IT HOLDS: contracts of canonical, grouped of the reference of layer 5, of form and grouped of package find. Conditions: the arguments read as data; the terms are valid.
-/
import Derived.Deep.RegionLaw
import Derived.Test.YtiacbdipagbblaaZRFindBases4
import Derived.Test.YtiacbdipagbblaaZRFindBases10
import Derived.Test.YtiacbdipagbblaaZRFindBases27
namespace Go.Proofs.Ytiacbdipagbblaa
open Go Go.RowKit Go.Maps
theorem Terms.at {w : World} {a : Option Addr} {n cap : Nat} {l : List (List Int)} (h : Terms w (.slice a n cap) l) {k : Nat} (hk : k < l.length) : ∃ b o u, a = some ⟨b, o, none⟩ ∧ w.cell? ⟨b, o + k, none⟩ = some u ∧ Ints w u l[k] := by
  obtain ⟨a', cap', h1, _, _, _, h2⟩ := h.open
  simp only [Value.slice.injEq] at h1
  obtain ⟨rfl, _, rfl⟩ := h1
  exact h2 k hk
set_option maxHeartbeats 1000000 in
set_option maxRecDepth 100000 in
theorem ref5_canonical (vl : Value) (l : List (List Int)) (w : World) (hv : Terms w vl l) (hl1 : l.length ≤ 1000) (h0 : ∀ t ∈ l, 0 < t.length ∧ t.length ≤ 1000 ∧ ∀ x ∈ t, -1000000 ≤ x ∧ x ≤ 1000000) :
    Calls Try.prog 85 #[vl] w fun e w' => ∃ u vs, e = .returned u ∧ NR w' w.heap.size 37 3 u vs (l.map canonL) ∧ Below w.heap.size w w' := by
  obtain ⟨a, cap, hve, hlc, hl, -, -⟩ := hv.open
  subst hve
  have HV := hid hv
  have H0 := hid h0
  clear hv h0
  go_enter Try.func85, Try.ntmps85
  go_wp2
  go_loopw [3, 4] (fun u kv wr => ∃ (k : Nat) (vs : List Value), k ≤ l.length ∧ kv = .int .i64 k ∧ NR wr w.heap.size 37 3 u vs ((l.take k).map canonL) ∧ Below w.heap.size w wr) (fun _ kv _ => l.length - (intOf kv).toNat)
  case atStart => exact ⟨0, [], by omega, rfl, NR.nil _ _ _ _, Below.refl _ _⟩
  case round =>
    obtain ⟨k, vs, hk, rfl, hn, hb⟩ := hrel
    have hsz := hb.size
    by_cases hlt : k < l.length
    · obtain ⟨b, o, x, hae, hcell, hx⟩ := (HV.out.below hb).at hlt
      subst hae
      obtain ⟨g1, g2, g3⟩ := H0.out l[k] (List.getElem_mem hlt)
      have HR := hid (ref1_Renamed x l[k] wr hx g1 g2 g3)
      have HN := hid hn
      have hgl : ((l.take k).map canonL).length = k := by simp; omega
      have HTK : Hid ((l.take (k + 1)).map canonL = (l.take k).map canonL ++ [canonL l[k]]) := hid (by rw [List.take_succ_eq_append_getElem hlt, List.map_append]; rfl)
      clear hx g3 hn
      go_wp2_with fail
      refine HR.out.mono ?_
      rintro e w1 ⟨ur, rfl, or, hb1⟩
      obtain ⟨gr, gc, hue, hgr, -⟩ := owns_some or (by rw [canonL_len]; omega)
      subst hue
      rw [canonL_len] at or ⊢
      have hb01 := hb.trans (hb1.mono hsz)
      have hn1 := HN.out.below hb1
      have htop := hn1.top
      rw [hgl] at htop
      have hsz1 := hb01.size
      have HN1 := hid hn1
      have HOR := hid or
      have HG := hid hgl
      clear or hn1 hgl
      go_wp2_with (at_builtin; refine wpList_append_lie rfl _ _ 24 rfl w.heap.size 37 el_term Try.underlying24 rfl (by decide) _ _ _ rfl (htop.alloc _) _ 1 [.slice (some ⟨gr, 0, none⟩) l[k].length gc] rfl (row_one_new _ _ _) (oneCell_one rfl) (by omega) (by omega) (by omega) (by simp; omega) _ rfl ?_; intro g cap' w4 hown4 hgrow4 hat4 hlt4)
      have hba : Below wr.heap.size wr (w1.alloc (.cells #[.slice (some ⟨gr, 0, none⟩) l[k].length gc] 37)) := hb1.alloc hb1.size _
      have hor2 := HOR.out.alloc (.cells #[.slice (some ⟨gr, 0, none⟩) l[k].length gc] 37)
      have hN4 := NR.pushNew (g := canonL l[k]) HN.out (Nat.le_refl _) hsz hba (by rw [canonL_len]; exact hor2) HG.out.symm hown4 hgrow4 rfl hat4
      have hb4 : Below w.heap.size w w4 := (hb.trans (hba.mono hsz)).grown hgrow4 (by simp; omega) (fun q hq => (HN.out.top.lt q hq).1)
      go_roundw
      case rel => exact ⟨k + 1, _, by omega, by go_num, by rw [HTK.out]; exact hN4, hb4⟩
      case measure => simp [intOf]; omega
    · have HT : Hid (l.take k = l) := hid (List.take_of_length_le (by omega))
      have HN := hid hn
      clear hn
      go_wp2
      go_ret
      exact ⟨_, vs, rfl, by have := HN.out; rw [HT.out] at this; exact this, hb⟩
/-- the groups while the new element's place is looked for. -/
def inG (ks : List (List Int)) (n : Nat) (x : List Int) (j : Nat) : List (List Int) := if x ∈ (hdsL ks n).take j then grpL ks (n + 1) else grpL ks n
theorem inG_zero (ks : List (List Int)) (n : Nat) (x : List Int) : inG ks n x 0 = grpL ks n := by simp [inG]
theorem take_mem_succ {D : List (List Int)} {j : Nat} (hj : j < D.length) (x : List Int) : x ∈ D.take (j + 1) ↔ x ∈ D.take j ∨ x = D[j] := by
  rw [List.take_succ_eq_append_getElem hj, List.mem_append, List.mem_singleton]
theorem idx_of_nodup {D : List (List Int)} (h : D.Nodup) {j : Nat} (hj : j < D.length) {x : List Int} (e : x = D[j]) : D.idxOf x = j := by rw [e]; exact List.Nodup.idxOf_getElem h j hj
theorem not_take_of_nodup {D : List (List Int)} (h : D.Nodup) {j : Nat} (hj : j < D.length) {x : List Int} (e : x = D[j]) : x ∉ D.take j := by
  intro hm
  rw [List.mem_iff_getElem?] at hm
  obtain ⟨i, hi⟩ := hm
  rw [List.getElem?_take] at hi
  split at hi
  · rename_i hij
    obtain ⟨h1, h2⟩ := List.getElem?_eq_some_iff.1 hi
    have e1 := idx_of_nodup h hj e
    have e2 := idx_of_nodup h h1 h2.symm
    omega
  · cases hi
/-- one step of the look. -/
theorem inG_step {ks : List (List Int)} {n : Nat} (hn : n < ks.length) {j : Nat} (hj : j < (grpL ks n).length) :
    ∃ (hl : (inG ks n ks[n] j).length = (grpL ks n).length) (k0 : Nat), (inG ks n ks[n] j)[j]'(by omega) = (grpL ks n)[j] ∧ 0 < (grpL ks n)[j].length ∧ (grpL ks n)[j].head? = some (k0 : Int) ∧ k0 < n ∧ (∃ h0 : k0 < ks.length,
      (ks[k0] = ks[n] → ks[n] ∉ (hdsL ks n).take j ∧ inG ks n ks[n] (j + 1) = (inG ks n ks[n] j).set j ((grpL ks n)[j] ++ [(n : Int)]) ∧ decide (ks[n] ∈ (hdsL ks n).take (j + 1)) = true) ∧
      (ks[k0] ≠ ks[n] → inG ks n ks[n] (j + 1) = inG ks n ks[n] j ∧ decide (ks[n] ∈ (hdsL ks n).take (j + 1)) = decide (ks[n] ∈ (hdsL ks n).take j))) := by
  obtain ⟨hjh, k0, f1, f2, f3⟩ := grpL_first (Nat.le_of_lt hn) hj
  have hnd := hdsL_nodup ks n
  obtain ⟨h0, f4⟩ := List.getElem?_eq_some_iff.1 f3
  have hold : ks[n] ∈ (hdsL ks n).take j → ∃ J, (hdsL ks n).idxOf ks[n] = J ∧ J < j := by
    intro hm
    refine ⟨_, rfl, ?_⟩
    rw [List.mem_iff_getElem?] at hm
    obtain ⟨i, hi⟩ := hm
    rw [List.getElem?_take] at hi
    split at hi
    · rename_i hij
      obtain ⟨h1, h2⟩ := List.getElem?_eq_some_iff.1 hi
      rw [idx_of_nodup hnd h1 h2.symm]; exact hij
    · cases hi
  have hlen : (inG ks n ks[n] j).length = (grpL ks n).length := by
    unfold inG
    split
    · rename_i hm
      have hx : ks[n] ∈ hdsL ks n := List.mem_of_mem_take hm
      rw [grpL_old hn hx rfl (by rw [grpL_len]; exact List.idxOf_lt_length_of_mem hx)]
      simp
    · rfl
  have hsame : (inG ks n ks[n] j)[j]'(by omega) = (grpL ks n)[j] := by
    have : (inG ks n ks[n] j)[j]? = (grpL ks n)[j]? := by
      unfold inG
      split
      · rename_i hm
        obtain ⟨J, hJ, hJj⟩ := hold hm
        have hx : ks[n] ∈ hdsL ks n := List.mem_of_mem_take hm
        rw [grpL_old hn hx hJ (by omega), List.getElem?_set_ne (by omega)]
      · rfl
    rw [List.getElem?_eq_getElem (by omega), List.getElem?_eq_getElem hj] at this
    exact Option.some.inj this
  refine ⟨hlen, k0, hsame, ?_, f1, f2, h0, fun e => ?_, fun e => ?_⟩
  · cases h : (grpL ks n)[j] with
    | nil => rw [h] at f1; simp at f1
    | cons => simp
  · have ex : ks[n] = (hdsL ks n)[j] := by rw [← e, f4]
    have hnot := not_take_of_nodup hnd hjh ex
    refine ⟨hnot, ?_, ?_⟩
    · have hx : ks[n] ∈ hdsL ks n := by rw [ex]; exact List.getElem_mem hjh
      unfold inG
      rw [if_pos ((take_mem_succ hjh _).2 (Or.inr ex)), if_neg hnot]
      exact grpL_old hn hx (idx_of_nodup hnd hjh ex) hj
    · simpa using (take_mem_succ hjh _).2 (Or.inr ex)
  · have ex : ks[n] ≠ (hdsL ks n)[j] := by rw [← f4]; exact fun h => e h.symm
    have hiff : ks[n] ∈ (hdsL ks n).take (j + 1) ↔ ks[n] ∈ (hdsL ks n).take j := by
      rw [take_mem_succ hjh]
      exact ⟨fun h => h.resolve_right ex, Or.inl⟩
    constructor
    · unfold inG
      by_cases hm : ks[n] ∈ (hdsL ks n).take j
      · rw [if_pos hm, if_pos (hiff.2 hm)]
      · rw [if_neg hm, if_neg (fun h => hm (hiff.1 h))]
    · by_cases hm : ks[n] ∈ (hdsL ks n).take j
      · rw [decide_eq_true hm, decide_eq_true (hiff.2 hm)]
      · rw [decide_eq_false hm, decide_eq_false (fun h => hm (hiff.1 h))]
theorem inG_all {ks : List (List Int)} {n : Nat} (hn : n < ks.length) {j : Nat} (hj : (grpL ks n).length ≤ j) :
    (ks[n] ∈ (hdsL ks n).take j → inG ks n ks[n] j = grpL ks (n + 1)) ∧ (ks[n] ∉ (hdsL ks n).take j → inG ks n ks[n] j = grpL ks n ∧ grpL ks (n + 1) = grpL ks n ++ [[(n : Int)]]) := by
  rw [grpL_len] at hj
  rw [List.take_of_length_le hj]
  unfold inG
  rw [List.take_of_length_le hj]
  exact ⟨fun h => if_pos h, fun h => ⟨if_neg h, grpL_new hn h⟩⟩
end Go.Proofs.Ytiacbdipagbblaa
