/-
  WHAT IT HOLDS: contracts of canonical, grouped of the reference of layer 5, of form and grouped of package find. Conditions: the arguments read as data; the terms are valid.
  WHAT IT HOLDS: contract of grouped of the reference of layer 5. Conditions: the argument reads as data.
-/
import Derived.Deep.RegionLaw
import Derived.Test.YtiacbdipagbblaaZRFindGroups2
import Derived.Test.YtiacbdipagbblaaZRFindGroups26
import Derived.Test.YtiacbdipagbblaaZRFindGroups30
namespace Go.Proofs.Ytiacbdipagbblaa
open Go Go.RowKit Go.Maps
theorem Terms.at {w : World} {a : Option Addr} {n cap : Nat} {l : List (List Int)} (h : Terms w (.slice a n cap) l) {k : Nat} (hk : k < l.length) : ∃ b o u, a = some ⟨b, o, none⟩ ∧ w.cell? ⟨b, o + k, none⟩ = some u ∧ Ints w u l[k] := by
  obtain ⟨a', cap', h1, _, _, _, h2⟩ := h.open
  simp only [Value.slice.injEq] at h1
  obtain ⟨rfl, _, rfl⟩ := h1
  exact h2 k hk
set_option maxHeartbeats 1000000 in
set_option maxRecDepth 100000 in
theorem ref5_canonical (vl : Value) (l : List (List Int)) (w : World) (hv : Terms w vl l) (hl1 : l.length ≤ 1000) (h0 : ∀ t ∈ l, 0 < t.length ∧ t.length ≤ 1000 ∧ ∀ x ∈ t, -1000000 ≤ x ∧ x ≤ 1000000) :
    Calls Try.prog 85 #[vl] w fun e w' => ∃ u vs, e = .returned u ∧ NR w' w.heap.size 37 3 u vs (l.map canonL) ∧ Below w.heap.size w w' := by
  obtain ⟨a, cap, hve, hlc, hl, -, -⟩ := hv.open
  subst hve
  have HV := hid hv
  have H0 := hid h0
  clear hv h0
  go_enter Try.func85, Try.ntmps85
  go_wp2
  go_loopw [3, 4] (fun u kv wr => ∃ (k : Nat) (vs : List Value), k ≤ l.length ∧ kv = .int .i64 k ∧ NR wr w.heap.size 37 3 u vs ((l.take k).map canonL) ∧ Below w.heap.size w wr) (fun _ kv _ => l.length - (intOf kv).toNat)
  case atStart => exact ⟨0, [], by omega, rfl, NR.nil _ _ _ _, Below.refl _ _⟩
  case round =>
    obtain ⟨k, vs, hk, rfl, hn, hb⟩ := hrel
    have hsz := hb.size
    by_cases hlt : k < l.length
    · obtain ⟨b, o, x, hae, hcell, hx⟩ := (HV.out.below hb).at hlt
      subst hae
      obtain ⟨g1, g2, g3⟩ := H0.out l[k] (List.getElem_mem hlt)
      have HR := hid (ref1_Renamed x l[k] wr hx g1 g2 g3)
      have HN := hid hn
      have hgl : ((l.take k).map canonL).length = k := by simp; omega
      have HTK : Hid ((l.take (k + 1)).map canonL = (l.take k).map canonL ++ [canonL l[k]]) := hid (by rw [List.take_succ_eq_append_getElem hlt, List.map_append]; rfl)
      clear hx g3 hn
      go_wp2_with fail
      refine HR.out.mono ?_
      rintro e w1 ⟨ur, rfl, or, hb1⟩
      obtain ⟨gr, gc, hue, hgr, -⟩ := owns_some or (by rw [canonL_len]; omega)
      subst hue
      rw [canonL_len] at or ⊢
      have hb01 := hb.trans (hb1.mono hsz)
      have hn1 := HN.out.below hb1
      have htop := hn1.top
      rw [hgl] at htop
      have hsz1 := hb01.size
      have HN1 := hid hn1
      have HOR := hid or
      have HG := hid hgl
      clear or hn1 hgl
      go_wp2_with (at_builtin; refine wpList_append_lie rfl _ _ 24 rfl w.heap.size 37 el_term Try.underlying24 rfl (by decide) _ _ _ rfl (htop.alloc _) _ 1 [.slice (some ⟨gr, 0, none⟩) l[k].length gc] rfl (row_one_new _ _ _) (oneCell_one rfl) (by omega) (by omega) (by omega) (by simp; omega) _ rfl ?_; intro g cap' w4 hown4 hgrow4 hat4 hlt4)
      have hba : Below wr.heap.size wr (w1.alloc (.cells #[.slice (some ⟨gr, 0, none⟩) l[k].length gc] 37)) := hb1.alloc hb1.size _
      have hor2 := HOR.out.alloc (.cells #[.slice (some ⟨gr, 0, none⟩) l[k].length gc] 37)
      have hN4 := NR.pushNew (g := canonL l[k]) HN.out (Nat.le_refl _) hsz hba (by rw [canonL_len]; exact hor2) HG.out.symm hown4 hgrow4 rfl hat4
      have hb4 : Below w.heap.size w w4 := (hb.trans (hba.mono hsz)).grown hgrow4 (by simp; omega) (fun q hq => (HN.out.top.lt q hq).1)
      go_roundw
      case rel => exact ⟨k + 1, _, by omega, by go_num, by rw [HTK.out]; exact hN4, hb4⟩
      case measure => simp [intOf]; omega
    · have HT : Hid (l.take k = l) := hid (List.take_of_length_le (by omega))
      have HN := hid hn
      clear hn
      go_wp2
      go_ret
      exact ⟨_, vs, rfl, by have := HN.out; rw [HT.out] at this; exact this, hb⟩
/-- the groups while the new element's place is looked for. -/
def inG (ks : List (List Int)) (n : Nat) (x : List Int) (j : Nat) : List (List Int) := if x ∈ (hdsL ks n).take j then grpL ks (n + 1) else grpL ks n
theorem inG_zero (ks : List (List Int)) (n : Nat) (x : List Int) : inG ks n x 0 = grpL ks n := by simp [inG]
theorem take_mem_succ {D : List (List Int)} {j : Nat} (hj : j < D.length) (x : List Int) : x ∈ D.take (j + 1) ↔ x ∈ D.take j ∨ x = D[j] := by
  rw [List.take_succ_eq_append_getElem hj, List.mem_append, List.mem_singleton]
theorem idx_of_nodup {D : List (List Int)} (h : D.Nodup) {j : Nat} (hj : j < D.length) {x : List Int} (e : x = D[j]) : D.idxOf x = j := by rw [e]; exact List.Nodup.idxOf_getElem h j hj
theorem not_take_of_nodup {D : List (List Int)} (h : D.Nodup) {j : Nat} (hj : j < D.length) {x : List Int} (e : x = D[j]) : x ∉ D.take j := by
  intro hm
  rw [List.mem_iff_getElem?] at hm
  obtain ⟨i, hi⟩ := hm
  rw [List.getElem?_take] at hi
  split at hi
  · rename_i hij
    obtain ⟨h1, h2⟩ := List.getElem?_eq_some_iff.1 hi
    have e1 := idx_of_nodup h hj e
    have e2 := idx_of_nodup h h1 h2.symm
    omega
  · cases hi
/-- one step of the look. -/
theorem inG_step {ks : List (List Int)} {n : Nat} (hn : n < ks.length) {j : Nat} (hj : j < (grpL ks n).length) :
    ∃ (hl : (inG ks n ks[n] j).length = (grpL ks n).length) (k0 : Nat), (inG ks n ks[n] j)[j]'(by omega) = (grpL ks n)[j] ∧ 0 < (grpL ks n)[j].length ∧ (grpL ks n)[j].head? = some (k0 : Int) ∧ k0 < n ∧ (∃ h0 : k0 < ks.length,
      (ks[k0] = ks[n] → ks[n] ∉ (hdsL ks n).take j ∧ inG ks n ks[n] (j + 1) = (inG ks n ks[n] j).set j ((grpL ks n)[j] ++ [(n : Int)]) ∧ decide (ks[n] ∈ (hdsL ks n).take (j + 1)) = true) ∧
      (ks[k0] ≠ ks[n] → inG ks n ks[n] (j + 1) = inG ks n ks[n] j ∧ decide (ks[n] ∈ (hdsL ks n).take (j + 1)) = decide (ks[n] ∈ (hdsL ks n).take j))) := by
  obtain ⟨hjh, k0, f1, f2, f3⟩ := grpL_first (Nat.le_of_lt hn) hj
  have hnd := hdsL_nodup ks n
  obtain ⟨h0, f4⟩ := List.getElem?_eq_some_iff.1 f3
  have hold : ks[n] ∈ (hdsL ks n).take j → ∃ J, (hdsL ks n).idxOf ks[n] = J ∧ J < j := by
    intro hm
    refine ⟨_, rfl, ?_⟩
    rw [List.mem_iff_getElem?] at hm
    obtain ⟨i, hi⟩ := hm
    rw [List.getElem?_take] at hi
    split at hi
    · rename_i hij
      obtain ⟨h1, h2⟩ := List.getElem?_eq_some_iff.1 hi
      rw [idx_of_nodup hnd h1 h2.symm]; exact hij
    · cases hi
  have hlen : (inG ks n ks[n] j).length = (grpL ks n).length := by
    unfold inG
    split
    · rename_i hm
      have hx : ks[n] ∈ hdsL ks n := List.mem_of_mem_take hm
      rw [grpL_old hn hx rfl (by rw [grpL_len]; exact List.idxOf_lt_length_of_mem hx)]
      simp
    · rfl
  have hsame : (inG ks n ks[n] j)[j]'(by omega) = (grpL ks n)[j] := by
    have : (inG ks n ks[n] j)[j]? = (grpL ks n)[j]? := by
      unfold inG
      split
      · rename_i hm
        obtain ⟨J, hJ, hJj⟩ := hold hm
        have hx : ks[n] ∈ hdsL ks n := List.mem_of_mem_take hm
        rw [grpL_old hn hx hJ (by omega), List.getElem?_set_ne (by omega)]
      · rfl
    rw [List.getElem?_eq_getElem (by omega), List.getElem?_eq_getElem hj] at this
    exact Option.some.inj this
  refine ⟨hlen, k0, hsame, ?_, f1, f2, h0, fun e => ?_, fun e => ?_⟩
  · cases h : (grpL ks n)[j] with
    | nil => rw [h] at f1; simp at f1
    | cons => simp
  · have ex : ks[n] = (hdsL ks n)[j] := by rw [← e, f4]
    have hnot := not_take_of_nodup hnd hjh ex
    refine ⟨hnot, ?_, ?_⟩
    · have hx : ks[n] ∈ hdsL ks n := by rw [ex]; exact List.getElem_mem hjh
      unfold inG
      rw [if_pos ((take_mem_succ hjh _).2 (Or.inr ex)), if_neg hnot]
      exact grpL_old hn hx (idx_of_nodup hnd hjh ex) hj
    · simpa using (take_mem_succ hjh _).2 (Or.inr ex)
  · have ex : ks[n] ≠ (hdsL ks n)[j] := by rw [← f4]; exact fun h => e h.symm
    have hiff : ks[n] ∈ (hdsL ks n).take (j + 1) ↔ ks[n] ∈ (hdsL ks n).take j := by
      rw [take_mem_succ hjh]
      exact ⟨fun h => h.resolve_right ex, Or.inl⟩
    constructor
    · unfold inG
      by_cases hm : ks[n] ∈ (hdsL ks n).take j
      · rw [if_pos hm, if_pos (hiff.2 hm)]
      · rw [if_neg hm, if_neg (fun h => hm (hiff.1 h))]
    · by_cases hm : ks[n] ∈ (hdsL ks n).take j
      · rw [decide_eq_true hm, decide_eq_true (hiff.2 hm)]
      · rw [decide_eq_false hm, decide_eq_false (fun h => hm (hiff.1 h))]
theorem inG_all {ks : List (List Int)} {n : Nat} (hn : n < ks.length) {j : Nat} (hj : (grpL ks n).length ≤ j) :
    (ks[n] ∈ (hdsL ks n).take j → inG ks n ks[n] j = grpL ks (n + 1)) ∧ (ks[n] ∉ (hdsL ks n).take j → inG ks n ks[n] j = grpL ks n ∧ grpL ks (n + 1) = grpL ks n ++ [[(n : Int)]]) := by
  rw [grpL_len] at hj
  rw [List.take_of_length_le hj]
  unfold inG
  rw [List.take_of_length_le hj]
  exact ⟨fun h => if_pos h, fun h => ⟨if_neg h, grpL_new hn h⟩⟩
end Go.Proofs.Ytiacbdipagbblaa
namespace Go.Proofs.Ytiacbdipagbblaa
open Go Go.RowKit Go.Maps
theorem grpL_rows_len (ks : List (List Int)) (n : Nat) : ∀ g ∈ grpL ks n, g.length ≤ n := by
  intro g hg
  obtain ⟨h, _, rfl⟩ := List.mem_map.1 hg
  exact clsL_len ks n h
set_option maxHeartbeats 4000000 in
set_option maxRecDepth 100000 in
theorem ref5_grouped (vl : Value) (ks : List (List Int)) (w : World) (hv : Terms w vl ks) (hl1 : ks.length ≤ 1000) :
    Calls Try.prog 84 #[vl] w fun e w' => ∃ u vs, e = .returned u ∧ NR w' w.heap.size 25 3 u vs (grpL ks ks.length) ∧ Below w.heap.size w w' := by
  obtain ⟨a, cap, hve, hlc, hl, -, -⟩ := hv.open
  subst hve
  have HV := hid hv
  clear hv
  go_enter Try.func84, Try.ntmps84
  go_wp2
  go_loopw [3, 4, 5, 6] (fun u kv _ _ wr => ∃ (n : Nat) (vs : List Value), n ≤ ks.length ∧ kv = .int .i64 n ∧ NR wr w.heap.size 25 3 u vs (grpL ks n) ∧ Below w.heap.size w wr) (fun _ kv _ _ _ => ks.length - (intOf kv).toNat)
  case atStart => exact ⟨0, [], by omega, rfl, NR.nil _ _ _ _, Below.refl _ _⟩
  case round =>
    obtain ⟨n, vs, hn, rfl, hN, hb⟩ := hrel
    by_cases hlt : n < ks.length
    · obtain ⟨L, hL⟩ : ∃ L, (grpL ks n).length = L := ⟨_, rfl⟩
      have hLn : L ≤ n := by rw [← hL, grpL_len]; exact hdsL_len ks n
      have hstep := fun j (hj : j < (grpL ks n).length) => inG_step hlt hj
      have hall := inG_all hlt (j := L) (by omega)
      have hushape : ∃ a' c', u3 = .slice a' L c' := by
        rcases hN.top.2 with ⟨h1, h2⟩ | ⟨g', c', cur, h1, _⟩
        · rw [hL] at h2; subst h2; exact ⟨none, 0, h1⟩
        · rw [hL] at h1; exact ⟨_, _, h1⟩
      obtain ⟨ua, uc, hue⟩ := hushape
      subst hue
      have HN := hid hN
      have HB := hid hb
      have HSTEP := hid hstep
      have HALL := hid hall
      have HLL := hid hL
      have h0G := inG_zero ks n ks[n]
      have H0G := hid h0G
      clear hN hb hstep hall h0G
      go_wp2
      go_loopw [5, 6] (fun fv jv wr => ∃ (j : Nat) (vs : List Value), j ≤ L ∧ jv = .int .i64 j ∧ fv = .bool (decide (ks[n] ∈ (hdsL ks n).take j)) ∧ NR wr w.heap.size 25 3 (.slice ua L uc) vs (inG ks n ks[n] j) ∧ Below w.heap.size w wr) (fun _ jv _ => L - (intOf jv).toNat)
      case atStart => exact ⟨0, vs, by omega, rfl, by simp, by rw [H0G.out]; exact HN.out, HB.out⟩
      case round =>
        clear HN HB H0G
        obtain ⟨j, vs, hj, rfl, rfl, hN, hb⟩ := hrel
        have hsz := hb.size
        by_cases hjl : j < L
        · obtain ⟨hlen, k0, e10, e2, e3, e4, h0, e5, e6⟩ := HSTEP.out j (by rw [HLL.out]; exact hjl)
          obtain ⟨hjG, e1⟩ : ∃ hjG : j < (inG ks n ks[n] j).length, (inG ks n ks[n] j)[j]'hjG = (grpL ks n)[j]'(by rw [HLL.out]; exact hjl) := ⟨by rw [hlen, HLL.out]; exact hjl, e10⟩
          clear e10
          obtain ⟨gU, hua⟩ : ∃ gU, ua = some ⟨gU, 0, none⟩ := by
            obtain ⟨g', c', h1, _⟩ := owns_some hN.top (by omega)
            simp only [Value.slice.injEq] at h1
            exact ⟨g', h1.1⟩
          subst hua
          obtain ⟨gr, rc, hvj, hrow, hfst⟩ := hN.rowAt hjG (by rw [e1]; exact e2)
          have htop := hN.cellTop (by rw [hlen, HLL.out]) hvj (World.grownBy.refl _ _)
          obtain ⟨b, o, x0, hae, hc0, hx0⟩ := (HV.out.below hb).at h0
          subst hae
          obtain ⟨b', o', xn, hae, hcn, hxn⟩ := (HV.out.below hb).at hlt
          obtain ⟨rfl, rfl⟩ : b = b' ∧ o = o' := by simpa using hae
          have hf0 : (inG ks n ks[n] j)[j][0]'(by rw [e1]; exact e2) = (k0 : Int) := by
            have : (inG ks n ks[n] j)[j].head? = some (k0 : Int) := by rw [e1]; exact e3
            rw [List.head?_eq_getElem?, List.getElem?_eq_getElem (by rw [e1]; exact e2)] at this
            exact Option.some.inj this
          rw [hf0] at hfst
          have hrl : (inG ks n ks[n] j)[j].length ≤ n := by
            rw [e1]; exact grpL_rows_len ks n _ (List.getElem_mem _)
          obtain ⟨m, hm⟩ : ∃ m, (inG ks n ks[n] j)[j].length = m := ⟨_, rfl⟩
          rw [hm] at hvj hrow htop hrl
          have hm0 : 0 < m := by rw [← hm, e1]; exact e2
          have HROW := hid hrow
          have HM := hid hm
          have HE1 := hid e1
          have HN := hid hN
          have HVJ := hid hvj
          have HX0 := hid hx0
          have HXN := hid hxn
          have hlenL : L = (inG ks n ks[n] j).length := by rw [hlen, HLL.out]
          have HLEN := hid hlenL
          have HJG := hid hjG
          have hct := htop.1
          have hcf := htop.2
          have HSM := fun q => hid (ref1_Same x0 xn ks[k0] ks[n] (wr.drewN q) (HX0.out.drewN q) (HXN.out.drewN q))
          clear hrow e3 hN hx0 hxn hlen hae hf0 htop hvj hlenL hm e1
          by_cases heq : ks[k0] = ks[n]
          · obtain ⟨f1, f2, f3⟩ := e5 heq
            have HD : Hid (decide (ks[k0] = ks[n]) = true) := hid (by simp [heq])
            have HSM2 : ∀ q, Hid (Calls Try.prog 54 #[x0, xn] (wr.drewN q) fun e w' => e = .returned (.bool true) ∧ ∃ m, w' = (wr.drewN q).drewN m) := fun q => hid ((HSM q).out.mono fun e w' h => ⟨by rw [h.1, HD.out], h.2⟩)
            have HF2 := hid f2
            have HF3 := hid f3
            clear e5 e6 heq f1 f2 f3
            go_wp2
            go_quiet ((go_at_call 54; exact Calls.quiet_of (HSM2 _).out))
            go_wp2_with (at_builtin; refine wpList_append_lie rfl _ _ 25 rfl w.heap.size 3 el_int Try.underlying25 rfl (by decide) _ _ _ rfl ((HROW.out.alloc (.cells #[.int .i64 n] 3))) _ 1 [.int .i64 n] rfl (row_one_new (wr.drewN nq) _ _) (oneCell_one rfl) (by omega) (by omega) (by omega) (by simp; omega) _ rfl ?_; intro g1 c1 w4 hown4 hgrow4 hat4 hlt4; have htop4 := (HN.out.below ((below_self_drewN wr nq).alloc (Nat.le_refl _) (.cells #[.int .i64 n] 3))).cellTop HLEN.out HVJ.out hgrow4; have hc4 := htop4.1; have hf4 := htop4.2)
            have hbA : Below wr.heap.size wr ((wr.drewN nq).alloc (.cells #[.int .i64 n] 3)) := (below_self_drewN wr nq).alloc (Nat.le_refl _) _
            have hput := (HN.out.below hbA).put' HLEN.out HVJ.out hjG HM.out.symm hown4 hgrow4 (by
              rcases hat4 with h | h
              · exact Or.inl h
              · refine Or.inr ?_
                have h' : g1 = ((wr.drewN nq).alloc (.cells #[.int .i64 n] 3)).heap.size := h
                omega)
            have hbz : Below w.heap.size w w4 := (hb.trans (hbA.mono hsz)).grown hgrow4 (by simp; omega) (fun q hq => (HROW.out.lt q hq).1)
            have hbz2 := hbz.setCell (p := ⟨gU, j, none⟩) (by
              have := HN.out.top.lt gU rfl
              exact this.1) (.slice (some ⟨g1, 0, none⟩) (m + 1) c1)
            rw [HE1.out, ← HF2.out] at hput
            have HPUT := hid hput
            clear hput hbA hbz htop4 hc4 hf4 hgrow4 hat4
            go_roundw
            case rel => exact ⟨j + 1, _, by omega, by go_num, by rw [HF3.out], HPUT.out, hbz2⟩
            case measure => simp [intOf]; omega
          · obtain ⟨f1, f2⟩ := e6 heq
            have HD : Hid (decide (ks[k0] = ks[n]) = false) := hid (by simp [heq])
            have HSM2 : ∀ q, Hid (Calls Try.prog 54 #[x0, xn] (wr.drewN q) fun e w' => e = .returned (.bool false) ∧ ∃ m, w' = (wr.drewN q).drewN m) := fun q => hid ((HSM q).out.mono fun e w' h => ⟨by rw [h.1, HD.out], h.2⟩)
            have HF1 := hid f1
            have HF2 := hid f2
            clear e5 e6 heq f1 f2
            go_wp2
            go_quiet ((go_at_call 54; exact Calls.quiet_of (HSM2 _).out))
            go_wp2
            go_roundw
            case rel => exact ⟨j + 1, vs, by omega, by go_num, by rw [HF2.out], by rw [HF1.out]; exact HN.out.below (below_self_drewN wr nq), below_drewN hb nq⟩
            case measure => simp [intOf]; omega
        · have hjL : j = L := by omega
          subst hjL
          obtain ⟨a1, a2⟩ := HALL.out
          by_cases hx : ks[n] ∈ (hdsL ks n).take j
          · have HD : Hid (decide (ks[n] ∈ (hdsL ks n).take j) = true) := hid (by simp [hx])
            rw [a1 hx] at hN
            have HN := hid hN
            rw [HD.out]
            clear a1 a2 hx hN
            go_wp2
            go_roundw
            case rel => exact ⟨n + 1, vs, by omega, by go_num, HN.out, hb⟩
            case measure => simp [intOf]; omega
          · have HD : Hid (decide (ks[n] ∈ (hdsL ks n).take j) = false) := hid (by simp [hx])
            obtain ⟨b1, b2⟩ := a2 hx
            rw [b1] at hN
            have HB2 := hid b2
            have HN := hid hN
            rw [HD.out]
            have htop := hN.top
            rw [HLL.out] at htop
            clear a1 a2 hx b1 b2 hN
            have hown0 := World.ownsRow_lit (base := wr.heap.size) (e := 3) (size := 1) wr #[.int .i64 n] 1 (Nat.le_refl _) (by simp [maxLen]) rfl
            have HO := hid ((hown0.alloc (.cells #[.slice (some ⟨wr.heap.size, 0, none⟩) 1 1] 25)))
            have hbA : Below wr.heap.size wr ((wr.alloc (.cells #[.int .i64 n] 3)).alloc (.cells #[.slice (some ⟨wr.heap.size, 0, none⟩) 1 1] 25)) := ((Below.refl _ _).alloc (Nat.le_refl _) _).alloc (by simp) _
            have HTOP := hid (owns_below htop hbA)
            have hrow := row_one_new (wr.alloc (.cells #[.int .i64 n] 3)) (.slice (some ⟨wr.heap.size, 0, none⟩) 1 1) 25
            rw [World.size_alloc] at hrow
            have HROW := hid hrow
            clear hown0 htop hrow
            go_wp2_with (at_builtin; refine wpList_append_lie rfl _ _ 33 rfl w.heap.size 25 el_ints Try.underlying33 rfl (by decide) _ _ _ rfl HTOP.out _ 1 [.slice (some ⟨wr.heap.size, 0, none⟩) 1 1] rfl HROW.out (oneCell_one rfl) (by omega) (by omega) (by omega) (by simp; omega) _ rfl ?_; intro g1 c1 w4 hown4 hgrow4 hat4 hlt4)
            have hpush := NR.pushNew (g := [(n : Int)]) HN.out (Nat.le_refl _) hsz hbA (by simpa using HO.out) HLL.out.symm hown4 hgrow4 rfl hat4
            have hb4 : Below w.heap.size w w4 := (hb.trans (hbA.mono hsz)).grown hgrow4 (by simp; omega) (fun q hq => (HN.out.top.lt q hq).1)
            rw [← HB2.out] at hpush
            have HPUSH := hid hpush
            clear hpush hgrow4 hat4 hown4
            go_roundw
            case rel => exact ⟨n + 1, _, by omega, by go_num, HPUSH.out, hb4⟩
            case measure => simp [intOf]; omega
    · have hnk : n = ks.length := by omega
      subst hnk
      have HN := hid hN
      clear hN
      go_wp2
      go_ret
      exact ⟨_, vs, rfl, HN.out, hb⟩
end Go.Proofs.Ytiacbdipagbblaa
