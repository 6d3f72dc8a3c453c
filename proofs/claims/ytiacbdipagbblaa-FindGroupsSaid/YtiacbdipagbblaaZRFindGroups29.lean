/-
  WHAT IT HOLDS: contracts of Variables and Renamed of the reference of layer 1: canonical forms. Conditions: the argument reads as data; numbers are small.
-/
import Derived.Test.YtiacbdipagbblaaZRFindGroups20
import Derived.Test.YtiacbdipagbblaaZRFindGroups8
namespace Go.Proofs.Ytiacbdipagbblaa
open Go Go.RowKit Go.Maps
def varN (n : Int) : Int := -n - 1
theorem varN_mem (vs : List Int) (n : Int) : decide (varN n ∈ vs.map varN) = decide (n ∈ vs) := by
  congr 1
  simp only [List.mem_map, eq_iff_iff]
  constructor
  · rintro ⟨a, h1, h2⟩
    have : a = n := by unfold varN at h2; omega
    exact this ▸ h1
  · intro h; exact ⟨n, h, rfl⟩
set_option maxHeartbeats 1000000 in
set_option maxRecDepth 100000 in
theorem ref1_Variables (v : Value) (t : List Int) (w : World) (ht : Ints w v t) (hl : t.length ≤ 1000) (hr : ∀ x ∈ t, -1000000 ≤ x ∧ x ≤ 1000000) :
    Calls Try.prog 160 #[v] w fun e w' => ∃ u, e = .returned u ∧ w'.ownsRow w.heap.size 3 1 u (varsF [] t).length (((varsF [] t).map varN).map (Value.int .i64)) ∧ Below w.heap.size w w' := by
  obtain ⟨ta, tcap, rfl, ht1, ht2, -, TC⟩ := ht.open
  have TC' := hid TC
  have HR := hid hr
  clear TC ht hr
  go_enter Try.func160, Try.ntmps160
  go_wp2
  go_loopw [3, 4] (fun u kv wr => ∃ k : Nat, k ≤ t.length ∧ kv = .int .i64 k ∧ wr.ownsRow w.heap.size 3 1 u (varsF [] (t.take k)).length (((varsF [] (t.take k)).map varN).map (Value.int .i64)) ∧ Below w.heap.size w wr) (fun _ kv _ => t.length - (intOf kv).toNat)
  case atStart => exact ⟨0, by omega, rfl, World.ownsRow_nil _ _ _ _, Below.refl _ _⟩
  case round =>
    obtain ⟨k, hk, rfl, hown, hb⟩ := hrel
    have hbs := hb.size
    by_cases hlt : k < t.length
    · obtain ⟨tb, to, rfl, hc0⟩ := TC'.out k hlt
      have hcell := (hb.cell (World.block_lt_of_cell? _ _ hc0)).trans hc0
      have hrk := HR.out t[k] (List.getElem_mem hlt)
      have HV := hid (varsF_take t hlt)
      have hvl := varsF_take_len t k
      have hneg : -t[k] - 1 = varN t[k] := rfl
      obtain ⟨vs, hvs⟩ : ∃ vs, varsF [] (t.take k) = vs := ⟨_, rfl⟩
      rw [hvs] at hown hvl HV
      have hints : Ints wr u3 (vs.map varN) := Ints.of_owns (by simpa using hown) (by simp; omega)
      have HHas := hid (ref1_Has u3 (vs.map varN) (varN t[k]) wr hints)
      have HD := hid (varN_mem vs t[k])
      have HOWN := hid hown
      have HNEG := hid hneg
      clear hc0 hvs hints hown hneg
      by_cases hn : t[k] < 0
      · by_cases hv : t[k] ∈ vs
        · have HV2 : Hid (varsF [] (t.take (k + 1)) = vs) := hid (by rw [HV.out, if_neg (by simp [hv])])
          have HT : Hid (decide (t[k] ∈ vs) = true) := hid (by simp [hv])
          have hd : decide (t[k] < 0) = true := by simp [hn]
          clear hv
          go_wp2_with (go_at_call 19; rw [HNEG.out]; refine HHas.out.mono ?_; rintro e w1 ⟨rfl, rfl⟩; rw [HD.out, HT.out])
          go_roundw
          case rel => exact ⟨k + 1, by omega, by go_num, by rw [HV2.out]; exact HOWN.out, hb⟩
          case measure => simp [intOf]; omega
        · have HV2 : Hid (varsF [] (t.take (k + 1)) = vs ++ [t[k]]) := hid (by rw [HV.out, if_pos ⟨hn, hv⟩])
          have HT : Hid (decide (t[k] ∈ vs) = false) := hid (by simp [hv])
          have hd : decide (t[k] < 0) = true := by simp [hn]
          clear hv
          go_wp2_with (first
            | (go_at_call 19; rw [HNEG.out]; refine HHas.out.mono ?_; rintro e w1 ⟨rfl, rfl⟩; rw [HD.out, HT.out])
            | (at_builtin; refine wpList_append_row rfl _ _ 25 rfl w.heap.size 3 el_int Try.underlying25 rfl (by decide) _ _ _ rfl (HOWN.out.alloc _) _ 1 [.int .i64 (-t[k] - 1)] rfl (row_one_new _ _ _) (oneCell_one rfl) (by omega) (by omega) (by simp; omega) ?_; intro v' w4 hown4 hgrow4 _))
          have hb1 : Below w.heap.size w (wr.alloc (.cells #[.int .i64 (-t[k] - 1)] 3)) := hb.alloc hbs _
          go_roundw
          case rel =>
            refine ⟨k + 1, by omega, by go_num, ?_, hb1.grown hgrow4 (by simp; omega) (fun q hq => (HOWN.out.lt q hq).1)⟩
            rw [HV2.out, List.map_append, List.map_append, List.length_append]
            exact hown4
          case measure => simp [intOf]; omega
      · have HV2 : Hid (varsF [] (t.take (k + 1)) = vs) := hid (by rw [HV.out, if_neg (by simp [hn])])
        have hd : decide (t[k] < 0) = false := by simp [hn]
        go_wp2
        go_roundw
        case rel => exact ⟨k + 1, by omega, by go_num, by rw [HV2.out]; exact HOWN.out, hb⟩
        case measure => simp [intOf]; omega
    · have HE : Hid (t.take k = t) := hid (List.take_of_length_le (by omega))
      have HOWN := hid hown
      clear hown
      go_wp2
      go_ret
      refine ⟨_, rfl, ?_, hb⟩
      have := HOWN.out
      rw [HE.out] at this
      exact this
theorem Ints.at {w : World} {a : Option Addr} {cap : Nat} {t : List Int} (h : Ints w (.slice a t.length cap) t) {k : Nat} (hk : k < t.length) : ∃ b o, a = some ⟨b, o, none⟩ ∧ w.cell? ⟨b, o + k, none⟩ = some (.int .i64 t[k]) := by
  obtain ⟨a', cap', h1, _, _, _, h2⟩ := h.open
  simp only [Value.slice.injEq] at h1
  obtain ⟨rfl, _, rfl⟩ := h1
  exact h2 k hk
/-- a list whose first k numbers have their last names. -/
def renL (t : List Int) (k : Nat) : List Int := (t.take k).map (numV (varsF [] t)) ++ t.drop k
theorem renL_len (t : List Int) (k : Nat) : (renL t k).length = t.length := by
  unfold renL
  rw [List.length_append, List.length_map, ← List.length_append, List.take_append_drop]
theorem renL_zero (t : List Int) : renL t 0 = t := by simp [renL]
theorem renL_all (t : List Int) {k : Nat} (h : t.length ≤ k) : renL t k = canonL t := by
  unfold renL canonL
  rw [List.take_of_length_le h, List.drop_eq_nil_of_le h, List.append_nil]
/-- the number at index k while its name is looked for. -/
def seek (vs : List Int) (n : Int) (j : Nat) : Int := if n ∈ vs.take j then numV vs n else n
theorem seek_zero (vs : List Int) (n : Int) : seek vs n 0 = n := by simp [seek]
theorem renL_set (t : List Int) {k : Nat} (h : k < t.length) (x : Int) : (renL t k).set k x = (t.take k).map (numV (varsF [] t)) ++ x :: t.drop (k + 1) := by
  unfold renL
  rw [List.set_append_right _ _ (by simp; omega)]
  have e2 : k - ((t.take k).map (numV (varsF [] t))).length = 0 := by simp; omega
  rw [e2, List.drop_eq_getElem_cons h, List.set_cons_zero]
theorem renL_same (t : List Int) {k : Nat} (h : k < t.length) : (renL t k).set k t[k] = renL t k := by
  rw [renL_set t h]
  unfold renL
  rw [← List.drop_eq_getElem_cons h]
theorem renL_step (t : List Int) {k : Nat} (h : k < t.length) : (renL t k).set k (seek (varsF [] t) t[k] (varsF [] t).length) = renL t (k + 1) := by
  rw [renL_set t h]
  unfold renL
  rw [List.take_succ_eq_append_getElem h, List.map_append, List.append_assoc]
  congr 1
  have : seek (varsF [] t) t[k] (varsF [] t).length = numV (varsF [] t) t[k] := by
    unfold seek
    rw [List.take_of_length_le (Nat.le_refl _)]
    split
    · rfl
    · rename_i hn
      unfold numV
      split
      · rename_i h0
        exact absurd ((varsF_mem t [] _).2 (Or.inr ⟨List.getElem_mem h, h0⟩)) hn
      · rfl
  rw [this]; rfl
theorem seek_yes {vs : List Int} {n : Int} {j : Nat} (hd : vs.Nodup) (hv : ∀ x ∈ vs, x < 0) (h : j < vs.length) (e : n = vs[j]) : seek vs n (j + 1) = -(j : Int) - 1 := by
  unfold seek numV
  have hm : n ∈ vs.take (j + 1) := by rw [List.take_succ_eq_append_getElem h, e]; exact List.mem_append.2 (Or.inr (List.mem_singleton.2 rfl))
  have hi : vs.idxOf n = j := by rw [e]; exact List.Nodup.idxOf_getElem hd j h
  rw [if_pos hm, if_pos (by rw [e]; exact hv _ (List.getElem_mem h)), hi]
theorem seek_no {vs : List Int} {n : Int} {j : Nat} (h : j < vs.length) (e : n ≠ vs[j]) : seek vs n (j + 1) = seek vs n j := by
  unfold seek
  rw [List.take_succ_eq_append_getElem h]
  by_cases hm : n ∈ vs.take j
  · rw [if_pos (List.mem_append.2 (Or.inl hm)), if_pos hm]
  · rw [if_neg (fun h => by rcases List.mem_append.1 h with h | h; exact hm h; exact e (List.mem_singleton.1 h)), if_neg hm]
set_option maxHeartbeats 2000000 in
set_option maxRecDepth 100000 in
theorem ref1_Renamed (v : Value) (t : List Int) (w : World) (ht : Ints w v t) (h0 : 0 < t.length) (hl : t.length ≤ 1000) (hr : ∀ x ∈ t, -1000000 ≤ x ∧ x ≤ 1000000) :
    Calls Try.prog 131 #[v] w fun e w' => ∃ u, e = .returned u ∧ w'.ownsRow w.heap.size 3 1 u (canonL t).length ((canonL t).map (Value.int .i64)) ∧ Below w.heap.size w w' := by
  obtain ⟨ta, tcap, rfl, ht1, ht2, -, TC⟩ := ht.open
  have TC' := hid TC
  have HR := hid hr
  have HT := hid ht
  have hvl0 := varsF_take_len t t.length
  rw [List.take_of_length_le (Nat.le_refl _)] at hvl0
  have hnd := varsF_nodup t [] (by simp)
  have hvn : ∀ x ∈ varsF [] t, x < 0 := fun x hx => by
    rcases (varsF_mem t [] x).1 hx with h | h
    · simp at h
    · exact h.2
  have hvr : ∀ x ∈ varsF [] t, -1000000 ≤ x ∧ x ≤ 1000000 := fun x hx => by
    rcases (varsF_mem t [] x).1 hx with h | h
    · simp at h
    · exact hr x h.1
  obtain ⟨vs, hvs⟩ : ∃ vs, varsF [] t = vs := ⟨_, rfl⟩
  have hvar := ref1_Variables _ t w HT.out hl HR.out
  have hstep := fun (k : Nat) (h : k < t.length) => renL_step t h
  rw [hvs] at hvl0 hnd hvn hvr hvar
  simp only [hvs] at hstep
  have HVAR := hid hvar
  have HND := hid hnd
  have HVN := hid hvn
  have HVR := hid hvr
  have HSTEP := hid hstep
  clear TC ht hr hvs hvar hnd hvn hvr hstep
  go_enter Try.func131, Try.ntmps131
  go_wp2_with fail
  refine HVAR.out.mono ?_
  rintro e w1 ⟨uv, rfl, hov, hb1⟩
  have hiv : Ints w1 uv (vs.map varN) := Ints.of_owns (by simpa using hov) (by simp; omega)
  obtain ⟨va, vcap, hve, hv1, hv2, -, VC⟩ := hiv.open
  subst hve
  have HIV1 := hid hiv
  rw [List.length_map] at hv1 hv2
  have hb2 : Below w.heap.size w (w1.alloc (.cells #[] 3)) := hb1.alloc hb1.size _
  have HT2 := hid (HT.out.below hb2)
  have HOWN := hid (World.ownsRow_lit (base := w1.heap.size) (e := 3) (size := 1) w1 #[] 0 (Nat.le_refl _) (by simp [maxLen]) rfl)
  have hiv2 : Ints (w1.alloc (.cells #[] 3)) (.slice va (vs.map varN).length vcap) (vs.map varN) := hiv.below ((Below.refl _ _).alloc (Nat.le_refl _) _)
  have HIV := hid hiv2
  have HB2 := hid hb2
  have hsz1 := hb1.size
  clear hov hiv VC hiv2 hb2
  rw [List.length_map] at *
  go_wp2_with (at_builtin; refine wpList_append_row rfl _ _ 37 rfl w1.heap.size 3 el_int Try.underlying37 rfl (by decide) _ _ _ rfl HOWN.out _ t.length (t.map (Value.int .i64)) rfl HT2.out (ints_one t) (by omega) (by omega) (by simp) ?_; intro v' w4 hown4 hgrow4 _)
  have hb14 : Below w1.heap.size w1 w4 := ((Below.refl _ _).alloc (Nat.le_refl _) _).grown hgrow4 (by simp) (fun q hq => by cases hq; exact Nat.le_refl _)
  obtain ⟨g, cap, hve, hg, hgc⟩ := owns_some hown4 (by omega)
  rw [Nat.zero_add] at hve hown4 hgc
  subst hve
  have HOWN4 := hid hown4
  have HB14 := hid hb14
  have HB1 := hid hb1
  have HT1 := hid (HT.out.below hb1)
  clear hgrow4 HB2 HOWN HT2 hown4 hb14 hb1 HIV HT
  go_loopw [5, 6] (fun iv _ wr => ∃ k : Nat, k ≤ t.length ∧ iv = .int .i64 k ∧ wr.ownsRow w1.heap.size 3 1 (.slice (some ⟨g, 0, none⟩) t.length cap) t.length ((renL t k).map (Value.int .i64)) ∧ Below w1.heap.size w1 wr) (fun iv _ _ => t.length - (intOf iv).toNat)
  case atStart => exact ⟨0, by omega, rfl, by rw [renL_zero]; simpa using HOWN4.out, HB14.out⟩
  case round =>
    clear HOWN4 HB14
    obtain ⟨k, hk, rfl, hown, hb⟩ := hrel
    by_cases hlt : k < t.length
    · have HOWN := hid hown
      have HB := hid hb
      have HR0 := hid (renL_same t hlt)
      clear hown hb
      go_wp2
      go_loopw [6] (fun jv wq => ∃ j : Nat, j ≤ vs.length ∧ jv = .int .i64 j ∧ wq.ownsRow w1.heap.size 3 1 (.slice (some ⟨g, 0, none⟩) t.length cap) t.length (((renL t k).set k (seek vs t[k] j)).map (Value.int .i64)) ∧ Below w1.heap.size w1 wq) (fun jv _ => vs.length - (intOf jv).toNat)
      case atStart => exact ⟨0, by omega, rfl, by rw [seek_zero, HR0.out]; exact HOWN.out, HB.out⟩
      case round =>
        clear HOWN HB
        obtain ⟨j, hj, rfl, hown, hb⟩ := hrel
        by_cases hjl : j < vs.length
        · obtain ⟨tb, to, rfl, hct⟩ := (HT1.out.below hb).at hlt
          have hjm : j < (vs.map varN).length := by simpa using hjl
          have hiv' : Ints wr (.slice va (vs.map varN).length vcap) (vs.map varN) := by rw [List.length_map]; exact HIV1.out.below hb
          obtain ⟨vb, vo, rfl, hcv⟩ := hiv'.at hjm
          rw [List.getElem_map] at hcv
          have hvr := HVR.out vs[j] (List.getElem_mem hjl)
          have hvr2 : -1000001 ≤ varN vs[j] ∧ varN vs[j] ≤ 1000001 := by unfold varN; omega
          have hvv : -varN vs[j] - 1 = vs[j] := by unfold varN; omega
          clear hiv' hvr
          have hbs := hb.size
          by_cases he : t[k] = vs[j]
          · have heq : (t[k] == -varN vs[j] - 1) = true := by rw [hvv]; simpa using he
            have HSK := hid (seek_yes HND.out HVN.out hjl he)
            have hc1 := hown.cellAt k (by omega)
            have hgl : (((renL t k).set k (seek vs t[k] j)).map (Value.int .i64))[k]? = some (.int .i64 (seek vs t[k] j)) := by
              rw [List.getElem?_map, List.getElem?_set_self (by rw [renL_len]; exact hlt)]; rfl
            rw [hgl] at hc1
            have hf1 := hown.frozenAt k
            have hst := (hown.stored k (.int .i64 (-(j : Int) - 1))).1
            rw [← List.map_set, List.set_set] at hst
            have HST := hid hst
            have HB2 : Hid (Below w1.heap.size w1 (wr.setCell ⟨g, k, none⟩ (.int .i64 (-(j : Int) - 1)))) := hid (hb.setCell (p := ⟨g, k, none⟩) hg _)
            clear hst hown hvv hgl he
            go_wp2
            go_quiet (fail)
            go_wp2
            go_roundw
            case rel => exact ⟨j + 1, by omega, by go_num, by rw [HSK.out]; exact owns_below HST.out (below_self_drewN (wr.setCell ⟨g, k, none⟩ (.int .i64 (-(j : Int) - 1))) nq), below_drewN HB2.out nq⟩
            case measure => simp [intOf]; omega
          · have heq : (t[k] == -varN vs[j] - 1) = false := by rw [hvv]; simpa using he
            have HSK := hid (seek_no hjl he)
            have HOWN := hid hown
            clear hvv he hown
            go_wp2
            go_quiet (fail)
            go_wp2
            go_roundw
            case rel => exact ⟨j + 1, by omega, by go_num, by rw [HSK.out]; exact owns_below HOWN.out (below_self_drewN wr nq), below_drewN hb nq⟩
            case measure => simp [intOf]; omega
        · have hjv : j = vs.length := by omega
          subst hjv
          have HS := hid (HSTEP.out k hlt)
          have HOWN := hid hown
          clear hown
          go_wp2
          go_roundw
          case rel => exact ⟨k + 1, by omega, by go_num, by rw [← HS.out]; exact HOWN.out, hb⟩
          case measure => simp [intOf]; omega
    · have HE := hid (renL_all t (k := k) (by omega))
      have HL := canonL_len t
      rw [HE.out] at hown
      have HOWN := hid hown
      clear hown
      go_wp2
      go_ret
      exact ⟨_, rfl, by rw [HL]; exact owns_base HOWN.out hsz1, HB1.out.trans (hb.mono hsz1)⟩
end Go.Proofs.Ytiacbdipagbblaa
