/-
  WHAT IT HOLDS: contracts of Apart and Whole and Few of the reference (layer 2). Conditions: the arguments read as data.
-/
import Derived.Test.YtidigpfiagjeiaaZRUnifyLists38
import Derived.Test.YtidigpfiagjeiaaZRUnifyLists23
import Derived.Test.YtidigpfiagjeiaaZRUnifyLists39
namespace Go.Proofs.Ytidigpfiagjeiaa
open Go Go.RowKit Go.Maps
set_option maxHeartbeats 1000000 in
theorem ref2_Apart (v : Value) (t : List Int) (w : World) (ht : Ints w v t) (h0 : 0 < t.length) (hl : t.length ≤ 1000) (hr : ∀ x ∈ t, -1000000 ≤ x ∧ x ≤ 1000000) :
    Calls Try.prog 72 #[v] w fun e w' => ∃ u, e = .returned u ∧ w'.ownsRow w.heap.size 3 1 u (aparL t).length ((aparL t).map (Value.int .i64)) ∧ Below w.heap.size w w' := by
  obtain ⟨ta, tcap, rfl, ht1, ht2, -, TC⟩ := ht.open
  obtain ⟨tb, to, rfl, -⟩ := TC 0 h0
  have TC2 : ∀ j (h : j < t.length), ∃ o, to = o ∧ w.cell? ⟨tb, o + j, none⟩ = some (.int .i64 t[j]) := fun j h => by
    obtain ⟨b, o, h1, h2⟩ := TC j h
    simp only [Option.some.injEq, Addr.mk.injEq] at h1
    obtain ⟨rfl, rfl, -⟩ := h1
    exact ⟨_, rfl, h2⟩
  have TC' := hid TC2
  clear TC2
  have HR := hid hr
  have hb0 : Below w.heap.size w (w.alloc (.cells #[] 3)) := (Below.refl _ _).alloc (Nat.le_refl _) _
  have HT := hid (ht.below hb0)
  have HOWN := hid (World.ownsRow_lit (base := w.heap.size) (e := 3) (size := 1) w #[] 0 (Nat.le_refl _) (by simp [maxLen]) rfl)
  have HB0 := hid hb0
  clear TC ht hb0 hr
  go_enter Try.func72, Try.ntmps72
  go_wp2_with (at_builtin; refine wpList_append_row rfl _ _ 25 rfl w.heap.size 3 el_int Try.underlying25 rfl (by decide) _ _ _ rfl HOWN.out _ t.length (t.map (Value.int .i64)) rfl HT.out (ints_one t) (by omega) (by omega) (by simp) ?_; intro v' w4 hown4 hgrow4 _)
  have hown : w4.ownsRow w.heap.size 3 1 v' t.length (t.map (Value.int .i64)) := by simpa using hown4
  obtain ⟨g, cap, rfl, hg, hgc⟩ := owns_some hown h0
  have HB1 : Hid (Below w.heap.size w w4) := hid (HB0.out.grown hgrow4 (by simp) (fun q hq => by cases hq; exact Nat.le_refl _))
  clear HOWN
  have HOWN := hid hown
  clear hown hown4 hgrow4
  go_wp2
  go_loopw [4] (fun kv wr => ∃ k : Nat, k ≤ t.length ∧ kv = .int .i64 k ∧ wr.ownsRow w.heap.size 3 1 (.slice (some ⟨g, 0, none⟩) t.length cap) t.length ((aparK t k).map (Value.int .i64)) ∧ Below w.heap.size w wr) (fun kv _ => t.length - (intOf kv).toNat)
  case atStart => exact ⟨0, by omega, rfl, by simpa [aparK, aparL] using HOWN.out, HB1.out⟩
  case round =>
    clear HOWN HB1
    obtain ⟨k, hk, rfl, hown, hb⟩ := hrel
    by_cases hlt : k < t.length
    · obtain ⟨_, rfl, hc0⟩ := TC'.out k hlt
      have hcell := (hb.cell (World.block_lt_of_cell? _ _ hc0)).trans hc0
      have hrk := HR.out t[k] (List.getElem_mem hlt)
      have hc1 := hown.cellAt k (by omega)
      rw [aparK_get t hlt] at hc1
      by_cases hn : t[k] < 0
      · have hge : decide (t[k] < 0) = true := by simp; omega
        have hst := aparK_step t hlt
        rw [if_pos hn] at hst
        have hf1 := hown.frozenAt k
        have HST := hid (hown.stored k (.int .i64 (t[k] - 12)))
        have HB2 : Hid (Below w.heap.size w (wr.setCell ⟨g, k, none⟩ (.int .i64 (t[k] - 12)))) := hid (hb.setCell (p := ⟨g, k, none⟩) (by show w.heap.size ≤ g; omega) _)
        have HS := hid hst
        clear hst hown hc0
        go_wp2
        go_roundw
        case rel => exact ⟨k + 1, by omega, by go_num, by rw [HS.out, List.map_set]; exact HST.out.1, HB2.out⟩
        case measure => simp [intOf]; omega
      · have hge : decide (t[k] < 0) = false := by simp; omega
        have HS := hid (aparK_same t hlt hn)
        clear hc0
        go_wp2
        go_roundw
        case rel => exact ⟨k + 1, by omega, by go_num, by rw [HS.out]; exact hown, hb⟩
        case measure => simp [intOf]; omega
    · have HE := hid (aparK_all t (k := k) (by omega))
      rw [HE.out] at hown
      have HL : Hid ((aparL t).length = t.length) := hid (by simp [aparL])
      have HOW := hid hown
      clear hown
      go_wp2
      go_ret
      exact ⟨_, rfl, by rw [HL.out]; exact HOW.out, hb⟩
theorem kno_zero (m : MM) : Kno m #[.int .i64 0, .int .i64 0, .int .i64 0, .int .i64 0, .int .i64 0, .int .i64 0, .int .i64 0, .int .i64 0, .int .i64 0, .int .i64 0, .int .i64 0, .int .i64 0, .int .i64 0, .int .i64 0, .int .i64 0, .int .i64 0, .int .i64 0, .int .i64 0, .int .i64 0, .int .i64 0, .int .i64 0, .int .i64 0, .int .i64 0, .int .i64 0] := by
  refine ⟨rfl, fun v hv => ⟨0, ?_, Or.inl rfl⟩⟩
  show ((List.replicate 24 (Value.int .i64 0)).toArray)[v]? = _
  rw [List.getElem?_toArray, List.getElem?_replicate, if_pos hv]; rfl
set_option maxHeartbeats 1000000 in
set_option maxRecDepth 100000 in
theorem ref2_Whole (px : Nat) (vs vt : Value) (s : Sg) (T : TT) (t : List Int) (w : World) (hm : MOK s (mR T)) (hS : RSol w px vs s T) (hT : IsT s 24 t) (hl : t.length ≤ 60) (ra : Ints w vt t) :
    Calls Try.prog 94 #[.pointer (some ⟨px, 0, none⟩), vt] w fun e w' => ∃ u, Below w.heap.size w w' ∧
      ((e = .returned (.tuple #[u, .bool true]) ∧ (fw (mR T) t).length ≤ 60 ∧ w'.ownsRow w.heap.size 3 1 u (fw (mR T) t).length ((fw (mR T) t).map (Value.int .i64))) ∨ (e = .returned (.tuple #[u, .bool false]) ∧ 60 < (fw (mR T) t).length)) := by
  obtain ⟨r, hr, hr24⟩ := hm.rank
  have HB : Hid (∀ ob, Below w.heap.size w (w.alloc ob)) := hid (fun ob => (Below.refl _ _).alloc (Nat.le_refl _) _)
  have HC := hid (fun (cs : Array Value) (ty : TypeId) (hk : Kno (mR T) cs) => ref2_size px w.heap.size vs s T w hS hm r hr (Nat.le_refl _) 26 t vt cs (w.alloc (.cells cs ty)) (fun x _ _ => by have := hr24 x; omega) (by omega) hT hl ra (HB.out _) ⟨ty, (MapKept.heap_alloc w (.cells cs ty)).1⟩ hk)
  have HKZ := hid (kno_zero (mR T))
  go_enter Try.func94, Try.ntmps94
  go_wp2_with fail
  refine (HC.out _ _ HKZ.out).mono ?_
  rintro e w1 ⟨rfl, hB1, -⟩
  by_cases h60 : (fw (mR T) t).length ≤ 60
  · have dd : decide (((szT (mR T) t : Nat) : Int) > 60) = false := by unfold szT; simp; omega
    have HW := hid (ref2_whole px vs s T hm r hr 26 t vt w1 (fun x _ _ => by have := hr24 x; omega) (by omega) hT hl h60 (hS.below hB1) (ra.below hB1))
    have hsz := hB1.size
    have HB1 := hid hB1
    clear hB1 HC HB HKZ hS hm hT ra hr hr24
    go_wp2_with fail
    refine HW.out.mono ?_
    rintro e w2 ⟨u, rfl, hown, hB2⟩
    have HO := hid (owns_base hown hsz)
    have HB2 := hid (HB1.out.trans (hB2.mono hsz))
    clear hown hB2
    go_wp2
    go_ret2
    exact ⟨u, HB2.out, Or.inl ⟨rfl, h60, HO.out⟩⟩
  · have dd : decide (((szT (mR T) t : Nat) : Int) > 60) = true := by unfold szT; simp; omega
    have HB1 := hid hB1
    clear hB1 HC HB HKZ hS hm hT ra hr hr24
    go_wp2
    go_ret2
    exact ⟨_, HB1.out, Or.inr ⟨rfl, by omega⟩⟩
set_option maxHeartbeats 1000000 in
set_option maxRecDepth 100000 in
theorem ref2_Few (px : Nat) (vs vt : Value) (s : Sg) (T : TT) (t : List Int) (w : World) (hm : MOK s (mR T)) (hS : RSol w px vs s T) (hT : IsT s 24 t) (hl : t.length ≤ 60) (ra : Ints w vt t) (hsl : s.length ≤ 1000) :
    Calls Try.prog 73 #[.pointer (some ⟨px, 0, none⟩), vt] w fun e w' => ∃ u, Below w.heap.size w w' ∧
      ((madeB (fw (mR T) t) = true ∧ e = .returned (.tuple #[u, .int .i64 0]) ∧ w'.ownsRow w.heap.size 3 1 u (canonL (fw (mR T) t)).length ((canonL (fw (mR T) t)).map (Value.int .i64))) ∨ (madeB (fw (mR T) t) = false ∧ e = .returned (.tuple #[.slice none 0 0, .int .i64 4]))) := by
  have HC := hid (ref2_Whole px vs vt s T t w hm hS hT hl ra)
  have hF := fw_T hm hT
  obtain ⟨F, hFe⟩ : ∃ F, fw (mR T) t = F := ⟨_, rfl⟩
  rw [hFe] at HC hF ⊢
  have hF0 := hF.ne
  have HR : Hid (∀ x ∈ F, -1000000 ≤ x ∧ x ≤ 1000000) := hid (fun x hx => by rcases hF.range x hx with h | h <;> omega)
  clear hm hS hT ra hFe hF
  go_enter Try.func73, Try.ntmps73
  go_wp2_with fail
  refine HC.out.mono ?_
  rintro e w1 ⟨u, hB1, ⟨rfl, h60, hown⟩ | ⟨rfl, h60⟩⟩
  · have ri := Ints.of_owns hown (by omega)
    have hsz := hB1.size
    have HV := hid (ref1_Variables u F w1 ri (by omega) HR.out)
    have HRI := hid ri
    have HB1 := hid hB1
    clear ri hown hB1 HC
    go_wp2_with fail
    refine HV.out.mono ?_
    rintro e w2 ⟨u2, rfl, hown2, hB2⟩
    obtain ⟨oa, oc, rfl⟩ : ∃ a c, u2 = .slice a (varsF [] F).length c := by
      rcases hown2.2 with ⟨h1, h2⟩ | ⟨g, cap, _, h1, _⟩
      · rw [h2]; exact ⟨none, 0, h1⟩
      · exact ⟨_, _, h1⟩
    have ri2 := HRI.out.below hB2
    have hsz2 := hB2.size
    have HB2 := hid (HB1.out.trans (hB2.mono hsz))
    clear hown2 hB2
    by_cases h12 : (varsF [] F).length ≤ 12
    · have dd : decide (((varsF [] F).length : Int) > 12) = false := by simp; omega
      have HMD : Hid (madeB F = true) := hid (by simp [madeB]; omega)
      have HRN := hid (ref1_Renamed u F w2 ri2 hF0 (by omega) HR.out)
      clear ri2
      go_wp2_with fail
      refine HRN.out.mono ?_
      rintro e w3 ⟨u3, rfl, hown3, hB3⟩
      have HO := hid (owns_base hown3 HB2.out.size)
      have HB3 := hid (HB2.out.trans (hB3.mono HB2.out.size))
      clear hown3 hB3
      go_wp2
      go_ret2
      exact ⟨u3, HB3.out, Or.inl ⟨HMD.out, rfl, HO.out⟩⟩
    · have dd : decide (((varsF [] F).length : Int) > 12) = true := by simp; omega
      have HMD : Hid (madeB F = false) := hid (by simp [madeB]; omega)
      clear ri2
      go_wp2
      go_ret2
      exact ⟨.slice none 0 0, HB2.out, Or.inr ⟨HMD.out, rfl⟩⟩
  · have HMD : Hid (madeB F = false) := hid (by simp [madeB]; omega)
    have HB1 := hid hB1
    clear hB1 HC
    go_wp2
    go_ret2
    exact ⟨.slice none 0 0, HB1.out, Or.inr ⟨HMD.out, rfl⟩⟩
end Go.Proofs.Ytidigpfiagjeiaa
