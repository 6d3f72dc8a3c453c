/-
  WHAT IT HOLDS: contracts of asked, Meeting, Instances, Generals, Alike, Shaped of package lemmaryref05, and of ref1's Flat. Conditions: the arguments read as data; at most 1000 terms and symbols.
-/
import Derived.Test.YtiacbdipagbblaaZRFindGroups43
import Derived.Test.YtiacbdipagbblaaZRFindGroups8
import Derived.Test.YtiacbdipagbblaaZRFindGroups30
import Derived.Test.YtiacbdipagbblaaZRFindGroups12
import Derived.Test.YtiacbdipagbblaaZRFindGroups25
import Derived.Test.YtiacbdipagbblaaZRFindGroups28
import Derived.Test.YtiacbdipagbblaaZRFindGroups44
namespace Go.Proofs.Ytiacbdipagbblaa
open Go Go.RowKit Go.Maps
def rowP (p : List Int → Bool) (l : List (List Int)) (k : Nat) : List Bool := (l.take k).map p ++ List.replicate (l.length - k) false
def rowQ (p : List Int → Bool) (l : List (List Int)) (k : Nat) (b : Bool) : List Bool := (l.take k).map p ++ b :: List.replicate (l.length - (k + 1)) false
theorem rowP_at (p : List Int → Bool) (l : List (List Int)) (k : Nat) (h : k < l.length) : rowP p l k = rowQ p l k false := by
  unfold rowP rowQ
  rw [show l.length - k = (l.length - (k + 1)) + 1 by omega, List.replicate_succ]
theorem rowQ_get (p : List Int → Bool) (l : List (List Int)) (k : Nat) (b : Bool) (h : k < l.length) : (rowQ p l k b)[k]? = some b := by
  unfold rowQ
  rw [List.getElem?_append_right (by simp; omega)]
  simp [Nat.min_eq_left (Nat.le_of_lt h)]
theorem rowQ_set (p : List Int → Bool) (l : List (List Int)) (k : Nat) (b c : Bool) (h : k < l.length) : ((rowQ p l k b).map Value.bool).set k (.bool c) = (rowQ p l k c).map Value.bool := by
  unfold rowQ
  simp only [List.map_append, List.map_cons]
  rw [List.set_append_right _ _ (by simp; omega)]
  simp [Nat.min_eq_left (Nat.le_of_lt h)]
theorem rowQ_next (p : List Int → Bool) (l : List (List Int)) (k : Nat) (h : k < l.length) : rowQ p l k (p l[k]) = rowP p l (k + 1) := by
  unfold rowP rowQ
  rw [List.take_succ_eq_append_getElem h, List.map_append]
  simp only [List.map_cons, List.map_nil, List.append_assoc, List.singleton_append]
theorem rowP_len (p : List Int → Bool) (l : List (List Int)) (k : Nat) (h : k ≤ l.length) : (rowP p l k).length = l.length := by
  unfold rowP; simp; omega
theorem rowP_all (p : List Int → Bool) (l : List (List Int)) (k : Nat) (h : l.length ≤ k) : rowP p l k = l.map p := by
  unfold rowP
  rw [List.take_of_length_le h, show l.length - k = 0 by omega]; simp
theorem searchB_1 {s : Sg} {l : List (List Int)} {q : List Int} (bs : List Bool) (h : (shelfB s l && termB s q) = false) : searchB s l q bs = ([], 1) := by unfold searchB; rw [h]; rfl
theorem searchB_0 {s : Sg} {l : List (List Int)} {q : List Int} (bs : List Bool) (h : (shelfB s l && termB s q) = true) : searchB s l q bs = (chosenL 0 bs, 0) := by unfold searchB; rw [h]; rfl
theorem shelf_at {s : Sg} {l : List (List Int)} (h : shelfB s l = true) {k : Nat} (hk : k < l.length) : termB s l[k] = true := by
  unfold shelfB at h
  simp only [Bool.and_eq_true] at h
  have h2 := h.2
  unfold allB at h2
  rw [List.all_eq_true] at h2
  exact h2 _ (List.getElem_mem hk)
theorem ref5_asked (v vl vq : Value) (s : Sg) (l : List (List Int)) (q : List Int) (w : World) (hs : SignAt w v s) (hv : Terms w vl l) (hq : Ints w vq q) :
    Calls Try.prog 73 #[v, vl, vq] w fun e w' => e = .returned (.bool (shelfB s l && termB s q)) ∧ ∃ n, w' = w.drewN n := by
  go_enter Try.func73, Try.ntmps73
  go_wp2_with fail
  refine (ref5_Valid _ _ _ _ _ hs hv).mono ?_
  rintro e w1 ⟨rfl, n1, rfl⟩
  cases h : shelfB s l
  · go_wp2
    go_ret
    exact ⟨by rw [h]; rfl, n1, rfl⟩
  · go_wp2_with fail
    refine (ref1_Valid _ _ s q _ (hs.drewN n1) (hq.drewN n1)).mono ?_
    rintro e w2 ⟨rfl, n2, rfl⟩
    go_wp2
    go_ret
    exact ⟨by rw [h, Bool.true_and]; rfl, n1 + n2, by simp⟩
set_option maxHeartbeats 1000000 in
theorem ref1_Flat (v : Value) (t : List Int) (w : World) (ht : Ints w v t) (h0 : 0 < t.length) (hl : t.length ≤ 1000) (hr : ∀ x ∈ t, -1000000 ≤ x ∧ x ≤ 1000000) :
    Calls Try.prog 106 #[v] w fun e w' => ∃ u, e = .returned u ∧ w'.ownsRow w.heap.size 3 1 u (shapeL t).length ((shapeL t).map (Value.int .i64)) ∧ Below w.heap.size w w' := by
  obtain ⟨ta, tcap, rfl, ht1, ht2, -, TC⟩ := ht.open
  obtain ⟨tb, to, rfl, -⟩ := TC 0 h0
  have TC2 : ∀ j (h : j < t.length), ∃ o, to = o ∧ w.cell? ⟨tb, o + j, none⟩ = some (.int .i64 t[j]) := fun j h => by
    obtain ⟨b, o, h1, h2⟩ := TC j h
    simp only [Option.some.injEq, Addr.mk.injEq] at h1
    obtain ⟨rfl, rfl, -⟩ := h1
    exact ⟨_, rfl, h2⟩
  have TC' := hid TC2
  clear TC2
  have HR := hid hr
  have hb0 : Below w.heap.size w (w.alloc (.cells #[] 3)) := (Below.refl _ _).alloc (Nat.le_refl _) _
  have HT := hid (ht.below hb0)
  have HOWN := hid (World.ownsRow_lit (base := w.heap.size) (e := 3) (size := 1) w #[] 0 (Nat.le_refl _) (by simp [maxLen]) rfl)
  have HB0 := hid hb0
  clear TC ht hb0 hr
  go_enter Try.func106, Try.ntmps106
  go_wp2_with (at_builtin; refine wpList_append_row rfl _ _ 37 rfl w.heap.size 3 el_int Try.underlying37 rfl (by decide) _ _ _ rfl HOWN.out _ t.length (t.map (Value.int .i64)) rfl HT.out (ints_one t) (by omega) (by omega) (by simp) ?_; intro v' w4 hown4 hgrow4 _)
  have hown : w4.ownsRow w.heap.size 3 1 v' t.length (t.map (Value.int .i64)) := by simpa using hown4
  obtain ⟨g, cap, rfl, hg, hgc⟩ := owns_some hown h0
  have HB1 : Hid (Below w.heap.size w w4) := hid (HB0.out.grown hgrow4 (by simp) (fun q hq => by cases hq; exact Nat.le_refl _))
  clear HOWN
  have HOWN := hid hown
  clear hown hown4 hgrow4
  go_wp2
  go_loopw [4] (fun kv wr => ∃ k : Nat, k ≤ t.length ∧ kv = .int .i64 k ∧ wr.ownsRow w.heap.size 3 1 (.slice (some ⟨g, 0, none⟩) t.length cap) t.length ((shapK t k).map (Value.int .i64)) ∧ Below w.heap.size w wr) (fun kv _ => t.length - (intOf kv).toNat)
  case atStart => exact ⟨0, by omega, rfl, by simpa [shapK, shapeL] using HOWN.out, HB1.out⟩
  case round =>
    clear HOWN HB1
    obtain ⟨k, hk, rfl, hown, hb⟩ := hrel
    by_cases hlt : k < t.length
    · obtain ⟨_, rfl, hc0⟩ := TC'.out k hlt
      have hcell := (hb.cell (World.block_lt_of_cell? _ _ hc0)).trans hc0
      have hrk := HR.out t[k] (List.getElem_mem hlt)
      have hc1 := hown.cellAt k (by omega)
      rw [shapK_get t hlt] at hc1
      by_cases hn : t[k] < 0
      · have hge : decide (t[k] < 0) = true := by simp; omega
        have hst := shapK_step t hlt
        have hv1 : (if t[k] < -1 then -1 else t[k]) = -1 := by split <;> omega
        rw [hv1] at hst
        have hf1 := hown.frozenAt k
        have HST := hid (hown.stored k (.int .i64 (-1)))
        have HB2 : Hid (Below w.heap.size w (wr.setCell ⟨g, k, none⟩ (.int .i64 (-1)))) := hid (hb.setCell (p := ⟨g, k, none⟩) (by show w.heap.size ≤ g; omega) _)
        have HS := hid hst
        clear hst hown hc0 hv1
        go_wp2
        go_roundw
        case rel => exact ⟨k + 1, by omega, by go_num, by rw [HS.out, List.map_set]; exact HST.out.1, HB2.out⟩
        case measure => simp [intOf]; omega
      · have hge : decide (t[k] < 0) = false := by simp; omega
        have hst := shapK_step t hlt
        have hv1 : (if t[k] < -1 then -1 else t[k]) = t[k] := by split <;> omega
        rw [hv1] at hst
        have hst2 : shapK t (k + 1) = shapK t k := by
          rw [hst]
          refine List.ext_getElem? fun j => ?_
          rw [List.getElem?_set]
          split
          · rename_i e
            subst e
            have hg := shapK_get t hlt
            rw [List.getElem?_map] at hg
            split
            · cases h9 : (shapK t k)[k]? with
              | none => rw [h9] at hg; cases hg
              | some z => rw [h9] at hg; simp at hg; rw [hg]
            · rename_i h9
              rw [List.getElem?_eq_none (by omega)]
          · rfl
        have HS := hid hst2
        clear hc0 hst hst2 hv1
        go_wp2
        go_roundw
        case rel => exact ⟨k + 1, by omega, by go_num, by rw [HS.out]; exact hown, hb⟩
        case measure => simp [intOf]; omega
    · have HE := hid (shapK_all t (k := k) (by omega))
      rw [HE.out] at hown
      have HL : Hid ((shapeL t).length = t.length) := hid (by simp [shapeL])
      have HOW := hid hown
      clear hown
      go_wp2
      go_ret
      exact ⟨_, rfl, by rw [HL.out]; exact HOW.out, hb⟩
set_option maxHeartbeats 2000000 in
set_option maxRecDepth 100000 in
theorem ref5_Meeting (v vl vq : Value) (s : Sg) (l : List (List Int)) (q : List Int) (w : World) (f : List Int → Bool) (hf : ∀ t, MeetsA s t q (f t)) (hs : SignAt w v s) (hv : Terms w vl l) (hq : Ints w vq q) (b1 : s.length ≤ 1000) (b2 : l.length ≤ 1000) :
    Calls Try.prog 38 #[v, vl, vq] w fun e w' => ∃ u, e = .returned (.tuple #[u, .int .i64 (searchB s l q (l.map f)).2]) ∧ w'.ownsRow w.heap.size 3 1 u (searchB s l q (l.map f)).1.length ((searchB s l q (l.map f)).1.map (Value.int .i64)) ∧ Below w.heap.size w w' := by
  have HASK := hid (ref5_asked v vl vq s l q w hs hv hq)
  obtain ⟨la, lcap, rfl, hl1, hl2, hl3, LC⟩ := hv.open
  have LC' := hid LC
  clear LC hl3
  cases hva : (shelfB s l && termB s q)
  · have HF := hid (searchB_1 (l.map f) hva)
    rw [hva] at HASK
    go_enter Try.func38, Try.ntmps38
    go_wp2_with fail
    refine HASK.out.mono ?_
    rintro e w1 ⟨rfl, n1, rfl⟩
    go_wp2
    go_ret2
    rw [HF.out]
    exact ⟨_, rfl, World.ownsRow_nil _ _ _ _, below_self_drewN _ _⟩
  · have HF := hid (searchB_0 (l.map f) hva)
    rw [hva] at HASK
    have hvv := hva
    rw [Bool.and_eq_true] at hvv
    have HQT := hid hvv.2
    have HLT : Hid (∀ (k : Nat) (h : k < l.length), termB s l[k] = true) := hid (fun k h => shelf_at hvv.1 h)
    have HQ := hid hq
    have HS := hid hs
    obtain ⟨p, hp⟩ : ∃ p : List Int → Bool, p = f := ⟨_, rfl⟩
    rw [← hp] at HF ⊢
    have HCALL := hid (fun (k : Nat) (h : k < l.length) (X : World) (hX : Below w.heap.size w X) (u : Value) (hu : Ints X u l[k]) => (show Calls Try.prog 97 #[v, u, vq] X fun e w' => e = .returned (.bool (p l[k])) ∧ Below X.heap.size X w' from by
      rw [hp]
      exact (ref2_Meets v u vq s l[k] q X (HS.out.below hX) hu (HQ.out.below hX)).mono fun e w' ⟨z, h1, h2, h3⟩ => ⟨by rw [h2, Bool.eq_iff_iff.2 (h1.trans (hf l[k]).symm)], h3⟩))
    clear hva hvv hs hq hp hv
    go_enter Try.func38, Try.ntmps38
    go_wp2_with fail
    refine HASK.out.mono ?_
    rintro e w1 ⟨rfl, m0, rfl⟩
    go_wp2_with (at_make; refine wpList_make_row rfl _ _ 67 rfl w.heap.size 4 el_bool Try.underlying67 rfl l.length rfl rfl (by omega) (by omega) (by simp) ?_; intro g w1 hg0 hg1 hown1 hgrow1)
    have hb1 : Below w.heap.size w w1 := (below_self_drewN w m0).grown hgrow1 (by simp) (fun _ h => by cases h)
    rw [show List.replicate l.length (Value.bool false) = (rowP p l 0).map Value.bool by simp [rowP]] at hown1
    go_loopw [9] (fun i wr => ∃ k : Nat, k ≤ l.length ∧ i = .int .i64 k ∧ wr.ownsRow w.heap.size 4 1 (.slice (some ⟨g, 0, none⟩) l.length l.length) l.length ((rowP p l k).map Value.bool) ∧ Below w.heap.size w wr) (fun i _ => l.length - (intOf i).toNat)
    case atStart => exact ⟨0, by omega, rfl, hown1, hb1⟩
    case round =>
      clear hown1 hgrow1 hb1 hg1
      obtain ⟨k, hk, rfl, hown, hb⟩ := hrel
      have hbs := hb.size
      by_cases hlt : k < l.length
      · obtain ⟨b, o, u, rfl, hcell0, hu0⟩ := LC'.out k hlt
        have hcell : wr.cell? ⟨b, o + k, none⟩ = some u := (hb.cell (World.block_lt_of_cell? _ _ hcell0)).trans hcell0
        obtain ⟨ua, ucap, rfl, _⟩ := hu0.open
        have HC := hid (HCALL.out k hlt wr hb _ (hu0.below hb))
        have HNEXT := hid (rowQ_next p l k hlt)
        rw [rowP_at p l k hlt] at hown
        have HOWN := hid hown
        have HB := hid hb
        have HST := hid (fun c => rowQ_set p l k false c hlt)
        have HGET := hid (rowQ_get p l k false hlt)
        clear hown hb hcell0 hu0
        go_wp2_with fail
        refine HC.out.mono ?_
        rintro e w3 ⟨rfl, hb3⟩
        have hown3 := owns_below HOWN.out hb3
        have hc1 := hown3.cellAt k (by omega)
        rw [List.getElem?_map, HGET.out] at hc1
        simp only [Option.map_some] at hc1
        have hf1 := hown3.frozenAt k
        have hst := hown3.stored k (.bool (p l[k]))
        rw [HST.out, HNEXT.out] at hst
        have hb4 := HB.out.trans (hb3.mono hbs)
        have HB4 : Hid (Below w.heap.size w (w3.setCell ⟨g, k, none⟩ (.bool (p l[k])))) := hid (hb4.setCell (p := ⟨g, k, none⟩) hg0 _)
        have HST4 := hid hst
        generalize p l[k] = z at *
        clear hst hb4 hown3 hb3 HOWN HB HC
        go_wp2
        go_roundw
        case rel => exact ⟨k + 1, by omega, by go_num, HST4.out.1, HB4.out⟩
        case measure => simp [intOf]; omega
      · have hbo : Bools wr (.slice (some ⟨g, 0, none⟩) l.length l.length) (l.map p) := by
          have h := RowK.of_owns hown (by omega)
          rw [rowP_all p l k (by omega)] at h
          unfold Bools
          simpa using h
        have HCH := hid (ref5_chosen _ (l.map p) wr hbo (by simpa using b2))
        have HB := hid hb
        clear hown hb hbo
        go_wp2_with fail
        refine HCH.out.mono ?_
        rintro e w3 ⟨u, rfl, hown, hb3⟩
        have HO := hid (owns_base hown hbs)
        have HB3 := hid (HB.out.trans (hb3.mono hbs))
        clear hown hb3
        go_wp2
        go_ret2
        rw [HF.out]
        exact ⟨u, rfl, HO.out, HB3.out⟩
set_option maxHeartbeats 2000000 in
set_option maxRecDepth 100000 in
theorem ref5_Instances (v vl vq : Value) (s : Sg) (l : List (List Int)) (q : List Int) (w : World) (hs : SignAt w v s) (hv : Terms w vl l) (hq : Ints w vq q) (b1 : s.length ≤ 1000) (b2 : l.length ≤ 1000) :
    Calls Try.prog 41 #[v, vl, vq] w fun e w' => ∃ u, e = .returned (.tuple #[u, .int .i64 (searchB s l q (l.map (fun t => instB s q t))).2]) ∧ w'.ownsRow w.heap.size 3 1 u (searchB s l q (l.map (fun t => instB s q t))).1.length ((searchB s l q (l.map (fun t => instB s q t))).1.map (Value.int .i64)) ∧ Below w.heap.size w w' := by
  have HASK := hid (ref5_asked v vl vq s l q w hs hv hq)
  obtain ⟨la, lcap, rfl, hl1, hl2, hl3, LC⟩ := hv.open
  have LC' := hid LC
  clear LC hl3
  cases hva : (shelfB s l && termB s q)
  · have HF := hid (searchB_1 (l.map (fun t => instB s q t)) hva)
    rw [hva] at HASK
    go_enter Try.func41, Try.ntmps41
    go_wp2_with fail
    refine HASK.out.mono ?_
    rintro e w1 ⟨rfl, n1, rfl⟩
    go_wp2
    go_ret2
    rw [HF.out]
    exact ⟨_, rfl, World.ownsRow_nil _ _ _ _, below_self_drewN _ _⟩
  · have HF := hid (searchB_0 (l.map (fun t => instB s q t)) hva)
    rw [hva] at HASK
    have hvv := hva
    rw [Bool.and_eq_true] at hvv
    have HQT := hid hvv.2
    have HLT : Hid (∀ (k : Nat) (h : k < l.length), termB s l[k] = true) := hid (fun k h => shelf_at hvv.1 h)
    have HQ := hid hq
    have HS := hid hs
    obtain ⟨p, hp⟩ : ∃ p : List Int → Bool, p = (fun t => instB s q t) := ⟨_, rfl⟩
    rw [← hp] at HF ⊢
    have HCALL := hid (fun (k : Nat) (h : k < l.length) (X : World) (hX : Below w.heap.size w X) (u : Value) (hu : Ints X u l[k]) => (show Calls Try.prog 92 #[v, vq, u] X fun e w' => e = .returned (.bool (p l[k])) ∧ Below X.heap.size X w' from by
      rw [hp]
      exact ref2_Instance v vq u s q l[k] X (HS.out.below hX) (HQ.out.below hX) hu b1))
    clear hva hvv hs hq hp hv
    go_enter Try.func41, Try.ntmps41
    go_wp2_with fail
    refine HASK.out.mono ?_
    rintro e w1 ⟨rfl, m0, rfl⟩
    go_wp2_with (at_make; refine wpList_make_row rfl _ _ 67 rfl w.heap.size 4 el_bool Try.underlying67 rfl l.length rfl rfl (by omega) (by omega) (by simp) ?_; intro g w1 hg0 hg1 hown1 hgrow1)
    have hb1 : Below w.heap.size w w1 := (below_self_drewN w m0).grown hgrow1 (by simp) (fun _ h => by cases h)
    rw [show List.replicate l.length (Value.bool false) = (rowP p l 0).map Value.bool by simp [rowP]] at hown1
    go_loopw [9] (fun i wr => ∃ k : Nat, k ≤ l.length ∧ i = .int .i64 k ∧ wr.ownsRow w.heap.size 4 1 (.slice (some ⟨g, 0, none⟩) l.length l.length) l.length ((rowP p l k).map Value.bool) ∧ Below w.heap.size w wr) (fun i _ => l.length - (intOf i).toNat)
    case atStart => exact ⟨0, by omega, rfl, hown1, hb1⟩
    case round =>
      clear hown1 hgrow1 hb1 hg1
      obtain ⟨k, hk, rfl, hown, hb⟩ := hrel
      have hbs := hb.size
      by_cases hlt : k < l.length
      · obtain ⟨b, o, u, rfl, hcell0, hu0⟩ := LC'.out k hlt
        have hcell : wr.cell? ⟨b, o + k, none⟩ = some u := (hb.cell (World.block_lt_of_cell? _ _ hcell0)).trans hcell0
        obtain ⟨ua, ucap, rfl, _⟩ := hu0.open
        have HC := hid (HCALL.out k hlt wr hb _ (hu0.below hb))
        have HNEXT := hid (rowQ_next p l k hlt)
        rw [rowP_at p l k hlt] at hown
        have HOWN := hid hown
        have HB := hid hb
        have HST := hid (fun c => rowQ_set p l k false c hlt)
        have HGET := hid (rowQ_get p l k false hlt)
        clear hown hb hcell0 hu0
        go_wp2_with fail
        refine HC.out.mono ?_
        rintro e w3 ⟨rfl, hb3⟩
        have hown3 := owns_below HOWN.out hb3
        have hc1 := hown3.cellAt k (by omega)
        rw [List.getElem?_map, HGET.out] at hc1
        simp only [Option.map_some] at hc1
        have hf1 := hown3.frozenAt k
        have hst := hown3.stored k (.bool (p l[k]))
        rw [HST.out, HNEXT.out] at hst
        have hb4 := HB.out.trans (hb3.mono hbs)
        have HB4 : Hid (Below w.heap.size w (w3.setCell ⟨g, k, none⟩ (.bool (p l[k])))) := hid (hb4.setCell (p := ⟨g, k, none⟩) hg0 _)
        have HST4 := hid hst
        generalize p l[k] = z at *
        clear hst hb4 hown3 hb3 HOWN HB HC
        go_wp2
        go_roundw
        case rel => exact ⟨k + 1, by omega, by go_num, HST4.out.1, HB4.out⟩
        case measure => simp [intOf]; omega
      · have hbo : Bools wr (.slice (some ⟨g, 0, none⟩) l.length l.length) (l.map p) := by
          have h := RowK.of_owns hown (by omega)
          rw [rowP_all p l k (by omega)] at h
          unfold Bools
          simpa using h
        have HCH := hid (ref5_chosen _ (l.map p) wr hbo (by simpa using b2))
        have HB := hid hb
        clear hown hb hbo
        go_wp2_with fail
        refine HCH.out.mono ?_
        rintro e w3 ⟨u, rfl, hown, hb3⟩
        have HO := hid (owns_base hown hbs)
        have HB3 := hid (HB.out.trans (hb3.mono hbs))
        clear hown hb3
        go_wp2
        go_ret2
        rw [HF.out]
        exact ⟨u, rfl, HO.out, HB3.out⟩
set_option maxHeartbeats 2000000 in
set_option maxRecDepth 100000 in
theorem ref5_Generals (v vl vq : Value) (s : Sg) (l : List (List Int)) (q : List Int) (w : World) (hs : SignAt w v s) (hv : Terms w vl l) (hq : Ints w vq q) (b1 : s.length ≤ 1000) (b2 : l.length ≤ 1000) :
    Calls Try.prog 43 #[v, vl, vq] w fun e w' => ∃ u, e = .returned (.tuple #[u, .int .i64 (searchB s l q (l.map (fun t => instB s t q))).2]) ∧ w'.ownsRow w.heap.size 3 1 u (searchB s l q (l.map (fun t => instB s t q))).1.length ((searchB s l q (l.map (fun t => instB s t q))).1.map (Value.int .i64)) ∧ Below w.heap.size w w' := by
  have HASK := hid (ref5_asked v vl vq s l q w hs hv hq)
  obtain ⟨la, lcap, rfl, hl1, hl2, hl3, LC⟩ := hv.open
  have LC' := hid LC
  clear LC hl3
  cases hva : (shelfB s l && termB s q)
  · have HF := hid (searchB_1 (l.map (fun t => instB s t q)) hva)
    rw [hva] at HASK
    go_enter Try.func43, Try.ntmps43
    go_wp2_with fail
    refine HASK.out.mono ?_
    rintro e w1 ⟨rfl, n1, rfl⟩
    go_wp2
    go_ret2
    rw [HF.out]
    exact ⟨_, rfl, World.ownsRow_nil _ _ _ _, below_self_drewN _ _⟩
  · have HF := hid (searchB_0 (l.map (fun t => instB s t q)) hva)
    rw [hva] at HASK
    have hvv := hva
    rw [Bool.and_eq_true] at hvv
    have HQT := hid hvv.2
    have HLT : Hid (∀ (k : Nat) (h : k < l.length), termB s l[k] = true) := hid (fun k h => shelf_at hvv.1 h)
    have HQ := hid hq
    have HS := hid hs
    obtain ⟨p, hp⟩ : ∃ p : List Int → Bool, p = (fun t => instB s t q) := ⟨_, rfl⟩
    rw [← hp] at HF ⊢
    have HCALL := hid (fun (k : Nat) (h : k < l.length) (X : World) (hX : Below w.heap.size w X) (u : Value) (hu : Ints X u l[k]) => (show Calls Try.prog 92 #[v, u, vq] X fun e w' => e = .returned (.bool (p l[k])) ∧ Below X.heap.size X w' from by
      rw [hp]
      exact ref2_Instance v u vq s l[k] q X (HS.out.below hX) hu (HQ.out.below hX) b1))
    clear hva hvv hs hq hp hv
    go_enter Try.func43, Try.ntmps43
    go_wp2_with fail
    refine HASK.out.mono ?_
    rintro e w1 ⟨rfl, m0, rfl⟩
    go_wp2_with (at_make; refine wpList_make_row rfl _ _ 67 rfl w.heap.size 4 el_bool Try.underlying67 rfl l.length rfl rfl (by omega) (by omega) (by simp) ?_; intro g w1 hg0 hg1 hown1 hgrow1)
    have hb1 : Below w.heap.size w w1 := (below_self_drewN w m0).grown hgrow1 (by simp) (fun _ h => by cases h)
    rw [show List.replicate l.length (Value.bool false) = (rowP p l 0).map Value.bool by simp [rowP]] at hown1
    go_loopw [9] (fun i wr => ∃ k : Nat, k ≤ l.length ∧ i = .int .i64 k ∧ wr.ownsRow w.heap.size 4 1 (.slice (some ⟨g, 0, none⟩) l.length l.length) l.length ((rowP p l k).map Value.bool) ∧ Below w.heap.size w wr) (fun i _ => l.length - (intOf i).toNat)
    case atStart => exact ⟨0, by omega, rfl, hown1, hb1⟩
    case round =>
      clear hown1 hgrow1 hb1 hg1
      obtain ⟨k, hk, rfl, hown, hb⟩ := hrel
      have hbs := hb.size
      by_cases hlt : k < l.length
      · obtain ⟨b, o, u, rfl, hcell0, hu0⟩ := LC'.out k hlt
        have hcell : wr.cell? ⟨b, o + k, none⟩ = some u := (hb.cell (World.block_lt_of_cell? _ _ hcell0)).trans hcell0
        obtain ⟨ua, ucap, rfl, _⟩ := hu0.open
        have HC := hid (HCALL.out k hlt wr hb _ (hu0.below hb))
        have HNEXT := hid (rowQ_next p l k hlt)
        rw [rowP_at p l k hlt] at hown
        have HOWN := hid hown
        have HB := hid hb
        have HST := hid (fun c => rowQ_set p l k false c hlt)
        have HGET := hid (rowQ_get p l k false hlt)
        clear hown hb hcell0 hu0
        go_wp2_with fail
        refine HC.out.mono ?_
        rintro e w3 ⟨rfl, hb3⟩
        have hown3 := owns_below HOWN.out hb3
        have hc1 := hown3.cellAt k (by omega)
        rw [List.getElem?_map, HGET.out] at hc1
        simp only [Option.map_some] at hc1
        have hf1 := hown3.frozenAt k
        have hst := hown3.stored k (.bool (p l[k]))
        rw [HST.out, HNEXT.out] at hst
        have hb4 := HB.out.trans (hb3.mono hbs)
        have HB4 : Hid (Below w.heap.size w (w3.setCell ⟨g, k, none⟩ (.bool (p l[k])))) := hid (hb4.setCell (p := ⟨g, k, none⟩) hg0 _)
        have HST4 := hid hst
        generalize p l[k] = z at *
        clear hst hb4 hown3 hb3 HOWN HB HC
        go_wp2
        go_roundw
        case rel => exact ⟨k + 1, by omega, by go_num, HST4.out.1, HB4.out⟩
        case measure => simp [intOf]; omega
      · have hbo : Bools wr (.slice (some ⟨g, 0, none⟩) l.length l.length) (l.map p) := by
          have h := RowK.of_owns hown (by omega)
          rw [rowP_all p l k (by omega)] at h
          unfold Bools
          simpa using h
        have HCH := hid (ref5_chosen _ (l.map p) wr hbo (by simpa using b2))
        have HB := hid hb
        clear hown hb hbo
        go_wp2_with fail
        refine HCH.out.mono ?_
        rintro e w3 ⟨u, rfl, hown, hb3⟩
        have HO := hid (owns_base hown hbs)
        have HB3 := hid (HB.out.trans (hb3.mono hbs))
        clear hown hb3
        go_wp2
        go_ret2
        rw [HF.out]
        exact ⟨u, rfl, HO.out, HB3.out⟩
set_option maxHeartbeats 2000000 in
set_option maxRecDepth 100000 in
theorem ref5_Alike (v vl vq : Value) (s : Sg) (l : List (List Int)) (q : List Int) (w : World) (hs : SignAt w v s) (hv : Terms w vl l) (hq : Ints w vq q) (b1 : s.length ≤ 1000) (b2 : l.length ≤ 1000) :
    Calls Try.prog 44 #[v, vl, vq] w fun e w' => ∃ u, e = .returned (.tuple #[u, .int .i64 (searchB s l q (l.map (fun t => decide (canonL t = canonL q)))).2]) ∧ w'.ownsRow w.heap.size 3 1 u (searchB s l q (l.map (fun t => decide (canonL t = canonL q)))).1.length ((searchB s l q (l.map (fun t => decide (canonL t = canonL q)))).1.map (Value.int .i64)) ∧ Below w.heap.size w w' := by
  have HASK := hid (ref5_asked v vl vq s l q w hs hv hq)
  obtain ⟨la, lcap, rfl, hl1, hl2, hl3, LC⟩ := hv.open
  have LC' := hid LC
  clear LC hl3
  cases hva : (shelfB s l && termB s q)
  · have HF := hid (searchB_1 (l.map (fun t => decide (canonL t = canonL q))) hva)
    rw [hva] at HASK
    go_enter Try.func44, Try.ntmps44
    go_wp2_with fail
    refine HASK.out.mono ?_
    rintro e w1 ⟨rfl, n1, rfl⟩
    go_wp2
    go_ret2
    rw [HF.out]
    exact ⟨_, rfl, World.ownsRow_nil _ _ _ _, below_self_drewN _ _⟩
  · have HF := hid (searchB_0 (l.map (fun t => decide (canonL t = canonL q))) hva)
    rw [hva] at HASK
    have hvv := hva
    rw [Bool.and_eq_true] at hvv
    have HQT := hid hvv.2
    have HLT : Hid (∀ (k : Nat) (h : k < l.length), termB s l[k] = true) := hid (fun k h => shelf_at hvv.1 h)
    have HQ := hid hq
    have HS := hid hs
    obtain ⟨p, hp⟩ : ∃ p : List Int → Bool, p = (fun t => decide (canonL t = canonL q)) := ⟨_, rfl⟩
    rw [← hp] at HF ⊢
    have HCALL := hid (fun (k : Nat) (h : k < l.length) (X : World) (hX : Below w.heap.size w X) (u : Value) (hu : Ints X u l[k]) => (show Calls Try.prog 88 #[u, vq] X fun e w' => e = .returned (.bool (p l[k])) ∧ Below X.heap.size X w' from by
      rw [hp]
      exact ref5_alike u vq l[k] q X hu (HQ.out.below hX) (termB_T (HLT.out k h)).ne (termB_T HQT.out).ne (by have := (termB_facts (HLT.out k h)).2.2.2; omega) (by have := (termB_facts HQT.out).2.2.2; omega) (termB_wf (HLT.out k h)) (termB_wf HQT.out)))
    clear hva hvv hs hq hp hv
    go_enter Try.func44, Try.ntmps44
    go_wp2_with fail
    refine HASK.out.mono ?_
    rintro e w1 ⟨rfl, m0, rfl⟩
    go_wp2_with (at_make; refine wpList_make_row rfl _ _ 67 rfl w.heap.size 4 el_bool Try.underlying67 rfl l.length rfl rfl (by omega) (by omega) (by simp) ?_; intro g w1 hg0 hg1 hown1 hgrow1)
    have hb1 : Below w.heap.size w w1 := (below_self_drewN w m0).grown hgrow1 (by simp) (fun _ h => by cases h)
    rw [show List.replicate l.length (Value.bool false) = (rowP p l 0).map Value.bool by simp [rowP]] at hown1
    go_loopw [9] (fun i wr => ∃ k : Nat, k ≤ l.length ∧ i = .int .i64 k ∧ wr.ownsRow w.heap.size 4 1 (.slice (some ⟨g, 0, none⟩) l.length l.length) l.length ((rowP p l k).map Value.bool) ∧ Below w.heap.size w wr) (fun i _ => l.length - (intOf i).toNat)
    case atStart => exact ⟨0, by omega, rfl, hown1, hb1⟩
    case round =>
      clear hown1 hgrow1 hb1 hg1
      obtain ⟨k, hk, rfl, hown, hb⟩ := hrel
      have hbs := hb.size
      by_cases hlt : k < l.length
      · obtain ⟨b, o, u, rfl, hcell0, hu0⟩ := LC'.out k hlt
        have hcell : wr.cell? ⟨b, o + k, none⟩ = some u := (hb.cell (World.block_lt_of_cell? _ _ hcell0)).trans hcell0
        obtain ⟨ua, ucap, rfl, _⟩ := hu0.open
        have HC := hid (HCALL.out k hlt wr hb _ (hu0.below hb))
        have HNEXT := hid (rowQ_next p l k hlt)
        rw [rowP_at p l k hlt] at hown
        have HOWN := hid hown
        have HB := hid hb
        have HST := hid (fun c => rowQ_set p l k false c hlt)
        have HGET := hid (rowQ_get p l k false hlt)
        clear hown hb hcell0 hu0
        go_wp2_with fail
        refine HC.out.mono ?_
        rintro e w3 ⟨rfl, hb3⟩
        have hown3 := owns_below HOWN.out hb3
        have hc1 := hown3.cellAt k (by omega)
        rw [List.getElem?_map, HGET.out] at hc1
        simp only [Option.map_some] at hc1
        have hf1 := hown3.frozenAt k
        have hst := hown3.stored k (.bool (p l[k]))
        rw [HST.out, HNEXT.out] at hst
        have hb4 := HB.out.trans (hb3.mono hbs)
        have HB4 : Hid (Below w.heap.size w (w3.setCell ⟨g, k, none⟩ (.bool (p l[k])))) := hid (hb4.setCell (p := ⟨g, k, none⟩) hg0 _)
        have HST4 := hid hst
        generalize p l[k] = z at *
        clear hst hb4 hown3 hb3 HOWN HB HC
        go_wp2
        go_roundw
        case rel => exact ⟨k + 1, by omega, by go_num, HST4.out.1, HB4.out⟩
        case measure => simp [intOf]; omega
      · have hbo : Bools wr (.slice (some ⟨g, 0, none⟩) l.length l.length) (l.map p) := by
          have h := RowK.of_owns hown (by omega)
          rw [rowP_all p l k (by omega)] at h
          unfold Bools
          simpa using h
        have HCH := hid (ref5_chosen _ (l.map p) wr hbo (by simpa using b2))
        have HB := hid hb
        clear hown hb hbo
        go_wp2_with fail
        refine HCH.out.mono ?_
        rintro e w3 ⟨u, rfl, hown, hb3⟩
        have HO := hid (owns_base hown hbs)
        have HB3 := hid (HB.out.trans (hb3.mono hbs))
        clear hown hb3
        go_wp2
        go_ret2
        rw [HF.out]
        exact ⟨u, rfl, HO.out, HB3.out⟩
set_option maxHeartbeats 2000000 in
set_option maxRecDepth 100000 in
theorem ref5_Shaped (v vl vq : Value) (s : Sg) (l : List (List Int)) (q : List Int) (w : World) (hs : SignAt w v s) (hv : Terms w vl l) (hq : Ints w vq q) (b1 : s.length ≤ 1000) (b2 : l.length ≤ 1000) :
    Calls Try.prog 46 #[v, vl, vq] w fun e w' => ∃ u, e = .returned (.tuple #[u, .int .i64 (searchB s l q (l.map (fun t => decide (shapeL t = shapeL q)))).2]) ∧ w'.ownsRow w.heap.size 3 1 u (searchB s l q (l.map (fun t => decide (shapeL t = shapeL q)))).1.length ((searchB s l q (l.map (fun t => decide (shapeL t = shapeL q)))).1.map (Value.int .i64)) ∧ Below w.heap.size w w' := by
  have HASK := hid (ref5_asked v vl vq s l q w hs hv hq)
  obtain ⟨la, lcap, rfl, hl1, hl2, hl3, LC⟩ := hv.open
  have LC' := hid LC
  clear LC hl3
  cases hva : (shelfB s l && termB s q)
  · have HF := hid (searchB_1 (l.map (fun t => decide (shapeL t = shapeL q))) hva)
    rw [hva] at HASK
    go_enter Try.func46, Try.ntmps46
    go_wp2_with fail
    refine HASK.out.mono ?_
    rintro e w1 ⟨rfl, n1, rfl⟩
    go_wp2
    go_ret2
    rw [HF.out]
    exact ⟨_, rfl, World.ownsRow_nil _ _ _ _, below_self_drewN _ _⟩
  · have HF := hid (searchB_0 (l.map (fun t => decide (shapeL t = shapeL q))) hva)
    rw [hva] at HASK
    have hvv := hva
    rw [Bool.and_eq_true] at hvv
    have HQT := hid hvv.2
    have HLT : Hid (∀ (k : Nat) (h : k < l.length), termB s l[k] = true) := hid (fun k h => shelf_at hvv.1 h)
    have HQ := hid hq
    have HS := hid hs
    obtain ⟨p, hp⟩ : ∃ p : List Int → Bool, p = (fun t => decide (shapeL t = shapeL q)) := ⟨_, rfl⟩
    rw [← hp] at HF ⊢
    have HFL := hid (fun (t : List Int) (ht : termB s t = true) (X : World) (u : Value) (hu : Ints X u t) => ref1_Flat u t X hu (termB_T ht).ne (by have := (termB_facts ht).2.2.2; omega) (termB_wf ht))
    have HP := hid (fun k (h : k < l.length) => (show p l[k] = decide (shapeL l[k] = shapeL q) from by rw [hp]))
    have hql := (termB_facts HQT.out).2.2.2
    have HLQ : Hid ((shapeL q).length = q.length) := hid (by simp [shapeL])
    clear hva hvv hs hq hp hv
    go_enter Try.func46, Try.ntmps46
    go_wp2_with fail
    refine HASK.out.mono ?_
    rintro e w1 ⟨rfl, m0, rfl⟩
    go_wp2_with (at_make; refine wpList_make_row rfl _ _ 67 rfl w.heap.size 4 el_bool Try.underlying67 rfl l.length rfl rfl (by omega) (by omega) (by simp) ?_; intro g w1 hg0 hg1 hown1 hgrow1)
    have hb1 : Below w.heap.size w w1 := (below_self_drewN w m0).grown hgrow1 (by simp) (fun _ h => by cases h)
    rw [show List.replicate l.length (Value.bool false) = (rowP p l 0).map Value.bool by simp [rowP]] at hown1
    go_loopw [9] (fun i wr => ∃ k : Nat, k ≤ l.length ∧ i = .int .i64 k ∧ wr.ownsRow w.heap.size 4 1 (.slice (some ⟨g, 0, none⟩) l.length l.length) l.length ((rowP p l k).map Value.bool) ∧ Below w.heap.size w wr) (fun i _ => l.length - (intOf i).toNat)
    case atStart => exact ⟨0, by omega, rfl, hown1, hb1⟩
    case round =>
      clear hown1 hgrow1 hb1 hg1
      obtain ⟨k, hk, rfl, hown, hb⟩ := hrel
      have hbs := hb.size
      by_cases hlt : k < l.length
      · obtain ⟨b, o, u, rfl, hcell0, hu0⟩ := LC'.out k hlt
        have hcell : wr.cell? ⟨b, o + k, none⟩ = some u := (hb.cell (World.block_lt_of_cell? _ _ hcell0)).trans hcell0
        obtain ⟨ua, ucap, rfl, _⟩ := hu0.open
        have HC := hid (HFL.out l[k] (HLT.out k hlt) wr _ (hu0.below hb))
        have HQW := hid (HQ.out.below hb)
        have hkl := (termB_facts (HLT.out k hlt)).2.2.2
        have HLK : Hid ((shapeL l[k]).length = l[k].length) := hid (by simp [shapeL])
        have HNEXT := hid (rowQ_next p l k hlt)
        rw [rowP_at p l k hlt] at hown
        have HOWN := hid hown
        have HB := hid hb
        have HST := hid (fun c => rowQ_set p l k false c hlt)
        have HGET := hid (rowQ_get p l k false hlt)
        clear hown hb hcell0 hu0
        go_wp2_with fail
        refine HC.out.mono ?_
        rintro e w21 ⟨u1, rfl, ho1, hb21⟩
        have i1 := Ints.of_owns ho1 (by rw [HLK.out]; omega)
        have HB21 := hid hb21
        clear ho1 hb21
        go_wp2_with fail
        refine (HFL.out q HQT.out w21 _ (HQW.out.below HB21.out)).mono ?_
        rintro e w22 ⟨u2, rfl, ho2, hb22⟩
        have i2 := Ints.of_owns ho2 (by rw [HLQ.out]; omega)
        have i1 := i1.below hb22
        have hb22' := HB21.out.trans (hb22.mono HB21.out.size)
        go_wp2_with fail
        refine (ref1_Same u1 u2 (shapeL l[k]) (shapeL q) _ i1 i2).mono ?_
        rintro e w3 ⟨rfl, n3, hw3⟩
        have hb3 : Below wr.heap.size wr w3 := by rw [hw3]; exact below_drewN hb22' n3
        rw [← HP.out k hlt]
        clear hw3 i1 i2 ho2 hb22 hb22' HP
        have hown3 := owns_below HOWN.out hb3
        have hc1 := hown3.cellAt k (by omega)
        rw [List.getElem?_map, HGET.out] at hc1
        simp only [Option.map_some] at hc1
        have hf1 := hown3.frozenAt k
        have hst := hown3.stored k (.bool (p l[k]))
        rw [HST.out, HNEXT.out] at hst
        have hb4 := HB.out.trans (hb3.mono hbs)
        have HB4 : Hid (Below w.heap.size w (w3.setCell ⟨g, k, none⟩ (.bool (p l[k])))) := hid (hb4.setCell (p := ⟨g, k, none⟩) hg0 _)
        have HST4 := hid hst
        generalize p l[k] = z at *
        clear hst hb4 hown3 hb3 HOWN HB HC
        go_wp2
        go_roundw
        case rel => exact ⟨k + 1, by omega, by go_num, HST4.out.1, HB4.out⟩
        case measure => simp [intOf]; omega
      · have hbo : Bools wr (.slice (some ⟨g, 0, none⟩) l.length l.length) (l.map p) := by
          have h := RowK.of_owns hown (by omega)
          rw [rowP_all p l k (by omega)] at h
          unfold Bools
          simpa using h
        have HCH := hid (ref5_chosen _ (l.map p) wr hbo (by simpa using b2))
        have HB := hid hb
        clear hown hb hbo
        go_wp2_with fail
        refine HCH.out.mono ?_
        rintro e w3 ⟨u, rfl, hown, hb3⟩
        have HO := hid (owns_base hown hbs)
        have HB3 := hid (HB.out.trans (hb3.mono hbs))
        clear hown hb3
        go_wp2
        go_ret2
        rw [HF.out]
        exact ⟨u, rfl, HO.out, HB3.out⟩
theorem searchB_congr {s : Sg} {l : List (List Int)} {q : List Int} {p p' : List Int → Bool} (h : ∀ t, termB s t = true → termB s q = true → p t = p' t) : searchB s l q (l.map p) = searchB s l q (l.map p') := by
  cases hv : (shelfB s l && termB s q)
  · rw [searchB_1 _ hv, searchB_1 _ hv]
  · rw [searchB_0 _ hv, searchB_0 _ hv]
    rw [Bool.and_eq_true] at hv
    have : l.map p = l.map p' := List.map_congr_left fun t ht => by
      obtain ⟨k, hk, rfl⟩ := List.getElem_of_mem ht
      exact h _ (shelf_at hv.1 hk) hv.2
    rw [this]
set_option maxHeartbeats 4000000 in
set_option maxRecDepth 100000 in
theorem walk_FindSearches (vs vl vq : Value) (s : Sg) (l : List (List Int)) (q : List Int) (w : World) (hs : SignAt w vs s) (hl : Terms w vl l) (hq : Ints w vq q) :
    Calls Try.prog 8 #[vs, vl, vq] w fun e w' => e = .returned (.bool true) ∧ Below w.heap.size w w' := by
  obtain ⟨la, lc, hle, hl1, hl2, -⟩ := hl.open
  subst hle
  obtain ⟨qa, qcap, hqe, _⟩ := hq.open
  subst hqe
  have hb1 : Below w.heap.size w (w.alloc (.cells #[.slice qa q.length qcap] 37)) := (Below.refl _ _).alloc (Nat.le_refl _) _
  have HSM := hid (law1_Small vs _ s _ _ (hs.below hb1) (terms_lit1 hq 37))
  cases hf : (decide ((l.length : Int) ≤ 70) && smallB s l)
  · have HFF := hid (law5_Few vs _ s l 70 w hs hl)
    rw [hf] at HFF
    clear hf HSM hb1
    go_enter Try.func8, Try.ntmps8
    go_wp2_with fail
    refine HFF.out.mono ?_
    rintro e w1 ⟨rfl, rfl⟩
    go_wp2_with fail
    refine (law5_awake _).mono ?_
    rintro e w1 ⟨rfl, hb⟩
    go_wp2
    go_ret
    exact ⟨rfl, hb⟩
  · have hsm : s.length ≤ 40 ∧ l.length ≤ 70 := by
      simp only [Bool.and_eq_true, decide_eq_true_eq, smallB] at hf
      omega
    have HFF := hid (law5_Few vs _ s l 70 w hs hl)
    rw [hf] at HFF
    clear hf
    cases hg : smallB s [q]
    · rw [hg] at HSM
      have HB1 := hid hb1
      clear hg hb1
      go_enter Try.func8, Try.ntmps8
      go_wp2_with fail
      refine HFF.out.mono ?_
      rintro e w1 ⟨rfl, rfl⟩
      go_wp2_with fail
      refine HSM.out.mono ?_
      rintro e w1 ⟨rfl, rfl⟩
      go_wp2_with fail
      refine (law5_awake _).mono ?_
      rintro e w1 ⟨rfl, hb⟩
      have HB := hid (HB1.out.trans (hb.mono (by simp)))
      clear hb
      go_wp2
      go_ret
      exact ⟨rfl, HB.out⟩
    · rw [hg] at HSM
      obtain ⟨f, hf⟩ := meetsF s q
      have HB1 := hid hb1
      obtain ⟨W, hW⟩ : ∃ W, w.alloc (.cells #[.slice qa q.length qcap] 37) = W := ⟨_, rfl⟩
      rw [hW] at HSM HB1
      have hsz := HB1.out.size
      have HC1 := hid (fun (X : World) (hX : Below w.heap.size w X) => find_Meeting vs _ _ s l q f hf X (hs.below hX) (hl.below hX) (hq.below hX) (by omega) (by omega))
      have HR1 := hid (fun (X : World) (hX : Below w.heap.size w X) => ref5_Meeting vs _ _ s l q X f hf (hs.below hX) (hl.below hX) (hq.below hX) (by omega) (by omega))
      have HC2 := hid (fun (X : World) (hX : Below w.heap.size w X) => find_Instances vs _ _ s l q (fun t => instB s q t) (fun _ => rfl) X (hs.below hX) (hl.below hX) (hq.below hX) (by omega) (by omega))
      have HR2 := hid (fun (X : World) (hX : Below w.heap.size w X) => ref5_Instances vs _ _ s l q X (hs.below hX) (hl.below hX) (hq.below hX) (by omega) (by omega))
      have HC3 := hid (fun (X : World) (hX : Below w.heap.size w X) => find_Generals vs _ _ s l q (fun t => instB s t q) (fun _ => rfl) X (hs.below hX) (hl.below hX) (hq.below hX) (by omega) (by omega))
      have HR3 := hid (fun (X : World) (hX : Below w.heap.size w X) => ref5_Generals vs _ _ s l q X (hs.below hX) (hl.below hX) (hq.below hX) (by omega) (by omega))
      have HC4 := hid (fun (X : World) (hX : Below w.heap.size w X) => find_Alike vs _ _ s l q (fun t => alikeB s t q) (fun _ => rfl) X (hs.below hX) (hl.below hX) (hq.below hX) (by omega) (by omega))
      have HR4 := hid (fun (X : World) (hX : Below w.heap.size w X) => ref5_Alike vs _ _ s l q X (hs.below hX) (hl.below hX) (hq.below hX) (by omega) (by omega))
      have HC5 := hid (fun (X : World) (hX : Below w.heap.size w X) => find_Shaped vs _ _ s l q X (hs.below hX) (hl.below hX) (hq.below hX) (by omega) (by omega))
      have HR5 := hid (fun (X : World) (hX : Below w.heap.size w X) => ref5_Shaped vs _ _ s l q X (hs.below hX) (hl.below hX) (hq.below hX) (by omega) (by omega))
      have HV1 := hid (fun (X : World) (hX : Below w.heap.size w X) => find_Valid vs _ s l X (hs.below hX) (hl.below hX) (by omega))
      have HV2 := hid (fun (X : World) (hX : Below w.heap.size w X) => ref5_Valid vs _ s l X (hs.below hX) (hl.below hX))
      rw [← searchB_congr (p := fun t => alikeB s t q) (p' := fun t => decide (canonL t = canonL q)) (fun t h1 h2 => by unfold alikeB; rw [h1, h2]; simp)] at HR4
      have lens : ∀ g : List Int → Bool, (searchB s l q (l.map g)).1.length ≤ 70 := fun g => by
        unfold searchB
        split
        · have := chosenL_le (l.map g) 0; simp at this ⊢; omega
        · simp
      have hln1 := lens f
      generalize searchB s l q (l.map f) = x1 at HC1 HR1 hln1
      have hln2 := lens (fun t => instB s q t)
      generalize searchB s l q (l.map (fun t => instB s q t)) = x2 at HC2 HR2 hln2
      have hln3 := lens (fun t => instB s t q)
      generalize searchB s l q (l.map (fun t => instB s t q)) = x3 at HC3 HR3 hln3
      have hln4 := lens (fun t => alikeB s t q)
      generalize searchB s l q (l.map (fun t => alikeB s t q)) = x4 at HC4 HR4 hln4
      have hln5 := lens (fun t => decide (shapeL t = shapeL q))
      generalize searchB s l q (l.map (fun t => decide (shapeL t = shapeL q))) = x5 at HC5 HR5 hln5
      clear hg hb1 hs hl hq hf lens
      go_enter Try.func8, Try.ntmps8
      go_wp2_with fail
      refine HFF.out.mono ?_
      rintro e w1 ⟨rfl, rfl⟩
      go_wp2_with fail
      try rw [hW]
      refine HSM.out.mono ?_
      rintro e w1 ⟨rfl, rfl⟩
      clear hW HFF HSM
      have HB0 := HB1
      go_wp2_with fail
      refine (HC1.out _ HB0.out).mono ?_
      rintro e wa1 ⟨u1, rfl, o, b⟩
      have Ba1 := hid (HB0.out.trans (b.mono HB0.out.size))
      have I1 := hid (Ints.of_owns o (by omega))
      clear b o
      go_wp2_with fail
      refine (HR1.out _ Ba1.out).mono ?_
      rintro e wb1 ⟨v1, rfl, o, b⟩
      have Bb1 := hid (Ba1.out.trans (b.mono Ba1.out.size))
      have I1 := hid (I1.out.below b)
      have J1 := hid (Ints.of_owns o (by omega))
      obtain ⟨y1, c1⟩ := x1
      simp only at I1 J1
      have n1 : (c1 != c1) = false := by simp
      have m1 : (c1 == c1) = true := by simp
      clear b o hln1 HC1 HR1
      go_wp2_with fail
      refine (ref1_SameInts u1 v1 y1 y1 _ I1.out J1.out).mono ?_
      rintro e wc1 ⟨rfl, nn, hwc⟩
      rw [show decide (y1 = y1) = true from by simp]
      have HB1 := hid (show Below w.heap.size w wc1 from hwc ▸ below_drewN Bb1.out nn)
      clear hwc I1 J1 Ba1 Bb1
      go_wp2_with fail
      refine (HV1.out _ HB1.out).mono ?_
      rintro e wd ⟨rfl, b⟩
      have Bd := hid (HB1.out.trans (b.mono HB1.out.size))
      clear b HV1
      go_wp2_with fail
      refine (HV2.out _ Bd.out).mono ?_
      rintro e we ⟨rfl, nn, hwe⟩
      have HB1 := hid (show Below w.heap.size w we from hwe ▸ below_drewN Bd.out nn)
      generalize shelfB s l = bz
      have nz : (bz != bz) = false := by simp
      clear hwe HV2 Bd
      go_wp2_with fail
      refine (HC2.out _ HB1.out).mono ?_
      rintro e wa2 ⟨u2, rfl, o, b⟩
      have Ba2 := hid (HB1.out.trans (b.mono HB1.out.size))
      have I2 := hid (Ints.of_owns o (by omega))
      clear b o
      go_wp2_with fail
      refine (HR2.out _ Ba2.out).mono ?_
      rintro e wb2 ⟨v2, rfl, o, b⟩
      have Bb2 := hid (Ba2.out.trans (b.mono Ba2.out.size))
      have I2 := hid (I2.out.below b)
      have J2 := hid (Ints.of_owns o (by omega))
      obtain ⟨y2, c2⟩ := x2
      simp only at I2 J2
      have n2 : (c2 != c2) = false := by simp
      have m2 : (c2 == c2) = true := by simp
      clear b o hln2 HC2 HR2
      go_wp2_with fail
      refine (ref1_SameInts u2 v2 y2 y2 _ I2.out J2.out).mono ?_
      rintro e wc2 ⟨rfl, nn, hwc⟩
      rw [show decide (y2 = y2) = true from by simp]
      have HB2 := hid (show Below w.heap.size w wc2 from hwc ▸ below_drewN Bb2.out nn)
      clear hwc I2 J2 Ba2 Bb2
      go_wp2_with fail
      refine (HC3.out _ HB2.out).mono ?_
      rintro e wa3 ⟨u3, rfl, o, b⟩
      have Ba3 := hid (HB2.out.trans (b.mono HB2.out.size))
      have I3 := hid (Ints.of_owns o (by omega))
      clear b o
      go_wp2_with fail
      refine (HR3.out _ Ba3.out).mono ?_
      rintro e wb3 ⟨v3, rfl, o, b⟩
      have Bb3 := hid (Ba3.out.trans (b.mono Ba3.out.size))
      have I3 := hid (I3.out.below b)
      have J3 := hid (Ints.of_owns o (by omega))
      obtain ⟨y3, c3⟩ := x3
      simp only at I3 J3
      have n3 : (c3 != c3) = false := by simp
      have m3 : (c3 == c3) = true := by simp
      clear b o hln3 HC3 HR3
      go_wp2_with fail
      refine (ref1_SameInts u3 v3 y3 y3 _ I3.out J3.out).mono ?_
      rintro e wc3 ⟨rfl, nn, hwc⟩
      rw [show decide (y3 = y3) = true from by simp]
      have HB3 := hid (show Below w.heap.size w wc3 from hwc ▸ below_drewN Bb3.out nn)
      clear hwc I3 J3 Ba3 Bb3
      go_wp2_with fail
      refine (HC4.out _ HB3.out).mono ?_
      rintro e wa4 ⟨u4, rfl, o, b⟩
      have Ba4 := hid (HB3.out.trans (b.mono HB3.out.size))
      have I4 := hid (Ints.of_owns o (by omega))
      clear b o
      go_wp2_with fail
      refine (HR4.out _ Ba4.out).mono ?_
      rintro e wb4 ⟨v4, rfl, o, b⟩
      have Bb4 := hid (Ba4.out.trans (b.mono Ba4.out.size))
      have I4 := hid (I4.out.below b)
      have J4 := hid (Ints.of_owns o (by omega))
      obtain ⟨y4, c4⟩ := x4
      simp only at I4 J4
      have n4 : (c4 != c4) = false := by simp
      have m4 : (c4 == c4) = true := by simp
      clear b o hln4 HC4 HR4
      go_wp2_with fail
      refine (ref1_SameInts u4 v4 y4 y4 _ I4.out J4.out).mono ?_
      rintro e wc4 ⟨rfl, nn, hwc⟩
      rw [show decide (y4 = y4) = true from by simp]
      have HB4 := hid (show Below w.heap.size w wc4 from hwc ▸ below_drewN Bb4.out nn)
      clear hwc I4 J4 Ba4 Bb4
      go_wp2_with fail
      refine (HC5.out _ HB4.out).mono ?_
      rintro e wa5 ⟨u5, rfl, o, b⟩
      have Ba5 := hid (HB4.out.trans (b.mono HB4.out.size))
      have I5 := hid (Ints.of_owns o (by omega))
      clear b o
      go_wp2_with fail
      refine (HR5.out _ Ba5.out).mono ?_
      rintro e wb5 ⟨v5, rfl, o, b⟩
      have Bb5 := hid (Ba5.out.trans (b.mono Ba5.out.size))
      have I5 := hid (I5.out.below b)
      have J5 := hid (Ints.of_owns o (by omega))
      obtain ⟨y5, c5⟩ := x5
      simp only at I5 J5
      have n5 : (c5 != c5) = false := by simp
      have m5 : (c5 == c5) = true := by simp
      clear b o hln5 HC5 HR5
      go_wp2_with fail
      refine (ref1_SameInts u5 v5 y5 y5 _ I5.out J5.out).mono ?_
      rintro e wc5 ⟨rfl, nn, hwc⟩
      rw [show decide (y5 = y5) = true from by simp]
      have HB5 := hid (show Below w.heap.size w wc5 from hwc ▸ below_drewN Bb5.out nn)
      clear hwc I5 J5 Ba5 Bb5
      go_wp2_with fail
      refine (law5_awake _).mono ?_
      rintro e w6 ⟨rfl, hb⟩
      have HB := hid (HB5.out.trans (hb.mono HB5.out.size))
      clear hb
      go_wp2
      go_ret
      exact ⟨rfl, HB.out⟩
end Go.Proofs.Ytiacbdipagbblaa
