/-
  WHAT IT HOLDS: contracts of Groups of package lemmaryref05 and of Shapes of both. Conditions: the arguments read as data; small shelves and signs.
  WHAT IT HOLDS: the walk of the law FindGroups.
-/
import Derived.Test.YtiacbdipagbblaaZRFindGroups39
import Derived.Test.YtiacbdipagbblaaZRFindGroups31
import Derived.Test.YtiacbdipagbblaaZRFindGroups2
import Derived.Test.YtiacbdipagbblaaZRFindGroups45
import Derived.Test.YtiacbdipagbblaaZRFindGroups25
import Derived.Test.YtiacbdipagbblaaZRFindGroups46
import Derived.Test.YtiacbdipagbblaaZRFindGroups8
import Derived.Test.YtiacbdipagbblaaZRFindGroups44
namespace Go.Proofs.Ytiacbdipagbblaa
open Go Go.RowKit Go.Maps
theorem terms_nilZ (w : World) : Terms w (.slice none 0 0) [] := ⟨[], ⟨by simp, none, 0, rfl, Nat.le_refl _, by simp, fun _ => rfl, by simp⟩, rfl, by simp⟩
theorem grpQ_of {w' : World} {base : Nat} {E e : TypeId} {u : Value} {vs : List Value} {f : List Int → List Int} {l : List (List Int)} (hN : NR w' base E e u vs (grpL (l.map f) l.length)) (hl : l.length ≤ 1000) : Terms w' u (grpQ f true l).1 := by
  have hg := fun g (hg : g ∈ (grpQ f true l).1) => grpQ_range hg
  have hle := grpQ_len f true l
  exact hN.terms (by show (grpQ f true l).1.length ≤ _; omega) (fun g h => by have := (hg g h).1; omega)
theorem find_GroupsZ (vs vl : Value) (s : Sg) (l : List (List Int)) (w : World) (hs : SignAt w vs s) (hv : Terms w vl l) (hs1 : s.length ≤ 1000) (hl1 : l.length ≤ 1000) :
    Calls Try.prog 18 #[vs, vl] w fun e w' => ∃ u, e = .returned (.tuple #[u, .int .i64 (grpQ canonL (shelfB s l) l).2]) ∧ Terms w' u (grpQ canonL (shelfB s l) l).1 ∧ Below w.heap.size w w' := by
  refine (find_Groups vs vl s l w hs hv hs1 hl1).mono ?_
  rintro e w' ⟨hb, ⟨h1, rfl⟩ | ⟨h1, u, vs', rfl, hN⟩⟩
  · rw [h1]
    exact ⟨_, rfl, terms_nilZ _, hb⟩
  · rw [h1]
    exact ⟨_, rfl, grpQ_of hN hl1, hb⟩
set_option maxRecDepth 100000 in
theorem ref5_Groups (vs vl : Value) (s : Sg) (l : List (List Int)) (w : World) (hs : SignAt w vs s) (hv : Terms w vl l) (hl1 : l.length ≤ 1000) :
    Calls Try.prog 55 #[vs, vl] w fun e w' => ∃ u, e = .returned (.tuple #[u, .int .i64 (grpQ canonL (shelfB s l) l).2]) ∧ Terms w' u (grpQ canonL (shelfB s l) l).1 ∧ Below w.heap.size w w' := by
  have HVA := hid (ref5_Valid vs vl s l w hs hv)
  have HL := hid hv
  cases hsh : shelfB s l
  · rw [hsh] at HVA
    clear hs hv hsh
    go_enter Try.func55, Try.ntmps55
    go_wp2_with fail
    refine HVA.out.mono ?_
    rintro e w1 ⟨rfl, n1, rfl⟩
    go_wp2
    go_ret2
    exact ⟨_, rfl, terms_nilZ _, below_self_drewN _ _⟩
  · rw [hsh] at HVA
    obtain ⟨g1, g2, g3, g4, g5, g6⟩ := shelfB_facts hsh
    have HCN := hid (fun (X : World) (hX : Below w.heap.size w X) => ref5_canonical vl l X (HL.out.below hX) (by omega) (fun t ht => by
      have hb : termB s t = true := List.all_eq_true.1 g4 t ht
      have hT := termB_T hb
      have := (termB_facts hb).2.2.2
      exact ⟨hT.ne, by omega, termB_wf hb⟩))
    have HQL : Hid (∀ q ∈ l.map canonL, q.length ≤ 1000) := hid (by
      intro q hq
      obtain ⟨t, ht, rfl⟩ := List.mem_map.1 hq
      have := (termB_facts (List.all_eq_true.1 g4 t ht)).2.2.2
      rw [canonL_len]; omega)
    clear hs hv hsh g1 g2 g3 g4 g5 g6
    go_enter Try.func55, Try.ntmps55
    go_wp2_with fail
    refine HVA.out.mono ?_
    rintro e w1 ⟨rfl, n1, hw1⟩
    have HB1 := hid (show Below w.heap.size w w1 by rw [hw1]; exact below_self_drewN _ _)
    clear hw1
    go_wp2_with fail
    refine (HCN.out _ HB1.out).mono ?_
    rintro e w2 ⟨uc, vc, rfl, hnr, hb2⟩
    have hml : (l.map canonL).length = l.length := by rw [List.length_map]
    have HG := hid (ref5_grouped uc (l.map canonL) w2 (hnr.terms (by omega) HQL.out) (by omega))
    have HB2 := hid (HB1.out.trans (hb2.mono HB1.out.size))
    clear hnr hb2
    go_wp2_with fail
    refine HG.out.mono ?_
    rintro e w3 ⟨u3, v3, rfl, hn3, hb3⟩
    rw [hml] at hn3
    have HT3 := hid (grpQ_of hn3 hl1)
    have HB3 := hid (HB2.out.trans (hb3.mono HB2.out.size))
    clear hn3 hb3 hml
    go_wp2
    go_ret2
    exact ⟨_, rfl, HT3.out, HB3.out⟩
set_option maxRecDepth 100000 in
theorem find_Shapes (vs vl : Value) (s : Sg) (l : List (List Int)) (w : World) (hs : SignAt w vs s) (hv : Terms w vl l) (hs1 : s.length ≤ 1000) (hl1 : l.length ≤ 1000) :
    Calls Try.prog 56 #[vs, vl] w fun e w' => ∃ u, e = .returned (.tuple #[u, .int .i64 (grpQ shapeL (shelfB s l) l).2]) ∧ Terms w' u (grpQ shapeL (shelfB s l) l).1 ∧ Below w.heap.size w w' := by
  have key := find_grouped 105 #[] (enters_of Try.func105 (by kernel_rfl) rfl) shapeL vs vl s l w hs hv hs1 hl1 (fun h t ht => by
    obtain ⟨g1, g2, g3, g4, g5, g6⟩ := shelfB_facts h
    have hb : termB s t = true := by unfold allB at g4; exact List.all_eq_true.1 g4 t ht
    have hT := termB_T hb
    have hr := T_small hT (by omega)
    have hl : (shapeL t).length = t.length := by simp [shapeL]
    refine ⟨fun z hz => ?_, by rw [hl]; exact hT.ne, by rw [hl]; have := termB_facts hb; omega⟩
    obtain ⟨x, hx, rfl⟩ := List.mem_map.1 hz
    have := hr x hx
    omega) (fun h t ht x W ix hsW => by
    obtain ⟨g1, g2, g3, g4, g5, g6⟩ := shelfB_facts h
    have hb : termB s t = true := by unfold allB at g4; exact List.all_eq_true.1 g4 t ht
    exact find_shape vs x s t W hsW ix hs1 hb)
  have KEY := hid key
  clear key
  go_enter Try.func56, Try.ntmps56
  go_wp2_with fail
  refine KEY.out.mono ?_
  rintro e w1 ⟨hb, ⟨h1, rfl⟩ | ⟨h1, u, vs', rfl, hN⟩⟩
  · go_wp2
    go_ret2
    rw [h1]
    exact ⟨_, rfl, terms_nilZ _, hb⟩
  · have HT := hid (grpQ_of hN hl1)
    clear hN
    go_wp2
    go_ret2
    rw [h1]
    exact ⟨_, rfl, HT.out, hb⟩
set_option maxHeartbeats 2000000 in
set_option maxRecDepth 100000 in
theorem ref5_Shapes (vs vl : Value) (s : Sg) (l : List (List Int)) (w : World) (hs : SignAt w vs s) (hv : Terms w vl l) (hl1 : l.length ≤ 1000) :
    Calls Try.prog 57 #[vs, vl] w fun e w' => ∃ u, e = .returned (.tuple #[u, .int .i64 (grpQ shapeL (shelfB s l) l).2]) ∧ Terms w' u (grpQ shapeL (shelfB s l) l).1 ∧ Below w.heap.size w w' := by
  have HVA := hid (ref5_Valid vs vl s l w hs hv)
  have HL := hid hv
  obtain ⟨la, lc, rfl, -⟩ := hv.open
  cases hsh : shelfB s l
  · rw [hsh] at HVA
    clear hs hv hsh
    go_enter Try.func57, Try.ntmps57
    go_wp2_with fail
    refine HVA.out.mono ?_
    rintro e w1 ⟨rfl, n1, rfl⟩
    go_wp2
    go_ret2
    exact ⟨_, rfl, terms_nilZ _, below_self_drewN _ _⟩
  · rw [hsh] at HVA
    obtain ⟨g1, g2, g3, g4, g5, g6⟩ := shelfB_facts hsh
    have HT := hid (show ∀ k (h : k < l.length), termB s l[k] = true from fun k h => List.all_eq_true.1 g4 _ (List.getElem_mem h))
    have HSL : Hid (∀ t, (shapeL t).length = t.length) := hid (fun t => by simp [shapeL])
    have HQL : Hid (∀ q ∈ l.map shapeL, q.length ≤ 1000) := hid (by
      intro q hq
      obtain ⟨t, ht, rfl⟩ := List.mem_map.1 hq
      have := (termB_facts (List.all_eq_true.1 g4 t ht)).2.2.2
      rw [HSL.out]; omega)
    clear hs hv hsh g1 g2 g3 g4 g5 g6
    go_enter Try.func57, Try.ntmps57
    go_wp2_with fail
    refine HVA.out.mono ?_
    rintro e w1 ⟨rfl, n1, hw1⟩
    have HB1 := hid (show Below w.heap.size w w1 by rw [hw1]; exact below_self_drewN _ _)
    clear hw1
    go_wp2
    go_loopw [6, 7] (fun uo nv wr => ∃ (n : Nat) (vvs : List Value), n ≤ l.length ∧ nv = .int .i64 n ∧ NR wr w1.heap.size 37 3 uo vvs ((l.take n).map shapeL) ∧ Below w1.heap.size w1 wr) (fun _ nv _ => l.length - (intOf nv).toNat)
    case atStart => exact ⟨0, [], by omega, rfl, NR.nil _ _ _ _, Below.refl _ _⟩
    case round =>
      obtain ⟨n, vvs, hn, rfl, hnr, hb⟩ := hrel
      have hbs := hb.size
      have HNR := hid hnr
      have HB := hid hb
      have hbw := HB1.out.trans (hb.mono HB1.out.size)
      have HBW := hid hbw
      by_cases hlt : n < l.length
      · obtain ⟨a9, c9, he9, -, -, -, HC⟩ := (HL.out.below hbw).open
        obtain ⟨rfl, -, rfl⟩ := Value.slice.inj he9
        obtain ⟨bb, bo, x, rfl, hcx, hix⟩ := HC n hlt
        obtain ⟨xa, xc, rfl, -⟩ := hix.open
        have htb := HT.out n hlt
        have hl60 := (termB_facts htb).2.2.2
        have HF := hid (ref1_Flat _ l[n] wr hix (termB_T htb).ne (by omega) (termB_wf htb))
        have hcl : (shapeL l[n]).length ≤ 1000 := by rw [HSL.out]; omega
        have HTK : Hid ((l.take (n + 1)).map shapeL = (l.take n).map shapeL ++ [shapeL l[n]]) := hid (by rw [List.take_succ_eq_append_getElem hlt, List.map_append]; rfl)
        have hml : ((l.take n).map shapeL).length = n := by rw [List.length_map, List.length_take]; omega
        have HML := hid hml
        have y0 : (0 : Int) ≤ (n : Int) := by omega
        have y1 : (n : Int) < (l.length : Int) := by omega
        clear HC hix he9 hnr hb hbw hml htb
        go_wp2_with fail
        refine HF.out.mono ?_
        rintro e w2 ⟨u2, rfl, hou, hb2⟩
        obtain ⟨a2, c2, rfl, -⟩ := (Ints.of_owns hou (by omega)).open
        have hb2A := hb2.alloc hb2.size (.cells #[.slice a2 (shapeL l[n]).length c2] 37)
        have HTOP := hid (by have := owns_below HNR.out.top hb2A; rw [HML.out] at this; exact this)
        have HOU := hid (owns_below hou ((Below.refl w2.heap.size w2).alloc (Nat.le_refl _) (.cells #[.slice a2 (shapeL l[n]).length c2] 37)))
        have HB2A := hid hb2A
        have hs2 := hb2.size
        clear hou hb2 hb2A hcx
        go_wp2_with (at_builtin; refine wpList_append_lie rfl _ _ 24 rfl w1.heap.size 37 el_term Try.underlying24 rfl (by decide) _ _ _ rfl HTOP.out _ 1 [.slice a2 (shapeL l[n]).length c2] rfl (row_one_new _ _ _) (oneCell_one rfl) (by omega) (by omega) (by omega) (by simp; omega) _ rfl ?_; intro g7 c7 w7 hown7 hgrow7 hat7 hlt7)
        have HN := hid (NR.pushNew (base' := wr.heap.size) HNR.out (Nat.le_refl _) hbs HB2A.out HOU.out HML.out.symm (by simpa using hown7) hgrow7 rfl hat7)
        have HB7 := hid ((HB.out.trans (HB2A.out.mono hbs)).grown hgrow7 (by simp; omega) (fun k hk => (HTOP.out.lt k hk).1))
        clear hown7 hgrow7 hat7
        go_wp2
        go_roundw
        case rel => exact ⟨n + 1, _, by omega, by go_num, by rw [HTK.out]; exact HN.out, HB7.out⟩
        case measure => simp [intOf]; omega
      · have hnl : n = l.length := by omega
        subst hnl
        rw [List.take_of_length_le (Nat.le_refl _)] at hnr
        have hml : (l.map shapeL).length = l.length := by rw [List.length_map]
        have HG := hid (ref5_grouped _ (l.map shapeL) wr (hnr.terms (by omega) HQL.out) (by omega))
        clear hnr hb hbw
        go_wp2_with fail
        refine HG.out.mono ?_
        rintro e w3 ⟨u3, v3, rfl, hn3, hb3⟩
        rw [hml] at hn3
        have HT3 := hid (grpQ_of hn3 hl1)
        have HB3 := hid (HBW.out.trans (hb3.mono HBW.out.size))
        clear hn3 hb3 hml
        go_wp2
        go_ret2
        exact ⟨_, rfl, HT3.out, HB3.out⟩
end Go.Proofs.Ytiacbdipagbblaa
namespace Go.Proofs.Ytiacbdipagbblaa
open Go Go.RowKit Go.Maps
theorem inQ_take {A C : List (List Int)} {i k j : Nat} {g c : List Int} (hg : A[i]? = some g) (hc : C[k]? = some c) (h : g.length ≤ j) : (g.take j).all (fun y => decide (y ∈ c)) = inQ A C i k := by
  unfold inQ
  rw [List.getD_eq_getElem?_getD, hg, List.getD_eq_getElem?_getD, hc, List.take_of_length_le h]
  rfl
theorem any_succ (p : Nat → Bool) (k : Nat) : (List.range (k + 1)).any p = ((List.range k).any p || p k) := by
  rw [List.range_succ, List.any_append]; simp
set_option maxHeartbeats 8000000 in
set_option maxRecDepth 100000 in
theorem walk_FindGroups (vs vl : Value) (s : Sg) (l : List (List Int)) (w : World) (hs : SignAt w vs s) (hl : Terms w vl l) :
    Calls Try.prog 12 #[vs, vl] w fun e w' => e = .returned (.bool true) ∧ Below w.heap.size w w' := by
  have HF := hid (law5_Few vs vl s l 70 w hs hl)
  have HS := hid hs
  have HL := hid hl
  obtain ⟨la, lc, rfl, hlc, hl2, -⟩ := hl.open
  clear hs hl
  cases hf : (decide ((l.length : Int) ≤ 70) && smallB s l)
  · rw [hf] at HF
    clear hf
    go_enter Try.func12, Try.ntmps12
    go_wp2_with fail
    refine HF.out.mono ?_
    rintro e w1 ⟨rfl, rfl⟩
    go_wp2_with fail
    refine (law5_awake _).mono ?_
    rintro e w2 ⟨rfl, hb3⟩
    go_wp2
    go_ret
    exact ⟨rfl, hb3⟩
  · have hsm : s.length ≤ 40 ∧ l.length ≤ 70 := by
      simp only [Bool.and_eq_true, decide_eq_true_eq, smallB] at hf
      omega
    rw [hf] at HF
    clear hf
    obtain ⟨hs40, hl70⟩ := hsm
    have HG1 := hid (fun (X : World) (hX : Below w.heap.size w X) => find_GroupsZ vs _ s l X (HS.out.below hX) (HL.out.below hX) (by omega) (by omega))
    have HG2 := hid (fun (X : World) (hX : Below w.heap.size w X) => ref5_Groups vs _ s l X (HS.out.below hX) (HL.out.below hX) (by omega))
    have HS1 := hid (fun (X : World) (hX : Below w.heap.size w X) => find_Shapes vs _ s l X (HS.out.below hX) (HL.out.below hX) (by omega) (by omega))
    have HS2 := hid (fun (X : World) (hX : Below w.heap.size w X) => ref5_Shapes vs _ s l X (HS.out.below hX) (HL.out.below hX) (by omega))
    have HO1 := hid (fun (X : World) (hX : Below w.heap.size w X) => find_Sorted vs _ s l X (HS.out.below hX) (HL.out.below hX) (by omega))
    have HO2 := hid (fun (X : World) (hX : Below w.heap.size w X) => ref5_Sorted vs _ s l X (HS.out.below hX) (HL.out.below hX))
    have key : ∀ (A C T : List (List Int)) (ee : Int), grpQ canonL (shelfB s l) l = (A, ee) → grpQ shapeL (shelfB s l) l = (C, ee) → sortR s l = (T, ee) → (ee = 1 ∨ (ee = 0 ∧ A.length ≤ l.length ∧ sumL A = l.length ∧ T.length = A.length ∧ (∀ g ∈ A, g.length ≤ l.length) ∧ ∀ i, i < A.length → ((List.range C.length).any fun k => inQ A C i k) = true)) →
        Calls Try.prog 12 #[vs, .slice la l.length lc] w fun e w' => e = .returned (.bool true) ∧ Below w.heap.size w w' := by
      intro A C T ee hA hC hT hee
      simp only [hA] at HG1 HG2
      simp only [hC] at HS1 HS2
      simp only [hT] at HO1 HO2
      have HEE := hid hee
      have e1 : (ee != ee) = false := by simp
      clear hA hC hT hee
      go_enter Try.func12, Try.ntmps12
      go_wp2_with fail
      refine HF.out.mono ?_
      rintro e w1 ⟨rfl, rfl⟩
      go_wp2_with fail
      refine (HG1.out w (Below.refl _ _)).mono ?_
      rintro e w1 ⟨u1, rfl, ht1, hb1⟩
      have HB1 := hid hb1
      have HT1 := hid ht1
      clear ht1 hb1
      go_wp2_with fail
      refine (HG2.out _ HB1.out).mono ?_
      rintro e w2 ⟨u2, rfl, ht2, hb2⟩
      have HB2 := hid (HB1.out.trans (hb2.mono HB1.out.size))
      have HT1 := hid (HT1.out.below hb2)
      have HSP := hid (ref1_SamePaths _ _ _ _ _ HT1.out ht2)
      rw [show decide (A = A) = true from by simp] at HSP
      clear ht2 hb2
      go_wp2_with fail
      refine HSP.out.mono ?_
      rintro e w3 ⟨rfl, n3, hw3⟩
      have hb3 : Below w2.heap.size w2 w3 := by rw [hw3]; exact below_self_drewN _ _
      have HB3 := hid (HB2.out.trans (hb3.mono HB2.out.size))
      have HT1 := hid (HT1.out.below hb3)
      clear hw3 hb3 HSP
      go_wp2_with fail
      refine (HS1.out _ HB3.out).mono ?_
      rintro e w4 ⟨u4, rfl, ht4, hb4⟩
      have HB4 := hid (HB3.out.trans (hb4.mono HB3.out.size))
      have HT1 := hid (HT1.out.below hb4)
      have HT4 := hid ht4
      clear ht4 hb4
      go_wp2_with fail
      refine (HS2.out _ HB4.out).mono ?_
      rintro e w5 ⟨u5, rfl, ht5, hb5⟩
      have HB5 := hid (HB4.out.trans (hb5.mono HB4.out.size))
      have HT1 := hid (HT1.out.below hb5)
      have HT4 := hid (HT4.out.below hb5)
      have HSP := hid (ref1_SamePaths _ _ _ _ _ HT4.out ht5)
      rw [show decide (C = C) = true from by simp] at HSP
      clear ht5 hb5
      go_wp2_with fail
      refine HSP.out.mono ?_
      rintro e w6 ⟨rfl, n6, hw6⟩
      have hb6 : Below w5.heap.size w5 w6 := by rw [hw6]; exact below_self_drewN _ _
      have HB6 := hid (HB5.out.trans (hb6.mono HB5.out.size))
      have HT1 := hid (HT1.out.below hb6)
      have HT4 := hid (HT4.out.below hb6)
      clear hw6 hb6 HSP
      go_wp2_with fail
      refine (HO1.out _ HB6.out).mono ?_
      rintro e w7 ⟨u7, rfl, ht7, hb7⟩
      have HB7 := hid (HB6.out.trans (hb7.mono HB6.out.size))
      have HT1 := hid (HT1.out.below hb7)
      have HT4 := hid (HT4.out.below hb7)
      have HT7 := hid ht7
      clear ht7 hb7
      go_wp2_with fail
      refine (HO2.out _ HB7.out).mono ?_
      rintro e w8 ⟨u8, rfl, ht8, hb8⟩
      have HB8 := hid (HB7.out.trans (hb8.mono HB7.out.size))
      have HT1 := hid (HT1.out.below hb8)
      have HT4 := hid (HT4.out.below hb8)
      have HT7 := hid (HT7.out.below hb8)
      have HSP := hid (ref1_SameTerms _ _ _ _ _ HT7.out ht8)
      rw [show decide (T = T) = true from by simp] at HSP
      clear ht8 hb8
      go_wp2_with fail
      refine HSP.out.mono ?_
      rintro e w9 ⟨rfl, n9, hw9⟩
      have hb9 : Below w8.heap.size w8 w9 := by rw [hw9]; exact below_self_drewN _ _
      have HB9 := hid (HB8.out.trans (hb9.mono HB8.out.size))
      have HT1 := hid (HT1.out.below hb9)
      have HT4 := hid (HT4.out.below hb9)
      have HT7 := hid (HT7.out.below hb9)
      clear hw9 hb9 HSP
      rcases HEE.out with rfl | ⟨rfl, hAl, hsum, hTA, hgl, hin⟩
      · have e2 : ((1 : Int) != 0) = true := by decide
        go_wp2_with fail
        refine (law5_awake _).mono ?_
        rintro e wa ⟨rfl, hba⟩
        have HBa := hid (HB9.out.trans (hba.mono HB9.out.size))
        clear hba
        go_wp2
        go_ret
        exact ⟨rfl, HBa.out⟩
      · have e2 : ((0 : Int) != 0) = false := by decide
        have HSUM := hid hsum
        have HTA := hid hTA
        have HGL := hid hgl
        have HIN := hid hin
        obtain ⟨ca, cc, rfl, hcc1, hcc2, -, HCC⟩ := HT4.out.open
        obtain ⟨aa, ac, rfl, haa1, haa2, -, HAA⟩ := HT1.out.open
        obtain ⟨ta, tc, rfl, -⟩ := HT7.out.open
        have HCC := hid HCC
        have HAA := hid HAA
        obtain ⟨LC, hLC⟩ : ∃ LC, C.length = LC := ⟨_, rfl⟩
        obtain ⟨LA, hLA⟩ : ∃ LA, A.length = LA := ⟨_, rfl⟩
        obtain ⟨LT, hLT⟩ : ∃ LT, T.length = LT := ⟨_, rfl⟩
        rw [hLC] at hcc1 hcc2 HIN ⊢
        rw [hLA] at haa1 haa2 HIN HTA hAl ⊢
        rw [hLT] at HTA ⊢
        have HLC := hid hLC
        have HLA := hid hLA
        clear hsum hgl hin hLC hLA hLT hTA
        go_wp2
        go_loopw [13, 14] (fun sv iv wr => ∃ i q : Nat, i ≤ LA ∧ iv = .int .i64 i ∧ sv = .int .i64 (sumL (A.take i)) ∧ wr = w9.drewN q) (fun _ iv _ => LA - (intOf iv).toNat)
        case atStart => exact ⟨0, 0, by omega, rfl, rfl, rfl⟩
        case round =>
          obtain ⟨i, q, hi, rfl, rfl, rfl⟩ := hrel
          have hsle := sumL_le (A := A) i
          rw [HSUM.out] at hsle
          by_cases hlt : i < LA
          · have hiA : i < A.length := by rw [HLA.out]; exact hlt
            obtain ⟨bi, oi, xi, rfl, ci, ixi⟩ := HAA.out i hiA
            have hgi := HGL.out A[i] (List.getElem_mem hiA)
            have hst := sumL_take hiA
            have hsle2 := sumL_le (A := A) (i + 1)
            rw [HSUM.out] at hsle2
            have hAi? : A[i]? = some A[i] := List.getElem?_eq_getElem hiA
            have hINi := HIN.out i hlt
            obtain ⟨G, hG⟩ : ∃ G, A[i] = G := ⟨_, rfl⟩
            rw [hG] at ixi hgi hst hAi?
            have IXI := hid ixi
            obtain ⟨ga, gc, rfl, hg1, hg2, -, HGC⟩ := ixi.open
            have HGC := hid HGC
            have HAI := hid hAi?
            have HINI := hid hINi
            obtain ⟨LG, hLG⟩ : ∃ LG, G.length = LG := ⟨_, rfl⟩
            rw [hLG] at hg1 hg2 hgi hst ci
            have HLG := hid hLG
            obtain ⟨S, hS⟩ : ∃ S, sumL (A.take i) = S := ⟨_, rfl⟩
            rw [hS] at hst hsle ⊢
            rw [hst] at hsle2
            have HST := hid hst
            have y0 : (0 : Int) ≤ (i : Int) := by omega
            have y1 : (i : Int) < (LA : Int) := by omega
            clear ixi hG hAi? hINi hLG hS hst
            go_wp2
            go_loopw [15, 16] (fun bv kv wr => ∃ k q : Nat, k ≤ LC ∧ kv = .int .i64 k ∧ bv = .bool ((List.range k).any fun k => inQ A C i k) ∧ wr = w9.drewN q) (fun _ kv _ => LC - (intOf kv).toNat)
            case atStart => exact ⟨0, q, by omega, rfl, rfl, rfl⟩
            case round =>
              obtain ⟨k, q2, hk, rfl, rfl, rfl⟩ := hrel
              obtain ⟨sk, hsk⟩ : ∃ sk, ((List.range k).any fun k => inQ A C i k) = sk := ⟨_, rfl⟩
              rw [hsk]
              have HSK := hid hsk
              clear hsk
              by_cases hltk : k < LC
              · have hkC : k < C.length := by rw [HLC.out]; exact hltk
                obtain ⟨bk, ok, xk, rfl, ck, ixk⟩ := HCC.out k hkC
                have hCk? : C[k]? = some C[k] := List.getElem?_eq_getElem hkC
                obtain ⟨c, hc⟩ : ∃ c, C[k] = c := ⟨_, rfl⟩
                rw [hc] at ixk hCk?
                have IXK := hid ixk
                have HCK := hid hCk?
                obtain ⟨ka, kc, rfl, -⟩ := ixk.open
                have HKS : Hid (((List.range (k + 1)).any fun k => inQ A C i k) = (sk || inQ A C i k)) := hid (by rw [any_succ, HSK.out])
                have y2 : (0 : Int) ≤ (k : Int) := by omega
                have y3 : (k : Int) < (LC : Int) := by omega
                clear ixk hc hCk?
                go_wp2
                go_loopw [17, 18] (fun lv jv wr => ∃ j q : Nat, j ≤ LG ∧ jv = .int .i64 j ∧ lv = .bool ((G.take j).all (fun y => decide (y ∈ c))) ∧ wr = w9.drewN q) (fun _ jv _ => LG - (intOf jv).toNat)
                case atStart => exact ⟨0, q2, by omega, rfl, by simp, rfl⟩
                case round =>
                  obtain ⟨j, q3, hj, rfl, rfl, rfl⟩ := hrel
                  obtain ⟨lj, hlj⟩ : ∃ lj, ((G.take j).all (fun y => decide (y ∈ c))) = lj := ⟨_, rfl⟩
                  rw [hlj]
                  have HLJ := hid hlj
                  clear hlj
                  by_cases hltj : j < LG
                  · have hjG : j < G.length := by rw [HLG.out]; exact hltj
                    obtain ⟨bj, oj, rfl, cj⟩ := HGC.out j hjG
                    have hnx : (G.take (j + 1)).all (fun y => decide (y ∈ c)) = (lj && decide (G[j] ∈ c)) := by rw [List.take_succ_eq_append_getElem hjG, List.all_append, HLJ.out]; simp
                    obtain ⟨x, hx⟩ : ∃ x, G[j] = x := ⟨_, rfl⟩
                    rw [hx] at cj hnx
                    obtain ⟨d, hd⟩ : ∃ d, decide (x ∈ c) = d := ⟨_, rfl⟩
                    rw [hd] at hnx
                    have HNX := hid hnx
                    have HHAS := hid (fun (X : World) (hX : Below w9.heap.size w9 X) => ref1_Has _ c x X (IXK.out.below hX))
                    simp only [hd] at HHAS
                    have y4 : (0 : Int) ≤ (j : Int) := by omega
                    have y5 : (j : Int) < (LG : Int) := by omega
                    clear hnx hx hd
                    cases lj
                    · go_wp2
                      go_quiet (fail)
                      go_wp2
                      go_roundw
                      case rel => exact ⟨j + 1, _, by omega, by go_num, by rw [HNX.out]; rfl, (by first | rfl | exact World.drewN_drewN _ _ _)⟩
                      case measure => simp [intOf]; omega
                    · go_wp2
                      go_quiet ((go_at_call 19; exact (HHAS.out _ (below_self_drewN w9 _)).mono (by rintro e w' ⟨h1, h2⟩; exact ⟨h1, _, h2.symm⟩)))
                      go_wp2
                      go_roundw
                      case rel => exact ⟨j + 1, _, by omega, by go_num, by rw [HNX.out]; rfl, (by first | rfl | exact World.drewN_drewN _ _ _)⟩
                      case measure => simp [intOf]; omega
                  · obtain rfl : LG = j := by omega
                    have hz := HLJ.out
                    rw [inQ_take HAI.out HCK.out (by rw [HLG.out]; exact Nat.le_refl _)] at hz
                    rw [hz] at HKS
                    have HKS2 := hid HKS.out
                    clear hz
                    cases sk
                    · go_wp2
                      go_roundw
                      case rel => exact ⟨k + 1, _, by omega, by go_num, by rw [HKS2.out]; rfl, rfl⟩
                      case measure => simp [intOf]; omega
                    · go_wp2
                      go_roundw
                      case rel => exact ⟨k + 1, _, by omega, by go_num, by rw [HKS2.out]; rfl, rfl⟩
                      case measure => simp [intOf]; omega
              · obtain rfl : LC = k := by omega
                obtain rfl : sk = true := by rw [← HSK.out]; exact HINI.out
                go_wp2
                go_roundw
                case rel => exact ⟨i + 1, _, by omega, by go_num, by rw [HST.out]; go_num, rfl⟩
                case measure => simp [intOf]; omega
          · obtain rfl : LA = i := by omega
            have hz : sumL (A.take LA) = l.length := by rw [List.take_of_length_le (by rw [HLA.out]; exact Nat.le_refl _)]; exact HSUM.out
            rw [hz]
            have z1 : ((l.length : Int) == (l.length : Int)) = true := by simp
            have z2 : ((LA : Int) == (LA : Int)) = true := by simp
            have hTA := HTA.out
            subst hTA
            have HBq := hid (HB9.out.trans ((below_self_drewN w9 q).mono HB9.out.size))
            clear hz
            go_wp2_with fail
            refine (law5_awake _).mono ?_
            rintro e wa ⟨rfl, hba⟩
            have HBa := hid (HBq.out.trans (hba.mono HBq.out.size))
            clear hba
            go_wp2
            go_ret
            exact ⟨rfl, HBa.out⟩
    cases hsh : shelfB s l
    · refine key [] [] [] 1 ?_ ?_ (sortR_1 hsh) (Or.inl rfl)
      · rw [hsh]; rfl
      · rw [hsh]; rfl
    · have h1 := grpQ_len canonL true l
      refine key (grpL (l.map canonL) l.length) (grpL (l.map shapeL) l.length) (sortedL (l.map canonL)) 0 ?_ ?_ (sortR_0 hsh) (Or.inr ⟨rfl, h1, sum_grp _ _ (by simp), sorted_grp l, fun g hg => (grpL_range hg).1, fun i hi => grp_within hi⟩)
      · rw [hsh]; rfl
      · rw [hsh]; rfl
end Go.Proofs.Ytiacbdipagbblaa
