/-
  WHAT IT HOLDS: contracts of over and Over of package find, of alike, under and Over of the reference of layer 5. Conditions: the arguments read as data; the shelf and the sign are small.
-/
import Derived.Test.YtiacbdipagbblaaZRFindGroups20
import Derived.Test.YtiacbdipagbblaaZRFindGroups28
import Derived.Test.YtiacbdipagbblaaZRFindGroups29
import Derived.Test.YtiacbdipagbblaaZRFindGroups8
import Derived.Test.YtiacbdipagbblaaZRFindGroups12
namespace Go.Proofs.Ytiacbdipagbblaa
open Go Go.RowKit Go.Maps
def underB (s : Sg) (a b : List Int) : Bool := instB s a b && !instB s b a
theorem underB_canon {s : Sg} {a b : List Int} (ha : termB s a = true) (hb : termB s b = true) : (instB s a b && !decide (canonL a = canonL b)) = underB s a b := by
  unfold underB
  cases h : instB s a b
  · rfl
  · simp only [Bool.true_and]
    congr 1
    have := alikeB_iff (s := s) (a := a) (b := b)
    rw [h] at this
    unfold alikeB at this
    rw [ha, hb] at this
    simp only [Bool.true_and, true_and] at this
    cases h2 : instB s b a
    · rw [h2] at this
      simpa using this
    · rw [h2] at this
      simpa using this
def overL (s : Sg) (l : List (List Int)) (x : List Int) : List Bool := l.map fun t => underB s t x
theorem allB_get {s : Sg} {l : List (List Int)} (h : allB s l = true) {k : Nat} (hk : k < l.length) : termB s l[k] = true := by
  unfold allB at h
  exact List.all_eq_true.1 h _ (List.getElem_mem hk)
set_option maxHeartbeats 1000000 in
set_option maxRecDepth 100000 in
theorem find_over (vs vl : Value) (s : Sg) (l : List (List Int)) (i : Nat) (w : World) (hs : SignAt w vs s) (hv : Terms w vl l) (hs1 : s.length ≤ 1000) (hl1 : l.length ≤ 1000) (hi : i < l.length) :
    Calls Try.prog 79 #[vs, vl, .int .i64 i] w fun e w' => ∃ u, e = .returned u ∧ w'.ownsRow w.heap.size 3 1 u (chosenL 0 (overL s l l[i])).length ((chosenL 0 (overL s l l[i])).map (Value.int .i64)) ∧ Below w.heap.size w w' := by
  obtain ⟨a, cap, rfl, hlc, hl, -, HC⟩ := hv.open
  have HC' := hid HC
  have HS := hid hs
  obtain ⟨bs, hbs⟩ : ∃ bs, overL s l l[i] = bs := ⟨_, rfl⟩
  have hbl : bs.length = l.length := by rw [← hbs]; simp [overL]
  have hbg : ∀ k (h : k < l.length) (h' : k < bs.length), bs[k] = underB s l[k] l[i] := by
    intro k h h'
    subst hbs
    simp [overL]
  obtain ⟨bi, oi, xi, rfl, hcelli0, hxi⟩ := HC i hi
  rw [hbs]
  have HBL := hid hbl
  have HBG := hid hbg
  have HXI := hid hxi
  clear HC hv hs hbs hbl hbg hxi
  go_enter Try.func79, Try.ntmps79
  go_wp2
  go_loopw [7, 12] (fun u kv wr => ∃ k : Nat, k ≤ l.length ∧ kv = .int .i64 k ∧ wr.ownsRow w.heap.size 3 1 u (chosenL 0 (bs.take k)).length ((chosenL 0 (bs.take k)).map (Value.int .i64)) ∧ Below w.heap.size w wr) (fun _ kv _ => l.length - (intOf kv).toNat)
  case atStart => exact ⟨0, by omega, rfl, World.ownsRow_nil _ _ _ _, Below.refl _ _⟩
  case round =>
    obtain ⟨k, hk, rfl, hown, hb⟩ := hrel
    have hsz := hb.size
    by_cases hlt : k < l.length
    · obtain ⟨b, o, x, hxe, hcell0, hx⟩ := HC'.out k hlt
      obtain ⟨rfl, rfl⟩ : bi = b ∧ oi = o := by simpa using hxe
      have hcell : wr.cell? ⟨bi, oi + k, none⟩ = some x := (hb.cell (World.block_lt_of_cell? _ _ hcell0)).trans hcell0
      have hcelli : wr.cell? ⟨bi, oi + i, none⟩ = some xi := (hb.cell (World.block_lt_of_cell? _ _ hcelli0)).trans hcelli0
      have hkb : k < bs.length := by have := HBL.out; omega
      have hbk := HBG.out k hlt hkb
      have HSU := hid (chosenL_take_succ hkb)
      have hcl := chosenL_le (bs.take k) 0
      have hcl' : (chosenL 0 (bs.take k)).length ≤ k := by simp at hcl; omega
      have HI1 := hid (unify_Instance vs x xi s l[k] l[i] wr (HS.out.below hb) (hx.below hb) (HXI.out.below hb) hs1)
      have HX := hid hx
      have HOWN := hid hown
      clear hcl hcell0 hx hown hxe
      unfold underB at hbk
      cases h1 : instB s l[k] l[i]
      · have HBK : Hid (bs[k] = false) := hid (by rw [hbk, h1]; rfl)
        rw [h1] at HI1
        clear hbk h1
        go_wp2_with fail
        refine HI1.out.mono ?_
        rintro e w1 ⟨rfl, hb1⟩
        go_wp2
        go_roundw
        case rel =>
          refine ⟨k + 1, by omega, by go_num, ?_, hb.trans (hb1.mono hsz)⟩
          rw [HSU.out, HBK.out]
          simpa using owns_below HOWN.out hb1
        case measure => simp [intOf]; omega
      · rw [h1] at HI1
        go_wp2_with fail
        refine HI1.out.mono ?_
        rintro e w1 ⟨rfl, hb1⟩
        have hb01 := hb.trans (hb1.mono hsz)
        have hcelli1 := (hb1.cell (World.block_lt_of_cell? _ _ hcelli)).trans hcelli
        have HI2 := hid (unify_Instance vs xi x s l[i] l[k] w1 (HS.out.below hb01) (HXI.out.below hb01) (HX.out.below hb01) hs1)
        cases h2 : instB s l[i] l[k]
        · have HBK : Hid (bs[k] = true) := hid (by rw [hbk, h1, h2]; rfl)
          rw [h2] at HI2
          clear hbk h1 h2
          go_wp2_with fail
          refine HI2.out.mono ?_
          rintro e w3 ⟨rfl, hb2⟩
          have hb3 := hb01.trans (hb2.mono hb01.size)
          have hown3 := owns_below (owns_below HOWN.out hb1) hb2
          have hsz3 := hb3.size
          go_wp2_with (at_builtin; refine wpList_append_row rfl _ _ 25 rfl w.heap.size 3 el_int Try.underlying25 rfl (by decide) _ _ _ rfl (hown3.alloc _) _ 1 [.int .i64 k] rfl (row_one_new _ _ _) (oneCell_one rfl) (by omega) (by omega) (by simp; omega) ?_; intro v' w4 hown4 hgrow4 _)
          have hb4 : Below w.heap.size w w4 := (hb3.alloc hsz3 _).grown hgrow4 (by simp; omega) (fun q hq => (hown3.lt q hq).1)
          go_roundw
          case rel => exact ⟨k + 1, by omega, by go_num, by rw [HSU.out, HBK.out]; simpa using hown4, hb4⟩
          case measure => simp [intOf]; omega
        · have HBK : Hid (bs[k] = false) := hid (by rw [hbk, h1, h2]; rfl)
          rw [h2] at HI2
          clear hbk h1 h2
          go_wp2_with fail
          refine HI2.out.mono ?_
          rintro e w3 ⟨rfl, hb2⟩
          have hb3 := hb01.trans (hb2.mono hb01.size)
          go_wp2
          go_roundw
          case rel =>
            refine ⟨k + 1, by omega, by go_num, ?_, hb3⟩
            rw [HSU.out, HBK.out]
            simpa using owns_below (owns_below HOWN.out hb1) hb2
          case measure => simp [intOf]; omega
    · have HT : Hid (bs.take k = bs) := hid (List.take_of_length_le (by have := HBL.out; omega))
      have HOWN := hid hown
      clear hown
      go_wp2
      go_ret
      exact ⟨_, rfl, by have := HOWN.out; rw [HT.out] at this; exact this, hb⟩
def overB (s : Sg) (l : List (List Int)) (i : Int) : List Int × Int :=
  if shelfB s l then (if inB i 0 (l.length - 1) then (chosenL 0 (overL s l (l.getD i.toNat [])), 0) else ([], 5)) else ([], 1)
theorem shelfB_facts {s : Sg} {l : List (List Int)} (h : shelfB s l = true) : signB s = true ∧ 1 ≤ l.length ∧ l.length ≤ 60 ∧ allB s l = true ∧ 1 ≤ s.length ∧ s.length ≤ 12 := by
  unfold shelfB at h
  simp only [Bool.and_eq_true] at h
  have h1 := signB_len h.1.1
  have h2 := inB_true.1 h.1.2
  exact ⟨h.1.1, by omega, by omega, h.2, h1.1, h1.2⟩
set_option maxRecDepth 100000 in
theorem find_Over (vs vl : Value) (s : Sg) (l : List (List Int)) (i : Int) (w : World) (hs : SignAt w vs s) (hv : Terms w vl l) (hs1 : s.length ≤ 1000) (hl1 : l.length ≤ 1000) :
    Calls Try.prog 27 #[vs, vl, .int .i64 i] w fun e w' => ∃ u, e = .returned (.tuple #[u, .int .i64 (overB s l i).2]) ∧ w'.ownsRow w.heap.size 3 1 u (overB s l i).1.length ((overB s l i).1.map (Value.int .i64)) ∧ Below w.heap.size w w' := by
  obtain ⟨a, cap, rfl, hlc, hl, -, -⟩ := hv.open
  cases h1 : shelfB s l
  · have HF : Hid (overB s l i = ([], 1)) := hid (by unfold overB; rw [h1]; rfl)
    go_enter Try.func27, Try.ntmps27
    go_wp2_with (first | (go_at_call 39; refine (find_Valid _ _ _ _ _ hs hv hs1).mono ?_; rintro e w1 ⟨rfl, hb1⟩))
    go_ret2
    rw [HF.out]
    exact ⟨_, rfl, World.ownsRow_nil _ _ _ _, hb1⟩
  · cases h2 : inB i 0 (l.length - 1)
    · have HF : Hid (overB s l i = ([], 5)) := hid (by unfold overB; rw [h1, h2]; rfl)
      go_enter Try.func27, Try.ntmps27
      go_wp2_with (first | (go_at_call 39; refine (find_Valid _ _ _ _ _ hs hv hs1).mono ?_; rintro e w1 ⟨rfl, hb1⟩) | (go_at_call 62; refine (find_within _ _ _ _).mono ?_; rintro e w2 ⟨rfl, rfl⟩; rw [h2]))
      go_ret2
      rw [HF.out]
      exact ⟨_, rfl, World.ownsRow_nil _ _ _ _, hb1⟩
    · have hin := inB_true.1 h2
      obtain ⟨k, rfl⟩ := Int.eq_ofNat_of_zero_le hin.1
      have hk : k < l.length := by omega
      have HF : Hid (overB s l k = (chosenL 0 (overL s l l[k]), 0)) := hid (by unfold overB; rw [h1, h2]; simp [List.getD, hk])
      clear hin
      go_enter Try.func27, Try.ntmps27
      go_wp2_with (first | (go_at_call 39; refine (find_Valid _ _ _ _ _ hs hv hs1).mono ?_; rintro e w1 ⟨rfl, hb1⟩) | (go_at_call 62; refine (find_within _ _ _ _).mono ?_; rintro e w2 ⟨rfl, rfl⟩; rw [h2]) | (go_at_call 79; refine (find_over _ _ s l k _ (hs.below hb1) (hv.below hb1) hs1 hl1 hk).mono ?_; rintro e w3 ⟨u, rfl, o3, hb3⟩))
      go_ret2
      rw [HF.out]
      exact ⟨_, rfl, owns_base o3 hb1.size, hb1.trans (hb3.mono hb1.size)⟩
set_option maxRecDepth 100000 in
theorem ref5_alike (va vb : Value) (a b : List Int) (w : World) (ra : Ints w va a) (rb : Ints w vb b) (ha0 : 0 < a.length) (hb0 : 0 < b.length) (ha1 : a.length ≤ 1000) (hb1 : b.length ≤ 1000) (hra : ∀ x ∈ a, -1000000 ≤ x ∧ x ≤ 1000000) (hrb : ∀ x ∈ b, -1000000 ≤ x ∧ x ≤ 1000000) :
    Calls Try.prog 88 #[va, vb] w fun e w' => e = .returned (.bool (decide (canonL a = canonL b))) ∧ Below w.heap.size w w' := by
  have HA := hid hra
  have HB := hid hrb
  have HLA := hid (canonL_len a)
  have HLB := hid (canonL_len b)
  clear hra hrb
  go_enter Try.func88, Try.ntmps88
  go_wp2_with fail
  refine (ref1_Renamed _ a _ ra ha0 ha1 HA.out).mono ?_
  rintro e w1 ⟨u1, rfl, o1, k1⟩
  have i1 : Ints w1 u1 (canonL a) := Ints.of_owns o1 (by rw [HLA.out]; omega)
  go_wp2_with fail
  refine (ref1_Renamed _ b _ (rb.below k1) hb0 hb1 HB.out).mono ?_
  rintro e w2 ⟨u2, rfl, o2, k2⟩
  have i2 : Ints w2 u2 (canonL b) := Ints.of_owns o2 (by rw [HLB.out]; omega)
  have k3 := k1.trans (k2.mono k1.size)
  go_wp2_with fail
  refine (ref1_Same _ _ _ _ _ (i1.below k2) i2).mono ?_
  rintro e w3 ⟨rfl, nq, rfl⟩
  go_wp2
  go_ret
  exact ⟨rfl, below_drewN k3 nq⟩
set_option maxRecDepth 100000 in
theorem ref5_under (vs va vb : Value) (s : Sg) (a b : List Int) (w : World) (hs : SignAt w vs s) (ra : Ints w va a) (rb : Ints w vb b) (hs1 : s.length ≤ 1000) (ha : termB s a = true) (hb : termB s b = true) :
    Calls Try.prog 80 #[vs, va, vb] w fun e w' => e = .returned (.bool (underB s a b)) ∧ Below w.heap.size w w' := by
  have hu := underB_canon ha hb
  have fa := termB_facts ha
  have fb := termB_facts hb
  have ha0 := (termB_T ha).ne
  have hb0 := (termB_T hb).ne
  have HWA := hid (termB_wf ha)
  have HWB := hid (termB_wf hb)
  have HI := hid (ref2_Instance vs va vb s a b w hs ra rb hs1)
  cases h1 : instB s a b
  · rw [h1] at hu HI
    have HU : Hid (underB s a b = false) := hid hu.symm
    clear hu
    go_enter Try.func80, Try.ntmps80
    go_wp2_with fail
    refine HI.out.mono ?_
    rintro e w1 ⟨rfl, hb1⟩
    go_wp2
    go_ret
    exact ⟨by rw [HU.out]; rfl, hb1⟩
  · rw [h1, Bool.true_and] at hu
    rw [h1] at HI
    have HU := hid hu
    clear hu
    go_enter Try.func80, Try.ntmps80
    go_wp2_with fail
    refine HI.out.mono ?_
    rintro e w1 ⟨rfl, hb1⟩
    go_wp2_with fail
    refine (ref5_alike va vb a b w1 (ra.below hb1) (rb.below hb1) ha0 hb0 (by omega) (by omega) HWA.out HWB.out).mono ?_
    rintro e w2 ⟨rfl, hb2⟩
    go_wp2
    go_ret
    exact ⟨by rw [← HU.out]; rfl, hb1.trans (hb2.mono hb1.size)⟩
/-- a row of bools that is filled from the front. -/
def fillB (bs : List Bool) (k : Nat) : List Bool := bs.take k ++ List.replicate (bs.length - k) false
theorem fillB_len (bs : List Bool) {k : Nat} (h : k ≤ bs.length) : (fillB bs k).length = bs.length := by simp [fillB]; omega
theorem fillB_zero (bs : List Bool) : fillB bs 0 = List.replicate bs.length false := by simp [fillB]
theorem fillB_all (bs : List Bool) : fillB bs bs.length = bs := by simp [fillB]
theorem fillB_get (bs : List Bool) {k : Nat} (h : k < bs.length) : ((fillB bs k).map Value.bool)[k]? = some (.bool false) := by
  have : (fillB bs k)[k]? = some false := by
    unfold fillB
    rw [List.getElem?_append_right (by simp; omega)]
    have e1 : k - (bs.take k).length = 0 := by simp; omega
    rw [e1, List.getElem?_replicate, if_pos (by omega)]
  rw [List.getElem?_map, this]; rfl
theorem fillB_set (bs : List Bool) {k : Nat} (h : k < bs.length) : ((fillB bs k).map Value.bool).set k (.bool bs[k]) = (fillB bs (k + 1)).map Value.bool := by
  rw [← List.map_set]
  congr 1
  unfold fillB
  rw [List.set_append_right _ _ (by simp; omega)]
  have e1 : k - (bs.take k).length = 0 := by simp; omega
  obtain ⟨r, hr⟩ : ∃ r, bs.length - k = r + 1 := ⟨bs.length - k - 1, by omega⟩
  have hr2 : bs.length - (k + 1) = r := by omega
  rw [e1, hr, hr2, List.replicate_succ, List.set_cons_zero, List.take_succ_eq_append_getElem h, List.append_assoc]
  rfl
set_option maxHeartbeats 1000000 in
set_option maxRecDepth 100000 in
theorem ref5_Over (vs vl : Value) (s : Sg) (l : List (List Int)) (i : Int) (w : World) (hs : SignAt w vs s) (hv : Terms w vl l) (hs1 : s.length ≤ 1000) (hl1 : l.length ≤ 1000) :
    Calls Try.prog 28 #[vs, vl, .int .i64 i] w fun e w' => ∃ u, e = .returned (.tuple #[u, .int .i64 (overB s l i).2]) ∧ w'.ownsRow w.heap.size 3 1 u (overB s l i).1.length ((overB s l i).1.map (Value.int .i64)) ∧ Below w.heap.size w w' := by
  obtain ⟨a, cap, hve, hlc, hl, -, HC⟩ := hv.open
  subst hve
  cases h1 : shelfB s l
  · have HF : Hid (overB s l i = ([], 1)) := hid (by unfold overB; rw [h1]; rfl)
    clear HC
    go_enter Try.func28, Try.ntmps28
    go_wp2_with (first | (go_at_call 40; refine (ref5_Valid _ _ _ _ _ hs hv).mono ?_; rintro e w1 ⟨rfl, n1, rfl⟩; rw [h1]))
    go_ret2
    rw [HF.out]
    exact ⟨_, rfl, World.ownsRow_nil _ _ _ _, below_self_drewN w n1⟩
  · cases h2 : inB i 0 (l.length - 1)
    · have HF : Hid (overB s l i = ([], 5)) := hid (by unfold overB; rw [h1, h2]; rfl)
      clear HC
      go_enter Try.func28, Try.ntmps28
      go_wp2_with (first | (go_at_call 40; refine (ref5_Valid _ _ _ _ _ hs hv).mono ?_; rintro e w1 ⟨rfl, n1, rfl⟩; rw [h1]) | (go_at_call 67; refine (ref5_within _ _ _ _).mono ?_; rintro e w2 ⟨rfl, rfl⟩; rw [h2]))
      go_ret2
      rw [HF.out]
      exact ⟨_, rfl, World.ownsRow_nil _ _ _ _, below_self_drewN w n1⟩
    · have hin := inB_true.1 h2
      obtain ⟨q, rfl⟩ := Int.eq_ofNat_of_zero_le hin.1
      have hq : q < l.length := by omega
      have HF : Hid (overB s l q = (chosenL 0 (overL s l l[q]), 0)) := hid (by unfold overB; rw [h1, h2]; simp [List.getD, hq])
      obtain ⟨-, hl0, hl60, hall, -, -⟩ := shelfB_facts h1
      obtain ⟨bs, hbs⟩ : ∃ bs, overL s l l[q] = bs := ⟨_, rfl⟩
      have hbl : bs.length = l.length := by rw [← hbs]; simp [overL]
      have hbg : ∀ k (h : k < l.length) (h' : k < bs.length), bs[k] = underB s l[k] l[q] := by
        intro k h h'
        subst hbs
        simp [overL]
      obtain ⟨bi, oi, xi, hae, hcelli0, hxi⟩ := HC q hq
      subst hae
      rw [hbs] at HF
      have HC' := hid HC
      have HS := hid hs
      have HV := hid hv
      have HBL := hid hbl
      have HBG := hid hbg
      have HXI := hid hxi
      have HALL := hid (fun k (hk : k < l.length) => allB_get hall hk)
      clear hin HC hs hv hbl hbg hxi hbs hall
      go_enter Try.func28, Try.ntmps28
      go_wp2_with (first | (go_at_call 40; refine (ref5_Valid _ _ _ _ _ HS.out HV.out).mono ?_; rintro e w1 ⟨rfl, n1, rfl⟩; rw [h1]) | (go_at_call 67; refine (ref5_within _ _ _ _).mono ?_; rintro e w2 ⟨rfl, rfl⟩; rw [h2]) | (at_make; refine wpList_make_row rfl _ _ 67 rfl w.heap.size 4 el_bool Try.underlying67 rfl l.length rfl rfl (by omega) (by omega) (by simp) ?_; intro g w1 hg0 hg1 hown1 hgrow1))
      have hb1 : Below w.heap.size w w1 := (below_self_drewN w n1).grown hgrow1 (by simp) (fun _ h => by cases h)
      have HOWN1 : Hid (w1.ownsRow w.heap.size 4 1 (.slice (some ⟨g, 0, none⟩) l.length l.length) l.length ((fillB bs 0).map Value.bool)) := hid (by
        rw [fillB_zero, HBL.out, List.map_replicate]; simpa using hown1)
      clear hown1 hgrow1 hg1
      go_loopw [9] (fun kv wr => ∃ k : Nat, k ≤ l.length ∧ kv = .int .i64 k ∧ wr.ownsRow w.heap.size 4 1 (.slice (some ⟨g, 0, none⟩) l.length l.length) l.length ((fillB bs k).map Value.bool) ∧ Below w.heap.size w wr) (fun kv _ => l.length - (intOf kv).toNat)
      case atStart => exact ⟨0, by omega, rfl, HOWN1.out, hb1⟩
      case round =>
        clear HOWN1 hb1
        obtain ⟨k, hk, rfl, hown, hb⟩ := hrel
        have hsz := hb.size
        by_cases hlt : k < l.length
        · obtain ⟨b, o, x, hxe, hcell0, hx⟩ := HC'.out k hlt
          obtain ⟨rfl, rfl⟩ : bi = b ∧ oi = o := by simpa using hxe
          have hlb := World.block_lt_of_cell? _ _ hcell0
          have hcell : wr.cell? ⟨bi, oi + k, none⟩ = some x := (hb.cell hlb).trans hcell0
          have hcelli : wr.cell? ⟨bi, oi + q, none⟩ = some xi := (hb.cell (World.block_lt_of_cell? _ _ hcelli0)).trans hcelli0
          have hkb : k < bs.length := by have := HBL.out; omega
          have HBK := hid (HBG.out k hlt hkb)
          have HU := hid (ref5_under vs x xi s l[k] l[q] (wr.drewN 1) ((HS.out.below hb).drewN 1) ((hx.below hb).drewN 1) ((HXI.out.below hb).drewN 1) hs1 (HALL.out k hlt) (HALL.out q hq))
          have HGET := hid (fillB_get bs hkb)
          have HSET := hid (fillB_set bs hkb)
          have HOWN := hid hown
          have hne : bi ≠ g := by simp only at hlb; omega
          clear hx hown hxe hcell0
          go_wp2
          go_region_held3 (fun w' => w'.cell? ⟨bi, oi + k, none⟩ = some x ∧ w'.cell? ⟨bi, oi + q, none⟩ = some xi) (first | exact ⟨by assumption, by assumption⟩ | exact ⟨hkA _, hkB _⟩ | go_keep) (first
            | (go_at_call 80; refine HU.out.mono ?_; rintro e w3 ⟨rfl, hb3'⟩; rw [← HBK.out]
               have hb3 : Below wr.heap.size wr w3 := (below_self_drewN wr 1).trans hb3'
               have hcA := (hb3.cell (World.block_lt_of_cell? _ _ hcell)).trans hcell
               have hcB := (hb3.cell (World.block_lt_of_cell? _ _ hcelli)).trans hcelli
               have hkA : ∀ v, (w3.setCell ⟨g, k, none⟩ v).cell? ⟨bi, oi + k, none⟩ = some x := fun v => (World.cell?_setCell_other _ _ _ _ (by intro h; exact hne (congrArg Addr.block h).symm)).trans hcA
               have hkB : ∀ v, (w3.setCell ⟨g, k, none⟩ v).cell? ⟨bi, oi + q, none⟩ = some xi := fun v => (World.cell?_setCell_other _ _ _ _ (by intro h; exact hne (congrArg Addr.block h).symm)).trans hcB
               have hown3 := owns_below HOWN.out hb3
               have hc1 := hown3.cellAt k (by omega)
               rw [HGET.out] at hc1
               have hf1 := hown3.frozenAt k))
          have hst := (hown3.stored k (.bool bs[k])).1
          rw [HSET.out] at hst
          have hb4 : Below w.heap.size w (w3.setCell ⟨g, k, none⟩ (.bool bs[k])) := (hb.trans (hb3.mono hsz)).setCell (p := ⟨g, k, none⟩) hg0 _
          have HST := hid hst
          clear hst hown3 hc1 hf1 hkA hkB hcA hcB hb3 hb3'
          go_wp2
          go_roundw
          case rel => exact ⟨k + 1, by omega, by go_num, HST.out, hb4⟩
          case measure => simp [intOf]; omega
        · have hkl : k = l.length := by omega
          have hbo : Bools wr (.slice (some ⟨g, 0, none⟩) l.length l.length) bs := by
            rw [hkl, ← HBL.out, fillB_all, HBL.out] at hown
            unfold Bools
            rw [HBL.out]
            exact RowK.of_owns hown (by omega)
          have HBO := hid hbo
          have hbl1 : bs.length ≤ 1000 := by have := HBL.out; omega
          clear hown hbo
          go_wp2_with (go_at_call 68; refine (ref5_chosen _ _ _ HBO.out hbl1).mono ?_; rintro e w3 ⟨u, rfl, o3, hb3⟩)
          go_ret2
          rw [HF.out]
          exact ⟨_, rfl, owns_base o3 hsz, hb.trans (hb3.mono hsz)⟩
end Go.Proofs.Ytiacbdipagbblaa
