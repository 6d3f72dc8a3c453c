/-
  WHAT IT HOLDS: the walk of the law TopCarriedShelves.
-/
import Derived.Test.YtldgkidojepdlaaGreatZRTopCarriedShelves46
import Derived.Test.YtldgkidojepdlaaGreatZRTopCarriedShelves15
import Derived.Test.YtldgkidojepdlaaGreatZRTopCarriedShelves33
import Derived.Test.YtldgkidojepdlaaGreatZRTopCarriedShelves6
namespace Go.Proofs.YtldgkidojepdlaaGreat
open Go Go.RowKit Go.Maps
/-- what a search answers, as data. -/
def AnsQ (x : List Int × Int) (X : World) (e : Ending) (w' : World) : Prop := ∃ a c, e = .returned (.tuple #[.slice a x.1.length c, .int .i64 x.2]) ∧ Ints w' (.slice a x.1.length c) x.1 ∧ Below X.heap.size X w'
theorem ans_of {x : List Int × Int} {X : World} {e : Ending} {w' : World} {T : TypeId} {b : Nat} (hl : x.1.length ≤ 1000) (h : ∃ u, e = .returned (.tuple #[u, .int .i64 x.2]) ∧ w'.ownsRow b T 1 u x.1.length (x.1.map (Value.int .i64)) ∧ Below X.heap.size X w') : AnsQ x X e w' := by
  obtain ⟨u, rfl, ho, hb⟩ := h
  obtain ⟨a, c, rfl⟩ := ownsRow_slice2 ho
  exact ⟨a, c, rfl, Ints.of_owns ho (by omega), hb⟩
theorem ans_of' {x : List Int × Int} {X : World} {e : Ending} {w' : World} (h : ∃ u, e = .returned (.tuple #[u, .int .i64 x.2]) ∧ Ints w' u x.1 ∧ Below X.heap.size X w') : AnsQ x X e w' := by
  obtain ⟨u, rfl, hi, hb⟩ := h
  obtain ⟨a, c, rfl, -⟩ := hi.open
  exact ⟨a, c, rfl, hi, hb⟩
theorem search_le (s : Sg) (l : List (List Int)) (q : List Int) (bs : List Bool) : (searchB s l q bs).1.length ≤ bs.length := by
  unfold searchB
  split
  · exact chosenL_le bs 0
  · simp
theorem basQ_le (s : Sg) (l : List (List Int)) : (basQ s l).1.length ≤ l.length := by
  unfold basQ
  split
  · have := chosenL_le (basB s l) 0
    rw [basB_len] at this; exact this
  · simp
theorem rankQ_le {s : Sg} {l : List (List Int)} {q : List Int} {x : List Int × Int} (h : RankQ s l q x) : x.1.length ≤ l.length := by
  unfold RankQ at h
  split at h
  · have := h.2.1.length_eq
    rw [this]; simp [seg]
  · rw [h]; simp
/-- the answers of the four questions, which are the same on both shelves. -/
theorem car_all {a b : Sg} {d : Dic} (h1 : oneB a b d = true) {l : List (List Int)} {q : List Int} (hl : ∀ t ∈ l, termB a t = true) (hq : termB a q = true) :
    ∃ (f g : List Int → Bool), (∀ t, MeetsA a t q (f t)) ∧ (∀ t, MeetsA b t (carL a d q) (g t)) ∧ searchB b (l.map (carL a d)) (carL a d q) ((l.map (carL a d)).map g) = searchB a l q (l.map f) ∧
      searchB b (l.map (carL a d)) (carL a d q) ((l.map (carL a d)).map (hasB b (carL a d q))) = searchB a l q (l.map (hasB a q)) := by
  refine ⟨fun t => @decide (MeetsQ a t q) (Classical.propDecidable _), fun t => @decide (MeetsQ b t (carL a d q)) (Classical.propDecidable _), fun t => by unfold MeetsA; simp, fun t => by unfold MeetsA; simp, ?_, ?_⟩
  · refine car_search (oneB_ok h1).toDicOK hl hq fun t ht => ?_
    exact decide_eq_decide.2 (car_meets h1 (hl t ht) hq)
  · exact car_search (oneB_ok h1).toDicOK hl hq fun t ht => car_hasB h1 hq (hl t ht)
set_option maxHeartbeats 8000000 in
set_option maxRecDepth 100000 in
theorem walk_TopCarriedShelves (va vb vd vl vq : Value) (a b : Sg) (d : Dic) (l : List (List Int)) (q : List Int) (w : World) (ha : SignAt w va a) (hb : SignAt w vb b) (hd : BindsAt w vd d) (hl : Terms w vl l) (hq : Ints w vq q) :
    Calls Tryz.prog 3 #[.agg #[va, vb, vd], vl, vq] w fun e w' => e = .returned (.bool true) ∧ Below w.heap.size w w' := by
  obtain ⟨W0, hW0⟩ : ∃ W0, w.alloc (.cells #[va, vb, vd] 26) = W0 := ⟨_, rfl⟩
  have hb0 : Below w.heap.size w W0 := by rw [← hW0]; exact (Below.refl _ _).alloc (Nat.le_refl _) _
  have hz0 : W0.heap.size = w.heap.size + 1 := by rw [← hW0]; simp
  have HZ0 := hid hz0
  have hbx : Box3 W0 w.heap.size va vb vd := by rw [← hW0]; exact Box3.new w va vb vd _
  have HA := hid ha
  have HB := hid hb
  have HD := hid hd
  have HL := hid hl
  have HQ := hid hq
  have HW := hid (fun (X : World) (hX : Below w.heap.size w X) => chainL hX (top_awake5 X))
  have HTR := hid (fun (X : World) (hX : Below w.heap.size w X) => (top_trade va vb vd a b d X (HA.out.below hX) (HB.out.below hX) (HD.out.below hX)).mono fun e w' h => (show e = .returned (.bool (tradeB a b d)) ∧ Below X.heap.size X w' ∧ Below w.heap.size w w' from ⟨h.1, h.2, hX.trans (h.2.mono hX.size)⟩))
  obtain ⟨aa, ac, ea, -⟩ := ha.open
  obtain ⟨ba, bc, eb, -⟩ := hb.open
  obtain ⟨da, dc, ed, -⟩ := hd.open
  obtain ⟨la, lc, el, -⟩ := hl.open
  obtain ⟨qa, qc, eq, -⟩ := hq.open
  subst ea eb ed el eq
  have HB0 := hid hb0
  have HBX := hid hbx
  obtain ⟨c0, c1, c2⟩ := hbx
  have HW0 := hid hW0
  clear ha hb hd hl hq hW0 hb0 hz0
  go_enter Tryz.func3, Tryz.ntmps3
  go_wp2_with fail
  rw [HW0.out]
  clear HW0
  refine (HTR.out _ HB0.out).mono ?_
  rintro e w1 ⟨rfl, hb1, hb1w⟩
  have HB1 := hid hb1w
  have HS1 := hid hb1.size
  have HBX1 := hid (HBX.out.below hb1)
  clear hb1 hb1w c0 c1 c2
  cases htr : tradeB a b d
  · clear htr
    go_wp2_with fail
    refine (HW.out _ HB1.out).mono ?_
    rintro e w90 ⟨rfl, hbz⟩
    have HBZ := hid hbz
    clear hbz
    go_wp2
    go_ret
    exact ⟨rfl, HBZ.out⟩
  · obtain ⟨ha40, hb40, hd40⟩ := trade_len htr
    clear htr
    by_cases h30 : l.length ≤ 30
    · have q30 : decide ((30 : Int) < (l.length : Int)) = false := by simp; omega
      have HS0 := hid (fun (X : World) (hX : Below w.heap.size w X) => law1_Small (.slice none 0 0) _ [] l _ (sign_nilT _) (HL.out.below hX))
      go_wp2_with fail
      refine (HS0.out _ HB1.out).mono ?_
      rintro e w2 ⟨rfl, rfl⟩
      clear HS0
      cases hsl : smallB [] l
      · clear hsl
        go_wp2_with fail
        refine (HW.out _ HB1.out).mono ?_
        rintro e w90 ⟨rfl, hbz⟩
        have HBZ := hid hbz
        clear hbz
        go_wp2
        go_ret
        exact ⟨rfl, HBZ.out⟩
      clear hsl
      have HSM := hid (fun (X : World) (hX : Below w.heap.size w X) => law1_Small (.slice none 0 0) _ [] [q] _ (sign_nilT _) (litT1 (HQ.out.below hX) 29))
      go_wp2_with fail
      refine (HSM.out _ HB1.out).mono ?_
      rintro e w2 ⟨rfl, rfl⟩
      have HB2 := hid (HB1.out.alloc HB1.out.size (.cells #[.slice qa q.length qc] 29))
      have HBX2 := hid (HBX1.out.below ((Below.refl _ _).alloc (Nat.le_refl _) (.cells #[.slice qa q.length qc] 29)))
      have HS2 := hid (show w.heap.size + 1 ≤ (w1.alloc (.cells #[.slice qa q.length qc] 29)).heap.size from by have h1 := HS1.out; rw [HZ0.out] at h1; simp; omega)
      generalize w1.alloc (.cells #[.slice qa q.length qc] 29) = W2 at *
      clear HSM HBX HBX1 HZ0 HS1
      cases hsm : smallB [] [q]
      · clear hsm
        go_wp2_with fail
        refine (HW.out _ HB2.out).mono ?_
        rintro e w90 ⟨rfl, hbz⟩
        have HBZ := hid hbz
        clear hbz
        go_wp2
        go_ret
        exact ⟨rfl, HBZ.out⟩
      · clear hsm
        have HON := hid (fun (X : World) (hX : Below w.heap.size w X) => tongue_OneToOne _ _ _ a b d X (HA.out.below hX) (HB.out.below hX) (HD.out.below hX) (by omega) (by omega))
        obtain ⟨c0, c1, c2⟩ := HBX2.out
        go_wp2_with fail
        refine (HON.out _ HB2.out).mono ?_
        rintro e w3 ⟨rfl, hb3⟩
        have HB3 := hid (HB2.out.trans (hb3.mono HB2.out.size))
        have HBX3 := hid (HBX2.out.below hb3)
        have HS3 := hid (Nat.le_trans HS2.out hb3.size)
        clear hb3 c0 c1 c2 HON HBX2 HS2
        cases hone : oneB a b d
        · clear hone
          go_wp2_with fail
          refine (HW.out _ HB3.out).mono ?_
          rintro e w90 ⟨rfl, hbz⟩
          have HBZ := hid hbz
          clear hbz
          go_wp2
          go_ret
          exact ⟨rfl, HBZ.out⟩
        · have HONE := hid hone
          clear hone
          have HC := hid (fun (X : World) (hX : Below w.heap.size w X) (u : Value) (t : List Int) (hu : Ints X u t) => tongue_Carried _ _ _ u a b d t X (HA.out.below hX) (HB.out.below hX) (HD.out.below hX) hu (by omega) (by omega))
          have HCO := hid (fun (t : List Int) (h : (carD a b d t).2 = 0) => carD_ok h)
          obtain ⟨x, hx⟩ : ∃ x, carD a b d q = x := ⟨_, rfl⟩
          have HC1 := hid (fun (X : World) (hX : Below w.heap.size w X) => HC.out X hX _ q (HQ.out.below hX))
          have HX0 := hid (HCO.out q)
          rw [hx] at HC1 HX0
          clear hx
          obtain ⟨x1, x2⟩ := x
          simp only at HC1 HX0
          obtain ⟨c0, c1, c2⟩ := HBX3.out
          go_wp2_with fail
          refine (HC1.out _ HB3.out).mono ?_
          rintro e w4 ⟨u4, rfl, ho4, hb4⟩
          obtain ⟨a4, k4, rfl⟩ := ownsRow_slice2 ho4
          have HB4 := hid (HB3.out.trans (hb4.mono HB3.out.size))
          have HBX4 := hid (HBX3.out.below hb4)
          have HS4 := hid (Nat.le_trans HS3.out hb4.size)
          have HO4 := hid ho4
          clear ho4 hb4 c0 c1 c2 HBX3 HS3 HC1
          by_cases hx0 : x2 = 0
          · subst hx0
            obtain ⟨tq, hx1⟩ := HX0.out rfl
            try simp only at hx1
            subst hx1
            have hda := oneB_ok HONE.out
            have l1 := (termB_facts (car_term hda.toDicOK tq)).2.2.2
            have HI4 := hid (Ints.of_owns HO4.out (by omega))
            have HTQ := hid tq
            clear HX0 HO4 tq hda l1
            go_wp2_with fail
            go_loopw [9, 10] (fun uo nv wr => ∃ (n : Nat) (vvs : List Value), n ≤ l.length ∧ nv = .int .i64 n ∧ (∀ t ∈ l.take n, termB a t = true) ∧ NR wr w4.heap.size 29 3 uo vvs ((l.take n).map (carL a d)) ∧ Below w4.heap.size w4 wr) (fun _ nv _ => l.length - (intOf nv).toNat)
            case atStart => exact ⟨0, [], by omega, rfl, by simp, NR.nil _ _ _ _, Below.refl _ _⟩
            case round =>
              obtain ⟨n, vvs, hn, rfl, hall, hnr, hb⟩ := hrel
              have hbs := hb.size
              have HNR := hid hnr
              have HBR := hid hb
              have HALL := hid hall
              have hbw := HB4.out.trans (hb.mono HB4.out.size)
              have HBW := hid hbw
              have HBXR := hid (HBX4.out.below hb)
              have hls := HS4.out
              by_cases hlt : n < l.length
              · obtain ⟨a9, c9, he9, -, -, -, HC9⟩ := (HL.out.below hbw).open
                obtain ⟨rfl, -, rfl⟩ := Value.slice.inj he9
                obtain ⟨bb, bo, x, rfl, hcx, hix⟩ := HC9 n hlt
                have HCX := hid (HC.out wr.drew (Below.drew hbw) x l[n] (hix.below (Below.drew (Below.refl _ _))))
                have HTO := hid (HCO.out l[n])
                obtain ⟨xa, xc, rfl, -⟩ := hix.open
                obtain ⟨y, hy⟩ : ∃ y, carD a b d l[n] = y := ⟨_, rfl⟩
                rw [hy] at HCX HTO
                obtain ⟨y1, y2⟩ := y
                simp only at HCX HTO
                obtain ⟨nl, hnl⟩ : ∃ nl, l[n].length = nl := ⟨_, rfl⟩
                rw [hnl] at HCX hcx
                obtain ⟨c0, c1, c2⟩ := HBXR.out
                have z0 : (0 : Int) ≤ (n : Int) := by omega
                have z1 : (n : Int) < (l.length : Int) := by omega
                clear HC9 hix he9 hnr hb hbw hall hy hnl
                go_wp2
                go_region_held3 (fun w' => w'.cell? ⟨w.heap.size, 0, none⟩ = some (.slice aa a.length ac) ∧ w'.cell? ⟨w.heap.size, 1, none⟩ = some (.slice ba b.length bc) ∧ w'.cell? ⟨w.heap.size, 2, none⟩ = some (.slice da d.length dc) ∧ w'.cell? ⟨bb, bo + n, none⟩ = some (.slice xa nl xc))
                  (first | exact ⟨by assumption, by assumption, by assumption, by assumption⟩ | go_keep)
                  (first
                  | (go_at_call 8; (with_reducible refine HCX.out.mono ?_); rintro e w5 ⟨u5, rfl, ho5, hb5⟩
                     have c0 := (hb5.cell (World.block_lt_of_cell? _ _ c0)).trans c0
                     have c1 := (hb5.cell (World.block_lt_of_cell? _ _ c1)).trans c1
                     have c2 := (hb5.cell (World.block_lt_of_cell? _ _ c2)).trans c2
                     have hcx := (hb5.cell (World.block_lt_of_cell? _ _ hcx)).trans hcx))
                obtain ⟨a5, k5, rfl⟩ := ownsRow_slice2 ho5
                have hb5' := (Below.drew (Below.refl wr.heap.size wr)).trans (hb5.mono (Nat.le_refl _))
                have HO5 := hid ho5
                have HB5 := hid hb5'
                have HB5W := hid (HBW.out.trans (hb5'.mono HBW.out.size))
                clear ho5 hb5 hb5' c0 c1 c2 hcx
                by_cases hy0 : y2 = 0
                · subst hy0
                  obtain ⟨ty, hy1⟩ := HTO.out rfl
                  try simp only at hy1
                  subst hy1
                  have hml : ((l.take n).map (carL a d)).length = n := by rw [List.length_map, List.length_take]; omega
                  have HML := hid hml
                  have HTK : Hid ((l.take (n + 1)).map (carL a d) = (l.take n).map (carL a d) ++ [carL a d l[n]]) := hid (by rw [List.take_succ_eq_append_getElem hlt, List.map_append]; rfl)
                  have HALL2 : Hid (∀ t ∈ l.take (n + 1), termB a t = true) := hid (by
                    intro t ht
                    rw [List.take_succ_eq_append_getElem hlt] at ht
                    rcases List.mem_append.1 ht with ht | ht
                    · exact HALL.out t ht
                    · rw [List.mem_singleton] at ht
                      rw [ht]; exact ty)
                  obtain ⟨ml, hmL⟩ : ∃ ml, (carL a d l[n]).length = ml := ⟨_, rfl⟩
                  rw [hmL] at HO5 ⊢
                  have HmL := hid hmL
                  have hb2A := HB5.out.alloc HB5.out.size (.cells #[.slice a5 ml k5] 29)
                  have HTOP := hid (by have := owns_below HNR.out.top hb2A; rw [HML.out] at this; exact this)
                  have HOU := hid (owns_below HO5.out ((Below.refl w5.heap.size w5).alloc (Nat.le_refl _) (.cells #[.slice a5 ml k5] 29)))
                  have HB2A := hid hb2A
                  have hs2 := HB5.out.size
                  clear hml hb2A ty hmL HTO HCX
                  go_wp2_with (at_builtin; refine wpList_append_lie rfl _ _ 27 rfl w4.heap.size 29 el_term Tryz.underlying27 rfl (by decide) _ _ _ rfl HTOP.out _ 1 [.slice a5 ml k5] rfl (row_one_new _ _ _) (oneCell_one rfl) (by omega) (by omega) (by omega) (by simp; omega) _ rfl ?_; intro g7 c7 w7 hown7 hgrow7 hat7 hlt7)
                  have HN := hid (NR.pushNew (base' := wr.heap.size) (g := carL a d l[n]) HNR.out (Nat.le_refl _) hbs HB2A.out (by rw [HmL.out]; exact HOU.out) HML.out.symm (by simpa using hown7) hgrow7 rfl hat7)
                  have HB7 := hid ((HBR.out.trans (HB2A.out.mono hbs)).grown hgrow7 (by simp; omega) (fun k hk => (HTOP.out.lt k hk).1))
                  clear hown7 hgrow7 hat7
                  go_roundw
                  case rel => exact ⟨n + 1, _, by omega, by go_num, HALL2.out, by rw [HTK.out]; exact HN.out, HB7.out⟩
                  case measure => simp [intOf]; omega
                · have n3 : (y2 != 0) = true := by simpa using hy0
                  go_wp2_with fail
                  refine (HW.out _ HB5W.out).mono ?_
                  rintro e w90 ⟨rfl, hbz⟩
                  have HBZ := hid hbz
                  clear hbz
                  go_wp2
                  go_ret
                  exact ⟨rfl, HBZ.out⟩
              · have hnl : n = l.length := by omega
                subst hnl
                rw [List.take_of_length_le (Nat.le_refl _)] at hnr hall
                have hda := (oneB_ok HONE.out).toDicOK
                have hcl : ∀ g ∈ l.map (carL a d), g.length ≤ 1000 := by
                  intro g hg
                  obtain ⟨t, ht, rfl⟩ := List.mem_map.1 hg
                  have := (termB_facts (car_term hda (hall t ht))).2.2.2
                  omega
                have hml : (l.map (carL a d)).length = l.length := by rw [List.length_map]
                have HTM := hid (hnr.terms (by omega) hcl)
                have HIR := hid (HI4.out.below hb)
                obtain ⟨f, g, hf, hg, eM, eH⟩ := car_all HONE.out hall HTQ.out
                have eB := car_base HONE.out hall
                have lM := search_le a l q (l.map f)
                have lH := search_le a l q (l.map (hasB a q))
                have lB := basQ_le a l
                rw [List.length_map] at lM lH
                have HM1 := hid (fun (X : World) (hX : Below w.heap.size w X) => (find_Meeting _ _ _ a l q f hf X (HA.out.below hX) (HL.out.below hX) (HQ.out.below hX) (by omega) (by omega)).mono fun e w' h => (show AnsQ (searchB a l q (l.map f)) X e w' from ans_of (by omega) h))
                have HM2 := hid (fun (X : World) (hX : Below w.heap.size w X) (hR : Below wr.heap.size wr X) => (find_Meeting _ _ _ b _ _ g hg X (HB.out.below hX) (HTM.out.below hR) (HIR.out.below hR) (by omega) (by omega)).mono fun e w' h => (show AnsQ (searchB a l q (l.map f)) X e w' from by rw [← eM]; exact ans_of (by rw [eM]; omega) h))
                have HV1 := hid (fun (X : World) (hX : Below w.heap.size w X) => (find_Having _ _ _ a l q X (HA.out.below hX) (HL.out.below hX) (HQ.out.below hX) (by omega) (by omega)).mono fun e w' h => (show AnsQ (searchB a l q (l.map (hasB a q))) X e w' from ans_of (by omega) h))
                have HV2 := hid (fun (X : World) (hX : Below w.heap.size w X) (hR : Below wr.heap.size wr X) => (find_Having _ _ _ b _ _ X (HB.out.below hX) (HTM.out.below hR) (HIR.out.below hR) (by omega) (by omega)).mono fun e w' h => (show AnsQ (searchB a l q (l.map (hasB a q))) X e w' from by rw [← eH]; exact ans_of (by rw [eH]; omega) h))
                have HS1 := hid (fun (X : World) (hX : Below w.heap.size w X) => (find_Base _ _ a l X (HA.out.below hX) (HL.out.below hX) (by omega) (by omega)).mono fun e w' h => (show AnsQ (basQ a l) X e w' from ans_of' h))
                have HS2 := hid (fun (X : World) (hX : Below w.heap.size w X) (hR : Below wr.heap.size wr X) => (find_Base _ _ b _ X (HB.out.below hX) (HTM.out.below hR) (by omega) (by omega)).mono fun e w' h => (show AnsQ (basQ a l) X e w' from by rw [← eB]; exact ans_of' h))
                have HK1 := hid (fun (X : World) (hX : Below w.heap.size w X) => (find_RankedF _ _ _ a l q X (HA.out.below hX) (HL.out.below hX) (HQ.out.below hX) (by omega)).mono fun e w' h => (show ∃ x, RankQ a l q x ∧ AnsQ x X e w' from h.elim fun u h => h.elim fun x h => ⟨x, h.1, ans_of (by have := rankQ_le h.1; omega) ⟨u, h.2⟩⟩))
                have HK2 := hid (fun (X : World) (hX : Below w.heap.size w X) (hR : Below wr.heap.size wr X) (x : List Int × Int) (hx : RankQ a l q x) => (find_RankedF _ _ _ b _ _ X (HB.out.below hX) (HTM.out.below hR) (HIR.out.below hR) (by omega)).mono fun e w' h => (show AnsQ x X e w' from h.elim fun u h => h.elim fun y h => by rw [car_rank HONE.out hall HTQ.out hx h.1]; exact ans_of (by have := rankQ_le h.1; omega) ⟨u, h.2⟩))
                obtain ⟨x, hx⟩ : ∃ x, searchB a l q (l.map f) = x := ⟨_, rfl⟩
                obtain ⟨y, hy⟩ : ∃ x, searchB a l q (l.map (hasB a q)) = x := ⟨_, rfl⟩
                obtain ⟨z, hz⟩ : ∃ x, basQ a l = x := ⟨_, rfl⟩
                rw [hx] at HM1 HM2
                rw [hy] at HV1 HV2
                rw [hz] at HS1 HS2
                obtain ⟨x1, x2⟩ := x
                obtain ⟨y1, y2⟩ := y
                obtain ⟨z1, z2⟩ := z
                have HSI := hid (fun (X : World) (u v : Value) (t : List Int) (hu : Ints X u t) (hv : Ints X v t) => (ref1_SameInts u v t t X hu hv).mono fun e w' h => (show e = .returned (.bool true) ∧ Below X.heap.size X w' from ⟨by rw [h.1]; simp, by obtain ⟨n, h⟩ := h.2; rw [h]; exact below_self_drewN _ _⟩))
                have HRR := hid (Below.refl wr.heap.size wr)
                have m1 : (x2 != x2) = false := by simp
                have m2 : (y2 != y2) = false := by simp
                have m3 : (z2 != z2) = false := by simp
                clear hnr hall hda hcl hml hf hg eM eH eB lM lH lB hx hy hz hb hbw hbs HC HCO HBX4 HALL HNR HTM HIR HI4
                obtain ⟨c0, c1, c2⟩ := HBXR.out
                go_wp2_with fail
                refine (HM1.out _ HBW.out).mono ?_
                rintro e w10 ⟨a10, k10, rfl, hi10, hb10⟩
                have B10 := hid (HBW.out.trans (hb10.mono HBW.out.size))
                have R10 := hid (HRR.out.trans (hb10.mono HRR.out.size))
                have X10 := hid (HBXR.out.below hb10)
                have I10 := hid hi10
                clear hb10 hi10 c0 c1 c2 HBW HRR HBXR HM1
                obtain ⟨c0, c1, c2⟩ := X10.out
                go_wp2_with fail
                refine (HM2.out _ B10.out R10.out).mono ?_
                rintro e w11 ⟨a11, k11, rfl, hi11, hb11⟩
                have B11 := hid (B10.out.trans (hb11.mono B10.out.size))
                have R11 := hid (R10.out.trans (hb11.mono R10.out.size))
                have X11 := hid (X10.out.below hb11)
                have HSI10 := hid (HSI.out _ _ _ _ (I10.out.below hb11) hi11)
                clear hb11 hi11 c0 c1 c2 B10 R10 X10 I10 HM2
                simp only at HSI10
                go_wp2_with fail
                refine HSI10.out.mono ?_
                rintro e w12 ⟨rfl, hb12⟩
                have B12 := hid (B11.out.trans (hb12.mono B11.out.size))
                have R12 := hid (R11.out.trans (hb12.mono R11.out.size))
                have X12 := hid (X11.out.below hb12)
                clear hb12 B11 R11 X11 HSI10
                obtain ⟨c0, c1, c2⟩ := X12.out
                go_wp2_with fail
                refine (HV1.out _ B12.out).mono ?_
                rintro e w13 ⟨a13, k13, rfl, hi13, hb13⟩
                have B13 := hid (B12.out.trans (hb13.mono B12.out.size))
                have R13 := hid (R12.out.trans (hb13.mono R12.out.size))
                have X13 := hid (X12.out.below hb13)
                have I13 := hid hi13
                clear hb13 hi13 c0 c1 c2 B12 R12 X12 HV1
                obtain ⟨c0, c1, c2⟩ := X13.out
                go_wp2_with fail
                refine (HV2.out _ B13.out R13.out).mono ?_
                rintro e w14 ⟨a14, k14, rfl, hi14, hb14⟩
                have B14 := hid (B13.out.trans (hb14.mono B13.out.size))
                have R14 := hid (R13.out.trans (hb14.mono R13.out.size))
                have X14 := hid (X13.out.below hb14)
                have HSI13 := hid (HSI.out _ _ _ _ (I13.out.below hb14) hi14)
                clear hb14 hi14 c0 c1 c2 B13 R13 X13 I13 HV2
                simp only at HSI13
                go_wp2_with fail
                refine HSI13.out.mono ?_
                rintro e w15 ⟨rfl, hb15⟩
                have B15 := hid (B14.out.trans (hb15.mono B14.out.size))
                have R15 := hid (R14.out.trans (hb15.mono R14.out.size))
                have X15 := hid (X14.out.below hb15)
                clear hb15 B14 R14 X14 HSI13
                obtain ⟨c0, c1, c2⟩ := X15.out
                go_wp2_with fail
                refine (HS1.out _ B15.out).mono ?_
                rintro e w16 ⟨a16, k16, rfl, hi16, hb16⟩
                have B16 := hid (B15.out.trans (hb16.mono B15.out.size))
                have R16 := hid (R15.out.trans (hb16.mono R15.out.size))
                have X16 := hid (X15.out.below hb16)
                have I16 := hid hi16
                clear hb16 hi16 c0 c1 c2 B15 R15 X15 HS1
                obtain ⟨c0, c1, c2⟩ := X16.out
                go_wp2_with fail
                refine (HS2.out _ B16.out R16.out).mono ?_
                rintro e w17 ⟨a17, k17, rfl, hi17, hb17⟩
                have B17 := hid (B16.out.trans (hb17.mono B16.out.size))
                have R17 := hid (R16.out.trans (hb17.mono R16.out.size))
                have X17 := hid (X16.out.below hb17)
                have HSI16 := hid (HSI.out _ _ _ _ (I16.out.below hb17) hi17)
                clear hb17 hi17 c0 c1 c2 B16 R16 X16 I16 HS2
                simp only at HSI16
                go_wp2_with fail
                refine HSI16.out.mono ?_
                rintro e w18 ⟨rfl, hb18⟩
                have B18 := hid (B17.out.trans (hb18.mono B17.out.size))
                have R18 := hid (R17.out.trans (hb18.mono R17.out.size))
                have X18 := hid (X17.out.below hb18)
                clear hb18 B17 R17 X17 HSI16
                obtain ⟨c0, c1, c2⟩ := X18.out
                go_wp2_with fail
                refine (HK1.out _ B18.out).mono ?_
                rintro e w19 ⟨⟨t1, t2⟩, hrk, a19, k19, rfl, hi19, hb19⟩
                have B19 := hid (B18.out.trans (hb19.mono B18.out.size))
                have R19 := hid (R18.out.trans (hb19.mono R18.out.size))
                have X19 := hid (X18.out.below hb19)
                have I19 := hid hi19
                have HK3 := hid (fun (X : World) (hX : Below w.heap.size w X) (hR : Below wr.heap.size wr X) => HK2.out X hX hR _ hrk)
                clear hb19 hi19 c0 c1 c2 B18 R18 X18 HK1 HK2 hrk
                obtain ⟨c0, c1, c2⟩ := X19.out
                go_wp2_with fail
                refine (HK3.out _ B19.out R19.out).mono ?_
                rintro e w20 ⟨a20, k20, rfl, hi20, hb20⟩
                have B20 := hid (B19.out.trans (hb20.mono B19.out.size))
                have HSI19 := hid (HSI.out _ _ _ _ (I19.out.below hb20) hi20)
                clear hb20 hi20 c0 c1 c2 B19 R19 X19 I19 HK3
                simp only at HSI19
                have m4 : (t2 == t2) = true := by simp
                go_wp2_with fail
                refine HSI19.out.mono ?_
                rintro e w21 ⟨rfl, hb21⟩
                have B21 := hid (B20.out.trans (hb21.mono B20.out.size))
                clear hb21 B20 HSI19
                go_wp2_with fail
                refine (HW.out _ B21.out).mono ?_
                rintro e w90 ⟨rfl, hbz⟩
                have HBZ := hid hbz
                clear hbz
                go_wp2
                go_ret
                exact ⟨rfl, HBZ.out⟩
          · have n3 : (x2 != 0) = true := by simpa using hx0
            go_wp2_with fail
            refine (HW.out _ HB4.out).mono ?_
            rintro e w90 ⟨rfl, hbz⟩
            have HBZ := hid hbz
            clear hbz
            go_wp2
            go_ret
            exact ⟨rfl, HBZ.out⟩
    · have q30 : decide ((30 : Int) < (l.length : Int)) = true := by simp; omega
      go_wp2_with fail
      refine (HW.out _ HB1.out).mono ?_
      rintro e w90 ⟨rfl, hbz⟩
      have HBZ := hid hbz
      clear hbz
      go_wp2
      go_ret
      exact ⟨rfl, HBZ.out⟩
end Go.Proofs.YtldgkidojepdlaaGreat
