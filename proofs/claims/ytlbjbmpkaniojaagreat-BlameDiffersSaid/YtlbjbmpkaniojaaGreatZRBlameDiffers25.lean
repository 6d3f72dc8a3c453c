/-
  WHAT IT HOLDS: contracts of SameTerm, SameTexts, SameProof, SameEntry, SameLibrary of the reference of layer 6. Conditions: the arguments read as data.
  WHAT IT HOLDS: contracts of slices.Equal at names and at steps, and of Same of package blame. Conditions: the arguments read as data.
-/
import Derived.BigQuiet
import Derived.Test.YtlbjbmpkaniojaaGreatZRBlameDiffers12
import Derived.Test.YtlbjbmpkaniojaaGreatZRBlameDiffers18
import Derived.Test.YtlbjbmpkaniojaaGreatZRBlameDiffers1
namespace Go.Proofs.YtlbjbmpkaniojaaGreat
open Go Go.RowKit Go.Maps
set_option maxHeartbeats 400000 in
theorem ref6_SameTerm (v u : Value) (l m : List Int) (w : World) (hv : Ints w v l) (hu : Ints w u m) :
    Calls Tryz.prog 106 #[v, u] w fun e w' => e = .returned (.bool (decide (l = m))) ∧ ∃ n, w' = w.drewN n := by
  obtain ⟨a, cap, rfl, h1, hl, h3, HC⟩ := hv.open
  obtain ⟨a', cap', rfl, h1', hl', h3', HD⟩ := hu.open
  have HC' := hid HC
  have HD' := hid HD
  clear HC hv h3 HD hu h3'
  by_cases hlen : l.length = m.length
  · have hne : (((l.length : Nat) : Int) != (m.length : Int)) = false := by simp [hlen]
    have HL := hid hlen
    clear hlen
    go_enter Tryz.func106, Tryz.ntmps106
    go_wp2
    go_loopw [5] (fun i wr => ∃ k q : Nat, k ≤ l.length ∧ i = .int .i64 k ∧ wr = w.drewN q ∧ l.take k = m.take k) (fun i _ => l.length - (intOf i).toNat)
    case atStart => exact ⟨0, 0, by omega, rfl, rfl, by simp⟩
    case round =>
      obtain ⟨k, q, hk, rfl, rfl, hrel⟩ := hrel
      have HR := hid hrel
      clear hrel
      by_cases hlt : k < l.length
      · obtain ⟨b, o, rfl, hcell⟩ := HC'.out k hlt
        have hlt' : k < m.length := by have := HL.out; omega
        obtain ⟨b', o', rfl, hcell'⟩ := HD'.out k hlt'
        cases h2 : (l[k] != m[k])
        · go_wp2
          go_quiet (fail)
          go_wp2
          go_roundw
          case rel =>
            refine ⟨k + 1, _, by omega, by go_num, (by first | rfl | exact World.drewN_drewN _ _ _), ?_⟩
            rw [List.take_succ_eq_append_getElem hlt, List.take_succ_eq_append_getElem hlt', HR.out]
            have : l[k] = m[k] := by simpa [bne] using h2
            rw [this]
          case measure => simp [intOf]; omega
        · have HM : Hid (l ≠ m) := hid (by intro e; subst e; simp at h2)
          go_wp2
          go_quiet (fail)
          go_wp2
          go_ret
          exact ⟨ret_bool (decide_eq_false HM.out).symm, _, (by first | rfl | exact World.drewN_drewN _ _ _)⟩
      · have HM : Hid (l = m) := hid (by have := HR.out; have h9 := HL.out; rw [List.take_of_length_le (by omega), List.take_of_length_le (by omega)] at this; exact this)
        go_wp2
        go_ret
        exact ⟨ret_bool (decide_eq_true HM.out).symm, q, rfl⟩
  · have hne : (((l.length : Nat) : Int) != (m.length : Int)) = true := by simp [bne]; omega
    have HM : Hid (l ≠ m) := hid (by intro e; subst e; exact hlen rfl)
    clear hlen
    go_enter Tryz.func106, Tryz.ntmps106
    go_wp2
    go_ret
    exact ⟨ret_bool (decide_eq_false HM.out).symm, 0, rfl⟩

set_option maxHeartbeats 400000 in
theorem ref6_SameInts (v u : Value) (l m : List Int) (w : World) (hv : Ints w v l) (hu : Ints w u m) :
    Calls Tryz.prog 44 #[v, u] w fun e w' => e = .returned (.bool (decide (l = m))) ∧ ∃ n, w' = w.drewN n := by
  obtain ⟨a, cap, rfl, h1, hl, h3, HC⟩ := hv.open
  obtain ⟨a', cap', rfl, h1', hl', h3', HD⟩ := hu.open
  have HC' := hid HC
  have HD' := hid HD
  clear HC hv h3 HD hu h3'
  by_cases hlen : l.length = m.length
  · have hne : (((l.length : Nat) : Int) != (m.length : Int)) = false := by simp [hlen]
    have HL := hid hlen
    clear hlen
    go_enter Tryz.func44, Tryz.ntmps44
    go_wp2
    go_loopw [5] (fun i wr => ∃ k q : Nat, k ≤ l.length ∧ i = .int .i64 k ∧ wr = w.drewN q ∧ l.take k = m.take k) (fun i _ => l.length - (intOf i).toNat)
    case atStart => exact ⟨0, 0, by omega, rfl, rfl, by simp⟩
    case round =>
      obtain ⟨k, q, hk, rfl, rfl, hrel⟩ := hrel
      have HR := hid hrel
      clear hrel
      by_cases hlt : k < l.length
      · obtain ⟨b, o, rfl, hcell⟩ := HC'.out k hlt
        have hlt' : k < m.length := by have := HL.out; omega
        obtain ⟨b', o', rfl, hcell'⟩ := HD'.out k hlt'
        cases h2 : (l[k] != m[k])
        · go_wp2
          go_quiet (fail)
          go_wp2
          go_roundw
          case rel =>
            refine ⟨k + 1, _, by omega, by go_num, (by first | rfl | exact World.drewN_drewN _ _ _), ?_⟩
            rw [List.take_succ_eq_append_getElem hlt, List.take_succ_eq_append_getElem hlt', HR.out]
            have : l[k] = m[k] := by simpa [bne] using h2
            rw [this]
          case measure => simp [intOf]; omega
        · have HM : Hid (l ≠ m) := hid (by intro e; subst e; simp at h2)
          go_wp2
          go_quiet (fail)
          go_wp2
          go_ret
          exact ⟨ret_bool (decide_eq_false HM.out).symm, _, (by first | rfl | exact World.drewN_drewN _ _ _)⟩
      · have HM : Hid (l = m) := hid (by have := HR.out; have h9 := HL.out; rw [List.take_of_length_le (by omega), List.take_of_length_le (by omega)] at this; exact this)
        go_wp2
        go_ret
        exact ⟨ret_bool (decide_eq_true HM.out).symm, q, rfl⟩
  · have hne : (((l.length : Nat) : Int) != (m.length : Int)) = true := by simp [bne]; omega
    have HM : Hid (l ≠ m) := hid (by intro e; subst e; exact hlen rfl)
    clear hlen
    go_enter Tryz.func44, Tryz.ntmps44
    go_wp2
    go_ret
    exact ⟨ret_bool (decide_eq_false HM.out).symm, 0, rfl⟩

set_option maxHeartbeats 400000 in
theorem ref6_SameTexts (v u : Value) (l m : List Nm) (w : World) (hv : TxtsAt w v l) (hu : TxtsAt w u m) :
    Calls Tryz.prog 41 #[v, u] w fun e w' => e = .returned (.bool (decide (l = m))) ∧ ∃ n, w' = w.drewN n := by
  obtain ⟨a, cap, rfl, h1, hl, h3, HC⟩ := hv.open
  obtain ⟨a', cap', rfl, h1', hl', h3', HD⟩ := hu.open
  have HC' := hid HC
  have HD' := hid HD
  clear HC hv h3 HD hu h3'
  by_cases hlen : l.length = m.length
  · have hne : (((l.length : Nat) : Int) != (m.length : Int)) = false := by simp [hlen]
    have HL := hid hlen
    clear hlen
    go_enter Tryz.func41, Tryz.ntmps41
    go_wp2
    go_loopw [5] (fun i wr => ∃ k q : Nat, k ≤ l.length ∧ i = .int .i64 k ∧ wr = w.drewN q ∧ l.take k = m.take k) (fun i _ => l.length - (intOf i).toNat)
    case atStart => exact ⟨0, 0, by omega, rfl, rfl, by simp⟩
    case round =>
      obtain ⟨k, q, hk, rfl, rfl, hrel⟩ := hrel
      have HR := hid hrel
      clear hrel
      by_cases hlt : k < l.length
      · obtain ⟨b, o, rfl, hcell⟩ := HC'.out k hlt
        have hlt' : k < m.length := by have := HL.out; omega
        obtain ⟨b', o', rfl, hcell'⟩ := HD'.out k hlt'
        have HT1 := hid (List.take_succ_eq_append_getElem hlt)
        have HT2 := hid (List.take_succ_eq_append_getElem hlt')
        have HG1 := hid (List.getElem?_eq_getElem hlt)
        have HG2 := hid (List.getElem?_eq_getElem hlt')
        obtain ⟨x, hx⟩ : ∃ x, l[k] = x := ⟨_, rfl⟩
        obtain ⟨y, hy⟩ : ∃ y, m[k] = y := ⟨_, rfl⟩
        rw [hx] at hcell HT1 HG1
        rw [hy] at hcell' HT2 HG2
        clear hx hy
        by_cases h2 : x = y
        · have HE := hid h2
          have q2 : (x.toList == y.toList) = true := by rw [bytes_eq]; simpa using h2
          have q3 : (x.toList != y.toList) = false := by rw [bne, q2]; rfl
          clear h2
          go_wp2
          go_quiet (fail)
          go_wp2
          go_roundw
          case rel => exact ⟨k + 1, _, by omega, by go_num, (by first | rfl | exact World.drewN_drewN _ _ _), by rw [HT1.out, HT2.out, HR.out, HE.out]⟩
          case measure => simp [intOf]; omega
        · have q2 : (x.toList == y.toList) = false := by rw [bytes_eq]; simpa using h2
          have q3 : (x.toList != y.toList) = true := by rw [bne, q2]; rfl
          have HF : Hid (decide (l = m) = false) := hid (by
            rw [decide_eq_false_iff_not]
            rintro rfl
            have := HG1.out.symm.trans HG2.out
            cases this
            exact h2 rfl)
          clear h2
          go_wp2
          go_quiet (fail)
          go_wp2
          go_ret
          exact ⟨ret_bool HF.out.symm, _, (by first | rfl | exact World.drewN_drewN _ _ _)⟩
      · have HF : Hid (decide (l = m) = true) := hid (by
          have h1 := HR.out
          have h2 := HL.out
          rw [List.take_of_length_le (by omega), List.take_of_length_le (by omega)] at h1
          simp [h1])
        go_wp2
        go_ret
        exact ⟨ret_bool HF.out.symm, _, rfl⟩
  · have hne : (((l.length : Nat) : Int) != (m.length : Int)) = true := by simp; omega
    have HF : Hid (decide (l = m) = false) := hid (by rw [decide_eq_false_iff_not]; rintro rfl; exact hlen rfl)
    clear hlen
    go_enter Tryz.func41, Tryz.ntmps41
    go_wp2
    go_ret
    exact ⟨ret_bool HF.out.symm, 0, rfl⟩
set_option maxHeartbeats 1000000 in
theorem ref6_SameProof (v u : Value) (l m : List St) (w : World) (hv : StepsAt w v l) (hu : StepsAt w u m) :
    Calls Tryz.prog 107 #[v, u] w fun e w' => e = .returned (.bool (decide (l = m))) ∧ ∃ n, w' = w.drewN n := by
  obtain ⟨a, cap, rfl, h1, hl, h3, HC⟩ := hv.open
  obtain ⟨a', cap', rfl, h1', hl', h3', HD⟩ := hu.open
  have HC' := hid HC
  have HD' := hid HD
  clear HC hv h3 HD hu h3'
  by_cases hlen : l.length = m.length
  · have hne : (((l.length : Nat) : Int) != (m.length : Int)) = false := by simp [hlen]
    have HL := hid hlen
    clear hlen
    go_enter Tryz.func107, Tryz.ntmps107
    go_wp2
    go_loopw [5] (fun i wr => ∃ k q : Nat, k ≤ l.length ∧ i = .int .i64 k ∧ wr = w.drewN q ∧ l.take k = m.take k) (fun i _ => l.length - (intOf i).toNat)
    case atStart => exact ⟨0, 0, by omega, rfl, rfl, by simp⟩
    case round =>
      obtain ⟨k, q, hk, rfl, rfl, hrel⟩ := hrel
      have HR := hid hrel
      clear hrel
      by_cases hlt : k < l.length
      · obtain ⟨b, o, rfl, c0, c1, c2⟩ := HC'.out k hlt
        have hlt' : k < m.length := by have := HL.out; omega
        obtain ⟨b', o', rfl, d0, d1, d2⟩ := HD'.out k hlt'
        have HT1 := hid (List.take_succ_eq_append_getElem hlt)
        have HT2 := hid (List.take_succ_eq_append_getElem hlt')
        have HG1 := hid (List.getElem?_eq_getElem hlt)
        have HG2 := hid (List.getElem?_eq_getElem hlt')
        obtain ⟨⟨x0, x1, x2⟩, hx⟩ : ∃ x, l[k] = x := ⟨_, rfl⟩
        obtain ⟨⟨y0, y1, y2⟩, hy⟩ : ∃ y, m[k] = y := ⟨_, rfl⟩
        rw [hx] at c0 c1 c2 HT1 HG1
        rw [hy] at d0 d1 d2 HT2 HG2
        simp only at c0 c1 c2 d0 d1 d2
        clear hx hy
        by_cases e0 : x0 = y0
        · have q0 : (x0 == y0) = true := by simpa using e0
          by_cases e1 : x1 = y1
          · have q1 : (x1 == y1) = true := by simpa using e1
            by_cases e2 : x2 = y2
            · have q2 : (x2 == y2) = true := by simpa using e2
              have E0 := hid e0
              have E1 := hid e1
              have E2 := hid e2
              clear e0 e1 e2
              go_wp2
              go_quiet (fail)
              go_wp2
              go_roundw
              case rel => exact ⟨k + 1, _, by omega, by go_num, (by first | rfl | exact World.drewN_drewN _ _ _), by rw [HT1.out, HT2.out, HR.out, E0.out, E1.out, E2.out]⟩
              case measure => simp [intOf]; omega
            · have q2 : (x2 == y2) = false := by simpa using e2
              have HF : Hid (decide (l = m) = false) := hid (by
                rw [decide_eq_false_iff_not]
                rintro rfl
                have := HG1.out.symm.trans HG2.out
                cases this
                exact e2 rfl)
              clear e0 e1 e2
              go_wp2
              go_quiet (fail)
              go_wp2
              go_ret
              exact ⟨ret_bool HF.out.symm, _, (by first | rfl | exact World.drewN_drewN _ _ _)⟩
          · have q1 : (x1 == y1) = false := by simpa using e1
            have HF : Hid (decide (l = m) = false) := hid (by
              rw [decide_eq_false_iff_not]
              rintro rfl
              have := HG1.out.symm.trans HG2.out
              cases this
              exact e1 rfl)
            clear e0 e1
            go_wp2
            go_quiet (fail)
            go_wp2
            go_ret
            exact ⟨ret_bool HF.out.symm, _, (by first | rfl | exact World.drewN_drewN _ _ _)⟩
        · have q0 : (x0 == y0) = false := by simpa using e0
          have HF : Hid (decide (l = m) = false) := hid (by
            rw [decide_eq_false_iff_not]
            rintro rfl
            have := HG1.out.symm.trans HG2.out
            cases this
            exact e0 rfl)
          clear e0
          go_wp2
          go_quiet (fail)
          go_wp2
          go_ret
          exact ⟨ret_bool HF.out.symm, _, (by first | rfl | exact World.drewN_drewN _ _ _)⟩
      · have HF : Hid (decide (l = m) = true) := hid (by
          have h1 := HR.out
          have h2 := HL.out
          rw [List.take_of_length_le (by omega), List.take_of_length_le (by omega)] at h1
          simp [h1])
        go_wp2
        go_ret
        exact ⟨ret_bool HF.out.symm, _, rfl⟩
  · have hne : (((l.length : Nat) : Int) != (m.length : Int)) = true := by simp; omega
    have HF : Hid (decide (l = m) = false) := hid (by rw [decide_eq_false_iff_not]; rintro rfl; exact hlen rfl)
    clear hlen
    go_enter Tryz.func107, Tryz.ntmps107
    go_wp2
    go_ret
    exact ⟨ret_bool HF.out.symm, 0, rfl⟩
theorem En.ext_iff' {x y : En} : x = y ↔ x.name = y.name ∧ x.who = y.who ∧ x.says = y.says ∧ x.uses = y.uses ∧ x.proof = y.proof := by
  cases x; cases y; simp
theorem en_no {x y : En} (h : x.name ≠ y.name ∨ x.who ≠ y.who ∨ x.says ≠ y.says ∨ x.uses ≠ y.uses ∨ x.proof ≠ y.proof) : decide (x = y) = false := by
  rw [decide_eq_false_iff_not, En.ext_iff']
  rintro ⟨h1, h2, h3, h4, h5⟩
  rcases h with h | h | h | h | h
  · exact h h1
  · exact h h2
  · exact h h3
  · exact h h4
  · exact h h5
set_option maxHeartbeats 2000000 in
theorem ref6_SameEntry (vS vU vP uS uU uP : Value) (x y : En) (w : World) (hx : EntAt w vS vU vP x) (hy : EntAt w uS uU uP y) :
    Calls Tryz.prog 52 #[.agg #[.string x.name, .string x.who, vS, vU, vP], .agg #[.string y.name, .string y.who, uS, uU, uP]] w fun e w' => e = .returned (.bool (decide (x = y))) ∧ Below w.heap.size w w' := by
  have E1 := EB.new w x vS vU vP 41
  have hb1 : Below w.heap.size w (w.alloc (.cells #[.string x.name, .string x.who, vS, vU, vP] 41)) := (Below.refl _ _).alloc (Nat.le_refl _) _
  obtain ⟨V, hV⟩ : ∃ V, w.alloc (.cells #[.string x.name, .string x.who, vS, vU, vP] 41) = V := ⟨_, rfl⟩
  have hVz : V.heap.size = w.heap.size + 1 := by rw [← hV]; simp
  rw [hV] at E1 hb1
  have E2 := EB.new V y uS uU uP 41
  have hb2 : Below V.heap.size V (V.alloc (.cells #[.string y.name, .string y.who, uS, uU, uP] 41)) := (Below.refl _ _).alloc (Nat.le_refl _) _
  have E1' := E1.below hb2
  obtain ⟨W, hW⟩ : ∃ W, V.alloc (.cells #[.string y.name, .string y.who, uS, uU, uP] 41) = W := ⟨_, rfl⟩
  rw [hW] at E2 E1' hb2
  have hb : Below w.heap.size w W := hb1.trans (hb2.mono hb1.size)
  rw [hVz] at E2
  have HWE : Hid ((w.alloc (.cells #[.string x.name, .string x.who, vS, vU, vP] 41)).alloc (.cells #[.string y.name, .string y.who, uS, uU, uP] 41) = W) := hid (by rw [hV, hW])
  have H1 := hid E1'
  have H2 := hid E2
  have HX := hid (show EntAt W vS vU vP x from (hx.below hb))
  have HY := hid (show EntAt W uS uU uP y from (hy.below hb))
  have HB := hid hb
  clear E1 E1' E2 hb1 hb2 hx hy hb hV hW hVz
  by_cases e0 : x.name = y.name
  case neg =>
    have HF := hid (en_no (Or.inl e0))
    have q0 : (x.name.toList == y.name.toList) = false := by rw [bytes_eq]; simpa using e0
    clear e0
    go_enter Tryz.func52, Tryz.ntmps52
    go_wp2
    rw [HWE.out]
    go_ret
    exact ⟨ret_bool HF.out.symm, HB.out⟩
  have q0 : (x.name.toList == y.name.toList) = true := by rw [bytes_eq]; simpa using e0
  have E0 := hid e0
  clear e0
  by_cases e1 : x.who = y.who
  case neg =>
    have HF := hid (en_no (Or.inr (Or.inl e1)))
    have q1 : (x.who.toList == y.who.toList) = false := by rw [bytes_eq]; simpa using e1
    clear e1
    go_enter Tryz.func52, Tryz.ntmps52
    go_wp2
    rw [HWE.out]
    go_ret
    exact ⟨ret_bool HF.out.symm, HB.out⟩
  have q1 : (x.who.toList == y.who.toList) = true := by rw [bytes_eq]; simpa using e1
  have E1 := hid e1
  clear e1
  go_enter Tryz.func52, Tryz.ntmps52
  go_wp2_with fail
  rw [HWE.out]
  refine (ref6_SameTerm vS uS x.says y.says W HX.out.s HY.out.s).mono ?_
  rintro e w1 ⟨rfl, n1, hw1⟩
  have hb1 : Below W.heap.size W w1 := hw1 ▸ below_self_drewN W n1
  clear hw1
  have HBa := hid (HB.out.trans (hb1.mono HB.out.size))
  by_cases e2 : x.says = y.says
  case neg =>
    have HF := hid (en_no (Or.inr (Or.inr (Or.inl e2))))
    rw [decide_eq_false e2]
    clear e2
    go_wp2
    go_ret
    exact ⟨ret_bool HF.out.symm, HBa.out⟩
  rw [decide_eq_true e2]
  have E2 := hid e2
  clear e2
  obtain ⟨c0, c1, c2, c3, c4⟩ := H1.out.below hb1
  obtain ⟨d0, d1, d2, d3, d4⟩ := H2.out.below hb1
  have HX1 := hid (HX.out.below hb1)
  have HY1 := hid (HY.out.below hb1)
  clear hb1
  go_wp2_with fail
  refine (ref6_SameTexts vU uU x.uses y.uses w1 HX1.out.u HY1.out.u).mono ?_
  rintro e w2 ⟨rfl, n2, hw2⟩
  have hb2 : Below w1.heap.size w1 w2 := hw2 ▸ below_self_drewN w1 n2
  clear hw2
  have HBb := hid (HBa.out.trans (hb2.mono HBa.out.size))
  by_cases e3 : x.uses = y.uses
  case neg =>
    have HF := hid (en_no (Or.inr (Or.inr (Or.inr (Or.inl e3)))))
    rw [decide_eq_false e3]
    clear e3
    go_wp2
    go_ret
    exact ⟨ret_bool HF.out.symm, HBb.out⟩
  rw [decide_eq_true e3]
  have E3 := hid e3
  clear e3
  have k1 := EB.below (x := x) ⟨c0, c1, c2, c3, c4⟩ hb2
  have k2 := EB.below (x := y) ⟨d0, d1, d2, d3, d4⟩ hb2
  clear c0 c1 c2 c3 c4 d0 d1 d2 d3 d4
  obtain ⟨c0, c1, c2, c3, c4⟩ := k1
  obtain ⟨d0, d1, d2, d3, d4⟩ := k2
  have HX2 := hid (HX1.out.below hb2)
  have HY2 := hid (HY1.out.below hb2)
  clear hb2
  go_wp2_with fail
  refine (ref6_SameProof vP uP x.proof y.proof w2 HX2.out.p HY2.out.p).mono ?_
  rintro e w3 ⟨rfl, n3, hw3⟩
  have HBc := hid (show Below w.heap.size w w3 from hw3 ▸ below_drewN HBb.out n3)
  have HF : Hid (decide (x = y) = decide (x.proof = y.proof)) := hid (by
    rw [Bool.eq_iff_iff, decide_eq_true_eq, decide_eq_true_eq, En.ext_iff']
    exact ⟨fun h => h.2.2.2.2, fun h => ⟨E0.out, E1.out, E2.out, E3.out, h⟩⟩)
  clear hw3
  go_wp2
  go_ret
  exact ⟨ret_bool HF.out.symm, HBc.out⟩
end Go.Proofs.YtlbjbmpkaniojaaGreat
namespace Go.Proofs.YtlbjbmpkaniojaaGreat
open Go Go.RowKit Go.Maps
set_option maxHeartbeats 400000 in
theorem sl_EqualN (v u : Value) (l m : List Nm) (w : World) (hv : TxtsAt w v l) (hu : TxtsAt w u m) :
    Calls Tryz.prog 88 #[v, u] w fun e w' => e = .returned (.bool (decide (l = m))) ∧ ∃ n, w' = w.drewN n := by
  obtain ⟨a, cap, rfl, h1, hl, h3, HC⟩ := hv.open
  obtain ⟨a', cap', rfl, h1', hl', h3', HD⟩ := hu.open
  have HC' := hid HC
  have HD' := hid HD
  clear HC hv h3 HD hu h3'
  by_cases hlen : l.length = m.length
  · have hne : (((l.length : Nat) : Int) != (m.length : Int)) = false := by simp [hlen]
    have HL := hid hlen
    clear hlen
    go_enter Tryz.func88, Tryz.ntmps88
    go_wp2
    go_loopw [13] (fun i wr => ∃ k q : Nat, k ≤ l.length ∧ i = .int .i64 k ∧ wr = w.drewN q ∧ l.take k = m.take k) (fun i _ => l.length - (intOf i).toNat)
    case atStart => exact ⟨0, 0, by omega, rfl, rfl, by simp⟩
    case round =>
      obtain ⟨k, q, hk, rfl, rfl, hrel⟩ := hrel
      have HR := hid hrel
      clear hrel
      by_cases hlt : k < l.length
      · obtain ⟨b, o, rfl, hcell⟩ := HC'.out k hlt
        have hlt' : k < m.length := by have := HL.out; omega
        obtain ⟨b', o', rfl, hcell'⟩ := HD'.out k hlt'
        have HT1 := hid (List.take_succ_eq_append_getElem hlt)
        have HT2 := hid (List.take_succ_eq_append_getElem hlt')
        have HG1 := hid (List.getElem?_eq_getElem hlt)
        have HG2 := hid (List.getElem?_eq_getElem hlt')
        obtain ⟨x, hx⟩ : ∃ x, l[k] = x := ⟨_, rfl⟩
        obtain ⟨y, hy⟩ : ∃ y, m[k] = y := ⟨_, rfl⟩
        rw [hx] at hcell HT1 HG1
        rw [hy] at hcell' HT2 HG2
        clear hx hy
        by_cases h2 : x = y
        · have HE := hid h2
          have q2 : (x.toList == y.toList) = true := by rw [bytes_eq]; simpa using h2
          have q3 : (x.toList != y.toList) = false := by rw [bne, q2]; rfl
          clear h2
          go_wp2
          go_quiet (fail)
          go_wp2
          go_roundw
          case rel => exact ⟨k + 1, _, by omega, by go_num, (by first | rfl | exact World.drewN_drewN _ _ _), by rw [HT1.out, HT2.out, HR.out, HE.out]⟩
          case measure => simp [intOf]; omega
        · have q2 : (x.toList == y.toList) = false := by rw [bytes_eq]; simpa using h2
          have q3 : (x.toList != y.toList) = true := by rw [bne, q2]; rfl
          have HF : Hid (decide (l = m) = false) := hid (by
            rw [decide_eq_false_iff_not]
            rintro rfl
            have := HG1.out.symm.trans HG2.out
            cases this
            exact h2 rfl)
          clear h2
          go_wp2
          go_quiet (fail)
          go_wp2
          go_ret
          exact ⟨ret_bool HF.out.symm, _, (by first | rfl | exact World.drewN_drewN _ _ _)⟩
      · have HF : Hid (decide (l = m) = true) := hid (by
          have h1 := HR.out
          have h2 := HL.out
          rw [List.take_of_length_le (by omega), List.take_of_length_le (by omega)] at h1
          simp [h1])
        go_wp2
        go_ret
        exact ⟨ret_bool HF.out.symm, _, rfl⟩
  · have hne : (((l.length : Nat) : Int) != (m.length : Int)) = true := by simp; omega
    have HF : Hid (decide (l = m) = false) := hid (by rw [decide_eq_false_iff_not]; rintro rfl; exact hlen rfl)
    clear hlen
    go_enter Tryz.func88, Tryz.ntmps88
    go_wp2
    go_ret
    exact ⟨ret_bool HF.out.symm, 0, rfl⟩
set_option maxHeartbeats 1000000 in
theorem sl_EqualP (v u : Value) (l m : List St) (w : World) (hv : StepsAt w v l) (hu : StepsAt w u m) :
    Calls Tryz.prog 89 #[v, u] w fun e w' => e = .returned (.bool (decide (l = m))) ∧ ∃ n, w' = w.drewN n := by
  obtain ⟨a, cap, rfl, h1, hl, h3, HC⟩ := hv.open
  obtain ⟨a', cap', rfl, h1', hl', h3', HD⟩ := hu.open
  have HC' := hid HC
  have HD' := hid HD
  clear HC hv h3 HD hu h3'
  by_cases hlen : l.length = m.length
  · have hne : (((l.length : Nat) : Int) != (m.length : Int)) = false := by simp [hlen]
    have HL := hid hlen
    clear hlen
    go_enter Tryz.func89, Tryz.ntmps89
    go_wp2
    go_loopw [13] (fun i wr => ∃ k q : Nat, k ≤ l.length ∧ i = .int .i64 k ∧ wr = w.drewN q ∧ l.take k = m.take k) (fun i _ => l.length - (intOf i).toNat)
    case atStart => exact ⟨0, 0, by omega, rfl, rfl, by simp⟩
    case round =>
      obtain ⟨k, q, hk, rfl, rfl, hrel⟩ := hrel
      have HR := hid hrel
      clear hrel
      by_cases hlt : k < l.length
      · obtain ⟨b, o, rfl, c0, c1, c2⟩ := HC'.out k hlt
        have hlt' : k < m.length := by have := HL.out; omega
        obtain ⟨b', o', rfl, d0, d1, d2⟩ := HD'.out k hlt'
        have HT1 := hid (List.take_succ_eq_append_getElem hlt)
        have HT2 := hid (List.take_succ_eq_append_getElem hlt')
        have HG1 := hid (List.getElem?_eq_getElem hlt)
        have HG2 := hid (List.getElem?_eq_getElem hlt')
        obtain ⟨⟨x0, x1, x2⟩, hx⟩ : ∃ x, l[k] = x := ⟨_, rfl⟩
        obtain ⟨⟨y0, y1, y2⟩, hy⟩ : ∃ y, m[k] = y := ⟨_, rfl⟩
        rw [hx] at c0 c1 c2 HT1 HG1
        rw [hy] at d0 d1 d2 HT2 HG2
        simp only at c0 c1 c2 d0 d1 d2
        clear hx hy
        by_cases e0 : x0 = y0
        · have q0 : (x0 == y0) = true := by simpa using e0
          by_cases e1 : x1 = y1
          · have q1 : (x1 == y1) = true := by simpa using e1
            by_cases e2 : x2 = y2
            · have q2 : (x2 == y2) = true := by simpa using e2
              have E0 := hid e0
              have E1 := hid e1
              have E2 := hid e2
              clear e0 e1 e2
              go_wp2
              go_quiet (fail)
              go_wp2
              go_roundw
              case rel => exact ⟨k + 1, _, by omega, by go_num, (by first | rfl | exact World.drewN_drewN _ _ _), by rw [HT1.out, HT2.out, HR.out, E0.out, E1.out, E2.out]⟩
              case measure => simp [intOf]; omega
            · have q2 : (x2 == y2) = false := by simpa using e2
              have HF : Hid (decide (l = m) = false) := hid (by
                rw [decide_eq_false_iff_not]
                rintro rfl
                have := HG1.out.symm.trans HG2.out
                cases this
                exact e2 rfl)
              clear e0 e1 e2
              go_wp2
              go_quiet (fail)
              go_wp2
              go_ret
              exact ⟨ret_bool HF.out.symm, _, (by first | rfl | exact World.drewN_drewN _ _ _)⟩
          · have q1 : (x1 == y1) = false := by simpa using e1
            have HF : Hid (decide (l = m) = false) := hid (by
              rw [decide_eq_false_iff_not]
              rintro rfl
              have := HG1.out.symm.trans HG2.out
              cases this
              exact e1 rfl)
            clear e0 e1
            go_wp2
            go_quiet (fail)
            go_wp2
            go_ret
            exact ⟨ret_bool HF.out.symm, _, (by first | rfl | exact World.drewN_drewN _ _ _)⟩
        · have q0 : (x0 == y0) = false := by simpa using e0
          have HF : Hid (decide (l = m) = false) := hid (by
            rw [decide_eq_false_iff_not]
            rintro rfl
            have := HG1.out.symm.trans HG2.out
            cases this
            exact e0 rfl)
          clear e0
          go_wp2
          go_quiet (fail)
          go_wp2
          go_ret
          exact ⟨ret_bool HF.out.symm, _, (by first | rfl | exact World.drewN_drewN _ _ _)⟩
      · have HF : Hid (decide (l = m) = true) := hid (by
          have h1 := HR.out
          have h2 := HL.out
          rw [List.take_of_length_le (by omega), List.take_of_length_le (by omega)] at h1
          simp [h1])
        go_wp2
        go_ret
        exact ⟨ret_bool HF.out.symm, _, rfl⟩
  · have hne : (((l.length : Nat) : Int) != (m.length : Int)) = true := by simp; omega
    have HF : Hid (decide (l = m) = false) := hid (by rw [decide_eq_false_iff_not]; rintro rfl; exact hlen rfl)
    clear hlen
    go_enter Tryz.func89, Tryz.ntmps89
    go_wp2
    go_ret
    exact ⟨ret_bool HF.out.symm, 0, rfl⟩
set_option maxHeartbeats 2000000 in
theorem blame_Same (vS vU vP uS uU uP : Value) (x y : En) (w : World) (hx : EntAt w vS vU vP x) (hy : EntAt w uS uU uP y) :
    Calls Tryz.prog 35 #[.agg #[.string x.name, .string x.who, vS, vU, vP], .agg #[.string y.name, .string y.who, uS, uU, uP]] w fun e w' => e = .returned (.bool (decide (x = y))) ∧ Below w.heap.size w w' := by
  have E1 := EB.new w x vS vU vP 41
  have hb1 : Below w.heap.size w (w.alloc (.cells #[.string x.name, .string x.who, vS, vU, vP] 41)) := (Below.refl _ _).alloc (Nat.le_refl _) _
  obtain ⟨V, hV⟩ : ∃ V, w.alloc (.cells #[.string x.name, .string x.who, vS, vU, vP] 41) = V := ⟨_, rfl⟩
  have hVz : V.heap.size = w.heap.size + 1 := by rw [← hV]; simp
  rw [hV] at E1 hb1
  have E2 := EB.new V y uS uU uP 41
  have hb2 : Below V.heap.size V (V.alloc (.cells #[.string y.name, .string y.who, uS, uU, uP] 41)) := (Below.refl _ _).alloc (Nat.le_refl _) _
  have E1' := E1.below hb2
  obtain ⟨W, hW⟩ : ∃ W, V.alloc (.cells #[.string y.name, .string y.who, uS, uU, uP] 41) = W := ⟨_, rfl⟩
  rw [hW] at E2 E1' hb2
  have hb : Below w.heap.size w W := hb1.trans (hb2.mono hb1.size)
  rw [hVz] at E2
  have HWE : Hid ((w.alloc (.cells #[.string x.name, .string x.who, vS, vU, vP] 41)).alloc (.cells #[.string y.name, .string y.who, uS, uU, uP] 41) = W) := hid (by rw [hV, hW])
  have H1 := hid E1'
  have H2 := hid E2
  have HX := hid (show EntAt W vS vU vP x from (hx.below hb))
  have HY := hid (show EntAt W uS uU uP y from (hy.below hb))
  have HB := hid hb
  clear E1 E1' E2 hb1 hb2 hx hy hb hV hW hVz
  by_cases e0 : x.name = y.name
  case neg =>
    have HF := hid (en_no (Or.inl e0))
    have q0 : (x.name.toList == y.name.toList) = false := by rw [bytes_eq]; simpa using e0
    clear e0
    go_enter Tryz.func35, Tryz.ntmps35
    go_wp2
    rw [HWE.out]
    go_ret
    exact ⟨ret_bool HF.out.symm, HB.out⟩
  have q0 : (x.name.toList == y.name.toList) = true := by rw [bytes_eq]; simpa using e0
  have E0 := hid e0
  clear e0
  by_cases e1 : x.who = y.who
  case neg =>
    have HF := hid (en_no (Or.inr (Or.inl e1)))
    have q1 : (x.who.toList == y.who.toList) = false := by rw [bytes_eq]; simpa using e1
    clear e1
    go_enter Tryz.func35, Tryz.ntmps35
    go_wp2
    rw [HWE.out]
    go_ret
    exact ⟨ret_bool HF.out.symm, HB.out⟩
  have q1 : (x.who.toList == y.who.toList) = true := by rw [bytes_eq]; simpa using e1
  have E1 := hid e1
  clear e1
  go_enter Tryz.func35, Tryz.ntmps35
  go_wp2_with fail
  rw [HWE.out]
  refine (sl_EqualT vS uS x.says y.says W HX.out.s HY.out.s).mono ?_
  rintro e w1 ⟨rfl, n1, hw1⟩
  have hb1 : Below W.heap.size W w1 := hw1 ▸ below_self_drewN W n1
  clear hw1
  have HBa := hid (HB.out.trans (hb1.mono HB.out.size))
  by_cases e2 : x.says = y.says
  case neg =>
    have HF := hid (en_no (Or.inr (Or.inr (Or.inl e2))))
    rw [decide_eq_false e2]
    clear e2
    go_wp2
    go_ret
    exact ⟨ret_bool HF.out.symm, HBa.out⟩
  rw [decide_eq_true e2]
  have E2 := hid e2
  clear e2
  obtain ⟨c0, c1, c2, c3, c4⟩ := H1.out.below hb1
  obtain ⟨d0, d1, d2, d3, d4⟩ := H2.out.below hb1
  have HX1 := hid (HX.out.below hb1)
  have HY1 := hid (HY.out.below hb1)
  clear hb1
  go_wp2_with fail
  refine (sl_EqualN vU uU x.uses y.uses w1 HX1.out.u HY1.out.u).mono ?_
  rintro e w2 ⟨rfl, n2, hw2⟩
  have hb2 : Below w1.heap.size w1 w2 := hw2 ▸ below_self_drewN w1 n2
  clear hw2
  have HBb := hid (HBa.out.trans (hb2.mono HBa.out.size))
  by_cases e3 : x.uses = y.uses
  case neg =>
    have HF := hid (en_no (Or.inr (Or.inr (Or.inr (Or.inl e3)))))
    rw [decide_eq_false e3]
    clear e3
    go_wp2
    go_ret
    exact ⟨ret_bool HF.out.symm, HBb.out⟩
  rw [decide_eq_true e3]
  have E3 := hid e3
  clear e3
  have k1 := EB.below (x := x) ⟨c0, c1, c2, c3, c4⟩ hb2
  have k2 := EB.below (x := y) ⟨d0, d1, d2, d3, d4⟩ hb2
  clear c0 c1 c2 c3 c4 d0 d1 d2 d3 d4
  obtain ⟨c0, c1, c2, c3, c4⟩ := k1
  obtain ⟨d0, d1, d2, d3, d4⟩ := k2
  have HX2 := hid (HX1.out.below hb2)
  have HY2 := hid (HY1.out.below hb2)
  clear hb2
  go_wp2_with fail
  refine (sl_EqualP vP uP x.proof y.proof w2 HX2.out.p HY2.out.p).mono ?_
  rintro e w3 ⟨rfl, n3, hw3⟩
  have HBc := hid (show Below w.heap.size w w3 from hw3 ▸ below_drewN HBb.out n3)
  have HF : Hid (decide (x = y) = decide (x.proof = y.proof)) := hid (by
    rw [Bool.eq_iff_iff, decide_eq_true_eq, decide_eq_true_eq, En.ext_iff']
    exact ⟨fun h => h.2.2.2.2, fun h => ⟨E0.out, E1.out, E2.out, E3.out, h⟩⟩)
  clear hw3
  go_wp2
  go_ret
  exact ⟨ret_bool HF.out.symm, HBc.out⟩
end Go.Proofs.YtlbjbmpkaniojaaGreat
