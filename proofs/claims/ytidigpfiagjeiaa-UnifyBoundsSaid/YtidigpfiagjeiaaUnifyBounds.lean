/-
  WHAT IT HOLDS: the walk of the law UnifyBounds.
-/
import Derived.Test.YtidigpfiagjeiaaAwk2
import Derived.Test.YtidigpfiagjeiaaRow2
import Derived.Test.YtidigpfiagjeiaaBnd
namespace Go.Proofs.Ytidigpfiagjeiaa
open Go Go.RowKit Go.Maps
theorem chainB {P : Program} {f : FuncId} {args : Array Value} {WB W : World} {R : Ending → Prop} (hb : Below WB.heap.size WB W) (h : Calls P f args W fun e w' => R e ∧ Below W.heap.size W w') : Calls P f args W fun e w' => R e ∧ Below WB.heap.size WB w' :=
  h.mono fun _ _ ⟨h1, h2⟩ => ⟨h1, hb.trans (h2.mono hb.size)⟩
theorem MeetR_len {s : Sg} {a b : List Int} {x : List Int × Int} (h : MeetR s a b x) : x.1.length ≤ 60 := by
  unfold MeetR at h
  split at h
  · rcases h with ⟨_, rfl⟩ | ⟨m, _, ⟨hb, rfl⟩ | ⟨_, rfl⟩⟩
    · simp
    · simp only [canonL_len]; exact (madeB_iff.1 hb).1
    · simp
  · rw [h]; simp
theorem JoinR_len {s : Sg} {a b : List Int} {x : List Int × Int} (h : JoinR s a b x) : x.1.length ≤ 60 := by
  unfold JoinR at h
  rw [h]
  split
  · rename_i hv
    simp only [Bool.and_eq_true] at hv
    have := (termB_facts hv.1).2.2.2
    have := (comW_len s a b []).1
    split
    · simp only [canonL_len]; omega
    · simp
  · simp
theorem meets_true {s : Sg} {a b : List Int} {z : Bool} {x : List Int × Int} (h : MeetsA s a b z) (hx : MeetR s a b x) (hn : ¬ NoU s a (aparL b)) (hv : termB s a = true) (hv' : termB s b = true) : z = true := h.2 ⟨hv, hv', hn⟩
set_option maxHeartbeats 4000000 in
set_option maxRecDepth 100000 in
theorem walk_UnifyBounds (vs v0 v1 v2 : Value) (s : Sg) (l0 l1 l2 : List Int) (w : World) (hs : SignAt w vs s) (h0 : Ints w v0 l0) (h1 : Ints w v1 l1) (h2 : Ints w v2 l2) :
    Calls Try.prog 3 #[vs, .agg #[v0, v1, v2]] w fun e w' => e = .returned (.bool true) ∧ Below w.heap.size w w' := by
  obtain ⟨a0, k0, he0, -⟩ := h0.open
  obtain ⟨a1, k1, he1, -⟩ := h1.open
  obtain ⟨a2, k2, he2, -⟩ := h2.open
  subst he0 he1 he2
  obtain ⟨W, hW⟩ : ∃ W, w.alloc (.cells #[.slice a0 l0.length k0, .slice a1 l1.length k1, .slice a2 l2.length k2] 26) = W := ⟨_, rfl⟩
  have hb : Below w.heap.size w W := hW ▸ (Below.refl _ _).alloc (Nat.le_refl _) _
  have c0 : W.cell? ⟨w.heap.size, 0, none⟩ = some (.slice a0 l0.length k0) := by rw [← hW, World.cell?_alloc_new]; rfl
  have c1 : W.cell? ⟨w.heap.size, 1, none⟩ = some (.slice a1 l1.length k1) := by rw [← hW, World.cell?_alloc_new]; rfl
  have c2 : W.cell? ⟨w.heap.size, 2, none⟩ = some (.slice a2 l2.length k2) := by rw [← hW, World.cell?_alloc_new]; rfl
  have q0 := h0.below hb
  have q1 := h1.below hb
  have q2 := h2.below hb
  have qs := hs.below hb
  have HT := hid (terms_lit3 q0 q1 q2 25)
  have hb2 : Below W.heap.size W (W.alloc (.cells #[.slice a0 l0.length k0, .slice a1 l1.length k1, .slice a2 l2.length k2] 25)) := (Below.refl _ _).alloc (Nat.le_refl _) _
  have HSM := hid (law1_Small vs _ s _ _ (qs.below hb2) HT.out)
  have HB := hid hb
  have HB2 := hid hb2
  clear HT hb hb2 hs h0 h1 h2
  go_enter Try.func3, Try.ntmps3
  go_wp2_with fail
  refine HSM.out.mono ?_
  rintro e w1 ⟨rfl, rfl⟩
  cases hsm : smallB s [l0, l1, l2]
  · clear hW
    go_wp2_with fail
    refine (law2_awake _).mono ?_
    rintro e w2 ⟨rfl, hb3⟩
    have HB3 := hid (HB.out.trans ((HB2.out.trans (hb3.mono HB2.out.size)).mono HB.out.size))
    clear hb3
    go_wp2
    go_ret
    exact ⟨rfl, HB3.out⟩
  · have hs40 : s.length ≤ 1000 := by simp [smallB] at hsm; omega
    clear hsm
    obtain ⟨W2, hW2⟩ : ∃ W2, W.alloc (.cells #[.slice a0 l0.length k0, .slice a1 l1.length k1, .slice a2 l2.length k2] 25) = W2 := ⟨_, rfl⟩
    have hB2 := HB2.out
    rw [hW2] at hB2
    have HI := hid (fun (X : World) (hX : Below W.heap.size W X) (u v : Value) (a b : List Int) (ra : Ints X u a) (rb : Ints X v b) => chainB hX (unify_Instance vs u v s a b X (qs.below hX) ra rb hs40))
    have HM := hid (fun (X : World) (hX : Below W.heap.size W X) => unify_Meet vs _ _ s l0 l1 X (qs.below hX) (q0.below hX) (q1.below hX) hs40)
    have HN := hid (fun (X : World) (hX : Below W.heap.size W X) => unify_Meets vs _ _ s l0 l1 X (qs.below hX) (q0.below hX) (q1.below hX) hs40)
    have HJ := hid (fun (X : World) (hX : Below W.heap.size W X) => unify_Join vs _ _ s l0 l1 X (qs.below hX) (q0.below hX) (q1.below hX) hs40)
    have HW := hid (fun (X : World) (hX : Below W.heap.size W X) => chainB hX (law2_awake X))
    have C0 := hid (fun (X : World) (hX : Below W.heap.size W X) => (hX.cell (World.block_lt_of_cell? _ _ c0)).trans c0)
    have C1 := hid (fun (X : World) (hX : Below W.heap.size W X) => (hX.cell (World.block_lt_of_cell? _ _ c1)).trans c1)
    have C2 := hid (fun (X : World) (hX : Below W.heap.size W X) => (hX.cell (World.block_lt_of_cell? _ _ c2)).trans c2)
    have Q0 := hid q0
    have Q1 := hid q1
    have Q2 := hid q2
    have PM := hid (fun x (hx : MeetR s l0 l1 x) (h : instB s l0 l2 = true) (k : instB s l1 l2 = true) => bounds_meet h k hx)
    have PJ := hid (fun x (hx : JoinR s l0 l1 x) (h : instB s l2 l0 = true) (k : instB s l2 l1 = true) => bounds_join h k hx)
    have d0 := C0.out _ hB2
    have d1 := C1.out _ hB2
    have d2 := C2.out _ hB2
    have HBW2 := hid hB2
    clear HSM hW HB2 q0 q1 q2 qs c0 c1 c2 hB2
    go_wp2_with fail
    clear hW2
    refine (HI.out _ HBW2.out _ _ _ _ (Q0.out.below HBW2.out) (Q2.out.below HBW2.out)).mono ?_
    rintro e w11 ⟨rfl, hb11⟩
    have d0 := C0.out _ hb11
    have d1 := C1.out _ hb11
    have d2 := C2.out _ hb11
    generalize hx11 : instB s l0 l2 = b11
    have H11 := hid hx11
    have HBX := hid hb11
    clear hx11 hb11
    cases b11
    case' true =>
      go_wp2_with fail
      refine (HI.out _ HBX.out _ _ _ _ (Q1.out.below HBX.out) (Q2.out.below HBX.out)).mono ?_
      rintro e w12 ⟨rfl, hb12⟩
      have d0 := C0.out _ hb12
      have d1 := C1.out _ hb12
      have d2 := C2.out _ hb12
      generalize hx12 : instB s l1 l2 = b12
      have H12 := hid hx12
      have HBX := hid hb12
      clear hx12 hb12
      cases b12
      case' true =>
        go_wp2_with fail
        refine (HM.out _ HBX.out).mono ?_
        rintro e w13 ⟨x, u, hx, rfl, hown, hb13'⟩
        obtain ⟨hno, hxx⟩ := PM.out x hx H11.out H12.out
        have hb13 := HBX.out.trans (hb13'.mono HBX.out.size)
        have hxl := MeetR_len hx
        have IM := Ints.of_owns hown (by omega)
        obtain ⟨x1, x2⟩ := x
        simp only at hxx hown hxl IM
        obtain ⟨ua, uc, hue, -⟩ := IM.open
        subst hue
        have IM := hid IM
        have HBX := hid hb13
        have d0 := C0.out _ hb13
        have d1 := C1.out _ hb13
        have d2 := C2.out _ hb13
        have HNO := hid hno
        have HX := hid hx
        clear hb13' hb13 hown hno hx
        rcases hxx with ⟨hx0, hxi⟩ | hx4
        · subst hx0
          have HXI := hid hxi
          clear hxi
          go_wp2_with fail
          refine (HN.out _ HBX.out).mono ?_
          rintro e w14 ⟨z, hz, rfl, hb14'⟩
          have hz1 := meets_true hz HX.out HNO.out (instB_iff.1 H11.out).1 (instB_iff.1 H12.out).1
          subst hz1
          have hb14 := HBX.out.trans (hb14'.mono HBX.out.size)
          have IM := hid (IM.out.below hb14')
          have HBX := hid hb14
          clear hz hb14 hb14'
          have d0 := C0.out _ HBX.out
          have d1 := C1.out _ HBX.out
          have d2 := C2.out _ HBX.out
          go_wp2_with fail
          refine (HI.out _ HBX.out _ _ _ _ IM.out (Q2.out.below HBX.out)).mono ?_
          rintro e w15 ⟨rfl, hb15⟩
          rw [HXI.out]
          have d0 := C0.out _ hb15
          have d1 := C1.out _ hb15
          have d2 := C2.out _ hb15
          have HBX := hid hb15
          clear hb15
          go_wp2_with fail
          refine (HI.out _ HBX.out _ _ _ _ (Q2.out.below HBX.out) (Q0.out.below HBX.out)).mono ?_
          rintro e w21 ⟨rfl, hb21⟩
          have d0 := C0.out _ hb21
          have d1 := C1.out _ hb21
          have d2 := C2.out _ hb21
          generalize hx21 : instB s l2 l0 = b21
          have H21 := hid hx21
          have HBX := hid hb21
          clear hx21 hb21
          cases b21
          case' true =>
            go_wp2_with fail
            refine (HI.out _ HBX.out _ _ _ _ (Q2.out.below HBX.out) (Q1.out.below HBX.out)).mono ?_
            rintro e w22 ⟨rfl, hb22⟩
            have d0 := C0.out _ hb22
            have d1 := C1.out _ hb22
            have d2 := C2.out _ hb22
            generalize hx22 : instB s l2 l1 = b22
            have H22 := hid hx22
            have HBX := hid hb22
            clear hx22 hb22
            cases b22
            case' true =>
              go_wp2_with fail
              refine (HJ.out _ HBX.out).mono ?_
              rintro e w23 ⟨y, uy, hy, rfl, hown, hb23'⟩
              have hyy := PJ.out y hy H21.out H22.out
              have hb23 := HBX.out.trans (hb23'.mono HBX.out.size)
              have hyl := JoinR_len hy
              have IJ := Ints.of_owns hown (by omega)
              obtain ⟨y1, y2⟩ := y
              simp only at hyy hown hyl IJ
              obtain ⟨ya, yc, hye, -⟩ := IJ.open
              subst hye
              have IJ := hid IJ
              have HBX := hid hb23
              have d0 := C0.out _ hb23
              have d1 := C1.out _ hb23
              have d2 := C2.out _ hb23
              clear hb23' hb23 hown hy
              rcases hyy with ⟨hy0, hyi⟩ | hy4
              · subst hy0
                have HYI := hid hyi
                clear hyi
                go_wp2_with fail
                refine (HI.out _ HBX.out _ _ _ _ (Q2.out.below HBX.out) IJ.out).mono ?_
                rintro e w25 ⟨rfl, hb25⟩
                rw [HYI.out]
                have HBX := hid hb25
                clear hb25
                go_wp2_with fail
                refine (HW.out _ HBX.out).mono ?_
                rintro e w26 ⟨rfl, hb26⟩
                go_wp2
                go_ret
                exact ⟨rfl, HB.out.trans (hb26.mono HB.out.size)⟩
              · subst hy4
                go_wp2_with fail
                refine (HW.out _ HBX.out).mono ?_
                rintro e w26 ⟨rfl, hb26⟩
                go_wp2
                go_ret
                exact ⟨rfl, HB.out.trans (hb26.mono HB.out.size)⟩
          all_goals
            go_wp2_with fail
            refine (HW.out _ HBX.out).mono ?_
            rintro e w26 ⟨rfl, hb26⟩
            go_wp2
            go_ret
            exact ⟨rfl, HB.out.trans (hb26.mono HB.out.size)⟩
        · subst hx4
          go_wp2_with fail
          refine (HN.out _ HBX.out).mono ?_
          rintro e w14 ⟨z, hz, rfl, hb14'⟩
          have hz1 := meets_true hz HX.out HNO.out (instB_iff.1 H11.out).1 (instB_iff.1 H12.out).1
          subst hz1
          have hb14 := HBX.out.trans (hb14'.mono HBX.out.size)
          have HBX := hid hb14
          clear hz hb14 hb14'
          have d0 := C0.out _ HBX.out
          have d1 := C1.out _ HBX.out
          have d2 := C2.out _ HBX.out
          go_wp2_with fail
          refine (HI.out _ HBX.out _ _ _ _ (Q2.out.below HBX.out) (Q0.out.below HBX.out)).mono ?_
          rintro e w21 ⟨rfl, hb21⟩
          have d0 := C0.out _ hb21
          have d1 := C1.out _ hb21
          have d2 := C2.out _ hb21
          generalize hx21 : instB s l2 l0 = b21
          have H21 := hid hx21
          have HBX := hid hb21
          clear hx21 hb21
          cases b21
          case' true =>
            go_wp2_with fail
            refine (HI.out _ HBX.out _ _ _ _ (Q2.out.below HBX.out) (Q1.out.below HBX.out)).mono ?_
            rintro e w22 ⟨rfl, hb22⟩
            have d0 := C0.out _ hb22
            have d1 := C1.out _ hb22
            have d2 := C2.out _ hb22
            generalize hx22 : instB s l2 l1 = b22
            have H22 := hid hx22
            have HBX := hid hb22
            clear hx22 hb22
            cases b22
            case' true =>
              go_wp2_with fail
              refine (HJ.out _ HBX.out).mono ?_
              rintro e w23 ⟨y, uy, hy, rfl, hown, hb23'⟩
              have hyy := PJ.out y hy H21.out H22.out
              have hb23 := HBX.out.trans (hb23'.mono HBX.out.size)
              have hyl := JoinR_len hy
              have IJ := Ints.of_owns hown (by omega)
              obtain ⟨y1, y2⟩ := y
              simp only at hyy hown hyl IJ
              obtain ⟨ya, yc, hye, -⟩ := IJ.open
              subst hye
              have IJ := hid IJ
              have HBX := hid hb23
              have d0 := C0.out _ hb23
              have d1 := C1.out _ hb23
              have d2 := C2.out _ hb23
              clear hb23' hb23 hown hy
              rcases hyy with ⟨hy0, hyi⟩ | hy4
              · subst hy0
                have HYI := hid hyi
                clear hyi
                go_wp2_with fail
                refine (HI.out _ HBX.out _ _ _ _ (Q2.out.below HBX.out) IJ.out).mono ?_
                rintro e w25 ⟨rfl, hb25⟩
                rw [HYI.out]
                have HBX := hid hb25
                clear hb25
                go_wp2_with fail
                refine (HW.out _ HBX.out).mono ?_
                rintro e w26 ⟨rfl, hb26⟩
                go_wp2
                go_ret
                exact ⟨rfl, HB.out.trans (hb26.mono HB.out.size)⟩
              · subst hy4
                go_wp2_with fail
                refine (HW.out _ HBX.out).mono ?_
                rintro e w26 ⟨rfl, hb26⟩
                go_wp2
                go_ret
                exact ⟨rfl, HB.out.trans (hb26.mono HB.out.size)⟩
          all_goals
            go_wp2_with fail
            refine (HW.out _ HBX.out).mono ?_
            rintro e w26 ⟨rfl, hb26⟩
            go_wp2
            go_ret
            exact ⟨rfl, HB.out.trans (hb26.mono HB.out.size)⟩
    all_goals
      go_wp2_with fail
      refine (HI.out _ HBX.out _ _ _ _ (Q2.out.below HBX.out) (Q0.out.below HBX.out)).mono ?_
      rintro e w21 ⟨rfl, hb21⟩
      have d0 := C0.out _ hb21
      have d1 := C1.out _ hb21
      have d2 := C2.out _ hb21
      generalize hx21 : instB s l2 l0 = b21
      have H21 := hid hx21
      have HBX := hid hb21
      clear hx21 hb21
      cases b21
      case' true =>
        go_wp2_with fail
        refine (HI.out _ HBX.out _ _ _ _ (Q2.out.below HBX.out) (Q1.out.below HBX.out)).mono ?_
        rintro e w22 ⟨rfl, hb22⟩
        have d0 := C0.out _ hb22
        have d1 := C1.out _ hb22
        have d2 := C2.out _ hb22
        generalize hx22 : instB s l2 l1 = b22
        have H22 := hid hx22
        have HBX := hid hb22
        clear hx22 hb22
        cases b22
        case' true =>
          go_wp2_with fail
          refine (HJ.out _ HBX.out).mono ?_
          rintro e w23 ⟨y, uy, hy, rfl, hown, hb23'⟩
          have hyy := PJ.out y hy H21.out H22.out
          have hb23 := HBX.out.trans (hb23'.mono HBX.out.size)
          have hyl := JoinR_len hy
          have IJ := Ints.of_owns hown (by omega)
          obtain ⟨y1, y2⟩ := y
          simp only at hyy hown hyl IJ
          obtain ⟨ya, yc, hye, -⟩ := IJ.open
          subst hye
          have IJ := hid IJ
          have HBX := hid hb23
          have d0 := C0.out _ hb23
          have d1 := C1.out _ hb23
          have d2 := C2.out _ hb23
          clear hb23' hb23 hown hy
          rcases hyy with ⟨hy0, hyi⟩ | hy4
          · subst hy0
            have HYI := hid hyi
            clear hyi
            go_wp2_with fail
            refine (HI.out _ HBX.out _ _ _ _ (Q2.out.below HBX.out) IJ.out).mono ?_
            rintro e w25 ⟨rfl, hb25⟩
            rw [HYI.out]
            have HBX := hid hb25
            clear hb25
            go_wp2_with fail
            refine (HW.out _ HBX.out).mono ?_
            rintro e w26 ⟨rfl, hb26⟩
            go_wp2
            go_ret
            exact ⟨rfl, HB.out.trans (hb26.mono HB.out.size)⟩
          · subst hy4
            go_wp2_with fail
            refine (HW.out _ HBX.out).mono ?_
            rintro e w26 ⟨rfl, hb26⟩
            go_wp2
            go_ret
            exact ⟨rfl, HB.out.trans (hb26.mono HB.out.size)⟩
      all_goals
        go_wp2_with fail
        refine (HW.out _ HBX.out).mono ?_
        rintro e w26 ⟨rfl, hb26⟩
        go_wp2
        go_ret
        exact ⟨rfl, HB.out.trans (hb26.mono HB.out.size)⟩
end Go.Proofs.Ytidigpfiagjeiaa
