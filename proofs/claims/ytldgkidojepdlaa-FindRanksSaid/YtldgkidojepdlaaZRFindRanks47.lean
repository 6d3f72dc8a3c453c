/-
  WHAT IT HOLDS: the walk of the law FindRanks, with its plain law on closeness.
-/
import Derived.Test.YtldgkidojepdlaaZRFindRanks46
import Derived.Test.YtldgkidojepdlaaZRFindRanks36
import Derived.Test.YtldgkidojepdlaaZRFindRanks19
import Derived.Test.YtldgkidojepdlaaZRFindRanks34
import Derived.Test.YtldgkidojepdlaaZRFindRanks40
import Derived.Test.YtldgkidojepdlaaZRFindRanks2
namespace Go.Proofs.Ytldgkidojepdlaa
open Go Go.RowKit Go.Maps
theorem symN_append (a b : List Int) : symN (a ++ b) = symN a + symN b := by simp [symN, List.filter_append]
theorem symN_sub (σ : Int → List Int) : ∀ (a : List Int), symN a ≤ symN (subL σ a)
  | [] => Nat.zero_le _
  | n :: a => by
    have ih := symN_sub σ a
    by_cases h : n < 0
    · rw [subL_cons_var σ h, symN_append]
      have : symN (n :: a) = symN a := by simp [symN, show ¬ (0 : Int) ≤ n from by omega]
      omega
    · rw [subL_cons_app σ (by omega)]
      have e1 : ∀ l, symN (n :: l) = symN l + 1 := fun l => by simp [symN, show (0 : Int) ≤ n from by omega]
      rw [e1, e1]; omega
theorem symN_inst {s : Sg} {q : Int} {a b : List Int} (h : Inst s q a b) : symN a ≤ symN b := by
  obtain ⟨σ, -, rfl⟩ := h
  exact symN_sub σ a
theorem clos_swap (s : Sg) (a b : List Int) : closN s b a = closN s a b := by unfold closN; rw [comW_swap]
theorem clos_le1 {s : Sg} (hs : s.length ≤ 12) {a b : List Int} (ha : IsT s 12 a) (hb : IsT s 12 b) (hl : a.length ≤ 60) : closN s a b ≤ symN a := symN_inst (join_facts hs ha hb hl).2.1
theorem clos_le2 {s : Sg} (hs : s.length ≤ 12) {a b : List Int} (ha : IsT s 12 a) (hb : IsT s 12 b) (hl : a.length ≤ 60) : closN s a b ≤ symN b := symN_inst (join_facts hs ha hb hl).2.2.1
theorem clos_inst {s : Sg} {x q : List Int} (h : instB s q x = true) : closN s x q = symN q := by
  obtain ⟨h1, h2, h3⟩ := instB_iff.1 h
  obtain ⟨-, -, hs, hx⟩ := termB_facts h2
  have hT1 := termB_T h1
  have hT2 := termB_T h2
  have hj := join_facts hs hT2 hT1 hx
  have g1 := symN_inst (hj.2.2.2 q h3 (Inst.refl hT1))
  have g2 := clos_le2 hs hT2 hT1 hx
  unfold closN at g2 ⊢
  omega
theorem closeB_ok {s : Sg} {t q : List Int} (h1 : termB s t = true) (h2 : termB s q = true) : closeB s t q = ((closN s t q : Int), 0) := by unfold closeB closN; rw [h1, h2]; rfl
theorem shelf_term {s : Sg} {l : List (List Int)} (h : shelfB s l = true) {n : Nat} (hn : n < l.length) : termB s l[n] = true := by
  unfold shelfB at h
  simp only [Bool.and_eq_true] at h
  have h3 := h.2
  unfold allB at h3
  rw [List.all_eq_true] at h3
  exact h3 _ (List.getElem_mem hn)
set_option maxHeartbeats 8000000 in
set_option maxRecDepth 100000 in
theorem walk_FindRanks (vs vl vq : Value) (s : Sg) (l : List (List Int)) (q : List Int) (w : World) (hs : SignAt w vs s) (hl : Terms w vl l) (hq : Ints w vq q) :
    Calls Try.prog 4 #[vs, vl, vq] w fun e w' => e = .returned (.bool true) ∧ Below w.heap.size w w' := by
  have HL := hid hl
  have HS := hid hs
  have HQ := hid hq
  have HW := hid (fun (X : World) (hX : Below w.heap.size w X) => chainW hX (law5_awake X))
  obtain ⟨la, lc, hle, hl1, hl2, -⟩ := hl.open
  obtain ⟨qa, qcap, hqe, -⟩ := hq.open
  subst hle hqe
  have hb1 : Below w.heap.size w (w.alloc (.cells #[.slice qa q.length qcap] 37)) := (Below.refl _ _).alloc (Nat.le_refl _) _
  have HSM := hid (law1_Small vs _ s _ _ (hs.below hb1) (terms_lit1 hq 37))
  have HFF := hid (law5_Few vs _ s l 70 w hs hl)
  have HB1 := hid hb1
  cases hf : (decide ((l.length : Int) ≤ 70) && smallB s l)
  · rw [hf] at HFF
    clear hf HSM hb1 hs hl hq
    go_enter Try.func4, Try.ntmps4
    go_wp2_with fail
    refine HFF.out.mono ?_
    rintro e w1 ⟨rfl, rfl⟩
    go_wp2_with fail
    refine (HW.out _ (Below.refl _ _)).mono ?_
    rintro e w1 ⟨rfl, hb⟩
    go_wp2
    go_ret
    exact ⟨rfl, hb⟩
  · have hsm : s.length ≤ 40 ∧ l.length ≤ 70 := by
      simp only [Bool.and_eq_true, decide_eq_true_eq, smallB] at hf
      omega
    rw [hf] at HFF
    clear hf
    cases hg : smallB s [q]
    · rw [hg] at HSM
      clear hg hb1 hs hl hq
      go_enter Try.func4, Try.ntmps4
      go_wp2_with fail
      refine HFF.out.mono ?_
      rintro e w1 ⟨rfl, rfl⟩
      go_wp2_with fail
      refine HSM.out.mono ?_
      rintro e w1 ⟨rfl, rfl⟩
      go_wp2_with fail
      refine (HW.out _ HB1.out).mono ?_
      rintro e w1 ⟨rfl, hb⟩
      go_wp2
      go_ret
      exact ⟨rfl, hb⟩
    · rw [hg] at HSM
      obtain ⟨W, hW⟩ : ∃ W, w.alloc (.cells #[.slice qa q.length qcap] 37) = W := ⟨_, rfl⟩
      rw [hW] at HSM HB1
      have HR1 := hid (fun (X : World) (hX : Below w.heap.size w X) => find_RankedF vs _ _ s l q X (hs.below hX) (hl.below hX) (hq.below hX) (by omega))
      have HR2 := hid (fun (X : World) (hX : Below w.heap.size w X) => ref5_Ranked vs _ _ s l q X (hs.below hX) (hl.below hX) (hq.below hX))
      have HI := hid (fun (X : World) (hX : Below w.heap.size w X) => find_Instances vs _ _ s l q (fun t => instB s q t) (fun _ => rfl) X (hs.below hX) (hl.below hX) (hq.below hX) (by omega) (by omega))
      have HCA := hid (fun (X : World) (hX : Below w.heap.size w X) (i : Nat) (u : Value) (hi : i < l.length) (hu : Ints X u l[i]) => find_Closeness vs u _ s l[i] q X (hs.below hX) hu (hq.below hX) (by omega))
      have HCB := hid (fun (X : World) (hX : Below w.heap.size w X) (i : Nat) (u : Value) (hi : i < l.length) (hu : Ints X u l[i]) => ref5_Closeness vs u _ s l[i] q X (hs.below hX) hu (hq.below hX))
      have HCC := hid (fun (X : World) (hX : Below w.heap.size w X) (i : Nat) (u : Value) (hi : i < l.length) (hu : Ints X u l[i]) => find_Closeness vs _ u s q l[i] X (hs.below hX) (hq.below hX) hu (by omega))
      have HW' := hid hW
      clear hg hb1 hs hl hq hW
      go_enter Try.func4, Try.ntmps4
      go_wp2_with fail
      refine HFF.out.mono ?_
      rintro e w1 ⟨rfl, rfl⟩
      go_wp2_with fail
      rw [HW'.out]
      refine HSM.out.mono ?_
      rintro e w1 ⟨rfl, rfl⟩
      clear HW' HFF HSM
      go_wp2_with fail
      refine (HR1.out _ HB1.out).mono ?_
      rintro e w2 ⟨u2, x, hx, rfl, ho2, hb2⟩
      have HB2 := hid (HB1.out.trans (hb2.mono HB1.out.size))
      obtain ⟨x1, x2⟩ := x
      simp only at ho2
      obtain ⟨a2, c2, rfl⟩ := ownsRow_slice2 ho2
      have HX := hid hx
      have HO2 := hid ho2
      clear hx ho2 hb2
      go_wp2_with fail
      refine (HR2.out _ HB2.out).mono ?_
      rintro e w3 ⟨u3, y, hy, rfl, ho3, hb3⟩
      have HB3 := hid (HB2.out.trans (hb3.mono HB2.out.size))
      have hyx := hy.unique HX.out
      subst hyx
      obtain ⟨a3, c3, rfl⟩ := ownsRow_slice2 ho3
      have HO23 := hid (owns_below HO2.out hb3)
      have HO3 := hid ho3
      clear hy ho3 hb3 HO2 HR1 HR2
      have n1 : (x2 != x2) = false := by simp
      have hxl : x1.length ≤ 70 := by
        have := HX.out
        unfold RankQ at this
        split at this
        · have h9 := this.2.1.length_eq
          rw [seg_len] at h9
          simp only at h9
          omega
        · simp only [Prod.mk.injEq] at this
          rw [this.1]; simp
      have HSI := hid (ref1_SameInts _ _ _ _ _ (Ints.of_owns HO23.out (by omega)) (Ints.of_owns HO3.out (by simp only; omega)))
      have hd1 : decide (x1 = x1) = true := by simp
      go_wp2_with fail
      refine HSI.out.mono ?_
      rintro e w4 ⟨rfl, nq, hw4⟩
      simp only [hd1]
      have HB4 := hid (show Below w.heap.size w w4 from HB3.out.trans (hw4 ▸ (below_self_drewN _ _).mono HB3.out.size))
      clear hw4 HSI n1 hd1
      by_cases hx0 : x2 = 0
      · subst hx0
        have hv : (shelfB s l && termB s q) = true := by
          have := HX.out
          unfold RankQ at this
          split at this
          · assumption
          · simp at this
        have hv' := hv
        rw [Bool.and_eq_true] at hv'
        have hse := searchB_0 (l.map fun t => instB s q t) hv
        have HST := hid (fun n (hn : n < l.length) => shelf_term hv'.1 hn)
        have HTQ := hid hv'.2
        have hIl : (chosenL 0 (l.map fun t => instB s q t)).length ≤ 70 := by have := chosenL_le (l.map fun t => instB s q t) 0; simp at this; omega
        rw [hse] at HI
        have HIN := hid (fun n (hn : n < l.length) => chosenL_dec (f := fun t => instB s q t) (l := l) (k := n) hn)
        obtain ⟨U, hU⟩ : ∃ U, chosenL 0 (l.map fun t => instB s q t) = U := ⟨_, rfl⟩
        rw [hU] at HI HIN hIl
        clear hv hv' hse hU
        go_wp2_with fail
        refine (HI.out _ HB4.out).mono ?_
        rintro e w5 ⟨u5, rfl, ho5, hb5⟩
        have HB5 := hid (HB4.out.trans (hb5.mono HB4.out.size))
        have HI5 := hid (Ints.of_owns ho5 (by omega))
        try simp only at HI5
        clear ho5 hb5
        go_wp2
        go_loopw [13] (fun nv wr => ∃ (n : Nat), n ≤ l.length ∧ nv = .int .i64 n ∧ Below w.heap.size w wr ∧ Ints wr u5 U) (fun nv _ => l.length - (intOf nv).toNat)
        case atStart => exact ⟨0, by omega, rfl, HB5.out, HI5.out⟩
        case round =>
          clear HB5 HI5
          obtain ⟨n, hn, rfl, hb, hi5⟩ := hrel
          have HB := hid hb
          have HU := hid hi5
          clear hb hi5
          by_cases hlt : n < l.length
          · obtain ⟨a9, c9, he9, -, -, -, HC⟩ := (HL.out.below HB.out).open
            obtain ⟨rfl, -, rfl⟩ := Value.slice.inj he9
            obtain ⟨bb, bo, xv, rfl, hcx, hix⟩ := HC n hlt
            obtain ⟨xa, xc, rfl, -⟩ := hix.open
            have HXV := hid hix
            have htn := HST.out n hlt
            obtain ⟨-, -, f3, f4⟩ := termB_facts htn
            have tn := termB_T htn
            have tq := termB_T HTQ.out
            have lq := (termB_facts HTQ.out).2.2.2
            have k1 := clos_le1 f3 tn tq f4
            have k2 := clos_le2 f3 tn tq f4
            have k3 := clos_swap s l[n] q
            have e1 := closeB_ok htn HTQ.out
            have e2 := closeB_ok HTQ.out htn
            rw [k3] at e2
            have hIN := HIN.out n hlt
            have hki : instB s q l[n] = true → closN s l[n] q = symN q := clos_inst
            have HA1 := hid (HCA.out wr HB.out n _ hlt HXV.out)
            have HA2 := hid (fun (X : World) (hX : Below wr.heap.size wr X) => HCB.out X (HB.out.trans (hX.mono HB.out.size)) n _ hlt (HXV.out.below hX))
            have HA3 := hid (fun (X : World) (hX : Below wr.heap.size wr X) => HCC.out X (HB.out.trans (hX.mono HB.out.size)) n _ hlt (HXV.out.below hX))
            rw [e1] at HA1 HA2
            rw [e2] at HA3
            have HY1 := hid (fun (X : World) (hX : Below wr.heap.size wr X) => law5_symbols _ q X ((HQ.out.below HB.out).below hX))
            have HY2 := hid (fun (X : World) (hX : Below wr.heap.size wr X) => law5_symbols _ l[n] X (HXV.out.below hX))
            have HHA := hid (fun (X : World) (hX : Below wr.heap.size wr X) => ref1_Has u5 U n X (HU.out.below hX))
            obtain ⟨cn, hcn⟩ : ∃ cn, closN s l[n] q = cn := ⟨_, rfl⟩
            obtain ⟨s1, hs1⟩ : ∃ s1, symN q = s1 := ⟨_, rfl⟩
            obtain ⟨s2, hs2⟩ : ∃ s2, symN l[n] = s2 := ⟨_, rfl⟩
            obtain ⟨ln, hln⟩ : ∃ ln, l[n].length = ln := ⟨_, rfl⟩
            rw [hcn] at HA1 HA2 HA3 k1 k2 hki
            rw [hs1] at HY1 k2 hki
            rw [hs2] at HY2 k1
            rw [hln] at HA1 HA2 HA3 HY2 hcx
            have y0 : (0 : Int) ≤ (n : Int) := by omega
            have y1 : (n : Int) < (l.length : Int) := by omega
            have m1 : ((cn : Int) != (cn : Int)) = false := by simp
            have m2 : ((0 : Int) != 0) = false := by decide
            have m3 : decide (s1 < cn) = false := by simp; omega
            have m4 : decide (s2 < cn) = false := by simp; omega
            clear HC hix he9 htn f3 f4 tn tq lq k3 e1 e2 hcn hs1 hs2 hln
            go_wp2_with fail
            refine HA1.out.mono ?_
            rintro e wa ⟨rfl, hba⟩
            have hcxa := (hba.cell (World.block_lt_of_cell? _ _ hcx)).trans hcx
            have HBa := hid hba
            clear hba
            go_wp2_with fail
            refine (HA2.out _ HBa.out).mono ?_
            rintro e wb ⟨rfl, hbb⟩
            have hcxb := (hbb.cell (World.block_lt_of_cell? _ _ hcxa)).trans hcxa
            have HBb := hid (HBa.out.trans (hbb.mono HBa.out.size))
            clear hbb hcxa
            go_wp2_with fail
            refine (HA3.out _ HBb.out).mono ?_
            rintro e wc ⟨rfl, hbc⟩
            have hcxc := (hbc.cell (World.block_lt_of_cell? _ _ hcxb)).trans hcxb
            have HBc := hid (HBb.out.trans (hbc.mono HBb.out.size))
            clear hbc hcxb hcx
            have HFIN := hid (show ∃ m : Nat, m ≤ l.length ∧ Value.int .i64 ((n : Int) + 1) = .int .i64 m ∧ Below w.heap.size w wc ∧ Ints wc u5 U from ⟨n + 1, by omega, rfl, HB.out.trans (HBc.out.mono HB.out.size), HU.out.below HBc.out⟩)
            have HSY1 := hid (HY1.out wc HBc.out)
            have HSY2 := hid (HY2.out wc HBc.out)
            have HHA1 := hid (HHA.out wc HBc.out)
            clear HA1 HA2 HA3 HY1 HY2 HHA k1 k2
            cases hin : instB s q l[n]
            · rw [hin] at hIN
              rw [hIN] at HHA1
              clear hki hin hIN
              go_wp2_with (first
                | (go_at_call 22; (with_reducible refine HSY1.out.mono ?_); rintro e wx ⟨rfl, hwx⟩; subst hwx)
                | (go_at_call 22; (with_reducible refine HSY2.out.mono ?_); rintro e wx ⟨rfl, hwx⟩; subst hwx)
                | (go_at_call 11; (with_reducible refine HHA1.out.mono ?_); rintro e wx ⟨rfl, hwx⟩; subst hwx))
              go_roundw
              case rel => exact HFIN.out
              case measure => simp [intOf]; omega
            · rw [hin] at hIN
              rw [hIN] at HHA1
              have hce := hki hin
              subst hce
              clear hki hin hIN
              go_wp2_with (first
                | (go_at_call 22; (with_reducible refine HSY1.out.mono ?_); rintro e wx ⟨rfl, hwx⟩; subst hwx)
                | (go_at_call 22; (with_reducible refine HSY2.out.mono ?_); rintro e wx ⟨rfl, hwx⟩; subst hwx)
                | (go_at_call 11; (with_reducible refine HHA1.out.mono ?_); rintro e wx ⟨rfl, hwx⟩; subst hwx))
              go_roundw
              case rel => exact HFIN.out
              case measure => simp [intOf]; omega
          · go_wp2_with fail
            refine (HW.out _ HB.out).mono ?_
            rintro e w9 ⟨rfl, hb⟩
            go_wp2
            go_ret
            exact ⟨rfl, hb⟩
      · have n3 : (x2 != 0) = true := by simpa using hx0
        go_wp2_with fail
        refine (HW.out _ HB4.out).mono ?_
        rintro e w9 ⟨rfl, hb⟩
        go_wp2
        go_ret
        exact ⟨rfl, hb⟩
end Go.Proofs.Ytldgkidojepdlaa
