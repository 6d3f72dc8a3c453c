/-
  WHAT IT HOLDS: contract of merged of the reference of layer 7. Conditions: the arguments read as data; the proof is valid; each step says something.
  WHAT IT HOLDS: contracts of Trimmed and Merged of the reference of layer 7, of Shortest of both sides. Conditions: the arguments read as data; small signs; for package short the library's table of powers of ten stands as it is written.
  WHAT IT HOLDS: the walk of the law ShortTrims: it returns true. Conditions: the arguments read as data; the library's table of powers of ten stands as it is written.
-/
import Derived.BigQuiet
import Derived.Test.YtmpjaakkjhmpmaaGreatDoorZRShortTrims45
import Derived.Test.YtmpjaakkjhmpmaaGreatDoorZRShortTrims21
import Derived.Test.YtmpjaakkjhmpmaaGreatDoorZRShortTrims36
import Derived.Test.YtmpjaakkjhmpmaaGreatDoorZRShortTrims44
import Derived.Test.YtmpjaakkjhmpmaaGreatDoorZRShortTrims35
namespace Go.Proofs.YtmpjaakkjhmpmaaGreatDoor
open Go Go.RowKit Go.Maps
theorem ok_take {p : List St} {b : List Bool} {f : Nat → Nat} (h : OKR p b f) (m : Nat) : OKR (p.take m) b f := fun i hi hs h2 => by
  rw [List.length_take] at hi
  have e : (p.take m).getD i st0 = p.getD i st0 := by rw [List.getD_eq_getElem?_getD, List.getD_eq_getElem?_getD, List.getElem?_take_of_lt (by omega)]
  rw [e] at h2 ⊢
  exact h i (by omega) hs h2
theorem reb_takeP (p : List St) (b : List Bool) (f : Nat → Nat) (m : Nat) : ∀ k, k ≤ m → rebL (p.take m) b f k = rebL p b f k
  | 0, _ => rfl
  | k + 1, h => by
    have e : (p.take m).getD k st0 = p.getD k st0 := by rw [List.getD_eq_getElem?_getD, List.getD_eq_getElem?_getD, List.getElem?_take_of_lt (by omega)]
    rw [rebL, rebL, reb_takeP p b f m k (by omega), e]
theorem frN_first {l : List (List Int)} {i k : Nat} (hi : i < l.length) (hk : k < frN l i) : l.getD k [] ≠ l.getD i [] := by
  have hle := frN_le hi
  intro e
  have e1 : l[k]'(by omega) = l[i] := by
    rw [List.getD_eq_getElem?_getD, List.getD_eq_getElem?_getD, List.getElem?_eq_getElem (show k < l.length by omega), List.getElem?_eq_getElem hi] at e
    exact e
  have h1 := frN_le (l := l) (i := k) (by omega)
  rw [frN_at (show k < l.length by omega), e1, ← frN_at hi] at h1
  omega
set_option maxHeartbeats 8000000 in
set_option maxRecDepth 100000 in
theorem ref7_merged (g : Int) (v vl : Value) (p : List St) (l : List (List Int)) (w : World) (hv : StepsAt w v p) (hl : Terms w vl l) (hg : proofB g p = true) (hlen : l.length = p.length) :
    Calls Tryz.prog 63 #[vl, v] w fun e w' => ∃ u, e = .returned u ∧ StepsAt w' u (mrgP p l) ∧ Below w.heap.size w w' := by
  have h60 := proof60 hg
  have h1 := proof1 hg
  have HMQ := hid (mrgP_eq hlen (by omega))
  have HKE := hid (fun (X : World) (hX : Below w.heap.size w X) (pa : Option Addr) (pc : Nat) (m : Nat) (hm : m + 1 ≤ p.length) (q1 q2 : Nat) (hP : StepsAt X (.slice pa (m + 1) pc) (p.take (m + 1)))
      (hs : ∀ i, i < p.length → X.cell? ⟨q1, i, none⟩ = some (.bool (stB (frB l) i))) (hn : ∀ i, i < p.length → X.cell? ⟨q2, i, none⟩ = some (.int .i64 ((frN l i : Nat) : Int))) => by
    have htl : (p.take (m + 1)).length = m + 1 := by rw [List.length_take]; omega
    have h := ref7_kept g (.slice pa (m + 1) pc) (.slice (some ⟨q2, 0, none⟩) p.length p.length) q1 p.length p.length (p.take (m + 1)) (frB l) (frN l) true X hP (proofB_take hg (by omega) hm) (by omega) (by omega) (fun i hi => hs i (by omega)) (ok_take (ok_fr hg hlen) _)
      (fun i hi h => by rw [frB_at (by omega)] at h; exact of_decide_eq_true h)
      (Or.inr ⟨rfl, q2, p.length, p.length, rfl, by omega, by omega, fun i hi => ⟨hn i (by omega), frN_le (by omega), frB_fr (by omega)⟩⟩)
    rw [htl, reb_takeP p _ _ _ _ (Nat.le_refl _)] at h
    exact h)
  obtain ⟨pa, pc, rfl, hpc, hpl, -, -⟩ := hv.open
  obtain ⟨la, lc, rfl, hlc, hll, -, HC⟩ := hl.open
  rw [hlen] at hlc ⊢
  have HC' := hid HC
  have HP := hid hv
  have HLN := hid hlen
  clear HC hv hl hg
  go_enter Tryz.func63, Tryz.ntmps63
  go_wp2_with (first
    | (at_make; refine wpList_make_row rfl _ _ 82 rfl w.heap.size 4 el_bool Tryz.underlying82 rfl p.length rfl rfl (by omega) (by omega) (by simp) ?_; intro q1 w1 hq0 hq1' hown1 hgrow1; have HB1 := hid ((Below.refl _ _).grown hgrow1 (by simp) (fun _ h => by cases h) : Below w.heap.size w w1); have HO1 := hid hown1; clear hown1 hgrow1)
    | (at_make; refine wpList_make_row rfl _ _ 33 rfl w.heap.size 3 el_int Tryz.underlying33 rfl p.length rfl rfl (by omega) (by omega) HB1.out.size ?_; intro q2 w2 hq2 hq2' hown2 hgrow2))
  have HB2 := hid (HB1.out.grown hgrow2 HB1.out.size (fun _ h => by cases h))
  have HO12 := hid (HO1.out.kept hgrow2 (Or.inr (fun e => by cases e)))
  have HO2 := hid hown2
  clear hown2 hgrow2 HO1
  go_loopw [7] (fun kv wr => ∃ (i : Nat) (S : List Bool) (R : List Int), i ≤ p.length ∧ kv = .int .i64 i ∧ S.length = p.length ∧ R.length = p.length ∧ (∀ j, j < i → stB S j = stB (frB l) j) ∧ (∀ j, j < i → tmA R j = ((frN l j : Nat) : Int)) ∧ wr.ownsRow w.heap.size 4 1 (.slice (some ⟨q1, 0, none⟩) p.length p.length) p.length (S.map Value.bool) ∧ wr.ownsRow w.heap.size 3 1 (.slice (some ⟨q2, 0, none⟩) p.length p.length) p.length (R.map (Value.int .i64)) ∧ Below w.heap.size w wr) (fun kv _ => p.length - (intOf kv).toNat)
  case atStart => exact ⟨0, List.replicate p.length false, List.replicate p.length 0, by omega, rfl, by simp, by simp, fun j h => by omega, fun j h => by omega, by simpa using HO12.out, by simpa using HO2.out, HB2.out⟩
  case round =>
    clear HO12 HO2 HB2
    obtain ⟨i, S, R, hi, rfl, hS, hR, hSj, hRj, hos, hor, hb⟩ := hrel
    by_cases hlt : i < p.length
    · have hne12 := owns_ne7 hos hor (by decide) (b := q1) rfl
      have hne21 := owns_ne7 hor hos (by decide) (b := q2) rfl
      have cS := hos.cellAt i (by omega)
      rw [bools_at (by omega)] at cS
      have fS := hos.frozenAt i
      have hs1 := (hos.stored i (.bool true)).1
      rw [← List.map_set] at hs1
      have hr0 := ownsRow_setCell_other (a := ⟨q1, i, none⟩) hor hne12 (.bool true)
      have cR := hr0.cellAt i (by omega)
      rw [tms_at (by omega)] at cR
      have fR := hr0.frozenAt i
      have hr1 := (hr0.stored i (.int .i64 (i : Int))).1
      rw [← List.map_set] at hr1
      have hs2 := ownsRow_setCell_other (a := ⟨q2, i, none⟩) hs1 hne21 (.int .i64 (i : Int))
      have HOS := hid hs2
      have HOR := hid hr1
      have HBS := hid ((hb.setCell (p := ⟨q1, i, none⟩) hq0 (.bool true)).setCell (p := ⟨q2, i, none⟩) hq2 (.int .i64 (i : Int)))
      have HS := hid hS
      have HR := hid hR
      have HSJ := hid hSj
      have HRJ := hid hRj
      clear hs1 hr0 hr1 hs2 hos hor hb hS hR hSj hRj
      obtain ⟨WO, hWO⟩ : ∃ X, X = wr := ⟨wr, rfl⟩
      subst hWO
      go_wp2
      go_loopw [8] (fun kv wr => ∃ (k : Nat) (S' : List Bool) (R' : List Int), k ≤ i ∧ kv = .int .i64 k ∧ S'.length = p.length ∧ R'.length = p.length ∧ (∀ j, j < i → stB S' j = stB (frB l) j) ∧ (∀ j, j < i → tmA R' j = ((frN l j : Nat) : Int)) ∧ stB S' i = decide (¬ frN l i < k) ∧ tmA R' i = (if frN l i < k then ((frN l i : Nat) : Int) else (i : Int)) ∧ wr.ownsRow w.heap.size 4 1 (.slice (some ⟨q1, 0, none⟩) p.length p.length) p.length (S'.map Value.bool) ∧ wr.ownsRow w.heap.size 3 1 (.slice (some ⟨q2, 0, none⟩) p.length p.length) p.length (R'.map (Value.int .i64)) ∧ Below w.heap.size w wr) (fun kv _ => i - (intOf kv).toNat)
      case atStart =>
        refine ⟨0, S.set i true, R.set i (i : Int), by omega, rfl, by rw [List.length_set]; exact HS.out, by rw [List.length_set]; exact HR.out, fun j hj => ?_, fun j hj => ?_, ?_, ?_, HOS.out, HOR.out, HBS.out⟩
        · unfold stB
          rw [List.getD_eq_getElem?_getD, List.getElem?_set_ne (by omega), ← List.getD_eq_getElem?_getD]
          exact HSJ.out j hj
        · rw [tmA_set (by rw [HR.out]; omega)]
          unfold upd7
          rw [if_neg (by omega)]
          exact HRJ.out j hj
        · unfold stB
          rw [List.getD_eq_getElem?_getD, List.getElem?_set_self (by rw [HS.out]; omega)]; simp
        · rw [tmA_set (by rw [HR.out]; omega)]
          unfold upd7
          rw [if_pos rfl]; simp
      case round =>
        clear HOS HOR HBS HS HR HSJ HRJ cS fS cR fR
        obtain ⟨k, S', R', hk, rfl, hS, hR, hSj, hRj, hSi, hRi, hos, hor, hb⟩ := hrel
        have HS := hid hS
        have HR := hid hR
        have HSJ := hid hSj
        have HRJ := hid hRj
        have HOS := hid hos
        have HOR := hid hor
        have HB := hid hb
        have HSI := hid hSi
        have HRI := hid hRi
        by_cases hki : k < i
        · have cK := hos.cellAt k (by omega)
          rw [bools_at (by omega), hSj k hki] at cK
          have cI := hos.cellAt i (by omega)
          rw [bools_at (by omega), hSi] at cI
          have eK : k ≠ frN l i → ((frN l i < k) = (frN l i < k + 1)) := fun h => by apply propext; omega
          have keep : (k ≠ frN l i) → ∃ (k' : Nat) (S' : List Bool) (R' : List Int), k' ≤ i ∧ Value.int .i64 ((k + 1 : Nat) : Int) = .int .i64 (k' : Int) ∧ S'.length = p.length ∧ R'.length = p.length ∧ (∀ j, j < i → stB S' j = stB (frB l) j) ∧ (∀ j, j < i → tmA R' j = ((frN l j : Nat) : Int)) ∧ stB S' i = decide (¬ frN l i < k') ∧ tmA R' i = (if frN l i < k' then ((frN l i : Nat) : Int) else (i : Int)) ∧ ∀ nq, (wr.drewN nq).ownsRow w.heap.size 4 1 (.slice (some ⟨q1, 0, none⟩) p.length p.length) p.length (S'.map Value.bool) ∧ (wr.drewN nq).ownsRow w.heap.size 3 1 (.slice (some ⟨q2, 0, none⟩) p.length p.length) p.length (R'.map (Value.int .i64)) ∧ Below w.heap.size w (wr.drewN nq) := fun hne =>
            ⟨k + 1, S', R', by omega, rfl, hS, hR, hSj, hRj, by rw [hSi]; congr 1; apply propext; omega, by rw [hRi]; simp only [eK hne], fun nq => ⟨owns_below hos (below_self_drewN _ _), owns_below hor (below_self_drewN _ _), below_drewN hb nq⟩⟩
          have HKP := hid keep
          clear keep hS hR hSj hRj hSi hRi hos hor hb
          cases hsk : stB (frB l) k
          · rw [hsk] at cK
            have hne : k ≠ frN l i := fun e => by rw [e, frB_fr (by rw [HLN.out]; exact hlt)] at hsk; cases hsk
            have HNE := hid hne
            clear hsk hne cI
            go_wp2
            go_quiet (fail)
            go_wp2
            go_roundw
            case rel =>
              obtain ⟨k', S2, R2, a1, a2, a3, a4, a5, a6, a7, a8, a9⟩ := HKP.out HNE.out
              obtain ⟨b1, b2, b3⟩ := a9 nq
              exact ⟨k', S2, R2, a1, by first | exact a2 | (rw [← a2]; push_cast; rfl), a3, a4, a5, a6, a7, a8, b1, b2, b3⟩
            case measure => simp [intOf]; omega
          rw [hsk] at cK
          by_cases hKk : frN l i < k
          · rw [decide_eq_false (fun h => h hKk)] at cI
            have HNE := hid (show k ≠ frN l i by omega)
            clear hsk hKk
            go_wp2
            go_quiet (fail)
            go_wp2
            go_roundw
            case rel =>
              obtain ⟨k', S2, R2, a1, a2, a3, a4, a5, a6, a7, a8, a9⟩ := HKP.out HNE.out
              obtain ⟨b1, b2, b3⟩ := a9 nq
              exact ⟨k', S2, R2, a1, by first | exact a2 | (rw [← a2]; push_cast; rfl), a3, a4, a5, a6, a7, a8, b1, b2, b3⟩
            case measure => simp [intOf]; omega
          rw [decide_eq_true hKk] at cI
          obtain ⟨lb, lo, uk, e1, t1, hu1⟩ := HC'.out k (by rw [HLN.out]; omega)
          obtain ⟨lb', lo', ui, e2, t2, hu2⟩ := HC'.out i (by rw [HLN.out]; omega)
          subst e1
          simp only [Option.some.injEq, Addr.mk.injEq, and_true] at e2
          obtain ⟨rfl, rfl⟩ := e2
          have x1 := (HB.out.cell (World.block_lt_of_cell? _ _ t1)).trans t1
          have x2 := (HB.out.cell (World.block_lt_of_cell? _ _ t2)).trans t2
          have HST : ∀ n, Hid (Calls Tryz.prog 22 #[uk, ui] (wr.drewN n) fun e w' => e = .returned (.bool (decide (l[k]'(by rw [HLN.out]; omega) = l[i]'(by rw [HLN.out]; omega)))) ∧ ∃ n', w' = (wr.drewN n).drewN n') := fun n => hid (ref6_SameTerm _ _ _ _ _ ((hu1.below HB.out).drewN n) ((hu2.below HB.out).drewN n))
          by_cases hKe : k = frN l i
          · have hde : decide (l[k]'(by rw [HLN.out]; omega) = l[i]'(by rw [HLN.out]; omega)) = true := decide_eq_true (by
              obtain ⟨hk', e3⟩ := frN_same (l := l) (i := i) (by rw [HLN.out]; omega)
              simp only [hKe]
              exact e3)
            rw [hde] at HST
            have HKE2 := hid hKe
            clear hde hKe hKk hsk t1 t2 hu1 hu2
            go_wp2
            go_quiet ((go_at_call 22; exact Calls.quiet_of (HST _).out))
            have hosW := owns_below HOS.out (below_self_drewN wr nq)
            have horW := owns_below HOR.out (below_self_drewN wr nq)
            have hbW := below_drewN HB.out nq
            obtain ⟨W, hW⟩ : ∃ W, wr.drewN nq = W := ⟨_, rfl⟩
            rw [hW] at hosW horW hbW ⊢
            have hne12 := owns_ne7 hosW horW (by decide) (b := q1) rfl
            have hne21 := owns_ne7 horW hosW (by decide) (b := q2) rfl
            have cS := hosW.cellAt i (by omega)
            rw [bools_at (by rw [HS.out]; omega)] at cS
            have fS := hosW.frozenAt i
            have hs1 := (hosW.stored i (.bool false)).1
            rw [← List.map_set] at hs1
            have hr0 := ownsRow_setCell_other (a := ⟨q1, i, none⟩) horW hne12 (.bool false)
            have cR := hr0.cellAt i (by omega)
            rw [tms_at (by rw [HR.out]; omega)] at cR
            have fR := hr0.frozenAt i
            have hr1 := (hr0.stored i (.int .i64 (k : Int))).1
            rw [← List.map_set] at hr1
            have hs2 := ownsRow_setCell_other (a := ⟨q2, i, none⟩) hs1 hne21 (.int .i64 (k : Int))
            have HOS2 := hid hs2
            have HOR2 := hid hr1
            have HBS2 := hid ((hbW.setCell (p := ⟨q1, i, none⟩) hq0 (.bool false)).setCell (p := ⟨q2, i, none⟩) hq2 (.int .i64 (k : Int)))
            clear hs1 hr0 hr1 hs2 hosW horW hbW hne12 hne21 hW HST x1 x2 cK cI
            go_wp2
            go_roundw
            case rel =>
              refine ⟨k + 1, S'.set i false, R'.set i (k : Int), by omega, by go_num, by rw [List.length_set]; exact HS.out, by rw [List.length_set]; exact HR.out, fun j hj => ?_, fun j hj => ?_, ?_, ?_, HOS2.out, HOR2.out, HBS2.out⟩
              · unfold stB
                rw [List.getD_eq_getElem?_getD, List.getElem?_set_ne (by omega), ← List.getD_eq_getElem?_getD]
                exact HSJ.out j hj
              · rw [tmA_set (by rw [HR.out]; omega)]
                unfold upd7
                rw [if_neg (by omega)]
                exact HRJ.out j hj
              · have e7 : frN l i < k + 1 := by have := HKE2.out; omega
                unfold stB
                rw [List.getD_eq_getElem?_getD, List.getElem?_set_self (by rw [HS.out]; omega), decide_eq_false (fun h => h e7)]; rfl
              · have e7 : frN l i < k + 1 := by have := HKE2.out; omega
                rw [tmA_set (by rw [HR.out]; omega), if_pos e7]
                unfold upd7
                rw [if_pos rfl, ← HKE2.out]
            case measure => simp [intOf]; omega
          · have hde : decide (l[k]'(by rw [HLN.out]; omega) = l[i]'(by rw [HLN.out]; omega)) = false := decide_eq_false fun e => by
              refine frN_first (l := l) (i := i) (k := k) (by rw [HLN.out]; omega) (by omega) ?_
              rw [List.getD_eq_getElem?_getD, List.getD_eq_getElem?_getD, List.getElem?_eq_getElem (by rw [HLN.out]; omega), List.getElem?_eq_getElem (by rw [HLN.out]; omega), e]
            rw [hde] at HST
            have HNE := hid hKe
            clear hde hKe hKk hsk t1 t2 hu1 hu2
            go_wp2
            go_quiet ((go_at_call 22; exact Calls.quiet_of (HST _).out))
            go_wp2
            go_roundw
            case rel =>
              obtain ⟨k', S2, R2, a1, a2, a3, a4, a5, a6, a7, a8, a9⟩ := HKP.out HNE.out
              obtain ⟨b1, b2, b3⟩ := a9 nq
              exact ⟨k', S2, R2, a1, by first | exact a2 | (rw [← a2]; push_cast; rfl), a3, a4, a5, a6, a7, a8, b1, b2, b3⟩
            case measure => simp [intOf]; omega
        · have hki' : k = i := by omega
          subst hki'
          have hle := frN_le (l := l) (i := k) (by rw [HLN.out]; omega)
          have hfb := frB_at (l := l) (i := k) (by rw [HLN.out]; omega)
          have HLE := hid hle
          have HFB := hid hfb
          clear hS hR hSj hRj hSi hRi hos hor hb hle hfb
          go_wp2
          go_roundw
          case rel =>
            refine ⟨k + 1, S', R', by omega, by go_num, HS.out, HR.out, fun j hj => ?_, fun j hj => ?_, HOS.out, HOR.out, HB.out⟩
            · by_cases e : j = k
              · subst e
                rw [HSI.out, HFB.out]
                congr 1
                apply propext
                have := HLE.out
                omega
              · exact HSJ.out j (by omega)
            · by_cases e : j = k
              · subst e
                rw [HRI.out]
                have := HLE.out
                split
                · rfl
                · omega
              · exact HRJ.out j (by omega)
          case measure => simp [intOf]; omega
    · have hil : i = p.length := by omega
      subst hil
      obtain ⟨m, hm⟩ : ∃ m, p.length = m + 1 := ⟨p.length - 1, by omega⟩
      have hfl := frN_le (l := l) (i := m) (by rw [HLN.out]; omega)
      have hmq := HMQ.out
      have elf : lastF p l = frN l m := by unfold lastF; rw [hm, Nat.add_sub_cancel]
      rw [elf] at hmq
      have cN := hor.cellAt m (by omega)
      rw [tms_at (by omega), hRj m (by omega)] at cN
      obtain ⟨F, hF⟩ : ∃ F, frN l m = F := ⟨_, rfl⟩
      rw [hF] at hfl hmq cN
      have HMR := hid hmq
      have K := hid (HKE.out wr hb pa pc F (by omega) q1 q2 (StepsAt.take (HP.out.below hb) (F + 1) (by omega)) (fun j hj => by
        have h := hos.cellAt j (by omega)
        rwa [bools_at (by omega), hSj j hj] at h) (fun j hj => by
        have h := hor.cellAt j (by omega)
        rwa [tms_at (by omega), hRj j hj] at h))
      rw [hm] at K
      have HB := hid hb
      have y1 : F + 1 ≤ pc := by omega
      have y2 : ((F : Int) + 1) ≤ (pc : Int) := by omega
      have y3 : (0 : Int) ≤ (F : Int) + 1 := by omega
      have y4 : IntKind.i64.wrap ((F : Int) + 1) = ((F + 1 : Nat) : Int) := by rw [IntWalk.i64_in _ (by omega)]; omega
      have y5 : IntKind.i64.wrap (((m + 1 : Nat) : Int) - 1) = (m : Int) := by rw [IntWalk.i64_in _ (by omega)]; omega
      have y6 : (((m + 1 : Nat) : Int) - 1) = (m : Int) := by omega
      have hm60 : m ≤ 59 := by omega
      simp only [hm]
      clear hmq elf hF hS hR hSj hRj hos hor hb hm HKE
      go_wp2_with fail
      refine K.out.mono ?_
      rintro e w9 ⟨u9, rfl, hu9, hb9⟩
      have HU := hid hu9
      have HB9 := hid (HB.out.trans (hb9.mono HB.out.size))
      obtain ⟨a9, c9, rfl, -⟩ := hu9.open
      clear hu9 hb9 K
      go_wp2
      go_ret
      exact ⟨_, rfl, by rw [HMR.out]; exact HU.out, HB9.out⟩
end Go.Proofs.YtmpjaakkjhmpmaaGreatDoor
namespace Go.Proofs.YtmpjaakkjhmpmaaGreatDoor
open Go Go.RowKit Go.Maps
set_option maxHeartbeats 2000000 in
theorem ref7_Trimmed (g : Int) (v : Value) (p : List St) (w : World) (hv : StepsAt w v p) :
    Calls Tryz.prog 13 #[.int .i64 g, v] w fun e w' => TrmQ g p w e w' := by
  have HV := hid (ref7_valid g v p w hv)
  have HP := hid hv
  obtain ⟨pa, pc, rfl, -⟩ := hv.open
  clear hv
  unfold TrmQ
  cases hb : vldB g p
  · have hE : vldE g p = 1 := by unfold vldE; rw [hb]; rfl
    rw [hb] at HV
    rw [hE]
    clear hb hE HP
    go_enter Tryz.func13, Tryz.ntmps13
    go_wp2_with fail
    refine HV.out.mono ?_
    rintro e w1 ⟨rfl, hb1⟩
    go_wp2
    go_ret2
    exact ⟨_, rfl, StepsAt.nil _, hb1⟩
  · have hE : vldE g p = 0 := by unfold vldE; rw [hb]; rfl
    have hp : proofB g p = true := by unfold vldB at hb; rw [Bool.and_eq_true] at hb; exact hb.2
    have HT := hid (fun (X : World) (hX : Below w.heap.size w X) => ref7_trimmed g (.slice pa p.length pc) p X (HP.out.below hX) hp)
    rw [hb] at HV
    rw [hE]
    clear hb hE hp HP
    go_enter Tryz.func13, Tryz.ntmps13
    go_wp2_with fail
    refine HV.out.mono ?_
    rintro e w1 ⟨rfl, hb1⟩
    have HB1 := hid hb1
    have K := hid (HT.out w1 hb1)
    clear hb1
    go_wp2_with fail
    refine K.out.mono ?_
    rintro e w2 ⟨u, rfl, hu, hb2⟩
    have HB2 := hid (HB1.out.trans (hb2.mono HB1.out.size))
    have HU := hid hu
    obtain ⟨ua, uc, rfl, -⟩ := hu.open
    clear hu hb2
    go_wp2
    go_ret2
    exact ⟨_, rfl, HU.out, HB2.out⟩
set_option maxHeartbeats 4000000 in
set_option maxRecDepth 100000 in
theorem ref7_Merged (vs vg vp : Value) (s : Sg) (g : List (List Int)) (p : List St) (w : World) (hs : SignAt w vs s) (hg : Terms w vg g) (hp : StepsAt w vp p) (hs1 : s.length ≤ 1000) :
    Calls Tryz.prog 15 #[vs, vg, vp] w fun e w' => ∃ u l er, e = .returned (.tuple #[u, .int .i64 er]) ∧ SaidQ s g p l er ∧ StepsAt w' u (if er = 0 then mrgP p l else []) ∧ Below w.heap.size w w' := by
  have HS := hid (ref7_run vs vg vp s g p w hs hg hp hs1)
  have HM := hid (fun (X : World) (hX : Below w.heap.size w X) (vl : Value) (l : List (List Int)) (hl : Terms X vl l) (h : SaidQ s g p l 0) =>
    (have hg := h.good
     ref7_merged (g.length : Int) vp vl p l X (hp.below hX) hl (asked_parts hg.1).2 (run_lenM hg.2)))
  obtain ⟨pa, pc, rfl, -⟩ := hp.open
  clear hs hg hp
  go_enter Tryz.func15, Tryz.ntmps15
  go_wp2_with fail
  refine HS.out.mono ?_
  rintro e w1 ⟨u, l, er, rfl, hq, hT, hb1⟩
  have HB1 := hid hb1
  have HQ := hid hq
  have HT := hid hT
  obtain ⟨ua, uc, rfl, -⟩ := hT.open
  clear hq hT hb1
  by_cases h0 : er = 0
  · subst h0
    have K := hid (HM.out w1 HB1.out _ l HT.out HQ.out)
    go_wp2_with fail
    refine K.out.mono ?_
    rintro e w2 ⟨u2, rfl, hu2, hb2⟩
    have HB2 := hid (HB1.out.trans (hb2.mono HB1.out.size))
    have HU := hid hu2
    obtain ⟨ua2, uc2, rfl, -⟩ := hu2.open
    clear hu2 hb2
    go_wp2
    go_ret2
    exact ⟨_, l, 0, rfl, HQ.out, by rw [if_pos rfl]; exact HU.out, HB2.out⟩
  · have n0 : (er != 0) = true := by simpa using h0
    have HN := hid h0
    clear h0
    go_wp2
    go_ret2
    exact ⟨_, l, er, rfl, HQ.out, by rw [if_neg HN.out]; exact StepsAt.nil _, HB1.out⟩
def ShoQ (s : Sg) (g : List (List Int)) (p : List St) (w : World) (e : Ending) (w' : World) : Prop := ∃ u l er, e = .returned (.tuple #[u, .int .i64 er]) ∧ SaidQ s g p l er ∧ StepsAt w' u (if er = 0 then trimL (mrgP p l) else []) ∧ Below w.heap.size w w'
set_option maxHeartbeats 2000000 in
theorem short_Shortest (vs vg vp : Value) (s : Sg) (g : List (List Int)) (p : List St) (w : World) (hs : SignAt w vs s) (hg : Terms w vg g) (hp : StepsAt w vp p) (hs1 : s.length ≤ 1000) (htab : Tab w) :
    Calls Tryz.prog 16 #[vs, vg, vp] w fun e w' => ShoQ s g p w e w' := by
  have HM := hid (short_Merged vs vg vp s g p w hs hg hp hs1 htab)
  clear hs hg hp htab
  unfold ShoQ
  go_enter Tryz.func16, Tryz.ntmps16
  go_wp2_with fail
  refine HM.out.mono ?_
  rintro e w1 ⟨u, l, er, rfl, hq, hu, hb1⟩
  have HB1 := hid hb1
  have HQ := hid hq
  by_cases h0 : er = 0
  · subst h0
    rw [if_pos rfl] at hu
    have hgd := hq.good
    obtain ⟨lc, -, -, -, hval, -⟩ := mrg_run hgd.2 (asked_parts hgd.1).2
    have K := hid (short_trimmed (g.length : Int) u (mrgP p l) w1 hu hval)
    obtain ⟨ua, uc, rfl, -⟩ := hu.open
    clear hq hu hb1 hgd hval HM
    go_wp2_with fail
    refine K.out.mono ?_
    rintro e w2 ⟨u2, rfl, hu2, hb2⟩
    have HB2 := hid (HB1.out.trans (hb2.mono HB1.out.size))
    have HU := hid hu2
    obtain ⟨ua2, uc2, rfl, -⟩ := hu2.open
    clear hu2 hb2
    go_wp2
    go_ret2
    exact ⟨_, l, 0, rfl, HQ.out, by rw [if_pos rfl]; exact HU.out, HB2.out⟩
  · have n0 : (er != 0) = true := by simpa using h0
    have HN := hid h0
    rw [if_neg h0] at hu
    obtain ⟨ua, uc, rfl, -⟩ := hu.open
    clear h0 hq hu hb1 HM
    go_wp2
    go_ret2
    exact ⟨_, l, er, rfl, HQ.out, by rw [if_neg HN.out]; exact StepsAt.nil _, HB1.out⟩
set_option maxHeartbeats 2000000 in
theorem ref7_Shortest (vs vg vp : Value) (s : Sg) (g : List (List Int)) (p : List St) (w : World) (hs : SignAt w vs s) (hg : Terms w vg g) (hp : StepsAt w vp p) (hs1 : s.length ≤ 1000) :
    Calls Tryz.prog 17 #[vs, vg, vp] w fun e w' => ShoQ s g p w e w' := by
  have HM := hid (ref7_Merged vs vg vp s g p w hs hg hp hs1)
  clear hs hg hp
  unfold ShoQ
  go_enter Tryz.func17, Tryz.ntmps17
  go_wp2_with fail
  refine HM.out.mono ?_
  rintro e w1 ⟨u, l, er, rfl, hq, hu, hb1⟩
  have HB1 := hid hb1
  have HQ := hid hq
  by_cases h0 : er = 0
  · subst h0
    rw [if_pos rfl] at hu
    have hgd := hq.good
    obtain ⟨lc, -, -, -, hval, -⟩ := mrg_run hgd.2 (asked_parts hgd.1).2
    have K := hid (ref7_trimmed (g.length : Int) u (mrgP p l) w1 hu hval)
    obtain ⟨ua, uc, rfl, -⟩ := hu.open
    clear hq hu hb1 hgd hval HM
    go_wp2_with fail
    refine K.out.mono ?_
    rintro e w2 ⟨u2, rfl, hu2, hb2⟩
    have HB2 := hid (HB1.out.trans (hb2.mono HB1.out.size))
    have HU := hid hu2
    obtain ⟨ua2, uc2, rfl, -⟩ := hu2.open
    clear hu2 hb2
    go_wp2
    go_ret2
    exact ⟨_, l, 0, rfl, HQ.out, by rw [if_pos rfl]; exact HU.out, HB2.out⟩
  · have n0 : (er != 0) = true := by simpa using h0
    have HN := hid h0
    rw [if_neg h0] at hu
    obtain ⟨ua, uc, rfl, -⟩ := hu.open
    clear h0 hq hu hb1 HM
    go_wp2
    go_ret2
    exact ⟨_, l, er, rfl, HQ.out, by rw [if_neg HN.out]; exact StepsAt.nil _, HB1.out⟩
end Go.Proofs.YtmpjaakkjhmpmaaGreatDoor
namespace Go.Proofs.YtmpjaakkjhmpmaaGreatDoor
open Go Go.RowKit Go.Maps
theorem said_of {s : Sg} {g : List (List Int)} {p : List St} {l : List (List Int)} (hg : givensB s g = true) (hp : proofB g.length p = true) (h : RunR s g p l 0) : SaidQ s g p l 0 :=
  Or.inr ⟨by unfold askedB; rw [hg, hp]; rfl, l, 0, h, Or.inl ⟨rfl, rfl, rfl⟩⟩
/-- what the three proofs are, and say. -/
structure TriL (s : Sg) (g : List (List Int)) (p a c x : List St) (V : List Int) : Prop where
  sp : SayP s g p (V, 0)
  sa : SayP s g a (V, 0)
  sc : SayP s g c (V, 0)
  sx : SayP s g x (V, 0)
  la : a.length ≤ p.length
  lc : c.length ≤ p.length
  lx : x.length ≤ p.length
  va : vldB g.length a = true
  ta : trimL a = a
  mc : ∀ l, SaidQ s g c l 0 → mrgP c l = c
  okc : ∀ l er, SaidQ s g c l er → er = 0
  mx : ∀ l, SaidQ s g x l 0 → trimL (mrgP x l) = x
  okx : ∀ l er, SaidQ s g x l er → er = 0
theorem tri_law {s : Sg} {g : List (List Int)} {p : List St} {l : List (List Int)} (h : SaidQ s g p l 0) : TriL s g p (trimL p) (mrgP p l) (trimL (mrgP p l)) (l.getD (p.length - 1) []) := by
  obtain ⟨ha, hr⟩ := h.good
  obtain ⟨hg, hp⟩ := asked_parts ha
  have hl := run_len hr
  have h1 := proof1 hp
  have hlast : l.getLast? = some (l.getD (p.length - 1) []) := by
    rw [List.getLast?_eq_getElem?, hl, List.getD_eq_getElem?_getD, List.getElem?_eq_getElem (by omega)]; rfl
  obtain ⟨la, a1, -, a3, a4⟩ := trim_run hr hp
  obtain ⟨lc, c1, c2, c3, c4, c5⟩ := mrg_run hr hp
  obtain ⟨lx, x1, x2, x3, x4⟩ := trim_run c1 c4
  have hcl := run_len c1
  have hc1 := proof1 c4
  have e1 : lc.getD ((mrgP p l).length - 1) [] = l.getD (p.length - 1) [] := lst_getD c3 hcl
  rw [e1] at x3
  have hg60 : g.length ≤ 60 := by unfold givensB at hg; rw [Bool.and_eq_true, Bool.and_eq_true, decide_eq_true_eq] at hg; omega
  refine ⟨say_ok hg hr hp hlast, say_ok hg a1 a4 a3, say_ok hg c1 c4 c3, say_ok hg x1 x4 x3, trim_len p, c5, Nat.le_trans (trim_len _) c5, ?_, trim_twice hp a4, fun l' h' => ?_, fun l' er h' => ?_, fun l' h' => ?_, fun l' er h' => ?_⟩
  · unfold vldB; rw [a4, inB_true.2 (by omega)]; rfl
  · obtain ⟨rfl, -⟩ := h'.unique (said_of hg c4 c1)
    exact mrg_nd c4 hcl c2
  · exact (h'.unique (said_of hg c4 c1)).2
  · obtain ⟨rfl, -⟩ := h'.unique (said_of hg x4 x1)
    rw [mrg_nd x4 (run_len x1) (x2 c2)]
    exact trim_twice c4 x4
  · exact (h'.unique (said_of hg x4 x1)).2
set_option maxHeartbeats 8000000 in
set_option maxRecDepth 100000 in
theorem walk_ShortTrims (vs vg vp : Value) (s : Sg) (g : List (List Int)) (p : List St) (w : World) (hs : SignAt w vs s) (hg : Terms w vg g) (hp : StepsAt w vp p) (htab : Tab w) :
    Calls Tryz.prog 3 #[vs, vg, vp] w fun e w' => e = .returned (.bool true) ∧ Below w.heap.size w w' := by
  have HSG := hid hs
  have HGG := hid hg
  have HPP := hid hp
  have HTAB := hid htab
  have HAW := hid (law7_awake w htab)
  obtain ⟨ga, gc, rfl, -⟩ := hg.open
  obtain ⟨pa, pc, rfl, -⟩ := hp.open
  obtain ⟨E1, hE1⟩ : ∃ E, vldE g.length p = E := ⟨_, rfl⟩
  obtain ⟨A, hA⟩ : ∃ A, (if vldB g.length p = true then trimL p else []) = A := ⟨_, rfl⟩
  have HE1 := hid hE1
  have HA := hid hA
  clear hs hg hp htab hE1 hA
  go_enter Tryz.func3, Tryz.ntmps3
  go_wp2_with fail
  refine HAW.out.mono ?_
  rintro e w1 ⟨rfl, hb1⟩
  go_wp2_with fail
  refine (law7_heavy vs _ _ s g p w1 (HSG.out.below hb1) (HGG.out.below hb1) (HPP.out.below hb1)).mono ?_
  rintro e w2 ⟨z, rfl, hz, hb2'⟩
  have hb2 := hb1.trans (hb2'.mono hb1.size)
  clear hb1 hb2' HAW
  cases z
  case true =>
    clear hz
    go_wp2
    go_ret
    exact ⟨rfl, hb2⟩
  obtain ⟨hs20, hg100, hp100, -⟩ := hz rfl
  clear hz
  have HS1 := hid (show s.length ≤ 1000 by omega)
  have HB2 := hid hb2
  clear hs20 hb2
  -- Trimmed
  have T1 := hid (short_Trimmed (g.length : Int) _ p w2 (HPP.out.below HB2.out))
  unfold TrmQ at T1
  rw [HE1.out, HA.out] at T1
  go_wp2_with fail
  refine T1.out.mono ?_
  rintro e w3 ⟨ua, rfl, hua, hb3⟩
  have HB3 := hid (HB2.out.trans (hb3.mono HB2.out.size))
  have HUA := hid hua
  obtain ⟨aa, ac, rfl, -⟩ := hua.open
  have T2 := hid (ref7_Trimmed (g.length : Int) _ p w3 (HPP.out.below HB3.out))
  unfold TrmQ at T2
  rw [HE1.out, HA.out] at T2
  clear hua hb3 T1
  go_wp2_with fail
  refine T2.out.mono ?_
  rintro e w4 ⟨ub, rfl, hub, hb4⟩
  have HB4 := hid (HB3.out.trans (hb4.mono HB3.out.size))
  have HUA4 := hid (HUA.out.below hb4)
  have HUB := hid hub
  obtain ⟨ba, bc, rfl, -⟩ := hub.open
  have M1 := hid (short_Merged vs _ _ s g p w4 (HSG.out.below HB4.out) (HGG.out.below HB4.out) (HPP.out.below HB4.out) HS1.out (HTAB.out.below HB4.out))
  clear hub hb4 T2 HUA
  -- Merged
  go_wp2_with fail
  refine M1.out.mono ?_
  rintro e w5 ⟨uc, l, er, rfl, hq, huc, hb5⟩
  have HB5 := hid (HB4.out.trans (hb5.mono HB4.out.size))
  have HUA5 := hid (HUA4.out.below hb5)
  have HUB5 := hid (HUB.out.below hb5)
  have HQ := hid hq
  obtain ⟨C, hC⟩ : ∃ C, (if er = 0 then mrgP p l else []) = C := ⟨_, rfl⟩
  have HC := hid hC
  rw [hC] at huc
  have HUC := hid huc
  obtain ⟨ca, cc, rfl, -⟩ := huc.open
  have M2 := hid (ref7_Merged vs _ _ s g p w5 (HSG.out.below HB5.out) (HGG.out.below HB5.out) (HPP.out.below HB5.out) HS1.out)
  clear huc hb5 M1 HUA4 HUB hq hC
  go_wp2_with fail
  refine M2.out.mono ?_
  rintro e w6 ⟨ud, l2, er2, rfl, hq2, hud, hb6⟩
  obtain ⟨rfl, rfl⟩ := hq2.unique HQ.out
  rw [HC.out] at hud
  have HB6 := hid (HB5.out.trans (hb6.mono HB5.out.size))
  have HUA6 := hid (HUA5.out.below hb6)
  have HUB6 := hid (HUB5.out.below hb6)
  have HUC6 := hid (HUC.out.below hb6)
  have HUD := hid hud
  obtain ⟨da, dc, rfl, -⟩ := hud.open
  have S1 := hid (short_Shortest vs _ _ s g p w6 (HSG.out.below HB6.out) (HGG.out.below HB6.out) (HPP.out.below HB6.out) HS1.out (HTAB.out.below HB6.out))
  clear hud hb6 M2 HUA5 HUB5 HUC hq2
  -- Shortest
  go_wp2_with fail
  refine S1.out.mono ?_
  rintro e w7 ⟨ux, l3, er3, rfl, hq3, hux, hb7⟩
  obtain ⟨rfl, rfl⟩ := hq3.unique HQ.out
  obtain ⟨X, hX⟩ : ∃ X, (if er3 = 0 then trimL (mrgP p l3) else []) = X := ⟨_, rfl⟩
  have HX := hid hX
  rw [hX] at hux
  have HB7 := hid (HB6.out.trans (hb7.mono HB6.out.size))
  have HUA7 := hid (HUA6.out.below hb7)
  have HUB7 := hid (HUB6.out.below hb7)
  have HUC7 := hid (HUC6.out.below hb7)
  have HUD7 := hid (HUD.out.below hb7)
  have HUX := hid hux
  obtain ⟨xa, xc, rfl, -⟩ := hux.open
  have S2 := hid (ref7_Shortest vs _ _ s g p w7 (HSG.out.below HB7.out) (HGG.out.below HB7.out) (HPP.out.below HB7.out) HS1.out)
  clear hux hb7 S1 HUA6 HUB6 HUC6 HUD hq3 hX
  go_wp2_with fail
  refine S2.out.mono ?_
  rintro e w8 ⟨uy, l4, er4, rfl, hq4, huy, hb8⟩
  obtain ⟨rfl, rfl⟩ := hq4.unique HQ.out
  rw [HX.out] at huy
  have HB8 := hid (HB7.out.trans (hb8.mono HB7.out.size))
  have HUA8 := hid (HUA7.out.below hb8)
  have HUB8 := hid (HUB7.out.below hb8)
  have HUC8 := hid (HUC7.out.below hb8)
  have HUD8 := hid (HUD7.out.below hb8)
  have HUX8 := hid (HUX.out.below hb8)
  have HUY := hid huy
  obtain ⟨ya, yc, rfl, -⟩ := huy.open
  have G1 := hid (short_Good vs _ _ s g p w8 (HSG.out.below HB8.out) (HGG.out.below HB8.out) (HPP.out.below HB8.out) HS1.out)
  clear huy hb8 S2 HUA7 HUB7 HUC7 HUD7 HUX hq4
  -- Good
  go_wp2_with fail
  refine G1.out.mono ?_
  rintro e w9 ⟨l5, er5, hq5, rfl, hb9⟩
  obtain ⟨rfl, rfl⟩ := hq5.unique HQ.out
  have HB89 := hid hb9
  have HB9 := hid (HB8.out.trans (hb9.mono HB8.out.size))
  have G2 := hid (ref7_Good vs _ _ s g p w9 (HSG.out.below HB9.out) (HGG.out.below HB9.out) (HPP.out.below HB9.out) HS1.out)
  obtain ⟨z, hz⟩ : ∃ z, decide (er5 = 0) = z := ⟨_, rfl⟩
  have HZ := hid hz
  rw [hz]
  clear hb9 G1 hq5 hz
  go_wp2_with fail
  refine G2.out.mono ?_
  rintro e wa ⟨l6, er6, hq6, rfl, hba⟩
  obtain ⟨rfl, rfl⟩ := hq6.unique HQ.out
  rw [HZ.out]
  have HB8a := hid (HB89.out.trans (hba.mono HB89.out.size))
  have HBa := hid (HB9.out.trans (hba.mono HB9.out.size))
  have cz : (z != z) = false := by cases z <;> rfl
  have c1 : (E1 != E1) = false := by simp
  have c2 : (er6 != er6) = false := by simp
  have P1 := hid (ref6_SameProof _ _ A A wa (HUA8.out.below HB8a.out) (HUB8.out.below HB8a.out))
  rw [decide_eq_true (rfl : A = A)] at P1
  clear hba G2 hq6
  cases z
  all_goals
    go_wp2_with fail
    refine P1.out.mono ?_
    rintro e wb ⟨rfl, n1, hwb⟩
    have hab : Below wa.heap.size wa wb := hwb ▸ below_self_drewN _ _
    have HB8b := hid (HB8a.out.trans (hab.mono HB8a.out.size))
    have P2 := hid (ref6_SameProof _ _ C C wb (HUC8.out.below HB8b.out) (HUD8.out.below HB8b.out))
    rw [decide_eq_true (rfl : C = C)] at P2
    clear hwb hab P1
    go_wp2_with fail
    refine P2.out.mono ?_
    rintro e wc ⟨rfl, n2, hwc⟩
    have HB8c := hid (show Below w8.heap.size w8 wc from hwc ▸ below_drewN HB8b.out n2)
    have P3 := hid (ref6_SameProof _ _ X X wc (HUX8.out.below HB8c.out) (HUY.out.below HB8c.out))
    rw [decide_eq_true (rfl : X = X)] at P3
    clear hwc P2
    go_wp2_with fail
    refine P3.out.mono ?_
    rintro e wd ⟨rfl, n3, hwd⟩
    have HB8d := hid (show Below w8.heap.size w8 wd from hwd ▸ below_drewN HB8c.out n3)
    have HBd := hid (HB8.out.trans (HB8d.out.mono HB8.out.size))
    clear hwd P3
  · go_wp2
    go_ret
    exact ⟨rfl, HBd.out⟩
  have h0 : er6 = 0 := of_decide_eq_true HZ.out
  subst h0
  have hx2 := HX.out
  have hc2 := HC.out
  have ha2 := HA.out
  rw [if_pos rfl] at hx2 hc2
  have hgd := HQ.out.good
  obtain ⟨hgv, hpv⟩ := asked_parts hgd.1
  have hg60 : g.length ≤ 60 := by unfold givensB at hgv; rw [Bool.and_eq_true, Bool.and_eq_true, decide_eq_true_eq] at hgv; omega
  rw [if_pos (show vldB g.length p = true by unfold vldB; rw [hpv, inB_true.2 (by omega)]; rfl)] at ha2
  have htri := tri_law HQ.out
  rw [hx2, hc2, ha2] at htri
  obtain ⟨V, hV⟩ : ∃ V, l6.getD (p.length - 1) [] = V := ⟨_, rfl⟩
  rw [hV] at htri
  have HTRI := hid htri
  have UA := hid (HUA8.out.below HB8d.out)
  have UC := hid (HUC8.out.below HB8d.out)
  have UX := hid (HUX8.out.below HB8d.out)
  clear hx2 hc2 ha2 hgd hgv hpv hg60 htri hV HUA8 HUB8 HUC8 HUD8 HUX8 HUY HB8a HB8b HB8c HA HC HX HE1
  have K1 := hid (kernel_Says vs _ _ s g p wd (HSG.out.below HBd.out) (HGG.out.below HBd.out) (HPP.out.below HBd.out) HS1.out)
  go_wp2_with fail
  refine K1.out.mono ?_
  rintro e we ⟨v0, ut, hv0, rfl, hit, hbe⟩
  obtain rfl := hv0.unique HTRI.out.sp
  dsimp only at hit ⊢
  have HBe := hid (HBd.out.trans (hbe.mono HBd.out.size))
  have HIT := hid hit
  have UA' := hid (UA.out.below hbe)
  have UC' := hid (UC.out.below hbe)
  have UX' := hid (UX.out.below hbe)
  obtain ⟨ta, tc, rfl, -⟩ := hit.open
  clear hit hbe hv0 K1 UA UC UX
  obtain ⟨d0, d1, d2⟩ := cell3_new7 we (.slice aa A.length ac) (.slice ca C.length cc) (.slice xa X.length xc) 25
  have hbl : Below we.heap.size we (we.alloc (.cells #[.slice aa A.length ac, .slice ca C.length cc, .slice xa X.length xc] 25)) := (Below.refl _ _).alloc (Nat.le_refl _) _
  obtain ⟨WL, hWL⟩ : ∃ W, we.alloc (.cells #[.slice aa A.length ac, .slice ca C.length cc, .slice xa X.length xc] 25) = W := ⟨_, rfl⟩
  have HWL := hid hWL
  rw [hWL] at d0 d1 d2 hbl
  have HF := hid (fun (k : Nat) (hk : k < 3) => (show ∃ (a : Option Addr) (c : Nat) (q : List St), WL.cell? ⟨we.heap.size, k, none⟩ = some (.slice a q.length c) ∧ StepsAt WL (.slice a q.length c) q ∧ SayP s g q (V, 0) ∧ q.length ≤ p.length from by
    match k, hk with
    | 0, _ => exact ⟨_, _, A, d0, UA'.out.below hbl, HTRI.out.sa, HTRI.out.la⟩
    | 1, _ => exact ⟨_, _, C, d1, UC'.out.below hbl, HTRI.out.sc, HTRI.out.lc⟩
    | 2, _ => exact ⟨_, _, X, d2, UX'.out.below hbl, HTRI.out.sx, HTRI.out.lx⟩
    | k + 3, hk => omega))
  have HBL := hid (HBe.out.trans (hbl.mono HBe.out.size))
  have HEL := hid hbl
  have HITL := hid (HIT.out.below hbl)
  clear d0 d1 d2 hbl hWL HIT
  go_wp2
  rw [HWL.out]
  clear HWL
  go_loopw [134] (fun kv wr => ∃ k : Nat, k ≤ 3 ∧ kv = .int .i64 k ∧ Below WL.heap.size WL wr) (fun kv _ => 3 - (intOf kv).toNat)
  case atStart => exact ⟨0, by omega, rfl, Below.refl _ _⟩
  case round =>
    obtain ⟨k, hk, rfl, hb⟩ := hrel
    have HB := hid hb
    by_cases hlt : k < 3
    · obtain ⟨qa, qc, q, c0, hq, hsay, hql⟩ := HF.out k hlt
      have x0 := (hb.cell (World.block_lt_of_cell? _ _ c0)).trans c0
      have hbw := HBL.out.trans (hb.mono HBL.out.size)
      have KS := hid (kernel_Says vs _ _ s g q wr (HSG.out.below hbw) (HGG.out.below hbw) (hq.below hb) HS1.out)
      have q1 : ¬ (q.length : Int) > (p.length : Int) := by omega
      have HSAY := hid hsay
      clear c0 hq hsay hbw hb hql
      go_wp2_with fail
      refine KS.out.mono ?_
      rintro e wz ⟨v1, uu, hv1, rfl, hi1, hb1⟩
      obtain rfl := hv1.unique HSAY.out
      dsimp only at hi1 ⊢
      have HBZ := hid (HB.out.trans (hb1.mono HB.out.size))
      have ST := hid (ref6_SameTerm _ _ V V wz (HITL.out.below HBZ.out) hi1)
      rw [decide_eq_true (rfl : V = V)] at ST
      obtain ⟨va, vc, rfl, -⟩ := hi1.open
      clear hi1 hb1 hv1 KS HSAY x0
      go_wp2_with fail
      refine ST.out.mono ?_
      rintro e wy ⟨rfl, n9, hwy⟩
      have HBY := hid (show Below WL.heap.size WL wy from hwy ▸ below_drewN HBZ.out n9)
      clear hwy ST
      go_wp2
      go_roundw
      case rel => exact ⟨k + 1, by omega, by go_num, HBY.out⟩
      case measure => simp [intOf]; omega
    · have hk3 : k = 3 := by omega
      subst hk3
      obtain ⟨WF, hWF⟩ : ∃ W, W = wr := ⟨wr, rfl⟩
      subst hWF
      have HBF := hid (HBL.out.trans (hb.mono HBL.out.size))
      have UAF := hid ((UA'.out.below HEL.out).below hb)
      have UCF := hid ((UC'.out.below HEL.out).below hb)
      have UXF := hid ((UX'.out.below HEL.out).below hb)
      have T3 := hid (short_Trimmed (g.length : Int) _ A WF UAF.out)
      have eA : vldE g.length A = 0 := by unfold vldE; rw [HTRI.out.va]; rfl
      unfold TrmQ at T3
      rw [HTRI.out.va, if_pos rfl, HTRI.out.ta, eA] at T3
      clear hb HB HF UA' UC' UX' HITL HBL HEL eA
      go_wp2_with fail
      refine T3.out.mono ?_
      rintro e x1 ⟨u1, rfl, hu1, hb1⟩
      have HX1 := hid (HBF.out.trans (hb1.mono HBF.out.size))
      have V1 := hid hu1
      have UA1 := hid (UAF.out.below hb1)
      have UC1 := hid (UCF.out.below hb1)
      have UX1 := hid (UXF.out.below hb1)
      obtain ⟨e1a, e1c, rfl, -⟩ := hu1.open
      have M3 := hid (short_Merged vs _ _ s g C x1 (HSG.out.below HX1.out) (HGG.out.below HX1.out) UC1.out HS1.out (HTAB.out.below HX1.out))
      clear hu1 hb1 T3 UAF UCF UXF
      go_wp2_with fail
      refine M3.out.mono ?_
      rintro e x2 ⟨u2, l2, er2, rfl, hq2, hu2, hb2⟩
      obtain rfl := HTRI.out.okc _ _ hq2
      rw [if_pos rfl, HTRI.out.mc _ hq2] at hu2
      have HX2 := hid (HX1.out.trans (hb2.mono HX1.out.size))
      have V1' := hid (V1.out.below hb2)
      have V2 := hid hu2
      have UA2 := hid (UA1.out.below hb2)
      have UC2 := hid (UC1.out.below hb2)
      have UX2 := hid (UX1.out.below hb2)
      obtain ⟨e2a, e2c, rfl, -⟩ := hu2.open
      have S3 := hid (short_Shortest vs _ _ s g X x2 (HSG.out.below HX2.out) (HGG.out.below HX2.out) UX2.out HS1.out (HTAB.out.below HX2.out))
      clear hu2 hb2 hq2 M3 V1 UA1 UC1 UX1
      go_wp2_with fail
      refine S3.out.mono ?_
      rintro e x3 ⟨u3, l3, er3, rfl, hq3, hu3, hb3⟩
      obtain rfl := HTRI.out.okx _ _ hq3
      rw [if_pos rfl, HTRI.out.mx _ hq3] at hu3
      have HX3 := hid (HX2.out.trans (hb3.mono HX2.out.size))
      have V1'' := hid (V1'.out.below hb3)
      have V2' := hid (V2.out.below hb3)
      have V3 := hid hu3
      have UA3 := hid (UA2.out.below hb3)
      have UC3 := hid (UC2.out.below hb3)
      have UX3 := hid (UX2.out.below hb3)
      obtain ⟨e3a, e3c, rfl, -⟩ := hu3.open
      have P4 := hid (ref6_SameProof _ _ A A x3 UA3.out V1''.out)
      rw [decide_eq_true (rfl : A = A)] at P4
      clear hu3 hb3 hq3 S3 V1' V2 UA2 UC2 UX2
      go_wp2_with fail
      refine P4.out.mono ?_
      rintro e x4 ⟨rfl, n4, hx4⟩
      have HX34 := hid (show Below x3.heap.size x3 x4 from hx4 ▸ below_self_drewN _ _)
      have P5 := hid (ref6_SameProof _ _ C C x4 (UC3.out.below HX34.out) (V2'.out.below HX34.out))
      rw [decide_eq_true (rfl : C = C)] at P5
      clear hx4 P4
      go_wp2_with fail
      refine P5.out.mono ?_
      rintro e x5 ⟨rfl, n5, hx5⟩
      have HX35 := hid (show Below x3.heap.size x3 x5 from hx5 ▸ below_drewN HX34.out n5)
      have P6 := hid (ref6_SameProof _ _ X X x5 (UX3.out.below HX35.out) (V3.out.below HX35.out))
      rw [decide_eq_true (rfl : X = X)] at P6
      clear hx5 P5
      go_wp2_with fail
      refine P6.out.mono ?_
      rintro e x6 ⟨rfl, n6, hx6⟩
      have HX36 := hid (HX3.out.trans ((show Below x3.heap.size x3 x6 from hx6 ▸ below_drewN HX35.out n6).mono HX3.out.size))
      clear hx6 P6
      go_wp2
      go_ret
      exact ⟨rfl, HX36.out⟩
end Go.Proofs.YtmpjaakkjhmpmaaGreatDoor
