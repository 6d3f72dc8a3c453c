/-
  WHAT IT HOLDS: contracts of Apply, Occurs, Match, Unifies of the reference of layer 2. Conditions: the arguments read as data; small signs.
-/
import Derived.Test.YtidigpfiagjeiaaZRUnifyUnifies45
import Derived.Test.YtidigpfiagjeiaaZRUnifyUnifies37
namespace Go.Proofs.Ytidigpfiagjeiaa
open Go Go.RowKit Go.Maps
theorem ref1_ValidW (v vt : Value) (s : Sg) (t : List Int) (w : World) (hs : SignAt w v s) (ht : Ints w vt t) :
    Calls Try.prog 69 #[v, vt] w fun e w' => e = .returned (.bool (termB s t)) ∧ Below w.heap.size w w' :=
  (ref1_Valid v vt s t w hs ht).mono fun e w' ⟨h1, n, h2⟩ => ⟨h1, by rw [h2]; exact below_self_drewN w n⟩
set_option maxHeartbeats 1000000 in
set_option maxRecDepth 100000 in
theorem ref2_Apply (vs v vt : Value) (s : Sg) (l : BL) (t : List Int) (w : World) (hs : SignAt w vs s) (hv : BindsAt w v l) (ht : Ints w vt t) :
    Calls Try.prog 33 #[vs, v, vt] w fun e w' => ∃ u, e = .returned (.tuple #[u, .int .i64 (appR s l t).2]) ∧ Ints w' u (appR s l t).1 ∧ Below w.heap.size w w' := by
  have HVB := hid (ref2_ValidBinds vs v s l w hs hv)
  have HVT := hid (fun (X : World) (hX : Below w.heap.size w X) => ref1_ValidW vs vt s t X (hs.below hX) (ht.below hX))
  have HV := hid hv
  have HT := hid ht
  clear hs hv ht
  cases h2 : bndsB s l
  · have HA : Hid (appR s l t = ([], 1)) := hid (by unfold appR; rw [h2, Bool.and_false]; rfl)
    simp only [h2] at HVB
    clear h2
    rw [HA.out]
    go_enter Try.func33, Try.ntmps33
    go_wp2_with fail
    refine HVB.out.mono ?_
    rintro e w1 ⟨rfl, hb1⟩
    go_wp2
    go_ret2
    exact ⟨_, rfl, ints_nil _, hb1⟩
  · simp only [h2] at HVB
    cases h1 : termB s t
    · have HA : Hid (appR s l t = ([], 1)) := hid (by unfold appR; rw [h1]; rfl)
      simp only [h1] at HVT
      clear h1 h2
      rw [HA.out]
      go_enter Try.func33, Try.ntmps33
      go_wp2_with fail
      refine HVB.out.mono ?_
      rintro e w1 ⟨rfl, hb1⟩
      go_wp2_with fail
      refine (HVT.out _ hb1).mono ?_
      rintro e w2 ⟨rfl, hb2⟩
      go_wp2
      go_ret2
      exact ⟨_, rfl, ints_nil _, hb1.trans (hb2.mono hb1.size)⟩
    · have HA : Hid (appR s l t = if (subL (ofN l) t).length ≤ 60 then (subL (ofN l) t, 0) else ([], 4)) := hid (by unfold appR; rw [h1, h2]; rfl)
      have hPL := sub_le h2 (termB_T h1)
      have htl := (termB_facts h1).2.2.2
      have HAP := hid (fun (X : World) (hX : Below w.heap.size w X) => ref2_Applied v vt l t X (HV.out.below hX) (HT.out.below hX) (by omega) (fun x hx => by have := T_small (termB_T h1) (by have := (termB_facts h1).2.2.1; omega) x hx; omega)
        (fun x hx h0 => (ofN_T h2 ((termB_T h1).vars x hx h0) h0).2))
      simp only [h1] at HVT
      clear h1 h2
      obtain ⟨r, hr⟩ : ∃ r, subL (ofN l) t = r := ⟨_, rfl⟩
      simp only [hr] at HAP hPL HA
      clear hr
      go_enter Try.func33, Try.ntmps33
      go_wp2_with fail
      refine HVB.out.mono ?_
      rintro e w1 ⟨rfl, hb1⟩
      have HB1 := hid hb1
      clear hb1
      go_wp2_with fail
      refine (HVT.out _ HB1.out).mono ?_
      rintro e w2 ⟨rfl, hb2⟩
      have HB2 := hid (HB1.out.trans (hb2.mono HB1.out.size))
      clear hb2
      go_wp2_with fail
      refine (HAP.out _ HB2.out).mono ?_
      rintro e w4 ⟨u, rfl, hown, hb4⟩
      have hi4 := (Ints.of_owns hown (by omega) : Ints w4 u r)
      have HI4 := hid hi4
      obtain ⟨ua, uc, rfl, -⟩ := hi4.open
      have HB4 := hid (HB2.out.trans (hb4.mono HB2.out.size))
      clear hown hb4 hi4
      by_cases h60 : r.length ≤ 60
      · have HA2 : Hid (appR s l t = (r, 0)) := hid (by rw [HA.out, if_pos h60])
        go_wp2
        go_ret2
        rw [HA2.out]
        exact ⟨_, rfl, HI4.out, HB4.out⟩
      · have HA2 : Hid (appR s l t = ([], 4)) := hid (by rw [HA.out, if_neg h60])
        go_wp2
        go_ret2
        rw [HA2.out]
        exact ⟨_, rfl, ints_nil _, HB4.out⟩
set_option maxRecDepth 100000 in
theorem ref2_Occurs (vs vt : Value) (s : Sg) (v : Int) (t : List Int) (w : World) (hs : SignAt w vs s) (ht : Ints w vt t) :
    Calls Try.prog 35 #[vs, .int .i64 v, vt] w fun e w' => e = .returned (.tuple #[.bool (occR s v t).1, .int .i64 (occR s v t).2]) ∧ Below w.heap.size w w' := by
  have HVT := hid (ref1_ValidW vs vt s t w hs ht)
  have HT := hid ht
  clear hs ht
  cases h1 : termB s t
  · have HA : Hid (occR s v t = (false, 1)) := hid (by unfold occR; rw [h1]; rfl)
    simp only [h1] at HVT
    clear h1
    rw [HA.out]
    go_enter Try.func35, Try.ntmps35
    go_wp2_with fail
    refine HVT.out.mono ?_
    rintro e w1 ⟨rfl, hb1⟩
    go_wp2
    go_ret2
    exact ⟨rfl, hb1⟩
  · simp only [h1] at HVT
    cases h2 : inB v 0 11
    · have HA : Hid (occR s v t = (false, 7)) := hid (by unfold occR; rw [h1, h2]; rfl)
      have HW := hid (fun X => ref2_within v 0 11 X)
      simp only [h2] at HW
      clear h1 h2
      rw [HA.out]
      go_enter Try.func35, Try.ntmps35
      go_wp2_with fail
      refine HVT.out.mono ?_
      rintro e w1 ⟨rfl, hb1⟩
      go_wp2_with fail
      refine (HW.out _).mono ?_
      rintro e w2 ⟨rfl, rfl⟩
      go_wp2
      go_ret2
      exact ⟨rfl, hb1⟩
    · have HA : Hid (occR s v t = (decide (-v - 1 ∈ t), 0)) := hid (by unfold occR; rw [h1, h2]; rfl)
      have HW := hid (fun X => ref2_within v 0 11 X)
      have hv := inB_true.1 h2
      simp only [h2] at HW
      clear h1 h2
      rw [HA.out]
      go_enter Try.func35, Try.ntmps35
      go_wp2_with fail
      refine HVT.out.mono ?_
      rintro e w1 ⟨rfl, hb1⟩
      have HC := hid (ref1_Has vt t (-v - 1) w1 (HT.out.below hb1))
      go_wp2_with fail
      refine (HW.out _).mono ?_
      rintro e w2 ⟨rfl, rfl⟩
      go_wp2_with fail
      refine HC.out.mono ?_
      rintro e w5 ⟨rfl, rfl⟩
      go_wp2
      go_ret2
      exact ⟨rfl, hb1⟩
theorem bind_conv {m : MM} {k : Nat} : (bindL m k).map (fun b => ((b.1 : Int), b.2)) = bndL m k := by
  unfold bindL bndL
  rw [List.map_filterMap]
  congr 1
  funext v
  cases m (-(v : Int) - 1) with
  | none => rfl
  | some l => simp only; split <;> rfl
theorem ref2_MatchB (vs va vb : Value) (s : Sg) (a b : List Int) (w : World) (hs : SignAt w vs s) (ra : Ints w va a) (rb : Ints w vb b) (hs1 : s.length ≤ 1000) :
    Calls Try.prog 46 #[vs, va, vb] w fun e w' => ∃ u, e = .returned (.tuple #[u, .int .i64 (mtR s a b).2]) ∧ BindsAt w' u (mtR s a b).1 ∧ Below w.heap.size w w' := by
  refine (ref2_Match vs va vb s a b w hs ra rb hs1).mono ?_
  rintro e w1 ⟨hb, ⟨h1, rfl⟩ | ⟨h1, h2, rfl⟩ | ⟨h1, m, u, bs, h2, rfl, h3, h4, h5⟩⟩
  · have : mtR s a b = ([], 1) := by unfold mtR; rw [h1]; rfl
    rw [this]
    exact ⟨_, rfl, binds_nil _, hb⟩
  · have : mtR s a b = ([], 8) := by unfold mtR; rw [h1, h2]; rfl
    rw [this]
    exact ⟨_, rfl, binds_nil _, hb⟩
  · have : mtR s a b = (bndL m 12, 0) := by unfold mtR; rw [h1, h2]; rfl
    rw [this]
    refine ⟨_, rfl, ?_, hb⟩
    have hl : bs.length ≤ 12 := by
      have := bindL_len m 12
      rw [← h4] at this
      simpa [bPure] using this
    have e : bndL m 12 = biP (bs.map fun b => ((b.1 : Int), b.2)) := by
      rw [← bind_conv, ← h4]
      simp [bPure, biP]
    rw [e]
    have hc : bCells bs = biC (bs.map fun b => ((b.1 : Int), b.2)) := by simp [bCells, biC, List.flatMap_map]
    rw [hc] at h3
    refine BindsAt.of_owns (base := w.heap.size) (e := 61) (by simpa using h3) (by simp; omega) fun x hx => ?_
    obtain ⟨b, hb', rfl⟩ := List.mem_map.1 hx
    exact h5 b hb'
set_option maxHeartbeats 1000000 in
set_option maxRecDepth 100000 in
theorem ref2_Unifies (vs v va vb : Value) (s : Sg) (l : BL) (a b : List Int) (w : World) (hs : SignAt w vs s) (hv : BindsAt w v l) (ra : Ints w va a) (rb : Ints w vb b) :
    Calls Try.prog 49 #[vs, v, va, vb] w fun e w' => e = .returned (.bool (unifB s l a b)) ∧ Below w.heap.size w w' := by
  have HVL := hid (ref2_ValidBinds vs v s l w hs hv)
  have HVA := hid (fun (X : World) (hX : Below w.heap.size w X) => ref1_ValidW vs va s a X (hs.below hX) (ra.below hX))
  have HVB := hid (fun (X : World) (hX : Below w.heap.size w X) => ref1_ValidW vs vb s b X (hs.below hX) (rb.below hX))
  have HV := hid hv
  have RA := hid ra
  have RB := hid rb
  clear hs hv ra rb
  cases h1 : bndsB s l
  · have HA : Hid (unifB s l a b = false) := hid (by unfold unifB; rw [h1]; rfl)
    simp only [h1] at HVL
    clear h1
    go_enter Try.func49, Try.ntmps49
    go_wp2_with fail
    refine HVL.out.mono ?_
    rintro e w1 ⟨rfl, hb1⟩
    go_wp2
    go_ret
    exact ⟨ret_bool HA.out.symm, hb1⟩
  · simp only [h1] at HVL
    cases h2 : termB s a
    · have HA : Hid (unifB s l a b = false) := hid (by unfold unifB; rw [h1, h2]; rfl)
      simp only [h2] at HVA
      clear h1 h2
      go_enter Try.func49, Try.ntmps49
      go_wp2_with fail
      refine HVL.out.mono ?_
      rintro e w1 ⟨rfl, hb1⟩
      go_wp2_with fail
      refine (HVA.out _ hb1).mono ?_
      rintro e w2 ⟨rfl, hb2⟩
      go_wp2
      go_ret
      exact ⟨ret_bool HA.out.symm, hb1.trans (hb2.mono hb1.size)⟩
    · simp only [h2] at HVA
      cases h3 : termB s b
      · have HA : Hid (unifB s l a b = false) := hid (by unfold unifB; rw [h1, h2, h3]; rfl)
        simp only [h3] at HVB
        clear h1 h2 h3
        go_enter Try.func49, Try.ntmps49
        go_wp2_with fail
        refine HVL.out.mono ?_
        rintro e w1 ⟨rfl, hb1⟩
        go_wp2_with fail
        refine (HVA.out _ hb1).mono ?_
        rintro e w2 ⟨rfl, hb2⟩
        have hb12 := hb1.trans (hb2.mono hb1.size)
        go_wp2_with fail
        refine (HVB.out _ hb12).mono ?_
        rintro e w3 ⟨rfl, hb3⟩
        go_wp2
        go_ret
        exact ⟨ret_bool HA.out.symm, hb12.trans (hb3.mono hb12.size)⟩
      · have HA : Hid (unifB s l a b = decide (subL (ofN l) a = subL (ofN l) b)) := hid (by unfold unifB; rw [h1, h2, h3]; rfl)
        have hla := sub_le h1 (termB_T h2)
        have hlb := sub_le h1 (termB_T h3)
        have hal := (termB_facts h2).2.2.2
        have hbl := (termB_facts h3).2.2.2
        have HAP := hid (fun (X : World) (vt : Value) (t : List Int) (hX : Below w.heap.size w X) (ht : Ints X vt t) (h4 : termB s t = true) => ref2_Applied v vt l t X (HV.out.below hX) ht (by have := (termB_facts h4).2.2.2; omega) (fun x hx => by have := T_small (termB_T h4) (by have := (termB_facts h4).2.2.1; omega) x hx; omega)
          (fun x hx h0 => (ofN_T h1 ((termB_T h4).vars x hx h0) h0).2))
        have HT2 := hid h2
        have HT3 := hid h3
        simp only [h3] at HVB
        clear h1 h2 h3
        go_enter Try.func49, Try.ntmps49
        go_wp2_with fail
        refine HVL.out.mono ?_
        rintro e w1 ⟨rfl, hb1⟩
        have HB1 := hid hb1
        clear hb1
        go_wp2_with fail
        refine (HVA.out _ HB1.out).mono ?_
        rintro e w2 ⟨rfl, hb2⟩
        have HB2 := hid (HB1.out.trans (hb2.mono HB1.out.size))
        clear hb2
        go_wp2_with fail
        refine (HVB.out _ HB2.out).mono ?_
        rintro e w3 ⟨rfl, hb3⟩
        have HB3 := hid (HB2.out.trans (hb3.mono HB2.out.size))
        have HP1 := hid (HAP.out _ _ _ HB3.out (RA.out.below HB3.out) HT2.out)
        clear hb3
        obtain ⟨ra', hra⟩ : ∃ r, subL (ofN l) a = r := ⟨_, rfl⟩
        rw [hra] at HP1 hla HA
        go_wp2_with fail
        clear hra
        refine HP1.out.mono ?_
        rintro e w5 ⟨u1, rfl, hown, hb5⟩
        have HI5 := hid (Ints.of_owns hown (by omega) : Ints w5 u1 ra')
        have HB5 := hid (HB3.out.trans (hb5.mono HB3.out.size))
        have HP2 := hid (HAP.out _ _ _ HB5.out (RB.out.below HB5.out) HT3.out)
        clear hown hb5
        obtain ⟨rb', hrb⟩ : ∃ r, subL (ofN l) b = r := ⟨_, rfl⟩
        rw [hrb] at HP2 hlb HA
        clear hrb
        go_wp2_with fail
        refine HP2.out.mono ?_
        rintro e w6 ⟨u2, rfl, hown, hb6⟩
        have HI6 := hid (Ints.of_owns hown (by omega) : Ints w6 u2 rb')
        have HB6 := hid (HB5.out.trans (hb6.mono HB5.out.size))
        have HI5' := hid (HI5.out.below hb6)
        clear hown hb6
        go_wp2_with fail
        refine (ref1_Same u1 u2 ra' rb' w6 HI5'.out HI6.out).mono ?_
        rintro e w7 ⟨rfl, nq, rfl⟩
        go_wp2
        go_ret
        exact ⟨ret_bool HA.out.symm, below_drewN HB6.out nq⟩
end Go.Proofs.Ytidigpfiagjeiaa
