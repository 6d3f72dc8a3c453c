/-
  WHAT IT HOLDS: contract of Unify of package unify. Conditions: the arguments read as data; small signs.
  WHAT IT HOLDS: the walk of the law UnifyUnifies.
-/
import Derived.RangeFuncOwn
import Derived.Test.YtidigpfiagjeiaaZRUnifyUnifies41
import Derived.Test.YtidigpfiagjeiaaZRUnifyUnifies42
import Derived.Test.YtidigpfiagjeiaaZRUnifyUnifies37
import Derived.Test.YtidigpfiagjeiaaZRUnifyUnifies47
import Derived.Test.YtidigpfiagjeiaaZRUnifyUnifies33
import Derived.Test.YtidigpfiagjeiaaZRUnifyUnifies4
namespace Go.Proofs.Ytidigpfiagjeiaa
open Go Go.RowKit Go.Maps
theorem MapK.small {P : Program} {k : TypeId} {ε : Type} {ev : ε → Value} {w : World} {b n : Nat} {m : Int → Option ε} (h : MapK P k (Value.int .i64) ev w b n m) (hd : ∀ x, (m x).isSome = true → -24 ≤ x ∧ x < 0) : n ≤ 24 := by
  obtain ⟨es, clock, hb, hsz, hks, hin, hout, hst⟩ := h
  have hkey : ∀ e ∈ es.toList, ∃ x : Int, e.key = .int .i64 x ∧ -24 ≤ x ∧ x < 0 := fun e he => by
    obtain ⟨x1, v1, h1, h2, h3⟩ := hin e he
    exact ⟨x1, h1, hd x1 (by rw [h3]; rfl)⟩
  have hnd := ((MapKept.stamped_iff es clock).1 hst).2.2
  have h1 : (es.toList.map fun e => intOf e.key).Nodup := by
    unfold List.Nodup
    rw [List.pairwise_map]
    refine List.Pairwise.imp_of_mem (fun {e e'} he he' hne heq => ?_) hnd
    obtain ⟨x, hx, _⟩ := hkey e he
    obtain ⟨y, hy, _⟩ := hkey e' he'
    rw [hx, hy] at heq hne
    exact hne (by simp [intOf] at heq; rw [heq])
  have := nodup_bound_m 24 _ h1 (fun x hx => by
    obtain ⟨e, he, rfl⟩ := List.mem_map.1 hx
    obtain ⟨y, hy, h2⟩ := hkey e he
    rw [hy]
    simpa [intOf] using h2)
  rw [List.length_map] at this
  simp at this
  omega
theorem below_grown {w w' : World} (hb : Below w.heap.size w w') (row : Option Nat) : w.grownBy w' row := ⟨hb.os, hb.tape, hb.output, hb.size, fun k hk _ => hb.block k hk⟩
theorem ints_kept {w w' : World} {r : Nat} {o : Obj} {v : Value} {xs : List Int} (h : Ints w v xs) (hg : w.grownBy w' (some r)) (ho : w.heap[r]? = some o) (hc : o.isCells = false) : Ints w' v xs := by
  obtain ⟨h1, a, cap, h2, h3, h4, h5, h6⟩ := h
  refine ⟨h1, a, cap, h2, h3, h4, h5, fun j u hj => ?_⟩
  obtain ⟨b, q, h7, h8⟩ := h6 j u hj
  exact ⟨b, q, h7, cell_kept h8 hg (fun r' e => by cases e; exact ⟨o, ho, hc⟩)⟩
theorem ranges_iter {H : Type} {P : Program} {w : World} {k : TypeId} {R : Value → Option (DataW H × List MemPlace)} {b r n : Nat} {D : DataW H} {left : Lit → Bool} {cnt : Nat} (h : w.ranges P k R b r n D left cnt) : ∃ o, w.heap[r]? = some o ∧ o.isCells = false := by
  obtain ⟨es, clock, since, seen, c0, _, _, _, _, hr, _⟩ := h
  exact ⟨_, hr, rfl⟩
theorem fwM_dom {m : MM} {V : List Int} {f : MM} (hV : ∀ x, (m x).isSome = true → x ∈ V) (h : ∀ x, f x = if x ∈ V then fwM m x else none) : f = fwM m := by
  funext x
  rw [h]
  by_cases hx : x ∈ V
  · rw [if_pos hx]
  · rw [if_neg hx]
    cases hm : m x with
    | none => unfold fwM; rw [hm]; rfl
    | some p => exact absurd (hV x (by rw [hm]; rfl)) hx
set_option maxHeartbeats 4000000 in
set_option maxRecDepth 100000 in
theorem unify_Unify (vs va vb : Value) (s : Sg) (a b : List Int) (w : World) (hs : SignAt w vs s) (ra : Ints w va a) (rb : Ints w vb b) (hs1 : s.length ≤ 1000) :
    Calls Try.prog 52 #[vs, va, vb] w fun e w' => ∃ l x u, UniE s a b x ∧ (x = 0 → UniL s a b l) ∧ e = .returned (.tuple #[u, .int .i64 x]) ∧ BindsAt w' u l ∧ Below w.heap.size w w' := by
  cases h1 : termB s a
  · have HR : Hid (UniE s a b 1) := hid (by unfold UniE; rw [h1]; simp)
    go_enter Try.func52, Try.ntmps52
    go_wp2_with (first | (go_at_call 21; refine (term_Valid' _ _ _ _ _ hs ra hs1).mono ?_; rintro e w1 ⟨rfl, hb1⟩))
    go_ret2
    exact ⟨[], 1, _, HR.out, fun h => (by cases h), rfl, binds_nil _, hb1⟩
  · cases h2 : termB s b
    · have HR : Hid (UniE s a b 1) := hid (by unfold UniE; rw [h2]; simp)
      have H1 := hid h1
      have H2 := hid h2
      clear h1 h2
      go_enter Try.func52, Try.ntmps52
      go_wp2_with fail
      refine (term_Valid' _ _ _ _ _ hs ra hs1).mono ?_
      rintro e w1 ⟨rfl, hb1⟩
      rw [H1.out]
      go_wp2_with fail
      refine (term_Valid' _ _ _ _ _ (hs.below hb1) (rb.below hb1) hs1).mono ?_
      rintro e w2 ⟨rfl, hb2⟩
      rw [H2.out]
      have HB := hid (hb1.trans (hb2.mono hb1.size))
      clear hb1 hb2
      go_wp2
      go_ret2
      exact ⟨[], 1, _, HR.out, fun h => (by cases h), rfl, binds_nil _, HB.out⟩
    · have HR : Hid (∀ e, ((NoU s a b ∧ e = 8) ∨ ∃ m, Mgu s a b m ∧ ((Long m ∧ e = 4) ∨ (¬ Long m ∧ e = 0))) → UniE s a b e) := hid (by intro e he; unfold UniE; rw [h1, h2]; simpa using he)
      obtain ⟨f1, f2, f3, f4⟩ := termB_facts h1
      obtain ⟨_, _, _, f5⟩ := termB_facts h2
      have ta := termB_T h1
      have tb := termB_T h2
      have H1 := hid h1
      have H2 := hid h2
      have TA := hid (ta.mono (m' := 24) (by omega))
      have TB := hid (tb.mono (m' := 24) (by omega))
      clear h1 h2 ta tb
      go_enter Try.func52, Try.ntmps52
      go_wp2_with fail
      refine (term_Valid' _ _ _ _ _ hs ra hs1).mono ?_
      rintro e w1 ⟨rfl, hb1⟩
      rw [H1.out]
      go_wp2_with fail
      refine (term_Valid' _ _ _ _ _ (hs.below hb1) (rb.below hb1) hs1).mono ?_
      rintro e w2 ⟨rfl, hb2'⟩
      rw [H2.out]
      have hb2 := hb1.trans (hb2'.mono hb1.size)
      go_wp2_with fail
      clear hb2'
      refine (unify_solved _ _ _ s a b _ f1 TA.out TB.out f4 f5 (hs.below hb2) (ra.below hb2) (rb.below hb2)).mono ?_
      rintro e w4 ⟨hb4', px, ⟨rfl, hno⟩ | ⟨rfl, bm, M, hS, hmgu⟩⟩
      · have HB := hid (hb2.trans (hb4'.mono hb2.size))
        have HX : Hid (UniE s a b 8) := hid (HR.out _ (Or.inl ⟨hno, rfl⟩))
        clear hb4' hno hb1 hb2
        go_wp2
        go_ret2
        exact ⟨[], 8, _, HX.out, fun h => (by cases h), rfl, binds_nil _, HB.out⟩
      · have hb4 := hb2.trans (hb4'.mono hb2.size)
        have HMG := hid hmgu
        have HB := hid hb4
        have HS := hid hS
        have hsz := hb4.size
        obtain ⟨nM, hM⟩ := hS.map
        have hn24 : nM ≤ 24 := MapK.small hM (fun x hx => by
          obtain ⟨up, hup⟩ := Option.isSome_iff_exists.1 hx
          have := hmgu.1.val x up.2 (by unfold mOf; rw [hup]; rfl)
          exact ⟨this.1, this.2.1⟩)
        obtain ⟨D, hD, hLf⟩ := MapK.owns (hM.alloc (.map #[] 0)) Try.underlying3 (by simp only [maxLen]; omega)
        have c1 : (w4.alloc (.map #[] 0)).cell? ⟨px, 1, none⟩ = some (.map (some bm)) := cell_alloc_keep _ hS.c1
        have HM0 : Hid (TMap (w4.alloc (.map #[] 0)) w4.heap.size 0 (fun _ => none)) := hid (MapK.made _ _ _ _ _)
        have hbm := hM.lt
        have HD := hid hD
        have HLF := hid hLf
        have hmm := @run_makeMap Try.prog
        clear hb4' hb4 hmgu hS hb1 hb2 hM hD hLf
        go_wp2_with (first | (at_range; refine wpList_range_own _ rfl _ 65 rfl 3 25 (int_keyed Try.underlying3) Try.underlying65 anyR bm nM D rfl HD.out ?_; intro w6 hrg hg hs6))
        clear hmm
        go_frame
        simp only [World.size_alloc]
        have hb46 : Below w4.heap.size w4 w6 := ((Below.refl _ _).alloc (Nat.le_refl _) (.map #[] 0)).grown hg (by simp) (fun q hq => by cases hq)
        have HM6 := hid (HM0.out.kept hg (by simp))
        have HRG := hid hrg
        have HB46 := hid hb46
        have hr6 : (w4.alloc (.map #[] 0)).heap.size = w4.heap.size + 1 := by simp
        simp only [World.size_alloc] at HRG
        clear hrg hb46 hg hs6 hr6 HM0 HD c1
        go_loopw [] (fun wr => ∃ (left : Lit → Bool) (cnt n2 : Nat) (V : List Int) (M2 : Int → Option VT), wr.ranges Try.prog 3 anyR bm (w4.heap.size + 1) nM D left cnt ∧ Lf left M V ∧ TMap wr w4.heap.size n2 M2 ∧
          (∀ x, mOf M2 x = if x ∈ V then fwM (mOf M) x else none) ∧ (∀ x u p, M2 x = some (u, p) → Ints wr u p) ∧ (∀ x ∈ V, (mOf M x).isSome = true ∧ (fw (mOf M) [x]).length ≤ 60) ∧ Below w4.heap.size w4 wr) (fun wr => wr.rangeLeft bm (w4.heap.size + 1))
        case atStart => exact ⟨_, _, 0, [], _, HRG.out, HLF.out, HM6.out, fun x => rfl, (fun x u p h => by cases h), (fun x hx => by cases hx), HB46.out⟩
        case round =>
          obtain ⟨left, cnt, n2, V, M2, hrg, hlf, hm2, hmo, hmi, hV, hb⟩ := hrel
          have HRG2 := hid hrg
          have HLF2 := hid hlf
          have HM2 := hid hm2
          have HMO := hid hmo
          have HMI := hid hmi
          have HVV := hid hV
          have HBB := hid hb
          clear hrg hlf hm2 hmo hmi hV hb
          go_wp2_with (at_next; refine wpList_next_keys _ rfl _ rfl 3 (int_keyed Try.underlying3) Try.underlying3 bm (w4.heap.size + 1) nM D left cnt rfl HRG2.out ?_ ?_; rotate_left; intro x c w7 cnt7 hlx hrg7 hlt7 hg7 hs7 hen; rotate_left; intro hl0)
          · have hdom : ∀ x, (mOf M x).isSome = true → x ∈ V := fun x hx => by
              by_cases hv : x ∈ V
              · exact hv
              · have := (HLF2.out x).2 ⟨by unfold mOf at hx; simpa using hx, hv⟩
                rw [hl0] at this; cases this
            have HF := hid (fwM_dom hdom HMO.out)
            have HNL := hid (not_long HMG.out.1 (fun v hv => (HVV.out v (hdom v hv)).2))
            have HBD := hid (unify_binds w4.heap.size n2 M2 wr HM2.out HMI.out (fun x p h => by
              rw [HF.out] at h
              obtain ⟨h1, rfl⟩ := fwM_some h
              have h2 := (HVV.out x (hdom x h1)).2
              obtain ⟨q, hq⟩ := Option.isSome_iff_exists.1 h1
              have h3 := HMG.out.1.val x q hq
              have h4 := (fw_T HMG.out.1 (IsT.var (s := s) (m := 24) x h3.1 h3.2.1)).ne
              exact ⟨h4, by omega⟩))
            clear hl0 hdom
            refine HBD.out.mono ?_
            rintro e w8 ⟨u8, rfl, hbd, hb8⟩
            have HBD8 := hid hbd
            have HB8 := hid (HB.out.trans ((HBB.out.trans (hb8.mono HBB.out.size)).mono hsz))
            clear hbd hb8
            go_wp2
            go_ret2
            exact ⟨bndL (mOf M2) 12, 0, u8, HR.out _ (Or.inr ⟨_, HMG.out, Or.inr ⟨HNL.out, rfl⟩⟩), fun _ => ⟨H1.out, H2.out, _, HMG.out, HNL.out, by rw [HF.out]⟩, rfl, HBD8.out, HB8.out⟩
          · obtain ⟨hdx, hvx⟩ := (HLF2.out x).1 hlx
            have hdx' : (mOf M x).isSome = true := by unfold mOf; simpa using hdx
            obtain ⟨q, hq⟩ := Option.isSome_iff_exists.1 hdx'
            have hxr := HMG.out.1.val x q hq
            have hb7 : Below w4.heap.size w4 w7 := HBB.out.grown hg7 HBB.out.size (fun q hq => by cases hq; omega)
            have hbA : Below w7.heap.size w7 (w7.alloc (.cells #[.int .i64 x] 3)) := (Below.refl _ _).alloc (Nat.le_refl _) _
            have hb7A := hb7.trans (hbA.mono hb7.size)
            have hlit := ints_lit1 w7 x 3
            rw [hs7] at hlit
            have HFL := hid (unify_full px bm vs _ s M [x] (w7.alloc (.cells #[.int .i64 x] 3)) HMG.out.1 (HS.out.below hb7A) (.var x hxr.1 hxr.2.1) (by simp) hlit hs1)
            have HTY := hid (IsT.var (s := s) (m := 24) x hxr.1 hxr.2.1)
            obtain ⟨ob, hob, hobc⟩ := ranges_iter HRG2.out
            have HMI7 := hid (fun y u p h => (ints_kept (HMI.out y u p h) hg7 hob hobc).below hbA)
            have HM7 := hid ((HM2.out.kept hg7 (by simp)).belowS hbA)
            have HRG7 := hid (hrg7.kept (below_grown hbA none) (by simp) (by simp))
            have HB7 := hid hb7A
            have HDX := hid hdx'
            have HLT := hid hlt7
            have hs7A := hb7A.size
            have HSZ7 := hid hs7
            clear hlx hrg7 hlt7 hg7 hs7 hen hdx hdx' hq hb7 hbA hb7A hlit hob hobc
            generalize w7.alloc (.cells #[.int .i64 x] 3) = w7 at *
            refine HFL.out.mono ?_
            rintro e w8 ⟨u8, hb8, ⟨rfl, h60, hown⟩ | ⟨rfl, hlong⟩⟩
            · have hi8 := Ints.of_owns hown (by omega)
              obtain ⟨a8, k8, rfl, -⟩ := hi8.open
              have HI8 := hid hi8
              have HM8 := hid (HM7.out.belowS hb8)
              have HRG8 := hid (HRG7.out.kept (below_grown hb8 none) (by simp) (by simp))
              have HB8 := hid (HB7.out.trans (hb8.mono hs7A))
              have HMI8 := hid (fun y u p h => (HMI7.out y u p h).below hb8)
              have HKEY := hid (int_key x (wf_small (by omega) (by omega)))
              obtain ⟨t, ht⟩ : ∃ t, fw (mOf M) [x] = t := ⟨_, rfl⟩
              have HT := hid ht
              rw [ht] at HI8 h60
              clear hb8 hown hi8
              rw [ht]
              clear ht
              go_wp2_with (at_mapUpdate; refine wpList_update_mapK rfl _ _ _ 65 rfl (int_keyed Try.underlying3) eI_inj Try.underlying65 rfl HM8.out x ((.slice a8 t.length k8, t) : VT) rfl rfl HKEY.out ?_; intro w9 hM9 hg9)
              have HM9 := hid hM9
              have HG9 := hid hg9
              clear hM9 hg9
              simp only [Act.put]
              go_roundw
              case rel =>
                refine ⟨_, _, _, x :: V, _, HRG8.out.kept HG9.out (by simp; omega) (by simp), HLF2.out.step x, HM9.out, fun y => ?_, fun y u p h => ?_, fun y hy => ?_, HB8.out.grown HG9.out HB8.out.size (fun q hq => by cases hq; exact Nat.le_refl _)⟩
                · rw [mOf_upd]
                  unfold updM
                  by_cases hy : y = x
                  · subst hy
                    have h1 := HDX.out
                    obtain ⟨q, hq⟩ := Option.isSome_iff_exists.1 h1
                    simp [fwM, hq, HT.out]
                  · rw [if_neg hy, HMO.out]
                    simp [hy]
                · by_cases hy : y = x
                  · simp only [if_pos hy] at h
                    cases h
                    exact HM8.out.ints rfl HG9.out HI8.out
                  · simp only [if_neg hy] at h
                    exact HM8.out.ints rfl HG9.out (HMI8.out y u p h)
                · rcases List.mem_cons.1 hy with rfl | hy
                  · exact ⟨HDX.out, by rw [HT.out]; exact h60⟩
                  · exact HVV.out y hy
              case measure =>
                rw [(HRG8.out.kept HG9.out (by simp; omega) (by simp)).left_eq, HRG2.out.left_eq]
                exact HLT.out
            · have HLG := hid (long_at HMG.out.1 HDX.out hlong)
              have HB8 := hid (HB.out.trans ((HB7.out.trans (hb8.mono hs7A)).mono hsz))
              clear hlong hb8
              go_wp2
              go_ret2
              exact ⟨[], 4, _, HR.out _ (Or.inr ⟨_, HMG.out, Or.inl ⟨HLG.out, rfl⟩⟩), fun h => (by cases h), rfl, binds_nil _, HB8.out⟩
end Go.Proofs.Ytidigpfiagjeiaa
namespace Go.Proofs.Ytidigpfiagjeiaa
open Go Go.RowKit Go.Maps
theorem UnifR_len {s : Sg} {a b : List Int} {x : List Int × Int} (h : UnifR s a b x) : x.1.length ≤ 60 := by
  unfold UnifR at h
  split at h
  · rcases h with ⟨_, rfl⟩ | ⟨m, _, ⟨hb, rfl⟩ | ⟨_, rfl⟩⟩
    · simp
    · simp only [canonL_len]; exact (madeB_iff.1 hb).1
    · simp
  · rw [h]; simp
theorem UnifR_unique {s : Sg} {a b : List Int} {x y : List Int × Int} (h : UnifR s a b x) (k : UnifR s a b y) : x = y := by
  unfold UnifR at h k
  split at h
  · rename_i hc
    rw [if_pos hc] at k
    rw [Bool.and_eq_true] at hc
    exact UR.unique ((termB_T hc.1).mono (by omega)) h k
  · rename_i hc
    rw [if_neg hc] at k
    rw [h, k]
set_option maxHeartbeats 4000000 in
set_option maxRecDepth 100000 in
theorem walk_UnifyUnifies (vs v0 v1 : Value) (s : Sg) (l0 l1 : List Int) (w : World) (hs : SignAt w vs s) (h0 : Ints w v0 l0) (h1 : Ints w v1 l1) :
    Calls Try.prog 14 #[vs, v0, v1] w fun e w' => e = .returned (.bool true) ∧ Below w.heap.size w w' := by
  obtain ⟨a0, k0, he0, -⟩ := h0.open
  obtain ⟨a1, k1, he1, -⟩ := h1.open
  subst he0 he1
  have HT := hid (terms_lit2 h0 h1 25)
  have hb2 : Below w.heap.size w (w.alloc (.cells #[.slice a0 l0.length k0, .slice a1 l1.length k1] 25)) := (Below.refl _ _).alloc (Nat.le_refl _) _
  have HSM := hid (law1_Small vs _ s _ _ (hs.below hb2) HT.out)
  have HB := hid hb2
  have HS := hid hs
  have H0 := hid h0
  have H1 := hid h1
  clear HT hb2 hs h0 h1
  go_enter Try.func14, Try.ntmps14
  go_wp2_with fail
  refine HSM.out.mono ?_
  rintro e w1 ⟨rfl, rfl⟩
  cases hsm : smallB s [l0, l1]
  · go_wp2_with fail
    refine (law2_awake _).mono ?_
    rintro e w2 ⟨rfl, hb3⟩
    have HB3 := hid (HB.out.trans (hb3.mono HB.out.size))
    clear hb3
    go_wp2
    go_ret
    exact ⟨rfl, HB3.out⟩
  · have hs40 : s.length ≤ 1000 := by simp [smallB] at hsm; omega
    clear hsm
    have HU := hid (fun (X : World) (hX : Below w.heap.size w X) => unify_Unify vs _ _ s l0 l1 X (HS.out.below hX) (H0.out.below hX) (H1.out.below hX) hs40)
    have HRU := hid (fun (X : World) (hX : Below w.heap.size w X) => ref2_Unify vs _ _ s l0 l1 X (HS.out.below hX) (H0.out.below hX) (H1.out.below hX))
    have HD := hid (fun (X : World) (hX : Below w.heap.size w X) => unify_Unified vs _ _ s l0 l1 X (HS.out.below hX) (H0.out.below hX) (H1.out.below hX) hs40)
    have HRD := hid (fun (X : World) (hX : Below w.heap.size w X) => ref2_Unified vs _ _ s l0 l1 X (HS.out.below hX) (H0.out.below hX) (H1.out.below hX))
    have HE := hid (fun (X : World) (hX : Below w.heap.size w X) => unify_Unifiable vs _ _ s l0 l1 X (HS.out.below hX) (H0.out.below hX) (H1.out.below hX) hs40)
    have HRE := hid (fun (X : World) (hX : Below w.heap.size w X) => ref2_Unifiable vs _ _ s l0 l1 X (HS.out.below hX) (H0.out.below hX) (H1.out.below hX))
    have HW := hid (fun (X : World) (hX : Below w.heap.size w X) => chainB hX (law2_awake X))
    clear HSM
    generalize w.alloc (.cells #[Value.slice a0 l0.length k0, Value.slice a1 l1.length k1] 25) = W at *
    go_wp2_with fail
    refine (HU.out _ HB.out).mono ?_
    rintro e w3 ⟨l, x, u3, hE, hL, rfl, hbd, hb3⟩
    obtain ⟨a3, k3, rfl, -⟩ := hbd.open
    have HB3 := hid (HB.out.trans (hb3.mono HB.out.size))
    have HL3 := hid hbd
    have HEX := hid hE
    have HUL := hid hL
    clear hb3 hbd hE hL HU
    go_wp2_with fail
    refine (HRU.out _ HB3.out).mono ?_
    rintro e w4 ⟨y, u4, hE, rfl, hb4⟩
    obtain rfl := HEX.out.unique hE
    have HB4 := hid (HB3.out.trans (hb4.mono HB3.out.size))
    have HL4 := hid (HL3.out.below hb4)
    clear hb4 hE HRU HL3
    go_wp2_with fail
    refine (HD.out _ HB4.out).mono ?_
    rintro e w5 ⟨xu, u5, hx, rfl, ho5, hb5⟩
    have hi5 := Ints.of_owns ho5 (by have := UnifR_len hx; omega)
    obtain ⟨a5, k5, rfl, -⟩ := hi5.open
    have HB5 := hid (HB4.out.trans (hb5.mono HB4.out.size))
    have HL5 := hid (HL4.out.below hb5)
    have HI5 := hid hi5
    have HXU := hid hx
    clear hb5 ho5 hi5 hx HD HL4
    go_wp2_with fail
    refine (HRD.out _ HB5.out).mono ?_
    rintro e w6 ⟨yu, u6, hx, rfl, ho6, hb6⟩
    obtain rfl := UnifR_unique HXU.out hx
    have hi6 := Ints.of_owns ho6 (by have := UnifR_len hx; omega)
    obtain ⟨a6, k6, rfl, -⟩ := hi6.open
    have HB6 := hid (HB5.out.trans (hb6.mono HB5.out.size))
    have HL6 := hid (HL5.out.below hb6)
    have HI56 := hid (HI5.out.below hb6)
    have HI6 := hid hi6
    clear hb6 ho6 hi6 hx HRD HL5 HI5
    obtain ⟨xt, xg⟩ := xu
    have n1 : (x != x) = false := by simp
    have n2 : (xg != xg) = false := by simp
    go_wp2_with fail
    refine (ref1_Same _ _ xt xt _ HI56.out HI6.out).mono ?_
    rintro e w7 ⟨rfl, nq, rfl⟩
    rw [show decide (xt = xt) = true from by simp]
    have hd7 := below_self_drewN w6 nq
    have HB7 := hid (HB6.out.trans (hd7.mono HB6.out.size))
    have HL7 := hid (HL6.out.below hd7)
    have HI7 := hid (HI56.out.below hd7)
    generalize w6.drewN nq = w7 at *
    clear hd7 HL6 HI56 HI6
    go_wp2_with fail
    refine (HE.out _ HB7.out).mono ?_
    rintro e w8 ⟨z, hz, rfl, hb8⟩
    have HB8 := hid (HB7.out.trans (hb8.mono HB7.out.size))
    have HL8 := hid (HL7.out.below hb8)
    have HI8 := hid (HI7.out.below hb8)
    have HZ := hid hz
    clear hb8 hz HL7 HI7
    go_wp2_with fail
    refine (HRE.out _ HB8.out).mono ?_
    rintro e w9 ⟨z', hz, rfl, hb9⟩
    obtain rfl := HZ.out.unique hz
    have n3 : (z != z) = false := by simp
    have HB9 := hid (HB8.out.trans (hb9.mono HB8.out.size))
    have HL9 := hid (HL8.out.below hb9)
    have HI9 := hid (HI8.out.below hb9)
    clear hb9 hz HL8 HI8 HE HRE HZ
    by_cases hx0 : x = 0
    · subst hx0
      have HUL2 := hid (HUL.out rfl)
      have hll0 : l0.length ≤ 60 := (termB_facts HUL2.out.1).2.2.2
      have hll1 : l1.length ≤ 60 := (termB_facts HUL2.out.2.1).2.2.2
      clear HUL HEX
      have hbA : Below w9.heap.size w9 (w9.alloc (.cells #[] 3)) := (Below.refl _ _).alloc (Nat.le_refl _) _
      have HOWNA := hid (World.ownsRow_lit (base := w9.heap.size) (e := 3) (size := 1) w9 #[] 0 (Nat.le_refl _) (by simp [maxLen]) rfl)
      have HBA := hid (HB9.out.trans (hbA.mono HB9.out.size))
      have HBA0 := hid hbA
      clear hbA
      go_wp2_with (first
        | (at_builtin; refine wpList_append_row rfl (.tmp 84) (.tmp 85) 25 rfl w9.heap.size 3 el_int Try.underlying25 rfl (by decide) _ 0 [] rfl HOWNA.out _ l0.length (l0.map (Value.int .i64)) rfl (H0.out.below HBA.out) (ints_one l0) (by omega) (by omega) (by simp) ?_; intro va wa howna hgrowa _; have hba : Below w9.heap.size w9 wa := HBA0.out.grown hgrowa (by simp) (fun q hq => (HOWNA.out.lt q hq).1); have hsza := hba.size)
        | (at_builtin; refine wpList_append_row rfl (.tmp 86) (.tmp 87) 25 rfl w9.heap.size 3 el_int Try.underlying25 rfl (by decide) _ _ _ rfl howna _ l1.length (l1.map (Value.int .i64)) rfl (H1.out.below (HB9.out.trans (hba.mono HB9.out.size))) (ints_one l1) (by omega) (by omega) hsza ?_; intro vb wb hownb hgrowb _; have hbb : Below w9.heap.size w9 wb := hba.grown hgrowb hsza (fun q hq => (howna.lt q hq).1)))
      have hown := hownb
      have hio : Ints wb vb (l0 ++ l1) := Ints.of_owns (base := w9.heap.size) (e := 3) (by simpa using hown) (by simp; omega)
      have HIO := hid hio
      have HBB := hid (HB9.out.trans (hbb.mono HB9.out.size))
      have HLB := hid (HL9.out.below hbb)
      have HIB := hid (HI9.out.below hbb)
      have HOWN := hid (fun (i : Nat) (hi : i < l.length) => uni_own HUL2.out hi)
      obtain ⟨bl, cl, hle, -, hl2, -, HC⟩ := HLB.out.open
      cases hle
      have HC' := hid HC
      clear hown hownb hgrowb howna hgrowa hba hbb hio HC HOWNA HBA HBA0 hsza HL9 HI9
      go_loopw [16] (fun kv wr => ∃ k : Nat, k ≤ l.length ∧ kv = .int .i64 k ∧ Below wb.heap.size wb wr) (fun kv _ => l.length - (intOf kv).toNat)
      case atStart => exact ⟨0, by omega, rfl, Below.refl _ _⟩
      case round =>
        obtain ⟨k, hk, rfl, hb⟩ := hrel
        have HBk := hid hb
        have hsk := hb.size
        by_cases hlt : k < l.length
        · obtain ⟨b, o, u, rfl, hc10, hc20, hi0⟩ := HC'.out k hlt
          have hc1 := (hb.cell (World.block_lt_of_cell? _ _ hc10)).trans hc10
          have hc2 := (hb.cell (World.block_lt_of_cell? _ _ hc20)).trans hc20
          obtain ⟨hv, hm, hT, h60, hvar⟩ := HOWN.out k hlt
          obtain ⟨x, hx⟩ : ∃ x, l[k].1 = x := ⟨_, rfl⟩
          rw [hx] at hc1 hv hm
          have hv0 := hv.1
          have hv1 := hv.2
          have HHS := hid (ref1_Has vb (l0 ++ l1) (-x - 1) wr (HIO.out.below hb))
          rw [show decide (-x - 1 ∈ l0 ++ l1) = true from decide_eq_true hm] at HHS
          have hxr := hT.range
          have HVR := hid (ref1_Variables u l[k].2 wr (hi0.below hb) (by omega) (fun y hy => by rcases hxr y hy with h | h <;> omega))
          obtain ⟨ts, hts⟩ : ∃ ts, (varsF [] l[k].2).map varN = ts := ⟨_, rfl⟩
          have hmem : ∀ y ∈ ts, -y - 1 ∈ l0 ++ l1 ∧ -1000 ≤ y ∧ y ≤ 1000 := by
            intro y hy
            rw [← hts] at hy
            obtain ⟨z, hz, rfl⟩ := List.mem_map.1 hy
            rcases (varsF_mem l[k].2 [] z).1 hz with h1 | h1
            · simp at h1
            · have h2 := hvar z h1.1 h1.2
              have h3 := hT.vars z h1.1 h1.2
              have e : -varN z - 1 = z := by unfold varN; omega
              rw [e]
              exact ⟨h2, by unfold varN; omega, by unfold varN; omega⟩
          have htl : (varsF [] l[k].2).length = ts.length := by rw [← hts]; simp
          rw [hts, htl] at HVR
          have htl12 : ts.length ≤ 12 := by rw [← htl]; exact vars_le_m hT
          have HMEM := hid hmem
          clear hb hc10 hc20 hi0 hv hm hT h60 hvar hx hxr hts hmem htl
          go_wp2_with fail
          with_reducible refine HHS.out.mono ?_
          rintro e wx ⟨rfl, rfl⟩
          go_wp2_with fail
          refine HVR.out.mono ?_
          rintro e wv ⟨uv, rfl, ho, hbv⟩
          have hiv := Ints.of_owns ho (by omega)
          obtain ⟨av, cv, rfl, -, -, -, HCV⟩ := hiv.open
          have HCV' := hid HCV
          have HBv := hid (HBk.out.trans (hbv.mono hsk))
          clear ho hbv hiv HCV
          go_wp2
          go_loopw [18] (fun jv wr => ∃ j : Nat, j ≤ ts.length ∧ jv = .int .i64 j ∧ Below wv.heap.size wv wr) (fun jv _ => ts.length - (intOf jv).toNat)
          case atStart => exact ⟨0, by omega, rfl, Below.refl _ _⟩
          case round =>
            obtain ⟨j, hj, rfl, hbj⟩ := hrel
            have HBj := hid hbj
            by_cases hltj : j < ts.length
            · obtain ⟨b', o', rfl, hcj0⟩ := HCV'.out j hltj
              have hcj := (hbj.cell (World.block_lt_of_cell? _ _ hcj0)).trans hcj0
              obtain ⟨hm, hr1, hr2⟩ := HMEM.out _ (List.getElem_mem hltj)
              obtain ⟨y, hy⟩ : ∃ y, ts[j] = y := ⟨_, rfl⟩
              rw [hy] at hcj hm hr1 hr2
              have HHJ := hid (ref1_Has vb (l0 ++ l1) (-y - 1) wr (HIO.out.below (HBv.out.trans (hbj.mono HBv.out.size))))
              rw [show decide (-y - 1 ∈ l0 ++ l1) = true from decide_eq_true hm] at HHJ
              clear hbj hcj0 hm hy
              go_wp2_with fail
              with_reducible refine HHJ.out.mono ?_
              rintro e wx ⟨rfl, rfl⟩
              go_wp2
              go_roundw
              case rel => exact ⟨j + 1, by omega, by go_num, HBj.out⟩
              case measure => simp [intOf]; omega
            · go_wp2
              go_roundw
              case rel => exact ⟨k + 1, by omega, by go_num, HBv.out.trans (HBj.out.mono HBv.out.size)⟩
              case measure => simp [intOf]; omega
        · have hbw := HBB.out.trans (HBk.out.mono HBB.out.size)
          have HBW := hid hbw
          have HLW := hid (HLB.out.below HBk.out)
          have HIW := hid (HIB.out.below HBk.out)
          have HUF := hid (unify_Unifies vs _ _ _ s l l0 l1 wr (HS.out.below hbw) HLW.out (H0.out.below hbw) (H1.out.below hbw) hs40)
          rw [uni_unifies HUL2.out] at HUF
          have HSV := hid (fun (X : World) (hX : Below wr.heap.size wr X) => unify_Solved vs _ s l X (HS.out.below (hbw.trans (hX.mono hbw.size))) (HLW.out.below hX) hs40)
          rw [uni_solved HUL2.out] at HSV
          have HAP := hid (fun (X : World) (hX : Below wr.heap.size wr X) => unify_Apply vs _ _ s l l0 X (HS.out.below (hbw.trans (hX.mono hbw.size))) (HLW.out.below hX) (H0.out.below (hbw.trans (hX.mono hbw.size))) hs40)
          have HUA := hid (fun h => uni_apply HUL2.out HXU.out h)
          obtain ⟨c, hc⟩ : ∃ c, appR s l l0 = c := ⟨_, rfl⟩
          rw [hc] at HUA HAP
          obtain ⟨c1, c2⟩ := c
          dsimp only at HUA HAP
          have hsw := hbw.size
          clear hb hbw hc hsk
          go_wp2_with fail
          refine HUF.out.mono ?_
          rintro e wa ⟨rfl, hba⟩
          have HBA := hid hba
          clear hba
          go_wp2_with fail
          refine (HSV.out _ HBA.out).mono ?_
          rintro e wc ⟨rfl, hbc⟩
          have HBC := hid (HBA.out.trans (hbc.mono HBA.out.size))
          clear hbc
          go_wp2_with fail
          refine (HAP.out _ HBC.out).mono ?_
          rintro e wd ⟨ud, rfl, hud, hbd⟩
          have HBD := hid (HBC.out.trans (hbd.mono HBC.out.size))
          have HUD := hid hud
          clear hbd hud
          have HBWD := hid (HBW.out.trans (HBD.out.mono hsw))
          by_cases hc0 : c2 = 0
          · subst hc0
            obtain ⟨hg, hal⟩ := HUA.out rfl
            subst hg
            have HAL := hid (term_Alike vs ud _ s c1 xt wd (HS.out.below HBWD.out) HUD.out (HIW.out.below HBD.out) hs40)
            rw [hal] at HAL
            clear hal
            go_wp2_with fail
            refine HAL.out.mono ?_
            rintro e we ⟨rfl, hbe⟩
            have HBE := hid (HBWD.out.trans (hbe.mono HBWD.out.size))
            clear hbe
            go_wp2_with fail
            refine (HW.out _ HBE.out).mono ?_
            rintro e wf ⟨rfl, hbf⟩
            have HBF := hid hbf
            clear hbf
            go_wp2
            go_ret
            exact ⟨rfl, HBF.out⟩
          · go_wp2_with fail
            refine (HW.out _ HBWD.out).mono ?_
            rintro e wf ⟨rfl, hbf⟩
            have HBF := hid hbf
            clear hbf
            go_wp2
            go_ret
            exact ⟨rfl, HBF.out⟩
    · go_wp2_with fail
      refine (HW.out _ HB9.out).mono ?_
      rintro e w10 ⟨rfl, hb10⟩
      have HB10 := hid hb10
      clear hb10
      go_wp2
      go_ret
      exact ⟨rfl, HB10.out⟩
end Go.Proofs.Ytidigpfiagjeiaa
