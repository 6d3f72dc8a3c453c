/-
  WHAT IT HOLDS: the walk of the law FindWithin.
-/
import Derived.Test.YtiacbdipagbblaaZRFindGroups25
import Derived.Test.YtiacbdipagbblaaZRFindGroups23
import Derived.Test.YtiacbdipagbblaaZRFindGroups8
namespace Go.Proofs.Ytiacbdipagbblaa
open Go Go.RowKit Go.Maps
theorem chosenL_mem : ∀ (bs : List Bool) (i k : Nat), ((k : Int) ∈ chosenL i bs) ↔ (i ≤ k ∧ bs[k - i]? = some true)
  | [], i, k => by simp [chosenL]
  | b :: bs, i, k => by
    have ih := chosenL_mem bs (i + 1) k
    have hgt : i + 1 ≤ k → (b :: bs)[k - i]? = bs[k - (i + 1)]? := fun h => by
      rw [show k - i = (k - (i + 1)) + 1 by omega, List.getElem?_cons_succ]
    have heq : k = i → (b :: bs)[k - i]? = some b := fun h => by rw [h, Nat.sub_self]; rfl
    cases b
    · simp only [chosenL, Bool.false_eq_true, if_false]
      rw [ih]
      constructor
      · rintro ⟨h1, h2⟩
        exact ⟨by omega, by rw [hgt h1]; exact h2⟩
      · rintro ⟨h1, h2⟩
        by_cases h : k = i
        · rw [heq h] at h2; simp at h2
        · exact ⟨by omega, by rw [← hgt (by omega)]; exact h2⟩
    · simp only [chosenL, if_true, List.mem_cons]
      rw [ih]
      constructor
      · rintro (h | ⟨h1, h2⟩)
        · exact ⟨by omega, heq (by omega)⟩
        · exact ⟨by omega, by rw [hgt h1]; exact h2⟩
      · rintro ⟨h1, h2⟩
        by_cases h : k = i
        · left; omega
        · exact Or.inr ⟨by omega, by rw [← hgt (by omega)]; exact h2⟩
theorem chosenL_dec {f : List Int → Bool} {l : List (List Int)} {k : Nat} (h : k < l.length) : decide ((k : Int) ∈ chosenL 0 (l.map f)) = f l[k] := by
  rw [Bool.eq_iff_iff, decide_eq_true_eq, chosenL_mem]
  simp [h]
theorem meets_of_inst {s : Sg} {a b : List Int} (h : instB s a b = true ∨ instB s b a = true) : MeetsQ s a b := by
  have key : ∀ {c : List Int}, instB s a c = true → instB s b c = true → MeetsQ s a b := by
    intro c h1 h2
    obtain ⟨va, _, ia⟩ := instB_iff.1 h1
    obtain ⟨vb, _, ib⟩ := instB_iff.1 h2
    obtain ⟨σ, g, e0, e1⟩ := unif_of_inst (termB_T va) (termB_T vb) ia ib
    exact ⟨va, vb, fun h => h σ ⟨12, g⟩ (e0.trans e1.symm)⟩
  rcases h with h | h
  · exact key h (by rw [instB_refl]; exact (instB_iff.1 h).2.1)
  · exact key (by rw [instB_refl]; exact (instB_iff.1 h).2.1) h
theorem terms_lit1 {w : World} {v0 : Value} {l0 : List Int} (h0 : Ints w v0 l0) (T : TypeId) : Terms (w.alloc (.cells #[v0] T)) (.slice (some ⟨w.heap.size, 0, none⟩) 1 1) [l0] := by
  have hb : Below w.heap.size w (w.alloc (.cells #[v0] T)) := (Below.refl _ _).alloc (Nat.le_refl _) _
  refine ⟨[v0], ?_, rfl, fun i u t h1' h2' => ?_⟩
  · refine ⟨rfl, _, _, rfl, Nat.le_refl _, by simp, (fun h => by cases h), fun j u hj => ⟨_, _, rfl, ?_⟩⟩
    rw [Nat.zero_add, World.cell?_alloc_new]
    simpa using hj
  · match i, h1', h2' with
    | 0, h1', h2' => simp at h1' h2'; subst h1'; subst h2'; exact h0.below hb
    | i + 1, h1', _ => simp at h1'
theorem meetsF (s : Sg) (q : List Int) : ∃ f : List Int → Bool, ∀ t, MeetsA s t q (f t) := by
  have h : ∀ t, ∃ z : Bool, MeetsA s t q z := fun t => by
    by_cases h : MeetsQ s t q
    · exact ⟨true, by unfold MeetsA; simpa using h⟩
    · exact ⟨false, by unfold MeetsA; simpa using h⟩
  exact ⟨fun t => Classical.choose (h t), fun t => Classical.choose_spec (h t)⟩
set_option maxHeartbeats 4000000 in
set_option maxRecDepth 100000 in
theorem walk_FindWithin (vs vl vq : Value) (s : Sg) (l : List (List Int)) (q : List Int) (w : World) (hs : SignAt w vs s) (hl : Terms w vl l) (hq : Ints w vq q) :
    Calls Try.prog 9 #[vs, vl, vq] w fun e w' => e = .returned (.bool true) ∧ Below w.heap.size w w' := by
  obtain ⟨la, lc, hle, hl1, hl2, -⟩ := hl.open
  subst hle
  obtain ⟨qa, qcap, hqe, _⟩ := hq.open
  subst hqe
  have hb1 : Below w.heap.size w (w.alloc (.cells #[.slice qa q.length qcap] 37)) := (Below.refl _ _).alloc (Nat.le_refl _) _
  have HSM := hid (law1_Small vs _ s _ _ (hs.below hb1) (terms_lit1 hq 37))
  cases hf : (decide ((l.length : Int) ≤ 70) && smallB s l)
  · have HFF := hid (law5_Few vs _ s l 70 w hs hl)
    rw [hf] at HFF
    clear hf HSM hb1
    go_enter Try.func9, Try.ntmps9
    go_wp2_with fail
    refine HFF.out.mono ?_
    rintro e w1 ⟨rfl, rfl⟩
    go_wp2_with fail
    refine (law5_awake _).mono ?_
    rintro e w1 ⟨rfl, hb⟩
    go_wp2
    go_ret
    exact ⟨rfl, hb⟩
  · have hsm : s.length ≤ 40 ∧ l.length ≤ 70 := by
      simp only [Bool.and_eq_true, decide_eq_true_eq, smallB] at hf
      omega
    have HFF := hid (law5_Few vs _ s l 70 w hs hl)
    rw [hf] at HFF
    clear hf
    cases hg : smallB s [q]
    · rw [hg] at HSM
      have HB1 := hid hb1
      clear hg hb1
      go_enter Try.func9, Try.ntmps9
      go_wp2_with fail
      refine HFF.out.mono ?_
      rintro e w1 ⟨rfl, rfl⟩
      go_wp2_with fail
      refine HSM.out.mono ?_
      rintro e w1 ⟨rfl, rfl⟩
      go_wp2_with fail
      refine (law5_awake _).mono ?_
      rintro e w1 ⟨rfl, hb⟩
      have HB := hid (HB1.out.trans (hb.mono (by simp)))
      clear hb
      go_wp2
      go_ret
      exact ⟨rfl, HB.out⟩
    · rw [hg] at HSM
      obtain ⟨f, hf⟩ := meetsF s q
      have HB1 := hid hb1
      obtain ⟨W, hW⟩ : ∃ W, w.alloc (.cells #[.slice qa q.length qcap] 37) = W := ⟨_, rfl⟩
      rw [hW] at HSM HB1
      have hsz := HB1.out.size
      have HC1 := hid (fun (X : World) (hX : Below w.heap.size w X) => find_Meeting vs _ _ s l q f hf X (hs.below hX) (hl.below hX) (hq.below hX) (by omega) (by omega))
      have HC2 := hid (fun (X : World) (hX : Below w.heap.size w X) => find_Instances vs _ _ s l q (fun t => instB s q t) (fun _ => rfl) X (hs.below hX) (hl.below hX) (hq.below hX) (by omega) (by omega))
      have HC3 := hid (fun (X : World) (hX : Below w.heap.size w X) => find_Generals vs _ _ s l q (fun t => instB s t q) (fun _ => rfl) X (hs.below hX) (hl.below hX) (hq.below hX) (by omega) (by omega))
      have HC4 := hid (fun (X : World) (hX : Below w.heap.size w X) => find_Alike vs _ _ s l q (fun t => alikeB s t q) (fun _ => rfl) X (hs.below hX) (hl.below hX) (hq.below hX) (by omega) (by omega))
      have HC5 := hid (fun (X : World) (hX : Below w.heap.size w X) => find_Shaped vs _ _ s l q X (hs.below hX) (hl.below hX) (hq.below hX) (by omega) (by omega))
      have lens : ∀ g : List Int → Bool, (searchB s l q (l.map g)).1.length ≤ 70 := fun g => by
        unfold searchB
        split
        · have := chosenL_le (l.map g) 0; simp at this ⊢; omega
        · simp
      have HL := hid lens
      have HFM := hid hf
      clear hg hb1 hs hl hq hf lens
      cases hv : (shelfB s l && termB s q)
      · have he : ∀ g : List Int → Bool, searchB s l q (l.map g) = ([], 1) := fun g => by unfold searchB; rw [hv]; rfl
        have HE := hid he
        clear he hv
        go_enter Try.func9, Try.ntmps9
        go_wp2_with fail
        refine HFF.out.mono ?_
        rintro e w1 ⟨rfl, rfl⟩
        go_wp2_with fail
        try rw [hW]
        refine HSM.out.mono ?_
        rintro e w1 ⟨rfl, rfl⟩
        clear hW
        go_wp2_with fail
        refine (HC1.out _ HB1.out).mono ?_
        rintro e w1 ⟨u1, rfl, -, b1⟩
        rw [HE.out]
        have B1 := HB1.out.trans (b1.mono HB1.out.size)
        clear b1
        go_wp2_with fail
        refine (HC2.out _ B1).mono ?_
        rintro e w2 ⟨u2, rfl, -, b2⟩
        rw [HE.out]
        have B2 := B1.trans (b2.mono B1.size)
        clear b2 B1
        go_wp2_with fail
        refine (HC3.out _ B2).mono ?_
        rintro e w3 ⟨u3, rfl, -, b3⟩
        rw [HE.out]
        have B3 := B2.trans (b3.mono B2.size)
        clear b3 B2
        go_wp2_with fail
        refine (HC4.out _ B3).mono ?_
        rintro e w4 ⟨u4, rfl, -, b4⟩
        rw [HE.out]
        have B4 := B3.trans (b4.mono B3.size)
        clear b4 B3
        go_wp2_with fail
        refine (HC5.out _ B4).mono ?_
        rintro e w5 ⟨u5, rfl, -, b5⟩
        rw [HE.out]
        have B5 := B4.trans (b5.mono B4.size)
        clear b5 B4
        go_wp2_with fail
        refine (law5_awake _).mono ?_
        rintro e w6 ⟨rfl, hb⟩
        have HB := hid (B5.trans (hb.mono B5.size))
        clear hb
        go_wp2
        go_ret
        exact ⟨rfl, HB.out⟩
      · have he : ∀ g : List Int → Bool, searchB s l q (l.map g) = (chosenL 0 (l.map g), 0) := fun g => by unfold searchB; rw [hv]; rfl
        have HE := hid he
        have hval : (∀ k (h : k < l.length), termB s l[k] = true) ∧ termB s q = true := by
          rw [Bool.and_eq_true] at hv
          refine ⟨fun k h => ?_, hv.2⟩
          have h1 := hv.1
          unfold shelfB at h1
          simp only [Bool.and_eq_true] at h1
          have := h1.2
          unfold allB at this
          rw [List.all_eq_true] at this
          exact this _ (List.getElem_mem h)
        clear he hv
        go_enter Try.func9, Try.ntmps9
        go_wp2_with fail
        refine HFF.out.mono ?_
        rintro e w1 ⟨rfl, rfl⟩
        go_wp2_with fail
        try rw [hW]
        refine HSM.out.mono ?_
        rintro e w1 ⟨rfl, rfl⟩
        clear hW
        go_wp2_with fail
        refine (HC1.out _ HB1.out).mono ?_
        rintro e w1 ⟨u1, rfl, o1, b1⟩
        have hl1 := HL.out f
        rw [HE.out] at o1 hl1 ⊢
        have B1 := HB1.out.trans (b1.mono HB1.out.size)
        have I1 := Ints.of_owns o1 (by omega)
        clear b1 o1
        go_wp2_with fail
        refine (HC2.out _ B1).mono ?_
        rintro e w2 ⟨u2, rfl, o2, b2⟩
        have hl2 := HL.out (fun t => instB s q t)
        rw [HE.out] at o2 hl2 ⊢
        have B2 := B1.trans (b2.mono B1.size)
        have I1 := I1.below b2
        have I2 := Ints.of_owns o2 (by omega)
        clear b2 B1 o2
        go_wp2_with fail
        refine (HC3.out _ B2).mono ?_
        rintro e w3 ⟨u3, rfl, o3, b3⟩
        have hl3 := HL.out (fun t => instB s t q)
        rw [HE.out] at o3 hl3 ⊢
        have B3 := B2.trans (b3.mono B2.size)
        have I1 := I1.below b3
        have I2 := I2.below b3
        have I3 := Ints.of_owns o3 (by omega)
        clear b3 B2 o3
        go_wp2_with fail
        refine (HC4.out _ B3).mono ?_
        rintro e w4 ⟨u4, rfl, o4, b4⟩
        have hl4 := HL.out (fun t => alikeB s t q)
        rw [HE.out] at o4 hl4 ⊢
        have B4 := B3.trans (b4.mono B3.size)
        have I1 := I1.below b4
        have I2 := I2.below b4
        have I3 := I3.below b4
        have I4 := Ints.of_owns o4 (by omega)
        clear b4 B3 o4
        go_wp2_with fail
        refine (HC5.out _ B4).mono ?_
        rintro e w5 ⟨u5, rfl, o5, b5⟩
        have hl5 := HL.out (fun t => decide (shapeL t = shapeL q))
        rw [HE.out] at o5 hl5 ⊢
        have B5 := B4.trans (b5.mono B4.size)
        have I1 := hid (I1.below b5)
        have I2 := hid (I2.below b5)
        have I3 := hid (I3.below b5)
        have I4 := hid (I4.below b5)
        have I5 := hid (Ints.of_owns o5 (by omega) : Ints w5 u5 _)
        have HB5 := hid B5
        have HVAL := hid hval
        clear b5 B4 o5 B5 hl1 hl2 hl3 hl4 hl5 HC1 HC2 HC3 HC4 HC5 HE HL hval HFF HSM
        go_wp2_with fail
        go_loopw [17] (fun kv wr => ∃ k : Nat, k ≤ l.length ∧ kv = .int .i64 k ∧ wr = w5) (fun kv _ => l.length - (intOf kv).toNat)
        case atStart => exact ⟨0, by omega, rfl, rfl⟩
        case round =>
          obtain ⟨k, hk, rfl, rfl⟩ := hrel
          by_cases hlt : k < l.length
          · have D1 := hid (chosenL_dec (f := f) hlt)
            have D2 := hid (chosenL_dec (f := fun t => instB s q t) hlt)
            have D3 := hid (chosenL_dec (f := fun t => instB s t q) hlt)
            have D4 := hid (chosenL_dec (f := fun t => alikeB s t q) hlt)
            have D5 := hid (chosenL_dec (f := fun t => decide (shapeL t = shapeL q)) hlt)
            have hfk := HFM.out l[k]
            have p1 : instB s q l[k] = true ∨ instB s l[k] q = true → f l[k] = true := fun h => hfk.2 (meets_of_inst (Or.symm h))
            have p2 : alikeB s l[k] q = (instB s q l[k] && instB s l[k] q) := by
              rw [Bool.eq_iff_iff, Bool.and_eq_true, alikeB_iff]
              exact And.comm
            have p3 : alikeB s l[k] q = true → decide (shapeL l[k] = shapeL q) = true := fun h => by
              unfold alikeB at h
              simp only [Bool.and_eq_true, decide_eq_true_eq] at h
              simpa using shape_canon h.2
            generalize instB s q l[k] = bu at *
            generalize instB s l[k] q = bo at *
            generalize alikeB s l[k] q = ba at *
            generalize f l[k] = bm at *
            generalize decide (shapeL l[k] = shapeL q) = bs at *
            have hcs : (bu = false ∧ bo = false ∧ ba = false) ∨ (bu = true ∧ bo = false ∧ ba = false ∧ bm = true) ∨ (bu = false ∧ bo = true ∧ ba = false ∧ bm = true) ∨ (bu = true ∧ bo = true ∧ ba = true ∧ bm = true ∧ bs = true) := by
              cases bu <;> cases bo <;> simp_all
            clear p1 p2 p3 hfk
            rcases hcs with ⟨rfl, rfl, rfl⟩ | ⟨rfl, rfl, rfl, rfl⟩ | ⟨rfl, rfl, rfl, rfl⟩ | ⟨rfl, rfl, rfl, rfl, rfl⟩
            all_goals
              go_wp2_with (first
                | (go_at_call 19; with_reducible refine (ref1_Has _ _ _ _ I2.out).mono ?_; rintro e w' ⟨rfl, rfl⟩; rw [D2.out])
                | (go_at_call 19; with_reducible refine (ref1_Has _ _ _ _ I3.out).mono ?_; rintro e w' ⟨rfl, rfl⟩; rw [D3.out])
                | (go_at_call 19; with_reducible refine (ref1_Has _ _ _ _ I4.out).mono ?_; rintro e w' ⟨rfl, rfl⟩; rw [D4.out])
                | (go_at_call 19; with_reducible refine (ref1_Has _ _ _ _ I1.out).mono ?_; rintro e w' ⟨rfl, rfl⟩; rw [D1.out])
                | (go_at_call 19; with_reducible refine (ref1_Has _ _ _ _ I5.out).mono ?_; rintro e w' ⟨rfl, rfl⟩; rw [D5.out]))
              go_roundw
              case rel => exact ⟨k + 1, by omega, by go_num, by first | trivial | rfl⟩
              case measure => simp [intOf]; omega
          · go_wp2_with fail
            refine (law5_awake _).mono ?_
            rintro e w6 ⟨rfl, hb⟩
            have HB := hid (HB5.out.trans (hb.mono HB5.out.size))
            clear hb
            go_wp2
            go_ret
            exact ⟨rfl, HB.out⟩
end Go.Proofs.Ytiacbdipagbblaa
