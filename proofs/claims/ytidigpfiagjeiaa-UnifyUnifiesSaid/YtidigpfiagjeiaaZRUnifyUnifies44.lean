/-
  WHAT IT HOLDS: contract of Renaming of package unify. Conditions: the arguments read as data; small signs.
-/
import Derived.Test.YtidigpfiagjeiaaZRUnifyUnifies40
import Derived.Test.YtidigpfiagjeiaaZRUnifyUnifies43
import Derived.Test.YtidigpfiagjeiaaZRUnifyUnifies16
namespace Go.Proofs.Ytidigpfiagjeiaa
open Go Go.RowKit Go.Maps Go.Shelf
attribute [local go_sem] Oper.semAt_some
abbrev BKMap (W : World) (b n : Nat) (m : Int → Option Bool) : Prop := MapK Try.prog 3 eI Value.bool W b n m
/-- the heads that were met, in a map of the call's own. -/
structure RenI (l : BL) (wb : World) (b4 bb bm : Nat) (k : Nat) (M : Nat → Prop) (W : World) : Prop where
  le : ∀ i, i < k → renQ l i = true
  tm : ∃ n m, BKMap W bm n m ∧ ∀ y, m y = if y ∈ (List.range k).map (hdN l) then some true else none
  c4 : W.cell? ⟨b4, 0, none⟩ = some (.bool false) ∧ W.frozen? ⟨b4, 0, none⟩ = false
  cm : W.cell? ⟨bb, 0, none⟩ = some (.map (some bm))
  bel : Below wb.heap.size wb W
  mem : M b4 ∧ M bm
structure RenX (s : Sg) (l : BL) (wb : World) (b4 : Nat) (c : Code) (W : World) : Prop where
  ret : c = .ret
  ans : renB s l = false
  c4 : W.cell? ⟨b4, 0, none⟩ = some (.bool false)
  bel : Below wb.heap.size wb W
theorem RenI.kb {l : BL} {wb : World} {b4 bb bm k : Nat} {M T : Nat → Prop} {W W' : World} (h : RenI l wb b4 bb bm k M W) (hk : Kb T W W') (h4 : ¬ T b4) (hb : ¬ T bb) (hm : ¬ T bm) (hw : ∀ q, q < wb.heap.size → ¬ T q) : RenI l wb b4 bb bm k M W' := by
  obtain ⟨a1, ⟨n, m, a2, a3⟩, a4, a5, a6, a7⟩ := h
  have e1 := hk.same _ (World.block_lt_of_cell? _ _ a4.1) h4
  have e2 := hk.same _ (World.block_lt_of_cell? _ _ a5) hb
  have e3 := hk.same _ a2.lt hm
  exact ⟨a1, ⟨n, m, a2.of_block e3, a3⟩, ⟨cell_same a4.1 e1, (World.frozen?_of_block e1).trans a4.2⟩, cell_same a5 e2, a6.trans ⟨hk.os, hk.tape, hk.output, hk.size, fun q hq => hk.same q (Nat.lt_of_lt_of_le hq a6.size) (hw q hq)⟩, a7⟩
theorem RenI.frm {l : BL} {wb : World} {B b4 bb bm : Nat} (hB : wb.heap.size ≤ B) (h1 : b4 < B) (h2 : bb < B) (h3 : bm < B) (k : Nat) : Frm B (RenI l wb b4 bb bm k) :=
  fun M W W' h hk => h.kb hk (fun h => by omega) (fun h => by omega) (fun h => by omega) (fun q hq h => by omega)
theorem RenI.below {l : BL} {wb : World} {b4 bb bm k : Nat} {M : Nat → Prop} {W W' : World} (h : RenI l wb b4 bb bm k M W) (hb : Below W.heap.size W W') : RenI l wb b4 bb bm k M W' :=
  h.kb (T := fun _ => False) (Kb.of_below hb) (fun h => h) (fun h => h) (fun h => h) (fun _ _ h => h)
theorem RenX.frm {s : Sg} {l : BL} {wb : World} {B b4 : Nat} (hB : wb.heap.size ≤ B) (h2 : b4 < B) (c : Code) : Frm B (fun _ => RenX s l wb b4 c) := by
  rintro M W W' ⟨a1, a2, a3, a5⟩ hk
  exact ⟨a1, a2, cell_same a3 (hk.same _ (World.block_lt_of_cell? _ _ a3) (fun h => by have h' : B ≤ b4 := h.1; omega)), a5.trans (hk.below a5.size (fun k h => by omega))⟩
theorem RenI.next {l : BL} {wb : World} {b4 bb bm k : Nat} {M : Nat → Prop} {W W4 : World} (h : RenI l wb b4 bb bm k M W) {n n' : Nat} {m : Int → Option Bool} (hm : BKMap W bm n m) (hmm : ∀ y, m y = if y ∈ (List.range k).map (hdN l) then some true else none)
    (hq : renQ l k = true) {x : Int} (hx : hdN l k = x) (h4 : BKMap W4 bm n' (fun y => if y = x then some true else m y)) (hg : W.grownBy W4 (some bm)) (hne : b4 ≠ bm ∧ bb ≠ bm) (hw : wb.heap.size ≤ bm) : RenI l wb b4 bb bm (k + 1) M W4 := by
  obtain ⟨a1, -, a4, a5, a6, a7⟩ := h
  have hk : Kb (fun q => q = bm) W W4 := Kb.grown hg (fun q hq => by cases hq; exact Or.inl rfl)
  have e1 := hk.same _ (World.block_lt_of_cell? _ _ a4.1) hne.1
  have e2 := hk.same _ (World.block_lt_of_cell? _ _ a5) hne.2
  refine ⟨fun i hi => ?_, ⟨_, _, h4, fun y => ?_⟩, ⟨cell_same a4.1 e1, (World.frozen?_of_block e1).trans a4.2⟩, cell_same a5 e2, a6.trans ⟨hk.os, hk.tape, hk.output, hk.size, fun q hq => hk.same q (Nat.lt_of_lt_of_le hq a6.size) (fun e => by omega)⟩, a7⟩
  · rcases Nat.lt_succ_iff_lt_or_eq.1 hi with h1 | rfl
    · exact a1 i h1
    · exact hq
  · rw [List.range_succ, List.map_append, List.map_singleton, hx]
    by_cases hy : y = x
    · subst hy; simp
    · simp [hmm, hy]
theorem renB_full {s : Sg} {l : BL} (h : bndsB s l = true) (hq : ∀ i, i < 12 → renQ l i = true) : renB s l = true := by
  unfold renB
  rw [h, Bool.true_and, List.all_eq_true]
  exact fun i hi => hq i (List.mem_range.1 hi)
theorem renB_no {s : Sg} {l : BL} {v : Nat} (hv : v < 12) (hq : renQ l v = false) : renB s l = false := by
  cases h : renB s l
  · rfl
  · unfold renB at h
    rw [Bool.and_eq_true, List.all_eq_true] at h
    have := h.2 v (List.mem_range.2 hv)
    rw [hq] at this; cases this
theorem renQ_long {s : Sg} {l : BL} (h : bndsB s l = true) {v : Nat} (hv : v < 12) (hl : (ofN l (-(v : Int) - 1)).length ≠ 1) : renQ l v = false := by
  unfold renQ
  have : ¬ hdN l v < 0 := fun h0 => by
    obtain ⟨x, hx, e⟩ := (ren_one h hv).1 h0
    rw [e] at hl; simp at hl
  simp [this]
theorem renQ_one {l : BL} {v : Nat} {x : Int} (hl : ofN l (-(v : Int) - 1) = [x]) : hdN l v = x ∧ renQ l v = (decide (x < 0) && decide (x ∉ (List.range v).map (hdN l))) := by
  have h1 : hdN l v = x := by unfold hdN; rw [hl]; rfl
  refine ⟨h1, ?_⟩
  unfold renQ
  rw [h1]
theorem box1F (w : World) (x : Value) (tx : TypeId) (W : World) (hb : Below (w.alloc (.cells #[x] tx)).heap.size (w.alloc (.cells #[x] tx)) W) : W.cell? ⟨w.heap.size, 0, none⟩ = some x ∧ W.frozen? ⟨w.heap.size, 0, none⟩ = false := by
  have k1 := cell_new1 w x tx
  have l1 := World.block_lt_of_cell? _ _ k1
  exact ⟨(hb.cell l1).trans k1, by rw [hb.frozen (p := ⟨w.heap.size, 0, none⟩) l1]; exact (Boxed.new w tx x).frozen⟩
set_option maxHeartbeats 4000000 in
set_option maxRecDepth 100000 in
theorem unify_Renaming (vs v1 : Value) (s : Sg) (l : BL) (w : World) (hs : SignAt w vs s) (hv : BindsAt w v1 l) (hs1 : s.length ≤ 1000) :
    Calls Try.prog 43 #[vs, v1] w fun e w' => e = .returned (.bool (renB s l)) ∧ Below w.heap.size w w' := by
  have HVL := hid (fun (X : World) (hX : Below w.heap.size w X) => unify_ValidBinds vs v1 s l X (hs.below hX) (hv.below hX) hs1)
  have hbx : Below w.heap.size w (w.alloc (.cells #[.bool false] 4)) := (Below.refl _ _).alloc (Nat.le_refl _) _
  have HBX := hid hbx
  have HV := hid hv
  obtain ⟨a1, k1, he1, -⟩ := hv.open
  subst he1
  clear hs hv hbx
  refine calls_marks Try.func43 rfl ?_
  simp only [Try.ntmps43, List.size_toArray, List.length_cons, List.length_nil, Nat.reduceAdd, Nat.reduceSub, Array.replicate_succ, Array.replicate_zero, List.push_toArray, List.append_toArray, List.nil_append, List.cons_append]
  cases h1 : bndsB s l
  · have HA : Hid (renB s l = false) := hid (by unfold renB; rw [h1]; rfl)
    simp only [h1] at HVL
    clear h1
    go_wp2_with fail
    refine (HVL.out _ HBX.out).mono ?_
    rintro e w1 ⟨rfl, hb1⟩
    obtain ⟨c4, f4⟩ := box1F w _ _ w1 hb1
    have HB1 := hid (HBX.out.trans (hb1.mono HBX.out.size))
    have HS2 := hid (World.cell?_setCell_same' (w := w1) (a := ⟨w.heap.size, 0, none⟩) (.bool false) (by rw [c4]; rfl))
    clear hb1
    go_wp2
    have d4 := HS2.out
    refine leave_none (v := .bool false) (by simp [results, Try.results43, go_sem, d4]) ?_
    rw [HA.out]
    exact ⟨rfl, HB1.out.setCell (p := ⟨w.heap.size, 0, none⟩) (Nat.le_refl _) (.bool false)⟩
  · have HH1 := hid h1
    simp only [h1] at HVL
    clear h1
    go_wp2_with fail
    refine (HVL.out _ HBX.out).mono ?_
    rintro e w1 ⟨rfl, hb1⟩
    have HC1 := hid hb1
    have HB1 := hid (HBX.out.trans (hb1.mono HBX.out.size))
    clear hb1
    have hmm := @run_makeMap Try.prog
    go_wp2_with (go_at_call 85; refine (unify_all _ _ _ _).mono ?_; rintro e w4 ⟨rfl, rfl⟩)
    clear hmm
    obtain ⟨W0, hW0⟩ : ∃ W0, (((w1.alloc (.map #[] 0)).alloc (.cells #[.map (some w1.heap.size)] 97)).alloc (.cells #[.slice a1 l.length k1] 39)) = W0 := ⟨_, rfl⟩
    simp only [hW0]
    have hbA := ((Below.refl w1.heap.size w1).alloc (Nat.le_refl _) (.map #[] 0))
    have hbB := hbA.alloc (by simp) (.cells #[.map (some w1.heap.size)] 97)
    have hbC := hbB.alloc (by simp; omega) (.cells #[.slice a1 l.length k1] 39)
    have hsz : w1.heap.size + 3 ≤ W0.heap.size := by rw [← hW0]; simp
    have hbB2 : Below ((w1.alloc (.map #[] 0)).alloc (.cells #[.map (some w1.heap.size)] 97)).heap.size ((w1.alloc (.map #[] 0)).alloc (.cells #[.map (some w1.heap.size)] 97)) W0 := by rw [← hW0]; exact (Below.refl _ _).alloc (Nat.le_refl _) _
    obtain ⟨t5, -⟩ := box1F (w1.alloc (.map #[] 0)) (.map (some w1.heap.size)) 97 W0 hbB2
    rw [World.size_alloc] at t5
    have tl : W0.cell? ⟨w1.heap.size + 1 + 1, 0, none⟩ = some (.slice a1 l.length k1) := by
      have := cell_new1 ((w1.alloc (.map #[] 0)).alloc (.cells #[.map (some w1.heap.size)] 97)) (.slice a1 l.length k1) 39
      simp only [World.size_alloc] at this
      rw [← hW0]; exact this
    have tm0 : BKMap W0 w1.heap.size 0 (fun _ => none) := by rw [← hW0]; exact ((MapK.made Try.prog 3 eI Value.bool w1).alloc _).alloc _
    rw [hW0] at hbC
    obtain ⟨d4, g4⟩ := box1F w _ _ W0 (HC1.out.trans (hbC.mono HC1.out.size))
    have hbw0 := HB1.out.trans (hbC.mono HB1.out.size)
    have hs12 := HC1.out.size
    simp only [World.size_alloc] at hs12
    have HST : Hid (RenI l w w.heap.size (w1.heap.size + 1) w1.heap.size 0 (fun k => k = w1.heap.size ∨ k = w.heap.size) W0) :=
      hid ⟨fun i hi => by omega, ⟨_, _, tm0, fun y => by simp⟩, ⟨d4, g4⟩, t5, hbw0, Or.inr rfl, Or.inl rfl⟩
    clear t5 d4 g4 tm0 hbA hbB hbC hbB2 hW0
    have HBW0 := hid hbw0
    clear hbw0
    refine wpIn_wide.1 (wpIn_range (gf := 114) (lb := #[.pointer (some ⟨w1.heap.size + 1 + 1, 0, none⟩)]) rfl (enters_of Try.func114 rfl rfl) (encs := allX) (E := allE l) (S := fun xs => xs.length = 12) (N := fun k => k < w.heap.size) (w0 := W0)
      (all_seq (w1.heap.size + 1 + 1) s (.slice a1 l.length k1) l w W0 HH1.out HV.out HBW0.out tl) (Below.refl _ _) (fun _ => rfl) ?_ ?_ ?_
      (fun pre => RenI l w w.heap.size (w1.heap.size + 1) w1.heap.size pre.length) (fun c pre _ W => RenX s l w w.heap.size c W)
      (fun k => k = w1.heap.size ∨ k = w.heap.size) ?_ (fun pre => RenI.frm (by omega) (by omega) (by omega) (by omega) _) (fun c pre => RenX.frm (by omega) (by omega) c) HST.out ?_ ?_ ?_)
    case refine_1 =>
      rintro pre ⟨k, uv, t⟩ W q o o' ⟨h1, h2, h3, h4⟩ ho hc
      exact ⟨h1, h2, h3, putObj_ints ho hc h4⟩
    case refine_2 =>
      rintro pre ⟨k, uv, t⟩ A B ⟨h1, h2, h3, h4⟩ hb
      exact ⟨h1, h2, h3, h4.below hb⟩
    case refine_3 => intro k hk; omega
    case refine_4 => intro k hk; omega
    case refine_5 =>
      clear HST
      rintro l' pre ⟨k, uv, t⟩ M W hsW hM hturn
      simp only [allX]
      gi_wp2
      refine ⟨Below.refl _ _, fun W2 hT => ?_⟩
      obtain ⟨hI2, ⟨e1, e2, e3, e4⟩, hs2⟩ := hturn W W2 (Below.refl _ _) hT
      try dsimp only at e1 e2 e3 e4
      subst e1
      have HM2 := hid hM
      clear hturn hT hM
      have HTT := hid (ofN_T HH1.out (n := -(pre.length : Int) - 1) (by omega) (by omega))
      have HSQ := hid (fun (h : (ofN l (-(pre.length : Int) - 1)).length ≠ 1) => renQ_long HH1.out e2 h)
      have HSO := hid (fun (x : Int) (h : ofN l (-(pre.length : Int) - 1) = [x]) => renQ_one h)
      obtain ⟨cm, n0, m0, tm, hmm⟩ : W2.cell? ⟨w1.heap.size + 1, 0, none⟩ = some (.map (some w1.heap.size)) ∧ ∃ n m, BKMap W2 w1.heap.size n m ∧ ∀ y, m y = if y ∈ (List.range pre.length).map (hdN l) then some true else none := ⟨hI2.cm, hI2.tm⟩
      obtain ⟨c4, f4⟩ := hI2.c4
      have HI2 := hid hI2
      clear hI2
      rw [← e3] at HTT HSQ HSO
      clear e3
      have htl := HTT.out.2
      obtain ⟨au, cu, rfl, hc1, hc2, -, HC⟩ := e4.open
      by_cases hlen : t.length = 1
      · obtain ⟨x, rfl⟩ := List.length_eq_one_iff.1 hlen
        obtain ⟨ub, uo, rfl, cx⟩ := HC 0 (by simp)
        simp only [Nat.add_zero, List.getElem_cons_zero] at cx
        obtain ⟨hx1, hx2⟩ := HSO.out x rfl
        have hxr := HTT.out.1.range x (by simp)
        clear HC HTT HSQ HSO e4 hlen htl hc1
        by_cases hx0 : 0 ≤ x
        · have hQ : renQ l pre.length = false := by rw [hx2]; simp; omega
          have HR := hid (renB_no (s := s) e2 hQ)
          have hd0 : (decide (0 ≤ x)) = true := by simp [hx0]
          gi_wp2
          refine wpIn_region_quiet_round (by kernel_rfl) (by kernel_rfl) (by kernel_rfl) ?_; (repeat (go_big_quiet_step (fail))); refine wpQuiet_nil ?_; intro _ hw'; obtain ⟨nq, hw''⟩ := hw'; subst hw''
          gi_wp2
          have hnz : (W2.drewN nq).heap.size = W2.heap.size := rfl
          refine ⟨M, fun k hk => ⟨Or.inl hk, by have := (HM2.out k hk).2.2.1; simp [World.setCell]; omega⟩, ?_, ⟨rfl, HR.out, World.cell?_setCell_same' _ _ _ (by rw [World.cell?_drewN, c4]; rfl), (below_drewN HI2.out.bel nq).setCell (Nat.le_refl _) _⟩⟩
          exact (Kb.drewN (M := fun k => M k ∨ W.heap.size ≤ k) nq).trans (Kb.setCell (M := M) _ HI2.out.mem.1) (fun q hq => Or.inl (Or.inl hq))
        · have HKEY := hid (int_key x (wf_small (by omega) (by omega)))
          have hd0 : (decide (0 ≤ x)) = false := by simp [hx0]
          have hlk0 := fun q => (tm.drewN q).run_lookup (int_keyed Try.underlying3) eI_inj Try.underlying97 (zero_bool _) x HKEY.out false
          by_cases hmem : x ∈ (List.range pre.length).map (hdN l)
          · have hQ : renQ l pre.length = false := by rw [hx2]; simp [hmem]
            have HR := hid (renB_no (s := s) e2 hQ)
            have hmx : m0 x = some true := by rw [hmm, if_pos hmem]
            have hlk : ∀ q, (Instr.lookup 97 (.map (some w1.heap.size)) (.int .i64 x) false).run Try.prog (W2.drewN q) = .ok (.bool true) (W2.drewN q) := fun q => by
              have := hlk0 q
              rw [hmx] at this; exact this
            clear hlk0 hmem hmx hmm hx1 hx2 hQ
            gi_wp2
            refine wpIn_region_quiet_round (by kernel_rfl) (by kernel_rfl) (by kernel_rfl) ?_; (repeat (go_big_quiet_step (fail))); refine wpQuiet_nil ?_; intro _ hw'; obtain ⟨nq, hw''⟩ := hw'; subst hw''
            gi_wp2
            have hnz : (W2.drewN nq).heap.size = W2.heap.size := rfl
            refine ⟨M, fun k hk => ⟨Or.inl hk, by have := (HM2.out k hk).2.2.1; simp [World.setCell]; omega⟩, ?_, ⟨rfl, HR.out, World.cell?_setCell_same' _ _ _ (by rw [World.cell?_drewN, c4]; rfl), (below_drewN HI2.out.bel nq).setCell (Nat.le_refl _) _⟩⟩
            exact (Kb.drewN (M := fun k => M k ∨ W.heap.size ≤ k) nq).trans (Kb.setCell (M := M) _ HI2.out.mem.1) (fun q hq => Or.inl (Or.inl hq))
          · have hQ : renQ l pre.length = true := by rw [hx2]; simp [hmem]; omega
            have HQ := hid hQ
            have HX1 := hid hx1
            have HMM := hid hmm
            have hmx : m0 x = none := by rw [hmm, if_neg hmem]
            have hlk : ∀ q, (Instr.lookup 97 (.map (some w1.heap.size)) (.int .i64 x) false).run Try.prog (W2.drewN q) = .ok (.bool false) (W2.drewN q) := fun q => by
              have := hlk0 q
              rw [hmx] at this; exact this
            clear hlk0 hmem hmx hmm hx1 hx2 hQ
            gi_wp2
            refine wpIn_region_quiet_round (by kernel_rfl) (by kernel_rfl) (by kernel_rfl) ?_; (repeat (go_big_quiet_step (fail))); refine wpQuiet_nil ?_; intro _ hw'; obtain ⟨nq, hw''⟩ := hw'; subst hw''
            clear hlk
            obtain ⟨W4, hup, tm4, hg4⟩ := (tm.drewN (nq + 1)).run_update (int_keyed Try.underlying3) eI_inj Try.underlying97 x true HKEY.out
            have hup' : (Instr.mapUpdate 97 (.map (some w1.heap.size)) (.int .i64 x) (.bool true)).run Try.prog (W2.drewN (nq + 1)) = .ok () W4 := hup
            clear hup
            gi_wp2
            gi_region
            all_goals (
              refine ⟨M, fun k hk => ⟨Or.inl hk, by have := (HM2.out k hk).2.2.1; have h5 : W2.heap.size ≤ W4.heap.size := hg4.size; omega⟩, ?_, ?_⟩
              · exact (Kb.drewN (M := fun k => M k ∨ W.heap.size ≤ k) (nq + 1)).trans (Kb.grown (M := M) hg4 (fun q hq => by cases hq; exact Or.inl HI2.out.mem.2)) (fun q hq => Or.inl (Or.inl hq))
              · simp only [List.length_append, List.length_singleton]
                exact (HI2.out.below (below_self_drewN W2 (nq + 1))).next (tm.drewN (nq + 1)) HMM.out HQ.out HX1.out tm4 hg4 ⟨by omega, by omega⟩ (by omega))
      · have hQ := HSQ.out hlen
        have HR := hid (renB_no (s := s) e2 hQ)
        have hl1 : ((t.length : Int) == 1) = false := by simp; omega
        have hl2 : ((t.length : Int) != 1) = true := by simp; omega
        clear HC HTT HSQ HSO e4
        gi_wp2
        refine wpIn_region_quiet_round (by kernel_rfl) (by kernel_rfl) (by kernel_rfl) ?_; (repeat (go_big_quiet_step (fail))); refine wpQuiet_nil ?_; intro _ hw'; obtain ⟨nq, hw''⟩ := hw'; subst hw''
        gi_wp2
        have hnz : (W2.drewN nq).heap.size = W2.heap.size := rfl
        refine ⟨M, fun k hk => ⟨Or.inl hk, by have := (HM2.out k hk).2.2.1; simp [World.setCell]; omega⟩, ?_, ⟨rfl, HR.out, World.cell?_setCell_same' _ _ _ (by rw [World.cell?_drewN, c4]; rfl), (below_drewN HI2.out.bel nq).setCell (Nat.le_refl _) _⟩⟩
        exact (Kb.drewN (M := fun k => M k ∨ W.heap.size ≤ k) nq).trans (Kb.setCell (M := M) _ HI2.out.mem.1) (fun q hq => Or.inl (Or.inl hq))
    case refine_6 =>
      rintro xs M W hxs hI hD hMD
      rw [hxs] at hI
      have HA := hid (renB_full HH1.out hI.le)
      obtain ⟨b4, g4⟩ := hI.c4
      have hbel := hI.bel
      have HB := hid hbel
      have hk : Kb (fun k => k = w.heap.size ∨ k = W0.heap.size) W ((W.setCell ⟨w.heap.size, 0, none⟩ (.bool true)).putObj W0.heap.size (.deferred none)) :=
        (Kb.setCell (M := fun k => k = w.heap.size ∨ k = W0.heap.size) _ (Or.inl rfl)).trans (Kb.put (M := fun k => k = w.heap.size ∨ k = W0.heap.size) _ (Or.inr rfl)) (fun q hq => Or.inl hq)
      have HK := hid hk
      have HDD : Hid ((W.setCell ⟨w.heap.size, 0, none⟩ (.bool true)).heap[W0.heap.size]? = some (.deferred (some []))) := hid (by
        rw [Below.heap_setCell _ _ _ _ (by simp; omega)]; exact hD)
      have HS2 := hid (World.cell?_setCell_same' (w := W) (a := ⟨w.heap.size, 0, none⟩) (.bool true) (by rw [b4]; rfl))
      clear hI hk hbel
      go_wp2
      have d4' := putObj_cell (o' := .deferred none) HDD.out rfl HS2.out
      refine leave_mark (v := .bool true) HDD.out (by simp [results, Try.results43, go_sem, d4']) ?_
      rw [HA.out]
      exact ⟨rfl, HB.out.trans (HK.out.below HB.out.size (fun k h => by omega))⟩
    case refine_7 =>
      rintro c pre M W hX hD hMD
      obtain ⟨rfl, hA, b4, bb⟩ := hX
      have HA := hid hA
      have HB := hid bb
      clear hA bb
      gi_wp2
      have d4' := putObj_cell (o' := .deferred none) hD rfl b4
      refine leave_mark (v := .bool false) hD (by simp [results, Try.results43, go_sem, d4']) ?_
      rw [HA.out]
      exact ⟨rfl, putObj_below _ HB.out (by omega)⟩
end Go.Proofs.Ytidigpfiagjeiaa
