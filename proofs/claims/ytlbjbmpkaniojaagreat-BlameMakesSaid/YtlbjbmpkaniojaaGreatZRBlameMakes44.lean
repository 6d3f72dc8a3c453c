/-
  WHAT IT HOLDS: contract of Undone of the reference of layer 9. Conditions: the arguments read as data; small signs, small libraries. Printed by wip/gen_ru.py.
-/
import Derived.Test.YtlbjbmpkaniojaaGreatZRBlameMakes43
namespace Go.Proofs.YtlbjbmpkaniojaaGreat
open Go Go.RowKit Go.Maps
set_option maxHeartbeats 4000000 in
set_option maxRecDepth 100000 in
theorem ref9_Undone (vs vl vS vU vP : Value) (s : Sg) (l : List En) (c : Chg) (w : World) (hs : SignAt w vs s) (hl : EntsAt w vl l) (hc : ChgAt w vS vU vP c) (hs1 : s.length ≤ 1000) (hl1 : l.length ≤ 1000) :
    Calls Tryz.prog 30 #[vs, vl, chV c vS vU vP] w fun e w' => UnQ w.heap.size (undoL s l c) w e w' := by
  obtain ⟨sa, sc, rfl, -⟩ := hc.e.s.open
  obtain ⟨ua, uc, rfl, -⟩ := hc.e.u.open
  obtain ⟨pa, pc, rfl, -⟩ := hc.e.p.open
  have hCB := CB.new w c (.slice sa c.ent.says.length sc) (.slice ua c.ent.uses.length uc) (.slice pa c.ent.proof.length pc) 43
  obtain ⟨V, hV⟩ : ∃ V, w.alloc (.cells #[.int .i64 c.kind, .string c.who, .string c.name, .string c.new, .string c.ent.name, .string c.ent.who, .slice sa c.ent.says.length sc, .slice ua c.ent.uses.length uc, .slice pa c.ent.proof.length pc] 43) = V := ⟨_, rfl⟩
  have hbV : Below w.heap.size w V := hV ▸ (Below.refl _ _).alloc (Nat.le_refl _) _
  rw [hV] at hCB
  have hRB := BX.new V z9 43
  obtain ⟨X, hX⟩ : ∃ X, V.alloc (.cells z9.toArray 43) = X := ⟨_, rfl⟩
  have hbX : Below V.heap.size V X := hX ▸ (Below.refl _ _).alloc (Nat.le_refl _) _
  rw [hX] at hRB
  have hCX := hCB.below hbX
  have hb := hbV.trans (hbX.mono hbV.size)
  have HMD := hid (ref9_Made vs vl (.slice sa c.ent.says.length sc) (.slice ua c.ent.uses.length uc) (.slice pa c.ent.proof.length pc) s l c X (hs.below hb) (hl.below hb) (hc.below hb) hs1 hl1)
  have HL := hid hl
  have HC := hid hc
  obtain ⟨la, lc, rfl, -⟩ := hl.open
  unfold chV at HMD ⊢
  have HW := hid hV
  have HXX : Hid (V.alloc (.cells #[.int .i64 0, .string ⟨#[]⟩, .string ⟨#[]⟩, .string ⟨#[]⟩, .string ⟨#[]⟩, .string ⟨#[]⟩, .slice none 0 0, .slice none 0 0, .slice none 0 0] 43) = X) := hid hX
  have HB := hid hb
  have HCX := hid hCX
  have HRB := hid hRB
  have HVZ := hid hbV.size
  obtain ⟨c0, c1, c2, c3, c4, c5, c6, c7, c8⟩ := hCX
  clear hV hbV hc hs hl hX hbX hb hRB hCB
  go_enter Tryz.func30, Tryz.ntmps30
  go_wp2_with (first | rw [HW.out] | rw [HXX.out])
  refine HMD.out.mono ?_
  rintro e w1 ⟨u, rfl, -, hb1⟩
  have hbw1 := HB.out.trans (hb1.mono HB.out.size)
  have hC1 := HCX.out.below hb1
  have hR1 := HRB.out.below (by decide) hb1
  have HC1 := hid hC1
  have HR1 := hid hR1
  have HB1 := hid hbw1
  obtain ⟨d0, d1, d2, d3, d4, d5, d6, d7, d8⟩ := hC1
  clear c0 c1 c2 c3 c4 c5 c6 c7 c8 hb1 hbw1 HMD
  --<tail>
  by_cases h0 : (madeL s l c).2 = 0
  case neg =>
    have HR : Hid (undoL s l c = (chg0, (madeL s l c).2)) := hid (undoL_er h0)
    have n0 : ((madeL s l c).2 != 0) = true := by simpa using h0
    have p := HR1.out.z
    obtain ⟨er, her⟩ : ∃ er, (madeL s l c).2 = er := ⟨_, rfl⟩
    rw [her] at HR n0
    simp only [her]
    have q0 := HR1.out.c 0 (by decide)
    have q1 := HR1.out.c 1 (by decide)
    have q2 := HR1.out.c 2 (by decide)
    have q3 := HR1.out.c 3 (by decide)
    have q4 := HR1.out.c 4 (by decide)
    have q5 := HR1.out.c 5 (by decide)
    have q6 := HR1.out.c 6 (by decide)
    have q7 := HR1.out.c 7 (by decide)
    have q8 := HR1.out.c 8 (by decide)
    have z0 := p 0
    have z1 := p 1
    have z2 := p 2
    have z3 := p 3
    have z4 := p 4
    have z5 := p 5
    have z6 := p 6
    have z7 := p 7
    have z8 := p 8
    clear p h0 her
    have hY := BX.sets ([.int .i64 0, .string ⟨#[]⟩, .string ⟨#[]⟩, .string ⟨#[]⟩, .string ⟨#[]⟩, .string ⟨#[]⟩, .slice none 0 0, .slice none 0 0, .slice none 0 0] : List Value) 0 HR1.out (by simp [z9])
    have eY : ovL z9 0 ([.int .i64 0, .string ⟨#[]⟩, .string ⟨#[]⟩, .string ⟨#[]⟩, .string ⟨#[]⟩, .string ⟨#[]⟩, .slice none 0 0, .slice none 0 0, .slice none 0 0] : List Value) = [.int .i64 0, .string ⟨#[]⟩, .string ⟨#[]⟩, .string ⟨#[]⟩, .string ⟨#[]⟩, .string ⟨#[]⟩, .slice none 0 0, .slice none 0 0, .slice none 0 0] := rfl
    rw [eY] at hY
    have hbY : Below w.heap.size w (w1.setCells V.heap.size 0 ([.int .i64 0, .string ⟨#[]⟩, .string ⟨#[]⟩, .string ⟨#[]⟩, .string ⟨#[]⟩, .string ⟨#[]⟩, .slice none 0 0, .slice none 0 0, .slice none 0 0] : List Value)) := (below_sets HB1.out HVZ.out _ _)
    have hgY : ∀ q, q ≠ V.heap.size → (w1.setCells V.heap.size 0 ([.int .i64 0, .string ⟨#[]⟩, .string ⟨#[]⟩, .string ⟨#[]⟩, .string ⟨#[]⟩, .string ⟨#[]⟩, .slice none 0 0, .slice none 0 0, .slice none 0 0] : List Value)).heap[q]? = w1.heap[q]? := fun q hq => heap_sets _ _ _ _ hq
    have hyX : (((((((((w1).setCell ⟨V.heap.size, 0, none⟩ (.int .i64 0)).setCell ⟨V.heap.size, 1, none⟩ (.string ⟨#[]⟩)).setCell ⟨V.heap.size, 2, none⟩ (.string ⟨#[]⟩)).setCell ⟨V.heap.size, 3, none⟩ (.string ⟨#[]⟩)).setCell ⟨V.heap.size, 4, none⟩ (.string ⟨#[]⟩)).setCell ⟨V.heap.size, 5, none⟩ (.string ⟨#[]⟩)).setCell ⟨V.heap.size, 6, none⟩ (.slice none 0 0)).setCell ⟨V.heap.size, 7, none⟩ (.slice none 0 0)).setCell ⟨V.heap.size, 8, none⟩ (.slice none 0 0) = w1.setCells V.heap.size 0 ([.int .i64 0, .string ⟨#[]⟩, .string ⟨#[]⟩, .string ⟨#[]⟩, .string ⟨#[]⟩, .string ⟨#[]⟩, .slice none 0 0, .slice none 0 0, .slice none 0 0] : List Value) := rfl
    obtain ⟨Y, hYe⟩ : ∃ Y, (((((((((w1).setCell ⟨V.heap.size, 0, none⟩ (.int .i64 0)).setCell ⟨V.heap.size, 1, none⟩ (.string ⟨#[]⟩)).setCell ⟨V.heap.size, 2, none⟩ (.string ⟨#[]⟩)).setCell ⟨V.heap.size, 3, none⟩ (.string ⟨#[]⟩)).setCell ⟨V.heap.size, 4, none⟩ (.string ⟨#[]⟩)).setCell ⟨V.heap.size, 5, none⟩ (.string ⟨#[]⟩)).setCell ⟨V.heap.size, 6, none⟩ (.slice none 0 0)).setCell ⟨V.heap.size, 7, none⟩ (.slice none 0 0)).setCell ⟨V.heap.size, 8, none⟩ (.slice none 0 0) = Y := ⟨_, rfl⟩
    rw [← hyX, hYe] at hY hbY hgY
    have HY := hid hYe
    have HBY := hid hbY
    have HGY := hid hgY
    have g0 := hY.c 0 (by simp)
    have g1 := hY.c 1 (by simp)
    have g2 := hY.c 2 (by simp)
    have g3 := hY.c 3 (by simp)
    have g4 := hY.c 4 (by simp)
    have g5 := hY.c 5 (by simp)
    have g6 := hY.c 6 (by simp)
    have g7 := hY.c 7 (by simp)
    have g8 := hY.c 8 (by simp)
    simp only [List.getElem_cons_zero, List.getElem_cons_succ] at g0 g1 g2 g3 g4 g5 g6 g7 g8
    have HG := hid (And.intro g0 (And.intro g1 (And.intro g2 (And.intro g3 (And.intro g4 (And.intro g5 (And.intro g6 (And.intro g7 g8))))))))
    clear hY eY hbY hgY hyX hYe g0 g1 g2 g3 g4 g5 g6 g7 g8
    go_wp2_with (rw [HY.out])
    obtain ⟨g0, g1, g2, g3, g4, g5, g6, g7, g8⟩ := HG.out
    (try simp only [Exit.inBlock, Exit.then])
    refine bodyPost_ret (v := .tuple #[.agg #[.int .i64 0, .string ⟨#[]⟩, .string ⟨#[]⟩, .string ⟨#[]⟩, .string ⟨#[]⟩, .string ⟨#[]⟩, .slice none 0 0, .slice none 0 0, .slice none 0 0], .int .i64 (er)]) ?_ rfl (UnQ.mk chg0 (er) _ _ _ HR.out rfl (EntO.zero _ _) HBY.out)
    simp only [results, Tryz.results30]
    go_simp
  case pos =>
    obtain ⟨k1, k2, HRR⟩ := undoL_ok h0
    have HK1 := hid k1
    have HK2 := hid k2
    have hle : (madeL s l c).2 = 0 := h0
    have hdo : (doL l c).2 = 0 := by rw [madeL_yes k1 k2] at h0; exact h0
    obtain ⟨hLib, hAsc⟩ := edB_iff.1 k1
    have hOkc := (okC_iff hLib (chgB_iff.1 k2)).1 hdo
    have hKinds := (chgB_iff.1 k2).kinds
    rw [h0]
    have HOK := hid hOkc
    have HAS := hid hAsc
    have HLB := hid hLib
    -- the change that comes out
    obtain ⟨Y0, hY0⟩ : ∃ Y0, w1.alloc (.cells #[.int .i64 0, .string c.who, .string ⟨#[]⟩, .string ⟨#[]⟩, .string ⟨#[]⟩, .string ⟨#[]⟩, .slice none 0 0, .slice none 0 0, .slice none 0 0] 43) = Y0 := ⟨_, rfl⟩
    have hbY0 : Below w1.heap.size w1 Y0 := hY0 ▸ (Below.refl _ _).alloc (Nat.le_refl _) _
    have hO0 : BX Y0 w1.heap.size [.int .i64 0, .string c.who, .string ⟨#[]⟩, .string ⟨#[]⟩, .string ⟨#[]⟩, .string ⟨#[]⟩, .slice none 0 0, .slice none 0 0, .slice none 0 0] := hY0 ▸ BX.new w1 [.int .i64 0, .string c.who, .string ⟨#[]⟩, .string ⟨#[]⟩, .string ⟨#[]⟩, .string ⟨#[]⟩, .slice none 0 0, .slice none 0 0, .slice none 0 0] _
    have HY0 := hid hY0
    have HBY0 := hid hbY0
    have HO0 := hid hO0
    have HRY := hid (HR1.out.below (by decide) hbY0)
    have HCY := hid (HC1.out.below hbY0)
    have HBWY := hid (HB1.out.trans (hbY0.mono HB1.out.size))
    have HVR := hid (HR1.out.lt (by decide))
    obtain ⟨e0, e1, e2, e3, e4, e5, e6, e7, e8⟩ := HCY.out
    clear hY0 hbY0 hO0 hle hdo hOkc hLib hAsc h0 k1 k2
    by_cases hk1 : c.kind = 1
    · rw [hk1] at HRR
      have HUS := hid ((ref9_used (.slice la l.length lc) l c.ent.name (-1) Y0 (HL.out.below HBWY.out)).mono fun e w2 h => (show e = .returned (.bool (usedI l c.ent.name (-1))) ∧ Below Y0.heap.size Y0 w2 from ⟨h.1, h.2 ▸ Below.refl _ _⟩))
      obtain ⟨ub, hub⟩ : ∃ ub, usedI l c.ent.name (-1) = ub := ⟨_, rfl⟩
      have hub' : usedB l c.ent.name c.ent.name = ub := by
        rw [← hub]
        refine (usedI_all ?_ _).symm
        cases HOK.out with
        | add h h1 h2 => exact h1
        | set h => omega
        | ren h => omega
        | drop h => omega
      rw [hub] at HUS
      rw [hub'] at HRR
      have q1 : (c.kind == 1) = true := by simpa using hk1
      have HKK := hid hk1
      clear hub hub' hk1 hKinds
      cases ub
      case true =>
        have HR : Hid (undoL s l c = (chg0, 10)) := hid (by rw [HRR]; rfl)
        clear HRR
        go_wp2_with (rw [HY0.out])
        refine HUS.out.mono ?_
        rintro e w2 ⟨rfl, hb2⟩
        have hR2 := HRY.out.below (by decide) hb2
        have HB2 := hid (HBWY.out.trans (hb2.mono HBWY.out.size))
        have q0 : (w2).cell? ⟨V.heap.size, 0, none⟩ = some (.int .i64 0) := hR2.c 0 (by decide)
        have q1 : (w2).cell? ⟨V.heap.size, 1, none⟩ = some (.string ⟨#[]⟩) := hR2.c 1 (by decide)
        have q2 : (w2).cell? ⟨V.heap.size, 2, none⟩ = some (.string ⟨#[]⟩) := hR2.c 2 (by decide)
        have q3 : (w2).cell? ⟨V.heap.size, 3, none⟩ = some (.string ⟨#[]⟩) := hR2.c 3 (by decide)
        have q4 : (w2).cell? ⟨V.heap.size, 4, none⟩ = some (.string ⟨#[]⟩) := hR2.c 4 (by decide)
        have q5 : (w2).cell? ⟨V.heap.size, 5, none⟩ = some (.string ⟨#[]⟩) := hR2.c 5 (by decide)
        have q6 : (w2).cell? ⟨V.heap.size, 6, none⟩ = some (.slice none 0 0) := hR2.c 6 (by decide)
        have q7 : (w2).cell? ⟨V.heap.size, 7, none⟩ = some (.slice none 0 0) := hR2.c 7 (by decide)
        have q8 : (w2).cell? ⟨V.heap.size, 8, none⟩ = some (.slice none 0 0) := hR2.c 8 (by decide)
        have z0 := hR2.z 0
        have z1 := hR2.z 1
        have z2 := hR2.z 2
        have z3 := hR2.z 3
        have z4 := hR2.z 4
        have z5 := hR2.z 5
        have z6 := hR2.z 6
        have z7 := hR2.z 7
        have z8 := hR2.z 8
        have hY := BX.sets ([.int .i64 0, .string ⟨#[]⟩, .string ⟨#[]⟩, .string ⟨#[]⟩, .string ⟨#[]⟩, .string ⟨#[]⟩, .slice none 0 0, .slice none 0 0, .slice none 0 0] : List Value) 0 hR2 (by simp [z9])
        have eY : ovL z9 0 ([.int .i64 0, .string ⟨#[]⟩, .string ⟨#[]⟩, .string ⟨#[]⟩, .string ⟨#[]⟩, .string ⟨#[]⟩, .slice none 0 0, .slice none 0 0, .slice none 0 0] : List Value) = [.int .i64 0, .string ⟨#[]⟩, .string ⟨#[]⟩, .string ⟨#[]⟩, .string ⟨#[]⟩, .string ⟨#[]⟩, .slice none 0 0, .slice none 0 0, .slice none 0 0] := rfl
        rw [eY] at hY
        have hbY : Below w.heap.size w (w2.setCells V.heap.size 0 ([.int .i64 0, .string ⟨#[]⟩, .string ⟨#[]⟩, .string ⟨#[]⟩, .string ⟨#[]⟩, .string ⟨#[]⟩, .slice none 0 0, .slice none 0 0, .slice none 0 0] : List Value)) := (below_sets HB2.out HVZ.out _ _)
        have hgY : ∀ q, q ≠ V.heap.size → (w2.setCells V.heap.size 0 ([.int .i64 0, .string ⟨#[]⟩, .string ⟨#[]⟩, .string ⟨#[]⟩, .string ⟨#[]⟩, .string ⟨#[]⟩, .slice none 0 0, .slice none 0 0, .slice none 0 0] : List Value)).heap[q]? = w2.heap[q]? := fun q hq => heap_sets _ _ _ _ hq
        have hyX : (((((((((w2).setCell ⟨V.heap.size, 0, none⟩ (.int .i64 0)).setCell ⟨V.heap.size, 1, none⟩ (.string ⟨#[]⟩)).setCell ⟨V.heap.size, 2, none⟩ (.string ⟨#[]⟩)).setCell ⟨V.heap.size, 3, none⟩ (.string ⟨#[]⟩)).setCell ⟨V.heap.size, 4, none⟩ (.string ⟨#[]⟩)).setCell ⟨V.heap.size, 5, none⟩ (.string ⟨#[]⟩)).setCell ⟨V.heap.size, 6, none⟩ (.slice none 0 0)).setCell ⟨V.heap.size, 7, none⟩ (.slice none 0 0)).setCell ⟨V.heap.size, 8, none⟩ (.slice none 0 0) = w2.setCells V.heap.size 0 ([.int .i64 0, .string ⟨#[]⟩, .string ⟨#[]⟩, .string ⟨#[]⟩, .string ⟨#[]⟩, .string ⟨#[]⟩, .slice none 0 0, .slice none 0 0, .slice none 0 0] : List Value) := rfl
        obtain ⟨Y, hYe⟩ : ∃ Y, (((((((((w2).setCell ⟨V.heap.size, 0, none⟩ (.int .i64 0)).setCell ⟨V.heap.size, 1, none⟩ (.string ⟨#[]⟩)).setCell ⟨V.heap.size, 2, none⟩ (.string ⟨#[]⟩)).setCell ⟨V.heap.size, 3, none⟩ (.string ⟨#[]⟩)).setCell ⟨V.heap.size, 4, none⟩ (.string ⟨#[]⟩)).setCell ⟨V.heap.size, 5, none⟩ (.string ⟨#[]⟩)).setCell ⟨V.heap.size, 6, none⟩ (.slice none 0 0)).setCell ⟨V.heap.size, 7, none⟩ (.slice none 0 0)).setCell ⟨V.heap.size, 8, none⟩ (.slice none 0 0) = Y := ⟨_, rfl⟩
        rw [← hyX, hYe] at hY hbY hgY
        have HY := hid hYe
        have HBY := hid hbY
        have HGY := hid hgY
        have g0 := hY.c 0 (by simp)
        have g1 := hY.c 1 (by simp)
        have g2 := hY.c 2 (by simp)
        have g3 := hY.c 3 (by simp)
        have g4 := hY.c 4 (by simp)
        have g5 := hY.c 5 (by simp)
        have g6 := hY.c 6 (by simp)
        have g7 := hY.c 7 (by simp)
        have g8 := hY.c 8 (by simp)
        simp only [List.getElem_cons_zero, List.getElem_cons_succ] at g0 g1 g2 g3 g4 g5 g6 g7 g8
        have HG := hid (And.intro g0 (And.intro g1 (And.intro g2 (And.intro g3 (And.intro g4 (And.intro g5 (And.intro g6 (And.intro g7 g8))))))))
        clear hY eY hbY hgY hyX hYe g0 g1 g2 g3 g4 g5 g6 g7 g8
        go_wp2_with (rw [HY.out])
        obtain ⟨g0, g1, g2, g3, g4, g5, g6, g7, g8⟩ := HG.out
        (try simp only [Exit.inBlock, Exit.then])
        refine bodyPost_ret (v := .tuple #[.agg #[.int .i64 0, .string ⟨#[]⟩, .string ⟨#[]⟩, .string ⟨#[]⟩, .string ⟨#[]⟩, .string ⟨#[]⟩, .slice none 0 0, .slice none 0 0, .slice none 0 0], .int .i64 (10)]) ?_ rfl (UnQ.mk chg0 (10) _ _ _ HR.out rfl (EntO.zero _ _) HBY.out)
        simp only [results, Tryz.results30]
        go_simp
      case false =>
        have HR : Hid (undoL s l c = (undoC l c, 0)) := hid (by rw [HRR, if_neg (by simp)])
        have HUC : Hid (undoC l c = ⟨4, c.who, c.ent.name, em, en0⟩) := hid (by unfold undoC; rw [if_pos HKK.out])
        clear HRR
        go_wp2_with (rw [HY0.out])
        refine HUS.out.mono ?_
        rintro e w2 ⟨rfl, hb2⟩
        have hR2 := HRY.out.below (by decide) hb2
        have hO2 := HO0.out.below (by simp) hb2
        have HB2 := hid (HBWY.out.trans (hb2.mono HBWY.out.size))
        obtain ⟨c0, c1, c2, c3, c4, c5, c6, c7, c8⟩ := HCY.out.below hb2
        have HR2 := hid hR2
        have HO2 := hid hO2
        have o0 : (w2).cell? ⟨w1.heap.size, 0, none⟩ = some (.int .i64 0) := hO2.c 0 (by simp)
        have o1 : (w2).cell? ⟨w1.heap.size, 1, none⟩ = some (.string c.who) := hO2.c 1 (by simp)
        have o2 : (w2).cell? ⟨w1.heap.size, 2, none⟩ = some (.string ⟨#[]⟩) := hO2.c 2 (by simp)
        have o3 : (w2).cell? ⟨w1.heap.size, 3, none⟩ = some (.string ⟨#[]⟩) := hO2.c 3 (by simp)
        have o4 : (w2).cell? ⟨w1.heap.size, 4, none⟩ = some (.string ⟨#[]⟩) := hO2.c 4 (by simp)
        have o5 : (w2).cell? ⟨w1.heap.size, 5, none⟩ = some (.string ⟨#[]⟩) := hO2.c 5 (by simp)
        have o6 : (w2).cell? ⟨w1.heap.size, 6, none⟩ = some (.slice none 0 0) := hO2.c 6 (by simp)
        have o7 : (w2).cell? ⟨w1.heap.size, 7, none⟩ = some (.slice none 0 0) := hO2.c 7 (by simp)
        have o8 : (w2).cell? ⟨w1.heap.size, 8, none⟩ = some (.slice none 0 0) := hO2.c 8 (by simp)
        have oz0 := hO2.z 0
        have oz1 := hO2.z 1
        have oz2 := hO2.z 2
        have oz3 := hO2.z 3
        have oz4 := hO2.z 4
        have oz5 := hO2.z 5
        have oz6 := hO2.z 6
        have oz7 := hO2.z 7
        have oz8 := hO2.z 8
        clear e0 e1 e2 e3 e4 e5 e6 e7 e8 hR2 hO2
        go_wp2
        go_region
        have hVw : V.heap.size ≠ w1.heap.size := by have := HVR.out; omega
        have hww : w.heap.size ≤ w1.heap.size := HB1.out.size
        obtain ⟨W3, hW3⟩ : ∃ W3, (((w2).setCell ⟨w1.heap.size, 0, none⟩ (.int .i64 4)).setCell ⟨w1.heap.size, 2, none⟩ (.string c.ent.name)).drew = W3 := ⟨_, rfl⟩
        have hO3 : BX W3 w1.heap.size [.int .i64 4, .string c.who, .string c.ent.name, .string ⟨#[]⟩, .string ⟨#[]⟩, .string ⟨#[]⟩, .slice none 0 0, .slice none 0 0, .slice none 0 0] := by rw [← hW3]; exact BX.drew (((HO2.out.set (k := 0) (by simp) (.int .i64 4)).set (k := 2) (by simp) (.string c.ent.name)))
        have hR3 : BX W3 V.heap.size z9 := by
          rw [← hW3]
          refine BX.drew ?_
          exact ((HR2.out.block (Below.heap_setCell _ _ _ _ hVw)).block (Below.heap_setCell _ _ _ _ hVw))
        have hb3 : Below w.heap.size w W3 := by rw [← hW3]; exact ((HB2.out.setCell (p := ⟨w1.heap.size, 0, none⟩) hww (.int .i64 4)).setCell (p := ⟨w1.heap.size, 2, none⟩) hww (.string c.ent.name)).drew
        have HW3 := hid hW3
        have HB3 := hid hb3
        have o0 : W3.cell? ⟨w1.heap.size, 0, none⟩ = some (.int .i64 4) := hO3.c 0 (by simp)
        have o1 : W3.cell? ⟨w1.heap.size, 1, none⟩ = some (.string c.who) := hO3.c 1 (by simp)
        have o2 : W3.cell? ⟨w1.heap.size, 2, none⟩ = some (.string c.ent.name) := hO3.c 2 (by simp)
        have o3 : W3.cell? ⟨w1.heap.size, 3, none⟩ = some (.string ⟨#[]⟩) := hO3.c 3 (by simp)
        have o4 : W3.cell? ⟨w1.heap.size, 4, none⟩ = some (.string ⟨#[]⟩) := hO3.c 4 (by simp)
        have o5 : W3.cell? ⟨w1.heap.size, 5, none⟩ = some (.string ⟨#[]⟩) := hO3.c 5 (by simp)
        have o6 : W3.cell? ⟨w1.heap.size, 6, none⟩ = some (.slice none 0 0) := hO3.c 6 (by simp)
        have o7 : W3.cell? ⟨w1.heap.size, 7, none⟩ = some (.slice none 0 0) := hO3.c 7 (by simp)
        have o8 : W3.cell? ⟨w1.heap.size, 8, none⟩ = some (.slice none 0 0) := hO3.c 8 (by simp)
        have q0 : W3.cell? ⟨V.heap.size, 0, none⟩ = some (.int .i64 0) := hR3.c 0 (by decide)
        have q1 : W3.cell? ⟨V.heap.size, 1, none⟩ = some (.string ⟨#[]⟩) := hR3.c 1 (by decide)
        have q2 : W3.cell? ⟨V.heap.size, 2, none⟩ = some (.string ⟨#[]⟩) := hR3.c 2 (by decide)
        have q3 : W3.cell? ⟨V.heap.size, 3, none⟩ = some (.string ⟨#[]⟩) := hR3.c 3 (by decide)
        have q4 : W3.cell? ⟨V.heap.size, 4, none⟩ = some (.string ⟨#[]⟩) := hR3.c 4 (by decide)
        have q5 : W3.cell? ⟨V.heap.size, 5, none⟩ = some (.string ⟨#[]⟩) := hR3.c 5 (by decide)
        have q6 : W3.cell? ⟨V.heap.size, 6, none⟩ = some (.slice none 0 0) := hR3.c 6 (by decide)
        have q7 : W3.cell? ⟨V.heap.size, 7, none⟩ = some (.slice none 0 0) := hR3.c 7 (by decide)
        have q8 : W3.cell? ⟨V.heap.size, 8, none⟩ = some (.slice none 0 0) := hR3.c 8 (by decide)
        have z0 := hR3.z 0
        have z1 := hR3.z 1
        have z2 := hR3.z 2
        have z3 := hR3.z 3
        have z4 := hR3.z 4
        have z5 := hR3.z 5
        have z6 := hR3.z 6
        have z7 := hR3.z 7
        have z8 := hR3.z 8
        clear hW3 hO3 hVw hww hb3
        have hY := BX.sets ([.int .i64 4, .string c.who, .string c.ent.name, .string ⟨#[]⟩, .string ⟨#[]⟩, .string ⟨#[]⟩, .slice none 0 0, .slice none 0 0, .slice none 0 0] : List Value) 0 hR3 (by simp [z9])
        have eY : ovL z9 0 ([.int .i64 4, .string c.who, .string c.ent.name, .string ⟨#[]⟩, .string ⟨#[]⟩, .string ⟨#[]⟩, .slice none 0 0, .slice none 0 0, .slice none 0 0] : List Value) = [.int .i64 4, .string c.who, .string c.ent.name, .string ⟨#[]⟩, .string ⟨#[]⟩, .string ⟨#[]⟩, .slice none 0 0, .slice none 0 0, .slice none 0 0] := rfl
        rw [eY] at hY
        have hbY : Below w.heap.size w (W3.setCells V.heap.size 0 ([.int .i64 4, .string c.who, .string c.ent.name, .string ⟨#[]⟩, .string ⟨#[]⟩, .string ⟨#[]⟩, .slice none 0 0, .slice none 0 0, .slice none 0 0] : List Value)) := (below_sets HB3.out HVZ.out _ _)
        have hgY : ∀ q, q ≠ V.heap.size → (W3.setCells V.heap.size 0 ([.int .i64 4, .string c.who, .string c.ent.name, .string ⟨#[]⟩, .string ⟨#[]⟩, .string ⟨#[]⟩, .slice none 0 0, .slice none 0 0, .slice none 0 0] : List Value)).heap[q]? = W3.heap[q]? := fun q hq => heap_sets _ _ _ _ hq
        have hyX : (((((((((W3).setCell ⟨V.heap.size, 0, none⟩ (.int .i64 4)).setCell ⟨V.heap.size, 1, none⟩ (.string c.who)).setCell ⟨V.heap.size, 2, none⟩ (.string c.ent.name)).setCell ⟨V.heap.size, 3, none⟩ (.string ⟨#[]⟩)).setCell ⟨V.heap.size, 4, none⟩ (.string ⟨#[]⟩)).setCell ⟨V.heap.size, 5, none⟩ (.string ⟨#[]⟩)).setCell ⟨V.heap.size, 6, none⟩ (.slice none 0 0)).setCell ⟨V.heap.size, 7, none⟩ (.slice none 0 0)).setCell ⟨V.heap.size, 8, none⟩ (.slice none 0 0) = W3.setCells V.heap.size 0 ([.int .i64 4, .string c.who, .string c.ent.name, .string ⟨#[]⟩, .string ⟨#[]⟩, .string ⟨#[]⟩, .slice none 0 0, .slice none 0 0, .slice none 0 0] : List Value) := rfl
        obtain ⟨Y, hYe⟩ : ∃ Y, (((((((((W3).setCell ⟨V.heap.size, 0, none⟩ (.int .i64 4)).setCell ⟨V.heap.size, 1, none⟩ (.string c.who)).setCell ⟨V.heap.size, 2, none⟩ (.string c.ent.name)).setCell ⟨V.heap.size, 3, none⟩ (.string ⟨#[]⟩)).setCell ⟨V.heap.size, 4, none⟩ (.string ⟨#[]⟩)).setCell ⟨V.heap.size, 5, none⟩ (.string ⟨#[]⟩)).setCell ⟨V.heap.size, 6, none⟩ (.slice none 0 0)).setCell ⟨V.heap.size, 7, none⟩ (.slice none 0 0)).setCell ⟨V.heap.size, 8, none⟩ (.slice none 0 0) = Y := ⟨_, rfl⟩
        rw [← hyX, hYe] at hY hbY hgY
        have HY := hid hYe
        have HBY := hid hbY
        have HGY := hid hgY
        have g0 := hY.c 0 (by simp)
        have g1 := hY.c 1 (by simp)
        have g2 := hY.c 2 (by simp)
        have g3 := hY.c 3 (by simp)
        have g4 := hY.c 4 (by simp)
        have g5 := hY.c 5 (by simp)
        have g6 := hY.c 6 (by simp)
        have g7 := hY.c 7 (by simp)
        have g8 := hY.c 8 (by simp)
        simp only [List.getElem_cons_zero, List.getElem_cons_succ] at g0 g1 g2 g3 g4 g5 g6 g7 g8
        have HG := hid (And.intro g0 (And.intro g1 (And.intro g2 (And.intro g3 (And.intro g4 (And.intro g5 (And.intro g6 (And.intro g7 g8))))))))
        clear hY eY hbY hgY hyX hYe g0 g1 g2 g3 g4 g5 g6 g7 g8
        rw [HW3.out]
        go_wp2_with (rw [HY.out])
        obtain ⟨g0, g1, g2, g3, g4, g5, g6, g7, g8⟩ := HG.out
        (try simp only [Exit.inBlock, Exit.then])
        refine bodyPost_ret (v := .tuple #[.agg #[.int .i64 4, .string c.who, .string c.ent.name, .string ⟨#[]⟩, .string ⟨#[]⟩, .string ⟨#[]⟩, .slice none 0 0, .slice none 0 0, .slice none 0 0], .int .i64 (0)]) ?_ rfl (UnQ.mk ⟨4, c.who, c.ent.name, em, en0⟩ (0) _ _ _ (by rw [HR.out, HUC.out]) rfl (EntO.zero _ _) HBY.out)
        simp only [results, Tryz.results30]
        go_simp
    by_cases hk2 : c.kind = 2
    · rw [hk2, if_neg (by omega)] at HRR
      have HR : Hid (undoL s l c = (undoC l c, 0)) := hid HRR
      obtain ⟨i, hi⟩ : ∃ i, idxN l c.ent.name = some i := by
        cases hx : idxN l c.ent.name with
        | some i => exact ⟨i, rfl⟩
        | none =>
          have hno := idxN_none hx
          cases HOK.out with
          | add h => omega
          | set h h1 h2 => (obtain ⟨x, hx, e⟩ := h1; exact (hno x hx e).elim)
          | ren h => omega
          | drop h h1 h2 => omega
      obtain ⟨hil, hin⟩ := idxN_some hi
      have HUC : Hid (undoC l c = ⟨2, c.who, em, em, l[i]⟩) := hid (by
        have ha : atN l c.ent.name = l[i] := by rw [← hin]; exact atN_of HAS.out (List.getElem_mem hil)
        unfold undoC; rw [if_neg (by omega), if_pos hk2]
        rw [ha])
      have HFI := hid ((ref6_Index (.slice la l.length lc) l c.ent.name Y0 (HL.out.below HBWY.out)).mono fun e w2 h => (show e = .returned (.int .i64 (idxI l c.ent.name)) ∧ Below Y0.heap.size Y0 w2 from ⟨h.1, h.2 ▸ Below.refl _ _⟩))
      rw [idxI_some hi] at HFI
      have b0 : (0 : Int) ≤ (i : Int) := by omega
      have b1 : (i : Int) < (l.length : Int) := by omega
      have q1 : (c.kind == 2) = true := by simpa using hk2
      have q2 : (c.kind == 1) = false := by simpa using hk1
      have hsm := ent_sm (entryB_iff.2 (HLB.out.ents _ (List.getElem_mem hil)))
      clear hi hk2 hKinds HRR
      go_wp2_with (rw [HY0.out])
      refine HFI.out.mono ?_
      rintro e w2 ⟨rfl, hb2⟩
      have hbw2 := HBWY.out.trans (hb2.mono HBWY.out.size)
      obtain ⟨a', cap', e', -, -, -, ZC⟩ := (HL.out.below hbw2).open
      cases e'
      obtain ⟨gb, gp, xS, xU, xP, rfl, x0, x1, x2, x3, x4, he⟩ := ZC i hil
      have HCP := hid (ref9_copied _ _ _ l[i] w2 he hsm.2.1 hsm.2.2.1 hsm.2.2.2)
      have HB2 := hid hbw2
      have HBb := hid hb2
      have HRZ := hid (HRY.out.below (by decide) hb2)
      have HOZ := hid (HO0.out.below (by simp) hb2)
      obtain ⟨lx, hlx⟩ : ∃ lx, l[i] = lx := ⟨_, rfl⟩
      rw [hlx] at x0 x1 HCP
      have HLX := hid hlx
      rw [hlx] at HUC
      clear hb2 hbw2 ZC he hlx e0 e1 e2 e3 e4 e5 e6 e7 e8
      go_wp2_with fail
      refine HCP.out.mono ?_
      rintro e w4 ⟨v, rfl, ⟨yS, yU, yP, rfl, hO⟩, hb4⟩
      obtain ⟨a1, k1, rfl⟩ := owns_slice hO.s
      obtain ⟨a2, k2, rfl⟩ := owns_slice hO.u
      obtain ⟨a3, k3, rfl⟩ := owns_slice hO.p
      have hR4 := HRZ.out.below (by decide) hb4
      have hO4 := HOZ.out.below (by simp) hb4
      have HB4 := hid (HB2.out.trans (hb4.mono HB2.out.size))
      have HR4 := hid hR4
      have HO4 := hid hO4
      have HEO := hid hO
      have HBS2 := hid HBb.out.size
      have HBS0 := hid HBY0.out.size
      clear x0 x1 x2 x3 x4 hR4 hb4 hO
      have o0 : (w4).cell? ⟨w1.heap.size, 0, none⟩ = some (.int .i64 0) := hO4.c 0 (by simp)
      have o1 : (w4).cell? ⟨w1.heap.size, 1, none⟩ = some (.string c.who) := hO4.c 1 (by simp)
      have o2 : (w4).cell? ⟨w1.heap.size, 2, none⟩ = some (.string ⟨#[]⟩) := hO4.c 2 (by simp)
      have o3 : (w4).cell? ⟨w1.heap.size, 3, none⟩ = some (.string ⟨#[]⟩) := hO4.c 3 (by simp)
      have o4 : (w4).cell? ⟨w1.heap.size, 4, none⟩ = some (.string ⟨#[]⟩) := hO4.c 4 (by simp)
      have o5 : (w4).cell? ⟨w1.heap.size, 5, none⟩ = some (.string ⟨#[]⟩) := hO4.c 5 (by simp)
      have o6 : (w4).cell? ⟨w1.heap.size, 6, none⟩ = some (.slice none 0 0) := hO4.c 6 (by simp)
      have o7 : (w4).cell? ⟨w1.heap.size, 7, none⟩ = some (.slice none 0 0) := hO4.c 7 (by simp)
      have o8 : (w4).cell? ⟨w1.heap.size, 8, none⟩ = some (.slice none 0 0) := hO4.c 8 (by simp)
      have oz0 := hO4.z 0
      have oz1 := hO4.z 1
      have oz2 := hO4.z 2
      have oz3 := hO4.z 3
      have oz4 := hO4.z 4
      have oz5 := hO4.z 5
      have oz6 := hO4.z 6
      have oz7 := hO4.z 7
      have oz8 := hO4.z 8
      clear hO4
      have hVw : V.heap.size ≠ w1.heap.size := by have := HVR.out; omega
      have hww : w.heap.size ≤ w1.heap.size := HB1.out.size
      obtain ⟨W3, hW3⟩ : ∃ W3, ((((((w4).setCell ⟨w1.heap.size, 0, none⟩ (.int .i64 2)).setCell ⟨w1.heap.size, 4, none⟩ (.string lx.name)).setCell ⟨w1.heap.size, 5, none⟩ (.string lx.who)).setCell ⟨w1.heap.size, 6, none⟩ (.slice a1 lx.says.length k1)).setCell ⟨w1.heap.size, 7, none⟩ (.slice a2 lx.uses.length k2)).setCell ⟨w1.heap.size, 8, none⟩ (.slice a3 lx.proof.length k3) = W3 := ⟨_, rfl⟩
      have hO3 : BX W3 w1.heap.size [.int .i64 2, .string c.who, .string ⟨#[]⟩, .string ⟨#[]⟩, .string lx.name, .string lx.who, .slice a1 lx.says.length k1, .slice a2 lx.uses.length k2, .slice a3 lx.proof.length k3] := by rw [← hW3]; exact (((((((HO4.out.set (k := 0) (by simp) (.int .i64 2)).set (k := 4) (by simp) (.string lx.name)).set (k := 5) (by simp) (.string lx.who)).set (k := 6) (by simp) (.slice a1 lx.says.length k1)).set (k := 7) (by simp) (.slice a2 lx.uses.length k2)).set (k := 8) (by simp) (.slice a3 lx.proof.length k3)))
      have hR3 : BX W3 V.heap.size z9 := by
        rw [← hW3]
        exact ((((((HR4.out.block (Below.heap_setCell _ _ _ _ hVw)).block (Below.heap_setCell _ _ _ _ hVw)).block (Below.heap_setCell _ _ _ _ hVw)).block (Below.heap_setCell _ _ _ _ hVw)).block (Below.heap_setCell _ _ _ _ hVw)).block (Below.heap_setCell _ _ _ _ hVw))
      have hb3 : Below w.heap.size w W3 := by rw [← hW3]; exact ((((((HB4.out.setCell (p := ⟨w1.heap.size, 0, none⟩) hww (.int .i64 2)).setCell (p := ⟨w1.heap.size, 4, none⟩) hww (.string lx.name)).setCell (p := ⟨w1.heap.size, 5, none⟩) hww (.string lx.who)).setCell (p := ⟨w1.heap.size, 6, none⟩) hww (.slice a1 lx.says.length k1)).setCell (p := ⟨w1.heap.size, 7, none⟩) hww (.slice a2 lx.uses.length k2)).setCell (p := ⟨w1.heap.size, 8, none⟩) hww (.slice a3 lx.proof.length k3))
      have HH3 : Hid (∀ q, q ≠ w1.heap.size → W3.heap[q]? = w4.heap[q]?) := hid (fun q hq => by rw [← hW3]; rw [Below.heap_setCell _ _ _ _ hq, Below.heap_setCell _ _ _ _ hq, Below.heap_setCell _ _ _ _ hq, Below.heap_setCell _ _ _ _ hq, Below.heap_setCell _ _ _ _ hq, Below.heap_setCell _ _ _ _ hq])
      have HYZ : Hid (w1.heap.size < Y0.heap.size) := hid (HO0.out.lt (by simp))
      have HW3 := hid hW3
      have HB3 := hid hb3
      have o0 : W3.cell? ⟨w1.heap.size, 0, none⟩ = some (.int .i64 2) := hO3.c 0 (by simp)
      have o1 : W3.cell? ⟨w1.heap.size, 1, none⟩ = some (.string c.who) := hO3.c 1 (by simp)
      have o2 : W3.cell? ⟨w1.heap.size, 2, none⟩ = some (.string ⟨#[]⟩) := hO3.c 2 (by simp)
      have o3 : W3.cell? ⟨w1.heap.size, 3, none⟩ = some (.string ⟨#[]⟩) := hO3.c 3 (by simp)
      have o4 : W3.cell? ⟨w1.heap.size, 4, none⟩ = some (.string lx.name) := hO3.c 4 (by simp)
      have o5 : W3.cell? ⟨w1.heap.size, 5, none⟩ = some (.string lx.who) := hO3.c 5 (by simp)
      have o6 : W3.cell? ⟨w1.heap.size, 6, none⟩ = some (.slice a1 lx.says.length k1) := hO3.c 6 (by simp)
      have o7 : W3.cell? ⟨w1.heap.size, 7, none⟩ = some (.slice a2 lx.uses.length k2) := hO3.c 7 (by simp)
      have o8 : W3.cell? ⟨w1.heap.size, 8, none⟩ = some (.slice a3 lx.proof.length k3) := hO3.c 8 (by simp)
      have q0 : W3.cell? ⟨V.heap.size, 0, none⟩ = some (.int .i64 0) := hR3.c 0 (by decide)
      have q1 : W3.cell? ⟨V.heap.size, 1, none⟩ = some (.string ⟨#[]⟩) := hR3.c 1 (by decide)
      have q2 : W3.cell? ⟨V.heap.size, 2, none⟩ = some (.string ⟨#[]⟩) := hR3.c 2 (by decide)
      have q3 : W3.cell? ⟨V.heap.size, 3, none⟩ = some (.string ⟨#[]⟩) := hR3.c 3 (by decide)
      have q4 : W3.cell? ⟨V.heap.size, 4, none⟩ = some (.string ⟨#[]⟩) := hR3.c 4 (by decide)
      have q5 : W3.cell? ⟨V.heap.size, 5, none⟩ = some (.string ⟨#[]⟩) := hR3.c 5 (by decide)
      have q6 : W3.cell? ⟨V.heap.size, 6, none⟩ = some (.slice none 0 0) := hR3.c 6 (by decide)
      have q7 : W3.cell? ⟨V.heap.size, 7, none⟩ = some (.slice none 0 0) := hR3.c 7 (by decide)
      have q8 : W3.cell? ⟨V.heap.size, 8, none⟩ = some (.slice none 0 0) := hR3.c 8 (by decide)
      have z0 := hR3.z 0
      have z1 := hR3.z 1
      have z2 := hR3.z 2
      have z3 := hR3.z 3
      have z4 := hR3.z 4
      have z5 := hR3.z 5
      have z6 := hR3.z 6
      have z7 := hR3.z 7
      have z8 := hR3.z 8
      clear hW3 hO3 hVw hww hb3
      have hY := BX.sets ([.int .i64 2, .string c.who, .string ⟨#[]⟩, .string ⟨#[]⟩, .string lx.name, .string lx.who, .slice a1 lx.says.length k1, .slice a2 lx.uses.length k2, .slice a3 lx.proof.length k3] : List Value) 0 hR3 (by simp [z9])
      have eY : ovL z9 0 ([.int .i64 2, .string c.who, .string ⟨#[]⟩, .string ⟨#[]⟩, .string lx.name, .string lx.who, .slice a1 lx.says.length k1, .slice a2 lx.uses.length k2, .slice a3 lx.proof.length k3] : List Value) = [.int .i64 2, .string c.who, .string ⟨#[]⟩, .string ⟨#[]⟩, .string lx.name, .string lx.who, .slice a1 lx.says.length k1, .slice a2 lx.uses.length k2, .slice a3 lx.proof.length k3] := rfl
      rw [eY] at hY
      have hbY : Below w.heap.size w (W3.setCells V.heap.size 0 ([.int .i64 2, .string c.who, .string ⟨#[]⟩, .string ⟨#[]⟩, .string lx.name, .string lx.who, .slice a1 lx.says.length k1, .slice a2 lx.uses.length k2, .slice a3 lx.proof.length k3] : List Value)) := (below_sets HB3.out HVZ.out _ _)
      have hgY : ∀ q, q ≠ V.heap.size → (W3.setCells V.heap.size 0 ([.int .i64 2, .string c.who, .string ⟨#[]⟩, .string ⟨#[]⟩, .string lx.name, .string lx.who, .slice a1 lx.says.length k1, .slice a2 lx.uses.length k2, .slice a3 lx.proof.length k3] : List Value)).heap[q]? = W3.heap[q]? := fun q hq => heap_sets _ _ _ _ hq
      have hyX : (((((((((W3).setCell ⟨V.heap.size, 0, none⟩ (.int .i64 2)).setCell ⟨V.heap.size, 1, none⟩ (.string c.who)).setCell ⟨V.heap.size, 2, none⟩ (.string ⟨#[]⟩)).setCell ⟨V.heap.size, 3, none⟩ (.string ⟨#[]⟩)).setCell ⟨V.heap.size, 4, none⟩ (.string lx.name)).setCell ⟨V.heap.size, 5, none⟩ (.string lx.who)).setCell ⟨V.heap.size, 6, none⟩ (.slice a1 lx.says.length k1)).setCell ⟨V.heap.size, 7, none⟩ (.slice a2 lx.uses.length k2)).setCell ⟨V.heap.size, 8, none⟩ (.slice a3 lx.proof.length k3) = W3.setCells V.heap.size 0 ([.int .i64 2, .string c.who, .string ⟨#[]⟩, .string ⟨#[]⟩, .string lx.name, .string lx.who, .slice a1 lx.says.length k1, .slice a2 lx.uses.length k2, .slice a3 lx.proof.length k3] : List Value) := rfl
      obtain ⟨Y, hYe⟩ : ∃ Y, (((((((((W3).setCell ⟨V.heap.size, 0, none⟩ (.int .i64 2)).setCell ⟨V.heap.size, 1, none⟩ (.string c.who)).setCell ⟨V.heap.size, 2, none⟩ (.string ⟨#[]⟩)).setCell ⟨V.heap.size, 3, none⟩ (.string ⟨#[]⟩)).setCell ⟨V.heap.size, 4, none⟩ (.string lx.name)).setCell ⟨V.heap.size, 5, none⟩ (.string lx.who)).setCell ⟨V.heap.size, 6, none⟩ (.slice a1 lx.says.length k1)).setCell ⟨V.heap.size, 7, none⟩ (.slice a2 lx.uses.length k2)).setCell ⟨V.heap.size, 8, none⟩ (.slice a3 lx.proof.length k3) = Y := ⟨_, rfl⟩
      rw [← hyX, hYe] at hY hbY hgY
      have HY := hid hYe
      have HBY := hid hbY
      have HGY := hid hgY
      have g0 := hY.c 0 (by simp)
      have g1 := hY.c 1 (by simp)
      have g2 := hY.c 2 (by simp)
      have g3 := hY.c 3 (by simp)
      have g4 := hY.c 4 (by simp)
      have g5 := hY.c 5 (by simp)
      have g6 := hY.c 6 (by simp)
      have g7 := hY.c 7 (by simp)
      have g8 := hY.c 8 (by simp)
      simp only [List.getElem_cons_zero, List.getElem_cons_succ] at g0 g1 g2 g3 g4 g5 g6 g7 g8
      have HG := hid (And.intro g0 (And.intro g1 (And.intro g2 (And.intro g3 (And.intro g4 (And.intro g5 (And.intro g6 (And.intro g7 g8))))))))
      clear hY eY hbY hgY hyX hYe g0 g1 g2 g3 g4 g5 g6 g7 g8
      go_wp2_with (first | rw [HW3.out] | rw [HY.out])
      obtain ⟨g0, g1, g2, g3, g4, g5, g6, g7, g8⟩ := HG.out
      (try simp only [Exit.inBlock, Exit.then])
      refine bodyPost_ret (v := .tuple #[.agg #[.int .i64 2, .string c.who, .string ⟨#[]⟩, .string ⟨#[]⟩, .string lx.name, .string lx.who, .slice a1 lx.says.length k1, .slice a2 lx.uses.length k2, .slice a3 lx.proof.length k3], .int .i64 (0)]) ?_ rfl (UnQ.mk ⟨2, c.who, em, em, lx⟩ (0) _ _ _ (by rw [HR.out, HUC.out]) rfl (HEO.out.blocks (W' := Y) HB2.out.size fun q h1 h2 => (HGY.out q (by have := HVR.out; have := HBS2.out; have := HBS0.out; omega)).trans (HH3.out q (by have := HBS2.out; have := HBS0.out; have := HYZ.out; omega))) HBY.out)
      simp only [results, Tryz.results30]
      go_simp
    by_cases hk3 : c.kind = 3
    · rw [hk3, if_neg (by omega)] at HRR
      have HR : Hid (undoL s l c = (undoC l c, 0)) := hid HRR
      have HUC : Hid (undoC l c = ⟨3, c.who, c.new, c.name, en0⟩) := hid (by unfold undoC; rw [if_neg (by omega), if_neg (by omega), if_pos hk3])
      have q1 : (c.kind == 3) = true := by simpa using hk3
      have q2 : (c.kind == 1) = false := by simpa using hk1
      have q3 : (c.kind == 2) = false := by simpa using hk2
      clear hk3 hKinds HRR hk1 hk2
      go_wp2_with (rw [HY0.out])
      have o0 : (Y0).cell? ⟨w1.heap.size, 0, none⟩ = some (.int .i64 0) := HO0.out.c 0 (by simp)
      have o1 : (Y0).cell? ⟨w1.heap.size, 1, none⟩ = some (.string c.who) := HO0.out.c 1 (by simp)
      have o2 : (Y0).cell? ⟨w1.heap.size, 2, none⟩ = some (.string ⟨#[]⟩) := HO0.out.c 2 (by simp)
      have o3 : (Y0).cell? ⟨w1.heap.size, 3, none⟩ = some (.string ⟨#[]⟩) := HO0.out.c 3 (by simp)
      have o4 : (Y0).cell? ⟨w1.heap.size, 4, none⟩ = some (.string ⟨#[]⟩) := HO0.out.c 4 (by simp)
      have o5 : (Y0).cell? ⟨w1.heap.size, 5, none⟩ = some (.string ⟨#[]⟩) := HO0.out.c 5 (by simp)
      have o6 : (Y0).cell? ⟨w1.heap.size, 6, none⟩ = some (.slice none 0 0) := HO0.out.c 6 (by simp)
      have o7 : (Y0).cell? ⟨w1.heap.size, 7, none⟩ = some (.slice none 0 0) := HO0.out.c 7 (by simp)
      have o8 : (Y0).cell? ⟨w1.heap.size, 8, none⟩ = some (.slice none 0 0) := HO0.out.c 8 (by simp)
      have oz0 := HO0.out.z 0
      have oz1 := HO0.out.z 1
      have oz2 := HO0.out.z 2
      have oz3 := HO0.out.z 3
      have oz4 := HO0.out.z 4
      have oz5 := HO0.out.z 5
      have oz6 := HO0.out.z 6
      have oz7 := HO0.out.z 7
      have oz8 := HO0.out.z 8
      have hwO : w.heap.size ≠ w1.heap.size := Nat.ne_of_lt (show w.heap.size < w1.heap.size from World.block_lt_of_cell? _ _ d0)
      have r2 : ∀ (X : World) (k : Nat) (v : Value), (X.setCell ⟨w1.heap.size, k, none⟩ v).cell? ⟨w.heap.size, 2, none⟩ = X.cell? ⟨w.heap.size, 2, none⟩ := fun X k v => World.cell?_of_block (Below.heap_setCell _ _ _ _ hwO)
      have r3 : ∀ (X : World) (k : Nat) (v : Value), (X.setCell ⟨w1.heap.size, k, none⟩ v).cell? ⟨w.heap.size, 3, none⟩ = X.cell? ⟨w.heap.size, 3, none⟩ := fun X k v => World.cell?_of_block (Below.heap_setCell _ _ _ _ hwO)
      clear hwO
      go_region
      clear r2 r3
      have hVw : V.heap.size ≠ w1.heap.size := by have := HVR.out; omega
      have hww : w.heap.size ≤ w1.heap.size := HB1.out.size
      obtain ⟨W3, hW3⟩ : ∃ W3, ((((Y0).setCell ⟨w1.heap.size, 0, none⟩ (.int .i64 3)).setCell ⟨w1.heap.size, 2, none⟩ (.string c.new)).setCell ⟨w1.heap.size, 3, none⟩ (.string c.name)).drew = W3 := ⟨_, rfl⟩
      have hO3 : BX W3 w1.heap.size [.int .i64 3, .string c.who, .string c.new, .string c.name, .string ⟨#[]⟩, .string ⟨#[]⟩, .slice none 0 0, .slice none 0 0, .slice none 0 0] := by rw [← hW3]; exact BX.drew ((((HO0.out.set (k := 0) (by simp) (.int .i64 3)).set (k := 2) (by simp) (.string c.new)).set (k := 3) (by simp) (.string c.name)))
      have hR3 : BX W3 V.heap.size z9 := by
        rw [← hW3]
        refine BX.drew ?_
        exact (((HRY.out.block (Below.heap_setCell _ _ _ _ hVw)).block (Below.heap_setCell _ _ _ _ hVw)).block (Below.heap_setCell _ _ _ _ hVw))
      have hb3 : Below w.heap.size w W3 := by rw [← hW3]; exact (((HBWY.out.setCell (p := ⟨w1.heap.size, 0, none⟩) hww (.int .i64 3)).setCell (p := ⟨w1.heap.size, 2, none⟩) hww (.string c.new)).setCell (p := ⟨w1.heap.size, 3, none⟩) hww (.string c.name)).drew
      have HW3 := hid hW3
      have HB3 := hid hb3
      have o0 : W3.cell? ⟨w1.heap.size, 0, none⟩ = some (.int .i64 3) := hO3.c 0 (by simp)
      have o1 : W3.cell? ⟨w1.heap.size, 1, none⟩ = some (.string c.who) := hO3.c 1 (by simp)
      have o2 : W3.cell? ⟨w1.heap.size, 2, none⟩ = some (.string c.new) := hO3.c 2 (by simp)
      have o3 : W3.cell? ⟨w1.heap.size, 3, none⟩ = some (.string c.name) := hO3.c 3 (by simp)
      have o4 : W3.cell? ⟨w1.heap.size, 4, none⟩ = some (.string ⟨#[]⟩) := hO3.c 4 (by simp)
      have o5 : W3.cell? ⟨w1.heap.size, 5, none⟩ = some (.string ⟨#[]⟩) := hO3.c 5 (by simp)
      have o6 : W3.cell? ⟨w1.heap.size, 6, none⟩ = some (.slice none 0 0) := hO3.c 6 (by simp)
      have o7 : W3.cell? ⟨w1.heap.size, 7, none⟩ = some (.slice none 0 0) := hO3.c 7 (by simp)
      have o8 : W3.cell? ⟨w1.heap.size, 8, none⟩ = some (.slice none 0 0) := hO3.c 8 (by simp)
      have q0 : W3.cell? ⟨V.heap.size, 0, none⟩ = some (.int .i64 0) := hR3.c 0 (by decide)
      have q1 : W3.cell? ⟨V.heap.size, 1, none⟩ = some (.string ⟨#[]⟩) := hR3.c 1 (by decide)
      have q2 : W3.cell? ⟨V.heap.size, 2, none⟩ = some (.string ⟨#[]⟩) := hR3.c 2 (by decide)
      have q3 : W3.cell? ⟨V.heap.size, 3, none⟩ = some (.string ⟨#[]⟩) := hR3.c 3 (by decide)
      have q4 : W3.cell? ⟨V.heap.size, 4, none⟩ = some (.string ⟨#[]⟩) := hR3.c 4 (by decide)
      have q5 : W3.cell? ⟨V.heap.size, 5, none⟩ = some (.string ⟨#[]⟩) := hR3.c 5 (by decide)
      have q6 : W3.cell? ⟨V.heap.size, 6, none⟩ = some (.slice none 0 0) := hR3.c 6 (by decide)
      have q7 : W3.cell? ⟨V.heap.size, 7, none⟩ = some (.slice none 0 0) := hR3.c 7 (by decide)
      have q8 : W3.cell? ⟨V.heap.size, 8, none⟩ = some (.slice none 0 0) := hR3.c 8 (by decide)
      have z0 := hR3.z 0
      have z1 := hR3.z 1
      have z2 := hR3.z 2
      have z3 := hR3.z 3
      have z4 := hR3.z 4
      have z5 := hR3.z 5
      have z6 := hR3.z 6
      have z7 := hR3.z 7
      have z8 := hR3.z 8
      clear hW3 hO3 hVw hww hb3
      have hY := BX.sets ([.int .i64 3, .string c.who, .string c.new, .string c.name, .string ⟨#[]⟩, .string ⟨#[]⟩, .slice none 0 0, .slice none 0 0, .slice none 0 0] : List Value) 0 hR3 (by simp [z9])
      have eY : ovL z9 0 ([.int .i64 3, .string c.who, .string c.new, .string c.name, .string ⟨#[]⟩, .string ⟨#[]⟩, .slice none 0 0, .slice none 0 0, .slice none 0 0] : List Value) = [.int .i64 3, .string c.who, .string c.new, .string c.name, .string ⟨#[]⟩, .string ⟨#[]⟩, .slice none 0 0, .slice none 0 0, .slice none 0 0] := rfl
      rw [eY] at hY
      have hbY : Below w.heap.size w (W3.setCells V.heap.size 0 ([.int .i64 3, .string c.who, .string c.new, .string c.name, .string ⟨#[]⟩, .string ⟨#[]⟩, .slice none 0 0, .slice none 0 0, .slice none 0 0] : List Value)) := (below_sets HB3.out HVZ.out _ _)
      have hgY : ∀ q, q ≠ V.heap.size → (W3.setCells V.heap.size 0 ([.int .i64 3, .string c.who, .string c.new, .string c.name, .string ⟨#[]⟩, .string ⟨#[]⟩, .slice none 0 0, .slice none 0 0, .slice none 0 0] : List Value)).heap[q]? = W3.heap[q]? := fun q hq => heap_sets _ _ _ _ hq
      have hyX : (((((((((W3).setCell ⟨V.heap.size, 0, none⟩ (.int .i64 3)).setCell ⟨V.heap.size, 1, none⟩ (.string c.who)).setCell ⟨V.heap.size, 2, none⟩ (.string c.new)).setCell ⟨V.heap.size, 3, none⟩ (.string c.name)).setCell ⟨V.heap.size, 4, none⟩ (.string ⟨#[]⟩)).setCell ⟨V.heap.size, 5, none⟩ (.string ⟨#[]⟩)).setCell ⟨V.heap.size, 6, none⟩ (.slice none 0 0)).setCell ⟨V.heap.size, 7, none⟩ (.slice none 0 0)).setCell ⟨V.heap.size, 8, none⟩ (.slice none 0 0) = W3.setCells V.heap.size 0 ([.int .i64 3, .string c.who, .string c.new, .string c.name, .string ⟨#[]⟩, .string ⟨#[]⟩, .slice none 0 0, .slice none 0 0, .slice none 0 0] : List Value) := rfl
      obtain ⟨Y, hYe⟩ : ∃ Y, (((((((((W3).setCell ⟨V.heap.size, 0, none⟩ (.int .i64 3)).setCell ⟨V.heap.size, 1, none⟩ (.string c.who)).setCell ⟨V.heap.size, 2, none⟩ (.string c.new)).setCell ⟨V.heap.size, 3, none⟩ (.string c.name)).setCell ⟨V.heap.size, 4, none⟩ (.string ⟨#[]⟩)).setCell ⟨V.heap.size, 5, none⟩ (.string ⟨#[]⟩)).setCell ⟨V.heap.size, 6, none⟩ (.slice none 0 0)).setCell ⟨V.heap.size, 7, none⟩ (.slice none 0 0)).setCell ⟨V.heap.size, 8, none⟩ (.slice none 0 0) = Y := ⟨_, rfl⟩
      rw [← hyX, hYe] at hY hbY hgY
      have HY := hid hYe
      have HBY := hid hbY
      have HGY := hid hgY
      have g0 := hY.c 0 (by simp)
      have g1 := hY.c 1 (by simp)
      have g2 := hY.c 2 (by simp)
      have g3 := hY.c 3 (by simp)
      have g4 := hY.c 4 (by simp)
      have g5 := hY.c 5 (by simp)
      have g6 := hY.c 6 (by simp)
      have g7 := hY.c 7 (by simp)
      have g8 := hY.c 8 (by simp)
      simp only [List.getElem_cons_zero, List.getElem_cons_succ] at g0 g1 g2 g3 g4 g5 g6 g7 g8
      have HG := hid (And.intro g0 (And.intro g1 (And.intro g2 (And.intro g3 (And.intro g4 (And.intro g5 (And.intro g6 (And.intro g7 g8))))))))
      clear hY eY hbY hgY hyX hYe g0 g1 g2 g3 g4 g5 g6 g7 g8
      rw [HW3.out]
      go_wp2_with (rw [HY.out])
      obtain ⟨g0, g1, g2, g3, g4, g5, g6, g7, g8⟩ := HG.out
      (try simp only [Exit.inBlock, Exit.then])
      refine bodyPost_ret (v := .tuple #[.agg #[.int .i64 3, .string c.who, .string c.new, .string c.name, .string ⟨#[]⟩, .string ⟨#[]⟩, .slice none 0 0, .slice none 0 0, .slice none 0 0], .int .i64 (0)]) ?_ rfl (UnQ.mk ⟨3, c.who, c.new, c.name, en0⟩ (0) _ _ _ (by rw [HR.out, HUC.out]) rfl (EntO.zero _ _) HBY.out)
      simp only [results, Tryz.results30]
      go_simp
    by_cases hk4 : c.kind = 4
    · rw [hk4, if_neg (by omega)] at HRR
      have HR : Hid (undoL s l c = (undoC l c, 0)) := hid HRR
      obtain ⟨i, hi⟩ : ∃ i, idxN l c.name = some i := by
        cases hx : idxN l c.name with
        | some i => exact ⟨i, rfl⟩
        | none =>
          have hno := idxN_none hx
          cases HOK.out with
          | add h => omega
          | set h h1 h2 => omega
          | ren h => omega
          | drop h h1 h2 => (obtain ⟨x, hx, e⟩ := h1; exact (hno x hx e).elim)
      obtain ⟨hil, hin⟩ := idxN_some hi
      have HUC : Hid (undoC l c = ⟨1, c.who, em, em, l[i]⟩) := hid (by
        have ha : atN l c.name = l[i] := by rw [← hin]; exact atN_of HAS.out (List.getElem_mem hil)
        unfold undoC; rw [if_neg (by omega), if_neg (by omega), if_neg (by omega)]
        rw [ha])
      have HFI := hid ((ref6_Index (.slice la l.length lc) l c.name Y0 (HL.out.below HBWY.out)).mono fun e w2 h => (show e = .returned (.int .i64 (idxI l c.name)) ∧ Below Y0.heap.size Y0 w2 from ⟨h.1, h.2 ▸ Below.refl _ _⟩))
      rw [idxI_some hi] at HFI
      have b0 : (0 : Int) ≤ (i : Int) := by omega
      have b1 : (i : Int) < (l.length : Int) := by omega
      have q1 : (c.kind == 4) = true := by simpa using hk4
      have q2 : (c.kind == 1) = false := by simpa using hk1
      have q3 : (c.kind == 2) = false := by simpa using hk2
      have q4 : (c.kind == 3) = false := by simpa using hk3
      have hsm := ent_sm (entryB_iff.2 (HLB.out.ents _ (List.getElem_mem hil)))
      clear hi hk4 hKinds HRR
      go_wp2_with (rw [HY0.out])
      refine HFI.out.mono ?_
      rintro e w2 ⟨rfl, hb2⟩
      have hbw2 := HBWY.out.trans (hb2.mono HBWY.out.size)
      obtain ⟨a', cap', e', -, -, -, ZC⟩ := (HL.out.below hbw2).open
      cases e'
      obtain ⟨gb, gp, xS, xU, xP, rfl, x0, x1, x2, x3, x4, he⟩ := ZC i hil
      have HCP := hid (ref9_copied _ _ _ l[i] w2 he hsm.2.1 hsm.2.2.1 hsm.2.2.2)
      have HB2 := hid hbw2
      have HBb := hid hb2
      have HRZ := hid (HRY.out.below (by decide) hb2)
      have HOZ := hid (HO0.out.below (by simp) hb2)
      obtain ⟨lx, hlx⟩ : ∃ lx, l[i] = lx := ⟨_, rfl⟩
      rw [hlx] at x0 x1 HCP
      have HLX := hid hlx
      rw [hlx] at HUC
      clear hb2 hbw2 ZC he hlx e0 e1 e2 e3 e4 e5 e6 e7 e8
      go_wp2_with fail
      refine HCP.out.mono ?_
      rintro e w4 ⟨v, rfl, ⟨yS, yU, yP, rfl, hO⟩, hb4⟩
      obtain ⟨a1, k1, rfl⟩ := owns_slice hO.s
      obtain ⟨a2, k2, rfl⟩ := owns_slice hO.u
      obtain ⟨a3, k3, rfl⟩ := owns_slice hO.p
      have hR4 := HRZ.out.below (by decide) hb4
      have hO4 := HOZ.out.below (by simp) hb4
      have HB4 := hid (HB2.out.trans (hb4.mono HB2.out.size))
      have HR4 := hid hR4
      have HO4 := hid hO4
      have HEO := hid hO
      have HBS2 := hid HBb.out.size
      have HBS0 := hid HBY0.out.size
      clear x0 x1 x2 x3 x4 hR4 hb4 hO
      have o0 : (w4).cell? ⟨w1.heap.size, 0, none⟩ = some (.int .i64 0) := hO4.c 0 (by simp)
      have o1 : (w4).cell? ⟨w1.heap.size, 1, none⟩ = some (.string c.who) := hO4.c 1 (by simp)
      have o2 : (w4).cell? ⟨w1.heap.size, 2, none⟩ = some (.string ⟨#[]⟩) := hO4.c 2 (by simp)
      have o3 : (w4).cell? ⟨w1.heap.size, 3, none⟩ = some (.string ⟨#[]⟩) := hO4.c 3 (by simp)
      have o4 : (w4).cell? ⟨w1.heap.size, 4, none⟩ = some (.string ⟨#[]⟩) := hO4.c 4 (by simp)
      have o5 : (w4).cell? ⟨w1.heap.size, 5, none⟩ = some (.string ⟨#[]⟩) := hO4.c 5 (by simp)
      have o6 : (w4).cell? ⟨w1.heap.size, 6, none⟩ = some (.slice none 0 0) := hO4.c 6 (by simp)
      have o7 : (w4).cell? ⟨w1.heap.size, 7, none⟩ = some (.slice none 0 0) := hO4.c 7 (by simp)
      have o8 : (w4).cell? ⟨w1.heap.size, 8, none⟩ = some (.slice none 0 0) := hO4.c 8 (by simp)
      have oz0 := hO4.z 0
      have oz1 := hO4.z 1
      have oz2 := hO4.z 2
      have oz3 := hO4.z 3
      have oz4 := hO4.z 4
      have oz5 := hO4.z 5
      have oz6 := hO4.z 6
      have oz7 := hO4.z 7
      have oz8 := hO4.z 8
      clear hO4
      have hVw : V.heap.size ≠ w1.heap.size := by have := HVR.out; omega
      have hww : w.heap.size ≤ w1.heap.size := HB1.out.size
      obtain ⟨W3, hW3⟩ : ∃ W3, ((((((w4).setCell ⟨w1.heap.size, 0, none⟩ (.int .i64 1)).setCell ⟨w1.heap.size, 4, none⟩ (.string lx.name)).setCell ⟨w1.heap.size, 5, none⟩ (.string lx.who)).setCell ⟨w1.heap.size, 6, none⟩ (.slice a1 lx.says.length k1)).setCell ⟨w1.heap.size, 7, none⟩ (.slice a2 lx.uses.length k2)).setCell ⟨w1.heap.size, 8, none⟩ (.slice a3 lx.proof.length k3) = W3 := ⟨_, rfl⟩
      have hO3 : BX W3 w1.heap.size [.int .i64 1, .string c.who, .string ⟨#[]⟩, .string ⟨#[]⟩, .string lx.name, .string lx.who, .slice a1 lx.says.length k1, .slice a2 lx.uses.length k2, .slice a3 lx.proof.length k3] := by rw [← hW3]; exact (((((((HO4.out.set (k := 0) (by simp) (.int .i64 1)).set (k := 4) (by simp) (.string lx.name)).set (k := 5) (by simp) (.string lx.who)).set (k := 6) (by simp) (.slice a1 lx.says.length k1)).set (k := 7) (by simp) (.slice a2 lx.uses.length k2)).set (k := 8) (by simp) (.slice a3 lx.proof.length k3)))
      have hR3 : BX W3 V.heap.size z9 := by
        rw [← hW3]
        exact ((((((HR4.out.block (Below.heap_setCell _ _ _ _ hVw)).block (Below.heap_setCell _ _ _ _ hVw)).block (Below.heap_setCell _ _ _ _ hVw)).block (Below.heap_setCell _ _ _ _ hVw)).block (Below.heap_setCell _ _ _ _ hVw)).block (Below.heap_setCell _ _ _ _ hVw))
      have hb3 : Below w.heap.size w W3 := by rw [← hW3]; exact ((((((HB4.out.setCell (p := ⟨w1.heap.size, 0, none⟩) hww (.int .i64 1)).setCell (p := ⟨w1.heap.size, 4, none⟩) hww (.string lx.name)).setCell (p := ⟨w1.heap.size, 5, none⟩) hww (.string lx.who)).setCell (p := ⟨w1.heap.size, 6, none⟩) hww (.slice a1 lx.says.length k1)).setCell (p := ⟨w1.heap.size, 7, none⟩) hww (.slice a2 lx.uses.length k2)).setCell (p := ⟨w1.heap.size, 8, none⟩) hww (.slice a3 lx.proof.length k3))
      have HH3 : Hid (∀ q, q ≠ w1.heap.size → W3.heap[q]? = w4.heap[q]?) := hid (fun q hq => by rw [← hW3]; rw [Below.heap_setCell _ _ _ _ hq, Below.heap_setCell _ _ _ _ hq, Below.heap_setCell _ _ _ _ hq, Below.heap_setCell _ _ _ _ hq, Below.heap_setCell _ _ _ _ hq, Below.heap_setCell _ _ _ _ hq])
      have HYZ : Hid (w1.heap.size < Y0.heap.size) := hid (HO0.out.lt (by simp))
      have HW3 := hid hW3
      have HB3 := hid hb3
      have o0 : W3.cell? ⟨w1.heap.size, 0, none⟩ = some (.int .i64 1) := hO3.c 0 (by simp)
      have o1 : W3.cell? ⟨w1.heap.size, 1, none⟩ = some (.string c.who) := hO3.c 1 (by simp)
      have o2 : W3.cell? ⟨w1.heap.size, 2, none⟩ = some (.string ⟨#[]⟩) := hO3.c 2 (by simp)
      have o3 : W3.cell? ⟨w1.heap.size, 3, none⟩ = some (.string ⟨#[]⟩) := hO3.c 3 (by simp)
      have o4 : W3.cell? ⟨w1.heap.size, 4, none⟩ = some (.string lx.name) := hO3.c 4 (by simp)
      have o5 : W3.cell? ⟨w1.heap.size, 5, none⟩ = some (.string lx.who) := hO3.c 5 (by simp)
      have o6 : W3.cell? ⟨w1.heap.size, 6, none⟩ = some (.slice a1 lx.says.length k1) := hO3.c 6 (by simp)
      have o7 : W3.cell? ⟨w1.heap.size, 7, none⟩ = some (.slice a2 lx.uses.length k2) := hO3.c 7 (by simp)
      have o8 : W3.cell? ⟨w1.heap.size, 8, none⟩ = some (.slice a3 lx.proof.length k3) := hO3.c 8 (by simp)
      have q0 : W3.cell? ⟨V.heap.size, 0, none⟩ = some (.int .i64 0) := hR3.c 0 (by decide)
      have q1 : W3.cell? ⟨V.heap.size, 1, none⟩ = some (.string ⟨#[]⟩) := hR3.c 1 (by decide)
      have q2 : W3.cell? ⟨V.heap.size, 2, none⟩ = some (.string ⟨#[]⟩) := hR3.c 2 (by decide)
      have q3 : W3.cell? ⟨V.heap.size, 3, none⟩ = some (.string ⟨#[]⟩) := hR3.c 3 (by decide)
      have q4 : W3.cell? ⟨V.heap.size, 4, none⟩ = some (.string ⟨#[]⟩) := hR3.c 4 (by decide)
      have q5 : W3.cell? ⟨V.heap.size, 5, none⟩ = some (.string ⟨#[]⟩) := hR3.c 5 (by decide)
      have q6 : W3.cell? ⟨V.heap.size, 6, none⟩ = some (.slice none 0 0) := hR3.c 6 (by decide)
      have q7 : W3.cell? ⟨V.heap.size, 7, none⟩ = some (.slice none 0 0) := hR3.c 7 (by decide)
      have q8 : W3.cell? ⟨V.heap.size, 8, none⟩ = some (.slice none 0 0) := hR3.c 8 (by decide)
      have z0 := hR3.z 0
      have z1 := hR3.z 1
      have z2 := hR3.z 2
      have z3 := hR3.z 3
      have z4 := hR3.z 4
      have z5 := hR3.z 5
      have z6 := hR3.z 6
      have z7 := hR3.z 7
      have z8 := hR3.z 8
      clear hW3 hO3 hVw hww hb3
      have hY := BX.sets ([.int .i64 1, .string c.who, .string ⟨#[]⟩, .string ⟨#[]⟩, .string lx.name, .string lx.who, .slice a1 lx.says.length k1, .slice a2 lx.uses.length k2, .slice a3 lx.proof.length k3] : List Value) 0 hR3 (by simp [z9])
      have eY : ovL z9 0 ([.int .i64 1, .string c.who, .string ⟨#[]⟩, .string ⟨#[]⟩, .string lx.name, .string lx.who, .slice a1 lx.says.length k1, .slice a2 lx.uses.length k2, .slice a3 lx.proof.length k3] : List Value) = [.int .i64 1, .string c.who, .string ⟨#[]⟩, .string ⟨#[]⟩, .string lx.name, .string lx.who, .slice a1 lx.says.length k1, .slice a2 lx.uses.length k2, .slice a3 lx.proof.length k3] := rfl
      rw [eY] at hY
      have hbY : Below w.heap.size w (W3.setCells V.heap.size 0 ([.int .i64 1, .string c.who, .string ⟨#[]⟩, .string ⟨#[]⟩, .string lx.name, .string lx.who, .slice a1 lx.says.length k1, .slice a2 lx.uses.length k2, .slice a3 lx.proof.length k3] : List Value)) := (below_sets HB3.out HVZ.out _ _)
      have hgY : ∀ q, q ≠ V.heap.size → (W3.setCells V.heap.size 0 ([.int .i64 1, .string c.who, .string ⟨#[]⟩, .string ⟨#[]⟩, .string lx.name, .string lx.who, .slice a1 lx.says.length k1, .slice a2 lx.uses.length k2, .slice a3 lx.proof.length k3] : List Value)).heap[q]? = W3.heap[q]? := fun q hq => heap_sets _ _ _ _ hq
      have hyX : (((((((((W3).setCell ⟨V.heap.size, 0, none⟩ (.int .i64 1)).setCell ⟨V.heap.size, 1, none⟩ (.string c.who)).setCell ⟨V.heap.size, 2, none⟩ (.string ⟨#[]⟩)).setCell ⟨V.heap.size, 3, none⟩ (.string ⟨#[]⟩)).setCell ⟨V.heap.size, 4, none⟩ (.string lx.name)).setCell ⟨V.heap.size, 5, none⟩ (.string lx.who)).setCell ⟨V.heap.size, 6, none⟩ (.slice a1 lx.says.length k1)).setCell ⟨V.heap.size, 7, none⟩ (.slice a2 lx.uses.length k2)).setCell ⟨V.heap.size, 8, none⟩ (.slice a3 lx.proof.length k3) = W3.setCells V.heap.size 0 ([.int .i64 1, .string c.who, .string ⟨#[]⟩, .string ⟨#[]⟩, .string lx.name, .string lx.who, .slice a1 lx.says.length k1, .slice a2 lx.uses.length k2, .slice a3 lx.proof.length k3] : List Value) := rfl
      obtain ⟨Y, hYe⟩ : ∃ Y, (((((((((W3).setCell ⟨V.heap.size, 0, none⟩ (.int .i64 1)).setCell ⟨V.heap.size, 1, none⟩ (.string c.who)).setCell ⟨V.heap.size, 2, none⟩ (.string ⟨#[]⟩)).setCell ⟨V.heap.size, 3, none⟩ (.string ⟨#[]⟩)).setCell ⟨V.heap.size, 4, none⟩ (.string lx.name)).setCell ⟨V.heap.size, 5, none⟩ (.string lx.who)).setCell ⟨V.heap.size, 6, none⟩ (.slice a1 lx.says.length k1)).setCell ⟨V.heap.size, 7, none⟩ (.slice a2 lx.uses.length k2)).setCell ⟨V.heap.size, 8, none⟩ (.slice a3 lx.proof.length k3) = Y := ⟨_, rfl⟩
      rw [← hyX, hYe] at hY hbY hgY
      have HY := hid hYe
      have HBY := hid hbY
      have HGY := hid hgY
      have g0 := hY.c 0 (by simp)
      have g1 := hY.c 1 (by simp)
      have g2 := hY.c 2 (by simp)
      have g3 := hY.c 3 (by simp)
      have g4 := hY.c 4 (by simp)
      have g5 := hY.c 5 (by simp)
      have g6 := hY.c 6 (by simp)
      have g7 := hY.c 7 (by simp)
      have g8 := hY.c 8 (by simp)
      simp only [List.getElem_cons_zero, List.getElem_cons_succ] at g0 g1 g2 g3 g4 g5 g6 g7 g8
      have HG := hid (And.intro g0 (And.intro g1 (And.intro g2 (And.intro g3 (And.intro g4 (And.intro g5 (And.intro g6 (And.intro g7 g8))))))))
      clear hY eY hbY hgY hyX hYe g0 g1 g2 g3 g4 g5 g6 g7 g8
      go_wp2_with (first | rw [HW3.out] | rw [HY.out])
      obtain ⟨g0, g1, g2, g3, g4, g5, g6, g7, g8⟩ := HG.out
      (try simp only [Exit.inBlock, Exit.then])
      refine bodyPost_ret (v := .tuple #[.agg #[.int .i64 1, .string c.who, .string ⟨#[]⟩, .string ⟨#[]⟩, .string lx.name, .string lx.who, .slice a1 lx.says.length k1, .slice a2 lx.uses.length k2, .slice a3 lx.proof.length k3], .int .i64 (0)]) ?_ rfl (UnQ.mk ⟨1, c.who, em, em, lx⟩ (0) _ _ _ (by rw [HR.out, HUC.out]) rfl (HEO.out.blocks (W' := Y) HB2.out.size fun q h1 h2 => (HGY.out q (by have := HVR.out; have := HBS2.out; have := HBS0.out; omega)).trans (HH3.out q (by have := HBS2.out; have := HBS0.out; have := HYZ.out; omega))) HBY.out)
      simp only [results, Tryz.results30]
      go_simp
    omega
end Go.Proofs.YtlbjbmpkaniojaaGreat
