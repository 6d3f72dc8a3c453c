/-
  WHAT IT HOLDS: the contract of Added of package carry. Conditions: the arguments read as data; small signs, small libraries.
  WHAT IT HOLDS: contracts of fits, carried of package carry. Conditions: the arguments read as data; small signs, small libraries; the dictionary and the library are valid.
  WHAT IT HOLDS: contracts of the closure of Carried and of Carried of package carry. Conditions: the arguments read as data; small signs, small libraries; the dictionary and the library are valid.
  WHAT IT HOLDS: a growing row of terms, each in memory of its own; contracts of Args and Alike of the reference of layer 1. Conditions: the arguments read as data.
  WHAT IT HOLDS: the plain law of statements that go along: one answer alone; what goes along is proved by the moved entry. No program in sight.
  WHAT IT HOLDS: contracts of Givens of the reference of layer 6, of ValidGivens, right, run and Says of the reference of layer 4. Conditions: the arguments read as data.
  WHAT IT HOLDS: contracts of halves, implies and alike of the reference of layer 8. Conditions: the arguments read as data.
  WHAT IT HOLDS: contracts of Says of the reference of layer 4, of S and K of the reference of layer 8, of isS, isK and saying of package carry. Conditions: the arguments read as data; small signs, small libraries.
  WHAT IT HOLDS: contracts of S of the reference of layer 8, of saying of package carry. Conditions: the arguments read as data; small signs, small libraries.
-/
import Derived.Deep.RegionHeld3
import Derived.Test.YtalodmochkodiaaGreatZRTopCarried40
import Derived.Test.YtalodmochkodiaaGreatZRTopCarried29
import Derived.Test.YtalodmochkodiaaGreatZRTopCarried37
import Derived.Test.YtalodmochkodiaaGreatZRTopCarried35
import Derived.Test.YtalodmochkodiaaGreatZRTopCarried28
import Derived.Test.YtalodmochkodiaaGreatZRTopCarried33
import Derived.Test.YtalodmochkodiaaGreatZRTopCarried36
import Derived.Test.YtalodmochkodiaaGreatZRTopCarried34
namespace Go.Proofs.YtalodmochkodiaaGreat
open Go Go.RowKit Go.Maps
theorem EB.block {w w' : World} {b : Nat} {x : En} {vS vU vP : Value} (h : EB w b x vS vU vP) (hb : w'.heap[b]? = w.heap[b]?) : EB w' b x vS vU vP :=
  ⟨(World.cell?_of_block hb).trans h.c0, (World.cell?_of_block hb).trans h.c1, (World.cell?_of_block hb).trans h.c2, (World.cell?_of_block hb).trans h.c3, (World.cell?_of_block hb).trans h.c4⟩
theorem ent_sm {s : Sg} {x : En} (h : entryB s x = true) : EnSm x := by
  have h1 := entryB_iff.1 h
  have h2 := h1.len
  have h3 := (termB_T h1.says).ne
  have h4 := (termB_facts h1.says).2.2.2
  refine ⟨h3, by omega, by omega, ?_⟩
  by_cases h0 : x.proof.length = 0
  · omega
  · have := proof60 (h1.proof h0); omega
end Go.Proofs.YtalodmochkodiaaGreat
namespace Go.Proofs.YtalodmochkodiaaGreat
open Go Go.RowKit Go.Maps
theorem dic_signs {a b : Sg} {d : Dic} (h : dicB a b d = true) : signB a = true ∧ signB b = true := ⟨(dicB_ok h).sa, (dicB_ok h).sb⟩
theorem carry_fits (va vb vd vl : Value) (a b : Sg) (d : Dic) (l : List En) (w : World) (ha : SignAt w va a) (hb : SignAt w vb b) (hd : BindsAt w vd d) (hl : EntsAt w vl l) (ha1 : a.length ≤ 1000) (hb1 : b.length ≤ 1000) (hl1 : l.length ≤ 1000) :
    Calls Tryz.prog 145 #[va, vb, vd, vl] w fun e w' => e = .returned (.bool (dicB a b d && libB a l)) ∧ Below w.heap.size w w' := by
  have HVA := hid (fun (X : World) (hX : Below w.heap.size w X) => chainW hX (term_ValidSign va a X (ha.below hX) ha1))
  have HVB := hid (fun (X : World) (hX : Below w.heap.size w X) => chainW hX (term_ValidSign vb b X (hb.below hX) hb1))
  have HVD := hid (fun (X : World) (hX : Below w.heap.size w X) => chainW hX (tongue_Valid va vb vd a b d X (ha.below hX) (hb.below hX) (hd.below hX) ha1 hb1))
  have HVL := hid (fun (X : World) (hX : Below w.heap.size w X) => chainW hX (deps_Valid va vl a l X (ha.below hX) (hl.below hX) ha1 hl1))
  have HS := hid (dic_signs (a := a) (b := b) (d := d))
  clear ha hb hd hl
  cases h1 : signB a
  · have HF := hid (show dicB a b d = false by rw [Bool.eq_false_iff]; intro h; rw [(HS.out h).1] at h1; cases h1)
    rw [HF.out]
    rw [h1] at HVA
    clear h1
    go_enter Tryz.func145, Tryz.ntmps145
    go_wp2_with fail
    refine (HVA.out _ (Below.refl _ _)).mono ?_
    rintro e w1 ⟨rfl, hb1⟩
    go_wp2
    go_ret
    exact ⟨ret_bool (by simp), hb1⟩
  rw [h1] at HVA
  cases h2 : signB b
  · have HF := hid (show dicB a b d = false by rw [Bool.eq_false_iff]; intro h; rw [(HS.out h).2] at h2; cases h2)
    rw [HF.out]
    rw [h2] at HVB
    clear h1 h2
    go_enter Tryz.func145, Tryz.ntmps145
    go_wp2_with fail
    refine (HVA.out _ (Below.refl _ _)).mono ?_
    rintro e w1 ⟨rfl, hb1⟩
    go_wp2_with fail
    refine (HVB.out _ hb1).mono ?_
    rintro e w2 ⟨rfl, hb2⟩
    go_wp2
    go_ret
    exact ⟨ret_bool (by simp), hb2⟩
  rw [h2] at HVB
  clear h1 h2
  cases h3 : dicB a b d
  · rw [h3] at HVD
    clear h3
    go_enter Tryz.func145, Tryz.ntmps145
    go_wp2_with fail
    refine (HVA.out _ (Below.refl _ _)).mono ?_
    rintro e w1 ⟨rfl, hb1⟩
    go_wp2_with fail
    refine (HVB.out _ hb1).mono ?_
    rintro e w2 ⟨rfl, hb2⟩
    go_wp2_with fail
    refine (HVD.out _ hb2).mono ?_
    rintro e w3 ⟨rfl, hb3⟩
    go_wp2
    go_ret
    exact ⟨ret_bool (by simp), hb3⟩
  · rw [h3] at HVD
    clear h3
    go_enter Tryz.func145, Tryz.ntmps145
    go_wp2_with fail
    refine (HVA.out _ (Below.refl _ _)).mono ?_
    rintro e w1 ⟨rfl, hb1⟩
    go_wp2_with fail
    refine (HVB.out _ hb1).mono ?_
    rintro e w2 ⟨rfl, hb2⟩
    go_wp2_with fail
    refine (HVD.out _ hb2).mono ?_
    rintro e w3 ⟨rfl, hb3⟩
    go_wp2_with fail
    refine (HVL.out _ hb3).mono ?_
    rintro e w4 ⟨rfl, hb4⟩
    go_wp2
    go_ret
    exact ⟨ret_bool (by simp), hb4⟩
theorem carD_ok {a b : Sg} {d : Dic} {t : List Int} (h1 : dicB a b d = true) (h2 : termB a t = true) : carD a b d t = (carL a d t, 0) := by unfold carD; rw [h1, h2]; rfl
theorem carry_carried (va vb vd vt : Value) (a b : Sg) (d : Dic) (t : List Int) (w : World) (ha : SignAt w va a) (hb : SignAt w vb b) (hd : BindsAt w vd d) (hT : Ints w vt t) (ha1 : a.length ≤ 1000) (hb1 : b.length ≤ 1000) (h1 : dicB a b d = true) (h2 : termB a t = true) :
    Calls Tryz.prog 147 #[va, vb, vd, vt] w fun e w' => ∃ u, e = .returned u ∧ w'.ownsRow w.heap.size 3 1 u (canonL (carL a d t)).length ((canonL (carL a d t)).map (Value.int .i64)) ∧ Below w.heap.size w w' := by
  have HC := hid (tongue_Carried va vb vd vt a b d t w ha hb hd hT ha1 hb1)
  rw [carD_ok h1 h2] at HC
  have hv := car_term (dicB_ok h1) h2
  have HL := hid (termB_facts hv).2.2.2
  have HN := hid (fun (X : World) (u : Value) (hX : Below w.heap.size w X) (hu : Ints X u (carL a d t)) => (term_Canonical vb u b (carL a d t) X (hb.below hX) hu hb1))
  have HV := hid hv
  clear ha hb hd hT h1 h2 hv
  go_enter Tryz.func147, Tryz.ntmps147
  go_wp2_with fail
  refine HC.out.mono ?_
  rintro e w1 ⟨u, rfl, hown, hb1⟩
  have HI := hid (Ints.of_owns hown (by have := HL.out; omega))
  have HB1 := hid hb1
  clear hown hb1
  go_wp2_with fail
  refine (HN.out _ _ HB1.out HI.out).mono ?_
  rintro e w2 ⟨hb2, ⟨hf, -⟩ | ⟨-, u2, rfl, hown⟩⟩
  · rw [HV.out] at hf; cases hf
  have HO := hid (owns_base hown HB1.out.size)
  have HB2 := hid (HB1.out.trans (hb2.mono HB1.out.size))
  clear hown hb2
  go_wp2
  go_ret
  exact ⟨_, rfl, HO.out, HB2.out⟩
end Go.Proofs.YtalodmochkodiaaGreat
namespace Go.Proofs.YtalodmochkodiaaGreat
open Go Go.RowKit Go.Maps
/-- a carried entry. -/
def carE (a : Sg) (d : Dic) (x : En) : En := ⟨x.name, x.who, canonL (carL a d x.says), x.uses, x.proof⟩
set_option maxHeartbeats 2000000 in
set_option maxRecDepth 100000 in
theorem carry_Carried1 (pa pb pd : Nat) (va vb vd : Value) (a b : Sg) (d : Dic) (y : En) (v : Value) (B : Nat) (w : World) (hB : B ≤ w.heap.size) (hO : EnO w B v y)
    (h1 : w.cell? ⟨pa, 0, none⟩ = some va) (h2 : w.cell? ⟨pb, 0, none⟩ = some vb) (h3 : w.cell? ⟨pd, 0, none⟩ = some vd)
    (ha : SignAt w va a) (hb : SignAt w vb b) (hd : BindsAt w vd d) (ha1 : a.length ≤ 1000) (hb1 : b.length ≤ 1000) (hok : dicB a b d = true) (ht : termB a y.says = true) :
    Calls Tryz.prog 146 #[v, .pointer (some ⟨pa, 0, none⟩), .pointer (some ⟨pb, 0, none⟩), .pointer (some ⟨pd, 0, none⟩)] w fun e w' => ∃ v', e = .returned v' ∧ EnO w' B v' (carE a d y) ∧ Below B w w' := by
  obtain ⟨vS, vU, vP, rfl, hO⟩ := hO
  obtain ⟨sa, sc, rfl⟩ := owns_slice hO.s
  obtain ⟨ua, uc, rfl⟩ := owns_slice hO.u
  obtain ⟨pa', pc, rfl⟩ := owns_slice hO.p
  have hC5 := C5.new w (.string y.name) (.string y.who) (.slice sa y.says.length sc) (.slice ua y.uses.length uc) (.slice pa' y.proof.length pc) 41
  have hbV : Below w.heap.size w (w.alloc (.cells #[.string y.name, .string y.who, .slice sa y.says.length sc, .slice ua y.uses.length uc, .slice pa' y.proof.length pc] 41)) := (Below.refl _ _).alloc (Nat.le_refl _) _
  obtain ⟨V, hV⟩ : ∃ V, w.alloc (.cells #[.string y.name, .string y.who, .slice sa y.says.length sc, .slice ua y.uses.length uc, .slice pa' y.proof.length pc] 41) = V := ⟨_, rfl⟩
  have hVz : V.heap.size = w.heap.size + 1 := by rw [← hV]; simp
  rw [hV] at hC5 hbV
  have hR5 := C5.new V (.string ⟨#[]⟩) (.string ⟨#[]⟩) (.slice none 0 0) (.slice none 0 0) (.slice none 0 0) 41
  have hbX : Below V.heap.size V (V.alloc (.cells #[.string ⟨#[]⟩, .string ⟨#[]⟩, .slice none 0 0, .slice none 0 0, .slice none 0 0] 41)) := (Below.refl _ _).alloc (Nat.le_refl _) _
  obtain ⟨X, hX⟩ : ∃ X, V.alloc (.cells #[.string ⟨#[]⟩, .string ⟨#[]⟩, .slice none 0 0, .slice none 0 0, .slice none 0 0] 41) = X := ⟨_, rfl⟩
  have hXz : X.heap.size = w.heap.size + 2 := by rw [← hX, World.size_alloc, hVz]
  rw [hX] at hR5 hbX
  rw [hVz] at hR5
  have C1 := hC5.below hbX
  have hbw := hbV.trans (hbX.mono hbV.size)
  have hXe : (w.alloc (.cells #[.string y.name, .string y.who, .slice sa y.says.length sc, .slice ua y.uses.length uc, .slice pa' y.proof.length pc] 41)).alloc (.cells #[.string ⟨#[]⟩, .string ⟨#[]⟩, .slice none 0 0, .slice none 0 0, .slice none 0 0] 41) = X := by rw [hV, hX]
  have HCAR := hid (carry_carried va vb vd _ a b d y.says X (ha.below hbw) (hb.below hbw) (hd.below hbw) (hO.ent.s.below hbw) ha1 hb1 hok ht)
  have HLN := hid (show (canonL (carL a d y.says)).length ≤ 60 by
    rw [canonL_len]
    exact (termB_facts (car_term (dicB_ok hok) ht)).2.2.2)
  have q1 : ((w.alloc (.cells #[.string y.name, .string y.who, .slice sa y.says.length sc, .slice ua y.uses.length uc, .slice pa' y.proof.length pc] 41)).alloc (.cells #[.string ⟨#[]⟩, .string ⟨#[]⟩, .slice none 0 0, .slice none 0 0, .slice none 0 0] 41)).cell? ⟨pa, 0, none⟩ = some va := by rw [hXe]; exact (hbw.cell (World.block_lt_of_cell? _ _ h1)).trans h1
  have q2 : ((w.alloc (.cells #[.string y.name, .string y.who, .slice sa y.says.length sc, .slice ua y.uses.length uc, .slice pa' y.proof.length pc] 41)).alloc (.cells #[.string ⟨#[]⟩, .string ⟨#[]⟩, .slice none 0 0, .slice none 0 0, .slice none 0 0] 41)).cell? ⟨pb, 0, none⟩ = some vb := by rw [hXe]; exact (hbw.cell (World.block_lt_of_cell? _ _ h2)).trans h2
  have q3 : ((w.alloc (.cells #[.string y.name, .string y.who, .slice sa y.says.length sc, .slice ua y.uses.length uc, .slice pa' y.proof.length pc] 41)).alloc (.cells #[.string ⟨#[]⟩, .string ⟨#[]⟩, .slice none 0 0, .slice none 0 0, .slice none 0 0] 41)).cell? ⟨pd, 0, none⟩ = some vd := by rw [hXe]; exact (hbw.cell (World.block_lt_of_cell? _ _ h3)).trans h3
  obtain ⟨T, hT⟩ : ∃ T, canonL (carL a d y.says) = T := ⟨_, rfl⟩
  have hce : carE a d y = ⟨y.name, y.who, T, y.uses, y.proof⟩ := by unfold carE; rw [hT]
  rw [hce]
  rw [hT] at HCAR HLN
  have HXE := hid hXe
  have HC1 := hid C1
  have HR5 := hid hR5
  have HBW := hid hbw
  have HXZ := hid hXz
  have HO := hid hO
  clear hC5 hbV hV hVz hbX hX hR5 hbw hXe C1 hXz hO ha hb hd hok ht hT hce
  go_enter Tryz.func146, Tryz.ntmps146
  go_wp2_with fail
  rw [HXE.out]
  refine HCAR.out.mono ?_
  rintro e w3 ⟨u, rfl, hown, hb3⟩
  obtain ⟨ra, rc, rfl⟩ := owns_slice hown
  have hz3 := hb3.size
  have C3 := HC1.out.below hb3
  have D3 := HR5.out.below hb3
  have C3s := C3.set_2 (.slice ra T.length rc)
  have D3s := D3.block (w' := w3.setCell ⟨w.heap.size, 2, none⟩ (.slice ra T.length rc)) (Below.heap_setCell _ _ _ _ (by simp))
  have hbw3 := HBW.out.trans (hb3.mono HBW.out.size)
  have HBS := hid (hbw3.setCell (p := ⟨w.heap.size, 2, none⟩) (Nat.le_refl _) (.slice ra T.length rc))
  have hd5 := D3s.store (.string y.name) (.string y.who) (.slice ra T.length rc) (.slice ua y.uses.length uc) (.slice pa' y.proof.length pc)
  have hall : ∀ q, q ≠ w.heap.size → q ≠ w.heap.size + 1 → (set5 (w3.setCell ⟨w.heap.size, 2, none⟩ (.slice ra T.length rc)) (w.heap.size + 1) (.string y.name) (.string y.who) (.slice ra T.length rc) (.slice ua y.uses.length uc) (.slice pa' y.proof.length pc)).heap[q]? = w3.heap[q]? := fun q hq hq1 => by rw [heap_set5 _ _ _ _ _ _ _ hq1]; exact Below.heap_setCell _ _ _ _ (by simp only; omega)
  have HF : Hid (EntO (set5 (w3.setCell ⟨w.heap.size, 2, none⟩ (.slice ra T.length rc)) (w.heap.size + 1) (.string y.name) (.string y.who) (.slice ra T.length rc) (.slice ua y.uses.length uc) (.slice pa' y.proof.length pc)) B (.slice ra T.length rc) (.slice ua y.uses.length uc) (.slice pa' y.proof.length pc) ⟨y.name, y.who, T, y.uses, y.proof⟩) := hid (by
    have ho := HO.out
    refine ⟨?_, ?_, ?_, ?_, ho.lu, ho.lp, ho.nu, ho.n1, ho.n2⟩
    · refine owns_base (owns_blocks hown fun q h1 h2 _ => hall q ?_ ?_) (by rw [HXZ.out]; omega) <;> (have := HXZ.out; omega)
    · exact owns_blocks ho.u fun q h1 h2 _ => (hall q (by omega) (by omega)).trans (hbw3.block q h2)
    · exact owns_blocks ho.p fun q h1 h2 _ => (hall q (by omega) (by omega)).trans (hbw3.block q h2)
    · have := HLN.out; show T.length ≤ 1000; omega)
  have HFN := hid (show EnO _ B (.agg #[.string y.name, .string y.who, .slice ra T.length rc, .slice ua y.uses.length uc, .slice pa' y.proof.length pc]) (⟨y.name, y.who, T, y.uses, y.proof⟩ : En) from ⟨_, _, _, rfl, HF.out⟩)
  have HBT := hid ((set5_below HBS.out (show w.heap.size ≤ w.heap.size + 1 by omega) (.string y.name) (.string y.who) (.slice ra T.length rc) (.slice ua y.uses.length uc) (.slice pa' y.proof.length pc)).mono hB)
  have HD5 := hid hd5
  obtain ⟨c0, c1, c2, c3, c4, z0, z1, z2, z3, z4⟩ := C3
  obtain ⟨d0, d1, d2, d3, d4, y0, y1, y2, y3, y4⟩ := D3
  clear hown hb3 C3s D3s hbw3 hd5 hall q1 q2 q3 h1 h2 h3
  go_wp2
  (try simp only [Exit.inBlock, Exit.then])
  clear c0 c1 c2 c3 c4 z0 z1 z2 z3 z4 d0 d1 d2 d3 d4 y0 y1 y2 y3 y4
  obtain ⟨c0, c1, c2, c3, c4, -, -, -, -, -⟩ := HD5.out
  refine bodyPost_ret (v := .agg #[.string y.name, .string y.who, .slice ra T.length rc, .slice ua y.uses.length uc, .slice pa' y.proof.length pc]) ?_ rfl ⟨_, rfl, HFN.out, HBT.out⟩
  unfold set5 at c0 c1 c2 c3 c4
  simp only [results, Tryz.results146]
  go_simp
set_option maxHeartbeats 1000000 in
theorem carry_Carried (va vb vd vl : Value) (a b : Sg) (d : Dic) (l : List En) (w : World) (ha : SignAt w va a) (hb : SignAt w vb b) (hd : BindsAt w vd d) (hl : EntsAt w vl l) (ha1 : a.length ≤ 1000) (hb1 : b.length ≤ 1000) (hl1 : l.length ≤ 1000) (h1 : dicB a b d = true) (h2 : libB a l = true) :
    Calls Tryz.prog 58 #[va, vb, vd, vl] w fun e w' => ∃ u, e = .returned (.tuple #[u, .int .i64 0]) ∧ EntsAt w' u (l.map (carE a d)) ∧ Below w.heap.size w w' := by
  have hents := (libB_iff.1 h2).ents
  have hsa : ∃ p n c, va = .slice p n c := by obtain ⟨p, c, h, -⟩ := ha.open; exact ⟨p, _, c, h⟩
  have hsb : ∃ p n c, vb = .slice p n c := by obtain ⟨p, c, h, -⟩ := hb.open; exact ⟨p, _, c, h⟩
  have hsd : ∃ p n c, vd = .slice p n c := by obtain ⟨p, c, h, -⟩ := hd.open; exact ⟨p, _, c, h⟩
  obtain ⟨X, hX⟩ : ∃ X, ((w.alloc (.cells #[va] 23)).alloc (.cells #[vb] 23)).alloc (.cells #[vd] 76) = X := ⟨_, rfl⟩
  have hbX : Below w.heap.size w X := hX ▸ (((Below.refl _ _).alloc (Nat.le_refl _) _).alloc (by simp) _).alloc (by rw [World.size_alloc, World.size_alloc]; omega) _
  have p0 : X.cell? ⟨w.heap.size, 0, none⟩ = some va := by
    rw [← hX]
    have h0 : (w.alloc (.cells #[va] 23)).cell? ⟨w.heap.size, 0, none⟩ = some va := by rw [World.cell?_alloc_new]; rfl
    have h1 := ((Below.refl (w.alloc (.cells #[va] 23)).heap.size (w.alloc (.cells #[va] 23))).alloc (Nat.le_refl _) (.cells #[vb] 23)).alloc (by simp) (.cells #[vd] 76)
    exact (h1.cell (by simp)).trans h0
  have p1 : X.cell? ⟨w.heap.size + 1, 0, none⟩ = some vb := by
    rw [← hX]
    have h0 : ((w.alloc (.cells #[va] 23)).alloc (.cells #[vb] 23)).cell? ⟨w.heap.size + 1, 0, none⟩ = some vb := by
      rw [show w.heap.size + 1 = (w.alloc (.cells #[va] 23)).heap.size from (World.size_alloc _ _).symm, World.cell?_alloc_new]; rfl
    have h1 := (Below.refl ((w.alloc (.cells #[va] 23)).alloc (.cells #[vb] 23)).heap.size ((w.alloc (.cells #[va] 23)).alloc (.cells #[vb] 23))).alloc (Nat.le_refl _) (.cells #[vd] 76)
    exact (h1.cell (by simp)).trans h0
  have p2 : X.cell? ⟨w.heap.size + 1 + 1, 0, none⟩ = some vd := by
    rw [← hX]
    rw [show w.heap.size + 1 + 1 = ((w.alloc (.cells #[va] 23)).alloc (.cells #[vb] 23)).heap.size from by rw [World.size_alloc, World.size_alloc], World.cell?_alloc_new]; rfl
  have HXE := hid hX
  have HP0 := hid p0
  have HP1 := hid p1
  have HP2 := hid p2
  have HBX := hid hbX
  have HFI := hid (carry_fits va vb vd vl a b d l X (ha.below hbX) (hb.below hbX) (hd.below hbX) (hl.below hbX) ha1 hb1 hl1)
  rw [h1, h2, Bool.and_self] at HFI
  have HEA := hid (fun (W : World) (hW : Below w.heap.size w W) (hWX : Below X.heap.size X W) => carry_each 146 #[.pointer (some ⟨w.heap.size, 0, none⟩), .pointer (some ⟨w.heap.size + 1, 0, none⟩), .pointer (some ⟨w.heap.size + 1 + 1, 0, none⟩)] (enters_of Tryz.func146 (by kernel_rfl) rfl) vl l (carE a d) W (hl.below hW) hl1 (fun x hx => ent_sm (entryB_iff.2 (hents x hx))) (fun i hi V v B hB1 hB2 hBV hv => carry_Carried1 w.heap.size (w.heap.size + 1) (w.heap.size + 1 + 1) va vb vd a b d l[i] v B V hB2 hv ((hBV.cell ((World.block_lt_of_cell? _ _ ((hWX.cell (World.block_lt_of_cell? _ _ p0)).trans p0)))).trans ((hWX.cell (World.block_lt_of_cell? _ _ p0)).trans p0)) ((hBV.cell ((World.block_lt_of_cell? _ _ ((hWX.cell (World.block_lt_of_cell? _ _ p1)).trans p1)))).trans ((hWX.cell (World.block_lt_of_cell? _ _ p1)).trans p1)) ((hBV.cell ((World.block_lt_of_cell? _ _ ((hWX.cell (World.block_lt_of_cell? _ _ p2)).trans p2)))).trans ((hWX.cell (World.block_lt_of_cell? _ _ p2)).trans p2)) (ha.below (hW.trans (hBV.mono hW.size))) (hb.below (hW.trans (hBV.mono hW.size))) (hd.below (hW.trans (hBV.mono hW.size))) ha1 hb1 h1 (hents _ (List.getElem_mem hi)).says))
  have q0 : (((w.alloc (.cells #[va] 23)).alloc (.cells #[vb] 23)).alloc (.cells #[vd] 76)).cell? ⟨w.heap.size, 0, none⟩ = some va := by rw [hX]; exact p0
  have q1 : (((w.alloc (.cells #[va] 23)).alloc (.cells #[vb] 23)).alloc (.cells #[vd] 76)).cell? ⟨w.heap.size + 1, 0, none⟩ = some vb := by rw [hX]; exact p1
  have q2 : (((w.alloc (.cells #[va] 23)).alloc (.cells #[vb] 23)).alloc (.cells #[vd] 76)).cell? ⟨w.heap.size + 1 + 1, 0, none⟩ = some vd := by rw [hX]; exact p2
  obtain ⟨x1, x2, x3, rfl⟩ := hsa
  obtain ⟨y1, y2, y3, rfl⟩ := hsb
  obtain ⟨z1, z2, z3, rfl⟩ := hsd
  clear ha hb hd hl h1 h2 hX p0 p1 p2 hbX hents
  go_enter Tryz.func58, Tryz.ntmps58
  go_wp2_with fail
  rw [HXE.out]
  refine HFI.out.mono ?_
  rintro e w1 ⟨rfl, hb1'⟩
  go_wp2_with fail
  refine (HEA.out w1 (HBX.out.trans (hb1'.mono HBX.out.size)) hb1').mono ?_
  rintro e w2 ⟨u, vs, rfl, hE, hb2⟩
  have HB2 := hid ((HBX.out.trans (hb1'.mono HBX.out.size)).trans (hb2.mono (HBX.out.trans (hb1'.mono HBX.out.size)).size))
  obtain ⟨ea, ec, rfl⟩ := hE.slice
  rw [List.length_map] at hE
  have HE : Hid (EntsAt w2 (.slice ea l.length ec) (l.map (carE a d))) := hid ⟨vs, hE.ents (by simp; omega)⟩
  clear hE hb1' hb2
  go_wp2
  go_ret2
  exact ⟨_, rfl, HE.out, HB2.out⟩
end Go.Proofs.YtalodmochkodiaaGreat
namespace Go.Proofs.YtalodmochkodiaaGreat
open Go Go.RowKit Go.Maps
/-- a growing row of terms: behind any change of its own block alone the terms still lie. -/
structure TeS (w : World) (base : Nat) (u : Value) (vs : List Value) (l : List (List Int)) : Prop where
  top : w.ownsRow base 37 1 u l.length vs
  len : vs.length = l.length
  rd : ∀ W' : World, (∀ q, q < w.heap.size → some q ≠ u.ownBlock → W'.heap[q]? = w.heap[q]?) → ∀ (j : Nat) (h : j < l.length) (h' : j < vs.length), Ints W' vs[j] l[j]
theorem TeS.nil (w : World) (base : Nat) : TeS w base (.slice none 0 0) [] [] := ⟨World.ownsRow_nil _ _ _ _, rfl, fun _ _ j h => by simp at h⟩
theorem TeS.below {w w' : World} {base : Nat} {u : Value} {vs : List Value} {l : List (List Int)} (h : TeS w base u vs l) (hb : Below w.heap.size w w') : TeS w' base u vs l :=
  ⟨owns_below h.top hb, h.len, fun W' hW => h.rd W' fun q hq hne => (hW q (Nat.lt_of_lt_of_le hq hb.size) hne).trans (hb.block q hq)⟩
theorem TeS.base {w : World} {base base' : Nat} {u : Value} {vs : List Value} {l : List (List Int)} (h : TeS w base u vs l) (hb : base' ≤ base) : TeS w base' u vs l := ⟨owns_base h.top hb, h.len, h.rd⟩
theorem TeS.terms {w : World} {base : Nat} {u : Value} {vs : List Value} {l : List (List Int)} (h : TeS w base u vs l) (hl : l.length ≤ 100000) : Terms w u l :=
  ⟨vs, by unfold Vals; rw [h.len]; exact RowK.of_owns h.top (by omega), h.len, fun i v t h1 h2 => by
    obtain ⟨k1, e1⟩ := List.getElem?_eq_some_iff.1 h1
    obtain ⟨k2, e2⟩ := List.getElem?_eq_some_iff.1 h2
    subst e1 e2
    exact h.rd w (fun _ _ _ => rfl) i k2 k1⟩
theorem TeS.push {w w1 w2 : World} {base : Nat} {u : Value} {vs : List Value} {l : List (List Int)} (h : TeS w base u vs l) (hb : Below w.heap.size w w1) {x : List Int} {v : Value}
    (hx : ∀ W' : World, (∀ q, q < w1.heap.size → some q ≠ u.ownBlock → W'.heap[q]? = w1.heap[q]?) → Ints W' v x)
    {g cap n : Nat} (hn : n = l.length) (hown : w2.ownsRow base 37 1 (.slice (some ⟨g, 0, none⟩) (n + 1) cap) (n + 1) (vs ++ [v])) (hg : w1.grownBy w2 u.ownBlock) {H : Nat} (hH : H = w1.heap.size) (hat : u.ownBlock = some g ∨ g = H) :
    TeS w2 base (.slice (some ⟨g, 0, none⟩) (n + 1) cap) (vs ++ [v]) (l ++ [x]) := by
  subst hn
  have hb1 := h.below hb
  have key : ∀ W' : World, (∀ q, q < w2.heap.size → some q ≠ (Value.slice (some ⟨g, 0, none⟩) (l.length + 1) cap).ownBlock → W'.heap[q]? = w2.heap[q]?) → ∀ q, q < w1.heap.size → some q ≠ u.ownBlock → W'.heap[q]? = w1.heap[q]? := by
    intro W' hW q hq hne
    rw [hW q (Nat.lt_of_lt_of_le hq hg.size) ?_, hg.block q hq hne]
    intro e
    have e : q = g := Option.some.inj e
    rcases hat with ha | ha
    · exact hne (by rw [ha, e])
    · omega
  refine ⟨by simpa using hown, by simp [h.len], fun W' hW j hj hj' => ?_⟩
  have k1 := key W' hW
  by_cases hlt : j < l.length
  · have hv : j < vs.length := by rw [h.len]; exact hlt
    rw [List.getElem_append_left hlt, List.getElem_append_left hv]
    exact hb1.rd W' k1 j hlt hv
  · have e : j = l.length := by simp at hj; omega
    subst e
    have e1 : (l ++ [x])[l.length] = x := by simp
    have e2 : (vs ++ [v])[l.length] = v := by rw [List.getElem_append_right (by rw [h.len]; exact Nat.le_refl _)]; simp [h.len]
    rw [e1, e2]
    exact hx W' k1
theorem TeS.slice {w : World} {base : Nat} {u : Value} {vs : List Value} {l : List (List Int)} (h : TeS w base u vs l) : ∃ a c, u = .slice a l.length c := owns_slice h.top
end Go.Proofs.YtalodmochkodiaaGreat
namespace Go.Proofs.YtalodmochkodiaaGreat
open Go Go.RowKit Go.Maps
theorem det_term {s : Sg} {m n t : List Int} (h : DetR s m n (t, 0)) : termB s t = true ∧ canonL t = t := by
  rcases h with ⟨-, h⟩ | ⟨hv, -, ⟨-, h⟩ | ⟨A, B, -, -, tB, ⟨-, h⟩ | ⟨m, hm, ⟨hb, h⟩ | ⟨-, h⟩⟩⟩⟩
  · simp at h
  · simp at h
  · simp at h
  · simp only [Prod.mk.injEq, and_true] at h
    subst h
    exact ⟨made_term (termB_facts hv).1 (fw_T hm.1 (tB.mono (by omega))) hb, canonL_canon _⟩
  · simp at h
theorem saysN_name {s : Sg} {l : List En} (h : LibOK s l) {n : Nm} {t : List Int} (hs : saysN l n = some t) : nmB n = true ∧ termB s t = true ∧ canonL t = t := by
  cases e : idxN l n with
  | none => rw [saysN_none e] at hs; cases hs
  | some i =>
    obtain ⟨hi, h2⟩ := saysN_some e
    rw [h2] at hs
    cases hs
    obtain ⟨hi', hn⟩ := idxN_some e
    have hx := h.ents l[i] (List.getElem_mem hi)
    exact ⟨hn ▸ hx.name, hx.says, hx.can⟩
theorem frI_0 {s : Sg} {l : List En} {o b : Nm} {ns : List Nm} (h : frI s l o b ns = 0) : libB s l = true ∧ nmB o = true ∧ nmB b = true ∧ nmdI s l ns = 0 ∧ idxN l o = none := by
  unfold frI at h
  cases g1 : libB s l <;> cases g2 : nmB o <;> cases g3 : nmB b <;> simp only [g1, g2, g3] at h <;> simp at h
  refine ⟨rfl, rfl, rfl, ?_⟩
  by_cases h0 : nmdI s l ns = 0
  · rw [if_pos h0] at h
    refine ⟨h0, ?_⟩
    cases e : idxN l o with
    | none => rfl
    | some i => rw [e] at h; simp at h
  · rw [if_neg h0] at h; exact absurd h h0
theorem idxN_append {l : List En} {n : Nm} {i : Nat} (h : idxN l n = some i) (m : List En) : idxN (l ++ m) n = some i := by
  unfold idxN at h ⊢
  rw [List.map_append, List.findIdx?_append, h]; rfl
theorem saysN_append {l : List En} {n : Nm} {t : List Int} (h : saysN l n = some t) (m : List En) : saysN (l ++ m) n = some t := by
  cases e : idxN l n with
  | none => rw [saysN_none e] at h; cases h
  | some i =>
    obtain ⟨hi, h2⟩ := saysN_some e
    rw [h2] at h
    cases h
    unfold saysN
    rw [idxN_append e m]
    simp [List.getElem?_append_left hi, List.getElem?_eq_getElem hi]
theorem lib_add {s : Sg} {l : List En} {x : En} (h : LibOK s l) (hx : entryB s x = true) (hn : idxN l x.name = none) (hl : l.length ≠ 60) : LibOK s (l ++ [x]) := by
  refine ⟨h.sign, by have := h.len; simp; omega, fun y hy => ?_, ?_⟩
  · rcases List.mem_append.1 hy with hy | hy
    · exact h.ents y hy
    · simp at hy; subst hy; exact entryB_iff.1 hx
  · rw [List.map_append, List.nodup_append]
    refine ⟨h.nd, by simp, fun a ha b hb => ?_⟩
    simp at hb
    subst hb
    obtain ⟨y, hy, rfl⟩ := List.mem_map.1 ha
    exact idxN_none hn y hy
theorem idxN_last {s : Sg} {l : List En} {x : En} (h : LibOK s (l ++ [x])) : idxN (l ++ [x]) x.name = some l.length := by
  have := idxN_nd h.nd (i := l.length) (by simp)
  simpa using this
end Go.Proofs.YtalodmochkodiaaGreat
namespace Go.Proofs.YtalodmochkodiaaGreat
open Go Go.RowKit Go.Maps
def GivQ (l : List En) (ns : List Nm) (w : World) (e : Ending) (w' : World) : Prop := ∃ u ts z, ((givL l ns = none ∧ ts = [] ∧ z = false) ∨ (givL l ns = some ts ∧ z = true)) ∧ e = .returned (.tuple #[u, .bool z]) ∧ Terms w' u ts ∧ Below w.heap.size w w'
theorem GivQ.mk {l : List En} {ns : List Nm} {w : World} {e : Ending} {w' : World} (u : Value) (ts : List (List Int)) (z : Bool) (h1 : (givL l ns = none ∧ ts = [] ∧ z = false) ∨ (givL l ns = some ts ∧ z = true)) (h2 : e = .returned (.tuple #[u, .bool z])) (h3 : Terms w' u ts) (h4 : Below w.heap.size w w') : GivQ l ns w e w' := ⟨u, ts, z, h1, h2, h3, h4⟩
end Go.Proofs.YtalodmochkodiaaGreat
namespace Go.Proofs.YtalodmochkodiaaGreat
open Go Go.RowKit Go.Maps
end Go.Proofs.YtalodmochkodiaaGreat
namespace Go.Proofs.YtalodmochkodiaaGreat
open Go Go.RowKit Go.Maps
def sL : List Int := [0, 0, -1, 0, -2, -3, 0, 0, -1, -2, 0, -1, -3]
def kL : List Int := [0, -1, 0, -2, -1]
theorem carry_isS (w : World) :
    Calls Tryz.prog 176 #[] w fun e w' => ∃ u, e = .returned u ∧ Ints w' u sL ∧ Below w.heap.size w w' := by
  have q := intsL w sL 3
  have HB : Hid (Below w.heap.size w (w.alloc _)) := hid ((Below.refl _ _).alloc (Nat.le_refl _) (.cells #[.int .i64 0, .int .i64 0, .int .i64 (-1), .int .i64 0, .int .i64 (-2), .int .i64 (-3), .int .i64 0, .int .i64 0, .int .i64 (-1), .int .i64 (-2), .int .i64 0, .int .i64 (-1), .int .i64 (-3)] 3))
  have Q := hid q
  clear q
  go_enter Tryz.func176, Tryz.ntmps176
  go_wp2
  go_ret
  exact ⟨_, rfl, Q.out, HB.out⟩
theorem carry_isK (w : World) :
    Calls Tryz.prog 177 #[] w fun e w' => ∃ u, e = .returned u ∧ Ints w' u kL ∧ Below w.heap.size w w' := by
  have q := intsL w kL 3
  have HB : Hid (Below w.heap.size w (w.alloc _)) := hid ((Below.refl _ _).alloc (Nat.le_refl _) (.cells #[.int .i64 0, .int .i64 (-1), .int .i64 0, .int .i64 (-2), .int .i64 (-1)] 3))
  have Q := hid q
  clear q
  go_enter Tryz.func177, Tryz.ntmps177
  go_wp2
  go_ret
  exact ⟨_, rfl, Q.out, HB.out⟩
end Go.Proofs.YtalodmochkodiaaGreat
namespace Go.Proofs.YtalodmochkodiaaGreat
open Go Go.RowKit Go.Maps
/-- the index of the first entry that says a statement alike another one. -/
def sayI (s : Sg) (l : List En) (t : List Int) : Int := firstI l.length fun i => alikeB s ((l.map En.says).getD i []) t
/-- its name. -/
def sayN (s : Sg) (l : List En) (t : List Int) : Nm := if sayI s l t < 0 then ⟨#[]⟩ else (l.getD (sayI s l t).toNat en0).name
theorem carry_saying1 (ps pt : Nat) (vs vt vS vU vP : Value) (s : Sg) (t : List Int) (x : En) (w : World) (hps : w.cell? ⟨ps, 0, none⟩ = some vs) (hpt : w.cell? ⟨pt, 0, none⟩ = some vt) (hs : SignAt w vs s) (ht : Ints w vt t) (hx : EntAt w vS vU vP x) (hs1 : s.length ≤ 1000) :
    Calls Tryz.prog 247 #[.agg #[.string x.name, .string x.who, vS, vU, vP], .pointer (some ⟨ps, 0, none⟩), .pointer (some ⟨pt, 0, none⟩)] w fun e w' => e = .returned (.bool (alikeB s x.says t)) ∧ Below w.heap.size w w' := by
  have hb0 : Below w.heap.size w (w.alloc (.cells #[.string x.name, .string x.who, vS, vU, vP] 41)) := (Below.refl _ _).alloc (Nat.le_refl _) _
  have HAL := hid (term_Alike vs vS vt s x.says t _ (hs.below hb0) (hx.s.below hb0) (ht.below hb0) hs1)
  have HB0 := hid hb0
  have k1 := World.block_lt_of_cell? _ _ hps
  have k2 := World.block_lt_of_cell? _ _ hpt
  obtain ⟨sa, sc, rfl, -⟩ := hs.open
  obtain ⟨ta, tc, rfl, -⟩ := ht.open
  obtain ⟨xa, xc, rfl, -⟩ := hx.s.open
  clear hs ht hx hb0
  go_enter Tryz.func247, Tryz.ntmps247
  go_wp2_with fail
  refine HAL.out.mono ?_
  rintro e w1 ⟨rfl, hb1⟩
  go_wp2
  go_ret
  exact ⟨rfl, HB0.out.trans (hb1.mono HB0.out.size)⟩
set_option maxHeartbeats 1000000 in
theorem carry_saying (vs vl vt : Value) (s : Sg) (l : List En) (t : List Int) (w : World) (hs : SignAt w vs s) (hl : EntsAt w vl l) (ht : Ints w vt t) (hs1 : s.length ≤ 1000) :
    Calls Tryz.prog 175 #[vs, vl, vt] w fun e w' => e = .returned (.string (sayN s l t)) ∧ Below w.heap.size w w' := by
  have HLL := hid hl
  obtain ⟨sa, sc, rfl, -⟩ := hs.open
  obtain ⟨ta, tc, rfl, -⟩ := ht.open
  obtain ⟨la, lc, rfl, lcap, ll, -, HC⟩ := hl.open
  have HC' := hid HC
  have b1 : Below w.heap.size w (w.alloc (.cells #[.slice sa s.length sc] 23)) := (Below.refl _ _).alloc (Nat.le_refl _) _
  obtain ⟨W1, e1⟩ : ∃ W, w.alloc (.cells #[.slice sa s.length sc] 23) = W := ⟨_, rfl⟩
  have z1 : W1.heap.size = w.heap.size + 1 := by rw [← e1]; simp
  have c1 : W1.cell? ⟨w.heap.size, 0, none⟩ = some (.slice sa s.length sc) := by rw [← e1]; exact cell_new1 w _ _
  rw [e1] at b1
  have b2 : Below W1.heap.size W1 (W1.alloc (.cells #[.slice ta t.length tc] 37)) := (Below.refl _ _).alloc (Nat.le_refl _) _
  have c2 := cell_new1 W1 (.slice ta t.length tc) 37
  obtain ⟨W2, e2⟩ : ∃ W, W1.alloc (.cells #[.slice ta t.length tc] 37) = W := ⟨_, rfl⟩
  rw [e2] at b2 c2
  rw [z1] at c2
  have c1' := (b2.cell (World.block_lt_of_cell? _ _ c1)).trans c1
  have bw2 := b1.trans (b2.mono b1.size)
  have HIF := hid (sl_IndexFunc_ents 247 #[.pointer (some ⟨w.heap.size, 0, none⟩), .pointer (some ⟨w.heap.size + 1, 0, none⟩)] (enters_of Tryz.func247 (by kernel_rfl) rfl) (.slice la l.length lc) l W2 (hl.below bw2) (fun i => alikeB s ((l.map En.says).getD i []) t) (by
    intro i hi vS vU vP X hX hE
    have e1 : (l.map En.says).getD i [] = l[i].says := by simp [List.getD, hi]
    simp only [e1]
    have hbx := bw2.trans (hX.mono bw2.size)
    exact carry_saying1 w.heap.size (w.heap.size + 1) _ _ vS vU vP s t l[i] X ((hX.cell (World.block_lt_of_cell? _ _ c1')).trans c1') ((hX.cell (World.block_lt_of_cell? _ _ c2)).trans c2) (hs.below hbx) (ht.below hbx) hE hs1))
  have HB2 := hid bw2
  have E1 := hid e1
  have E2 := hid e2
  have hbnd := firstI_bound l.length (fun i => alikeB s ((l.map En.says).getD i []) t)
  have HSN : Hid (sayN s l t = if firstI l.length (fun i => alikeB s ((l.map En.says).getD i []) t) < 0 then ⟨#[]⟩ else (l.getD (firstI l.length (fun i => alikeB s ((l.map En.says).getD i []) t)).toNat en0).name) := hid rfl
  obtain ⟨I, hI⟩ : ∃ I, firstI l.length (fun i => alikeB s ((l.map En.says).getD i []) t) = I := ⟨_, rfl⟩
  rw [hI] at HIF hbnd HSN
  clear hs hl ht HC e1 e2 c1 c1' c2 b1 b2 bw2 z1 hI
  go_enter Tryz.func175, Tryz.ntmps175
  go_wp2_with fail
  rw [E1.out, E2.out]
  refine HIF.out.mono ?_
  rintro e w3 ⟨rfl, hb3⟩
  have hbw3 := HB2.out.trans (hb3.mono HB2.out.size)
  by_cases h0 : I < 0
  · have HF : Hid (sayN s l t = ⟨#[]⟩) := hid (by rw [HSN.out, if_pos h0])
    have hlt : (decide (I < 0)) = true := by simpa using h0
    go_wp2
    go_ret
    exact ⟨by rw [HF.out]; rfl, hbw3⟩
  · obtain ⟨i, rfl⟩ : ∃ i : Nat, I = i := ⟨I.toNat, by omega⟩
    have hi : i < l.length := by omega
    obtain ⟨b, o, vS, vu, vp, rfl, k0, -, -, -, -, -⟩ := HC'.out i hi
    have k1 := (hbw3.cell (World.block_lt_of_cell? _ _ k0)).trans k0
    have HF : Hid (sayN s l t = l[i].name) := hid (by rw [HSN.out, if_neg h0, Int.toNat_natCast, List.getD_eq_getElem?_getD, List.getElem?_eq_getElem hi]; rfl)
    obtain ⟨y, hy⟩ : ∃ y, l[i].name = y := ⟨_, rfl⟩
    rw [hy] at k1 HF
    clear k0 hy hbnd h0
    go_wp2
    go_ret
    exact ⟨by rw [HF.out]; rfl, hbw3⟩
end Go.Proofs.YtalodmochkodiaaGreat
