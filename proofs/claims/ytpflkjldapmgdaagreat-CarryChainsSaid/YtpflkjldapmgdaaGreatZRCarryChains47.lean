/-
  WHAT IT HOLDS: the contract of Chain of the reference of layer 8. Conditions: the arguments read as data; small signs, small libraries.
  WHAT IT HOLDS: the walk of the law CarryChains: it returns true. Conditions: the arguments read as data.
-/
import Derived.Test.YtpflkjldapmgdaaGreatZRCarryChains46
import Derived.Test.YtpflkjldapmgdaaGreatZRCarryChains39
import Derived.Test.YtpflkjldapmgdaaGreatZRCarryChains18
namespace Go.Proofs.YtpflkjldapmgdaaGreat
open Go Go.RowKit Go.Maps
theorem rowK_block {w W' : World} {g o len cap k n : Nat} {xs : List Value} (h : RowK w (.slice (some ⟨g, o, none⟩) len cap) k n xs) (hb : W'.heap[g]? = w.heap[g]?) : RowK W' (.slice (some ⟨g, o, none⟩) len cap) k n xs := by
  obtain ⟨h1, a, cap', h2, h3, h4, h5, h6⟩ := h
  refine ⟨h1, a, cap', h2, h3, h4, h5, fun j u hj => ?_⟩
  obtain ⟨g', o', e, hc⟩ := h6 j u hj
  simp only [Value.slice.injEq] at h2
  obtain ⟨rfl, -, -⟩ := h2
  obtain ⟨rfl, rfl⟩ : g' = g ∧ o' = o := by simpa using e.symm
  exact ⟨_, _, rfl, (World.cell?_of_block hb).trans hc⟩
theorem C5.put3 {w : World} {b : Nat} {x0 x1 x2 x3 x4 : Value} (h : C5 w b x0 x1 x2 x3 x4) (y : Value) : C5 (w.setCell ⟨b, 3, none⟩ y) b x0 x1 x2 y x4 := by
  refine ⟨(cell_off (by decide)).trans h.c0, (cell_off (by decide)).trans h.c1, (cell_off (by decide)).trans h.c2, World.cell?_setCell_same _ _ _ h.c3, (cell_off (by decide)).trans h.c4, ?_, ?_, ?_, ?_, ?_⟩
  · rw [World.frozen?_setCell]; exact h.z0
  · rw [World.frozen?_setCell]; exact h.z1
  · rw [World.frozen?_setCell]; exact h.z2
  · rw [World.frozen?_setCell]; exact h.z3
  · rw [World.frozen?_setCell]; exact h.z4
theorem ref8_alikeI (vs vl vt : Value) (s : Sg) (l : List En) (t : List Int) (w : World) (hs : SignAt w vs s) (hl : EntsAt w vl l) (ht : Ints w vt t) :
    Calls Tryz.prog 74 #[vs, vl, vt] w fun e w' => e = .returned (.int .i64 (sayI s l t)) ∧ Below w.heap.size w w' := ref8_alike vs vl vt s l t w hs hl ht
theorem alike_name {s : Sg} {l : List En} {t : List Int} (h : LibOK s l) : (sayI s l t < 0 → sayN s l t = noN) ∧ (¬ sayI s l t < 0 → ∃ i, ∃ hi : i < l.length, sayI s l t = (i : Int) ∧ sayN s l t = l[i].name ∧ sayN s l t ≠ noN) := by
  constructor
  · intro h0; unfold sayN; rw [if_pos h0]; rfl
  · intro h0
    have hb := firstI_bound l.length (fun i => alikeB s ((l.map En.says).getD i []) t)
    have hI : sayI s l t = firstI l.length (fun i => alikeB s ((l.map En.says).getD i []) t) := rfl
    rw [← hI] at hb
    obtain ⟨i, hi⟩ : ∃ i : Nat, sayI s l t = i := ⟨(sayI s l t).toNat, by omega⟩
    have hlt : i < l.length := by omega
    have he : sayN s l t = l[i].name := by
      unfold sayN
      rw [if_neg h0, hi, Int.toNat_natCast, List.getD_eq_getElem?_getD, List.getElem?_eq_getElem hlt]; rfl
    refine ⟨i, hlt, hi, he, ?_⟩
    rw [he]
    obtain ⟨u, hu⟩ := name_saysN hlt
    have hn := (saysN_name h hu).1
    intro e
    rw [e] at hn
    exact absurd hn (by decide)
set_option maxHeartbeats 8000000 in
set_option maxRecDepth 100000 in
theorem ref8_Chain (vs vl : Value) (s : Sg) (l : List En) (a n o b : Nm) (w : World) (hs : SignAt w vs s) (hl : EntsAt w vl l) (hs1 : s.length ≤ 1000) (hl1 : l.length ≤ 1000) (ha : a.size ≤ 140737488355328) (hn : n.size ≤ 140737488355328) (ho : o.size ≤ 140737488355328) (hbn : b.size ≤ 140737488355328) :
    Calls Tryz.prog 21 #[vs, vl, .string a, .string n, .string o, .string b] w fun e w' => EntQ (ChaR s l a n o b) w e w' := by
  have hC5 := C5.new w (.string ⟨#[]⟩) (.string ⟨#[]⟩) (.slice none 0 0) (.slice none 0 0) (.slice none 0 0) 35
  have hbC : Below w.heap.size w (w.alloc (.cells #[.string ⟨#[]⟩, .string ⟨#[]⟩, .slice none 0 0, .slice none 0 0, .slice none 0 0] 35)) := (Below.refl _ _).alloc (Nat.le_refl _) _
  obtain ⟨W, hW⟩ : ∃ W, w.alloc (.cells #[.string ⟨#[]⟩, .string ⟨#[]⟩, .slice none 0 0, .slice none 0 0, .slice none 0 0] 35) = W := ⟨_, rfl⟩
  have hWz : W.heap.size = w.heap.size + 1 := by rw [← hW]; simp
  rw [hW] at hC5 hbC
  have HV := hid (ref6_Valid vs vl s l W (hs.below hbC) (hl.below hbC) hs1 hl1)
  have HBC := hid hbC
  have HC := hid (fun (X : World) (hX : Below W.heap.size W X) => hC5.below hX)
  have HSG := hid (fun (X : World) (hX : Below W.heap.size W X) => (hs.below hbC).below hX)
  have HLL := hid (fun (X : World) (hX : Below W.heap.size W X) => (hl.below hbC).below hX)
  have HBW := hid (fun (X : World) (hX : Below W.heap.size W X) => hbC.trans (hX.mono hbC.size))
  have HW := hid hW
  have HWZ := hid hWz
  have HER : Hid (∀ e, frI s l o b [a, n] = e → e ≠ 0 → ChaR s l a n o b en0 e) := hid fun e h1 h2 => Or.inl ⟨by rw [h1]; exact h2, rfl, h1.symm⟩
  obtain ⟨la, lc, rfl, -, ll, -, LC⟩ := hl.open
  have LC' := hid LC
  clear hl hs hC5 hbC hW hWz LC
  go_enter Tryz.func21, Tryz.ntmps21
  go_wp2_with fail
  rw [HW.out]
  refine HV.out.mono ?_
  rintro e w1 ⟨rfl, hb1⟩
  have HB1 := hid hb1
  have HC1 := hid (HC.out w1 hb1)
  clear hb1 HV
  cases g1 : libB s l
  · have HX := hid (HER.out 1 (frI_no (Or.inl g1)) (by decide))
    clear g1
    obtain ⟨c0, c1, c2, c3, c4, z0, z1, z2, z3, z4⟩ := HC1.out
    go_wp2
    (try simp only [Exit.inBlock, Exit.then])
    clear c0 c1 c2 c3 c4 z0 z1 z2 z3 z4
    obtain ⟨c0, c1, c2, c3, c4, -, -, -, -, -⟩ := HC1.out.store (.string ⟨#[]⟩) (.string ⟨#[]⟩) (.slice none 0 0) (.slice none 0 0) (.slice none 0 0)
    refine bodyPost_ret (v := .tuple #[.agg #[.string ⟨#[]⟩, .string ⟨#[]⟩, .slice none 0 0, .slice none 0 0, .slice none 0 0], .int .i64 1]) ?_ rfl (EntQ.zero HX.out (set5_below (HBW.out w1 HB1.out) (Nat.le_refl _) _ _ _ _ _))
    unfold set5 at c0 c1 c2 c3 c4
    simp only [results, Tryz.results21]
    go_simp
  cases g2 : nmB o
  · have HX := hid (HER.out 1 (frI_no (Or.inr (Or.inl g2))) (by decide))
    have G2 := hid g2
    clear g1 g2
    go_wp2_with fail
    refine (ref6_Name _ _ ho).mono ?_
    rintro e w' ⟨rfl, rfl⟩
    rw [G2.out]
    obtain ⟨c0, c1, c2, c3, c4, z0, z1, z2, z3, z4⟩ := HC1.out
    go_wp2
    (try simp only [Exit.inBlock, Exit.then])
    clear c0 c1 c2 c3 c4 z0 z1 z2 z3 z4
    obtain ⟨c0, c1, c2, c3, c4, -, -, -, -, -⟩ := HC1.out.store (.string ⟨#[]⟩) (.string ⟨#[]⟩) (.slice none 0 0) (.slice none 0 0) (.slice none 0 0)
    refine bodyPost_ret (v := .tuple #[.agg #[.string ⟨#[]⟩, .string ⟨#[]⟩, .slice none 0 0, .slice none 0 0, .slice none 0 0], .int .i64 1]) ?_ rfl (EntQ.zero HX.out (set5_below (HBW.out w1 HB1.out) (Nat.le_refl _) _ _ _ _ _))
    unfold set5 at c0 c1 c2 c3 c4
    simp only [results, Tryz.results21]
    go_simp
  cases g3 : nmB b
  · have HX := hid (HER.out 1 (frI_no (Or.inr (Or.inr g3))) (by decide))
    have G2 := hid g2
    have G3 := hid g3
    clear g1 g2 g3
    go_wp2_with fail
    refine (ref6_Name _ _ ho).mono ?_
    rintro e w' ⟨rfl, rfl⟩
    rw [G2.out]
    go_wp2_with fail
    refine (ref6_Name _ _ hbn).mono ?_
    rintro e w' ⟨rfl, rfl⟩
    rw [G3.out]
    obtain ⟨c0, c1, c2, c3, c4, z0, z1, z2, z3, z4⟩ := HC1.out
    go_wp2
    (try simp only [Exit.inBlock, Exit.then])
    clear c0 c1 c2 c3 c4 z0 z1 z2 z3 z4
    obtain ⟨c0, c1, c2, c3, c4, -, -, -, -, -⟩ := HC1.out.store (.string ⟨#[]⟩) (.string ⟨#[]⟩) (.slice none 0 0) (.slice none 0 0) (.slice none 0 0)
    refine bodyPost_ret (v := .tuple #[.agg #[.string ⟨#[]⟩, .string ⟨#[]⟩, .slice none 0 0, .slice none 0 0, .slice none 0 0], .int .i64 1]) ?_ rfl (EntQ.zero HX.out (set5_below (HBW.out w1 HB1.out) (Nat.le_refl _) _ _ _ _ _))
    unfold set5 at c0 c1 c2 c3 c4
    simp only [results, Tryz.results21]
    go_simp
  have HFR : Hid (frI s l o b [a, n] = if nmdI s l [a, n] = 0 then (if (idxN l o).isSome then 6 else 0) else nmdI s l [a, n]) := hid (frI_yes g1 g2 g3)
  have HLOK := hid (libB_iff.1 g1)
  have G2 := hid g2
  have G3 := hid g3
  clear g1 g2 g3 HC1
  have hlit := txts_lit2 w1 a n 9 ha hn
  have hba : Below w1.heap.size w1 (w1.alloc (.cells #[.string a, .string n] 9)) := (Below.refl _ _).alloc (Nat.le_refl _) _
  have HNM := hid (ref8_named vs _ _ s l [a, n] _ ((HSG.out w1 HB1.out).below hba) ((HLL.out w1 HB1.out).below hba) hlit hs1 hl1)
  obtain ⟨er, he⟩ : ∃ er, nmdI s l [a, n] = er := ⟨_, rfl⟩
  have HE := hid he
  rw [he] at HNM
  have HBA := hid hba
  clear hlit hba he
  go_wp2_with fail
  refine (ref6_Name _ _ ho).mono ?_
  rintro e w' ⟨rfl, rfl⟩
  rw [G2.out]
  go_wp2_with fail
  refine (ref6_Name _ _ hbn).mono ?_
  rintro e w' ⟨rfl, rfl⟩
  rw [G3.out]
  go_wp2_with fail
  refine HNM.out.mono ?_
  rintro e w2 ⟨rfl, hb2'⟩
  have hb12 : Below w1.heap.size w1 w2 := HBA.out.trans (hb2'.mono HBA.out.size)
  have HB2 := hid (HB1.out.trans (hb12.mono HB1.out.size))
  have HC2 := hid (HC.out w2 HB2.out)
  clear hb2' hb12 HNM HBA G2 G3
  by_cases h0 : er = 0
  case neg =>
    have HX := hid (HER.out er (by rw [HFR.out, HE.out, if_neg h0]) h0)
    have n0 : (er != 0) = true := by simpa using h0
    clear h0
    obtain ⟨c0, c1, c2, c3, c4, z0, z1, z2, z3, z4⟩ := HC2.out
    go_wp2
    (try simp only [Exit.inBlock, Exit.then])
    clear c0 c1 c2 c3 c4 z0 z1 z2 z3 z4
    obtain ⟨c0, c1, c2, c3, c4, -, -, -, -, -⟩ := HC2.out.store (.string ⟨#[]⟩) (.string ⟨#[]⟩) (.slice none 0 0) (.slice none 0 0) (.slice none 0 0)
    refine bodyPost_ret (v := .tuple #[.agg #[.string ⟨#[]⟩, .string ⟨#[]⟩, .slice none 0 0, .slice none 0 0, .slice none 0 0], .int .i64 er]) ?_ rfl (EntQ.zero HX.out (set5_below (HBW.out w2 HB2.out) (Nat.le_refl _) _ _ _ _ _))
    unfold set5 at c0 c1 c2 c3 c4
    simp only [results, Tryz.results21]
    go_simp
  subst h0
  obtain ⟨hlib, ts, hg⟩ := nmdI_0 HE.out
  obtain ⟨p, q, rfl, hp, hq⟩ := givL_two hg
  have HIX := hid (ref6_Index _ l o w2 (HLL.out w2 HB2.out))
  obtain ⟨ix, hix⟩ : ∃ ix, idxI l o = ix := ⟨_, rfl⟩
  have HIE := hid hix
  rw [hix] at HIX
  have HP := hid hp
  have HQ := hid hq
  clear hix hg hlib hp hq
  by_cases hi : 0 ≤ ix
  case pos =>
    have HX := hid (HER.out 6 (by
      rw [HFR.out, if_pos HE.out]
      obtain ⟨i, _, -, -, e⟩ := idxI_pos (l := l) (n := o) (by rw [HIE.out]; exact hi)
      rw [e]; rfl) (by decide))
    have q0 : decide (0 ≤ ix) = true := by simpa using hi
    have q1 : decide (ix ≥ 0) = true := by simpa using hi
    go_wp2_with fail
    refine HIX.out.mono ?_
    rintro e w' ⟨rfl, rfl⟩
    obtain ⟨c0, c1, c2, c3, c4, z0, z1, z2, z3, z4⟩ := HC2.out
    go_wp2
    (try simp only [Exit.inBlock, Exit.then])
    clear c0 c1 c2 c3 c4 z0 z1 z2 z3 z4
    obtain ⟨c0, c1, c2, c3, c4, -, -, -, -, -⟩ := HC2.out.store (.string ⟨#[]⟩) (.string ⟨#[]⟩) (.slice none 0 0) (.slice none 0 0) (.slice none 0 0)
    refine bodyPost_ret (v := .tuple #[.agg #[.string ⟨#[]⟩, .string ⟨#[]⟩, .slice none 0 0, .slice none 0 0, .slice none 0 0], .int .i64 6]) ?_ rfl (EntQ.zero HX.out (set5_below (HBW.out w2 HB2.out) (Nat.le_refl _) _ _ _ _ _))
    unfold set5 at c0 c1 c2 c3 c4
    simp only [results, Tryz.results21]
    go_simp
  have HF0 : Hid (frI s l o b [a, n] = 0) := hid (by
    rw [HFR.out, if_pos HE.out]
    cases e : idxN l o with
    | none => rfl
    | some i =>
      have := HIE.out
      unfold idxI at this
      rw [e] at this
      simp at this
      omega)
  have q0 : decide (0 ≤ ix) = false := by simpa using hi
  have q1 : decide (ix ≥ 0) = false := by simpa using hi
  have HR : Hid (∀ z1 z2 A B C D x e, SidR s p z1 A B → SidR s q z2 C D → (((z1 = false ∨ z2 = false) ∧ x = en0 ∧ e = 10) ∨ (z1 = true ∧ z2 = true ∧ ∃ z, MeetsA s B C z ∧
      (((z = false ∨ sayN s l sL = noN ∨ sayN s l kL = noN) ∧ x = en0 ∧ e = 8) ∨ (z = true ∧ sayN s l sL ≠ noN ∧ sayN s l kL ≠ noN ∧ ChaE s l a n o b (sayN s l sL) (sayN s l kL) x e)))) → ChaR s l a n o b x e) :=
    hid fun z1 z2 A B C D x e h1 h2 h3 => Or.inr ⟨HF0.out, p, q, z1, z2, A, B, C, D, HP.out, HQ.out, h1, h2, h3⟩
  have HG4 := hid (fun h3 h4 => chain_giv (s := s) HP.out HQ.out h3 h4)
  have HTP := hid (saysN_name HLOK.out HP.out).2.1
  have HTQ := hid (saysN_name HLOK.out HQ.out).2.1
  have HNZ := hid (And.intro (saysN_name HLOK.out HP.out).1 (saysN_name HLOK.out HQ.out).1)
  have HSP := hid (ref8_says _ l a p w2 (HLL.out w2 HB2.out) HP.out)
  clear HER HFR HIE hi HC2
  go_wp2_with fail
  refine HIX.out.mono ?_
  rintro e w' ⟨rfl, rfl⟩
  go_wp2_with fail
  refine HSP.out.mono ?_
  rintro e w' ⟨up, rfl, ip, rfl⟩
  have HS1 := hid (ref8_halvesU vs up s p w2 HTP.out (HSG.out w2 HB2.out) ip)
  obtain ⟨pa, pc, rfl, -⟩ := ip.open
  clear ip HSP HIX
  go_wp2_with fail
  refine HS1.out.mono ?_
  rintro e w3 ⟨ua, ub, y1, A, B, hsd1, rfl, iA, iB, hb3⟩
  have HB3 := hid (HB2.out.trans (hb3.mono HB2.out.size))
  have HSD1 := hid hsd1
  have HIB := hid iB
  have HSQ := hid (ref8_says _ l n q w3 (HLL.out w3 HB3.out) HQ.out)
  obtain ⟨aa, ac, rfl, -⟩ := iA.open
  obtain ⟨ba, bc, rfl, -⟩ := iB.open
  clear hb3 iA iB hsd1 HS1 q0 q1
  go_wp2_with fail
  refine HSQ.out.mono ?_
  rintro e w' ⟨uq, rfl, iq, rfl⟩
  have HS2 := hid (ref8_halvesU vs uq s q w3 HTQ.out (HSG.out w3 HB3.out) iq)
  obtain ⟨qa, qc, rfl, -⟩ := iq.open
  clear iq HSQ
  go_wp2_with fail
  refine HS2.out.mono ?_
  rintro e w4 ⟨uc, ud, y2, C, D, hsd2, rfl, iC, iD, hb4⟩
  have HB4 := hid (HB3.out.trans (hb4.mono HB3.out.size))
  have HSD2 := hid hsd2
  have HIB4 := hid (HIB.out.below hb4)
  have HIC4 := hid iC
  obtain ⟨ca, cc, rfl, -⟩ := iC.open
  obtain ⟨da, dc, rfl, -⟩ := iD.open
  clear hb4 iC iD hsd2 HS2
  have HC4 := hid (HC.out w4 HB4.out)
  cases y1 with
  | false =>
    have HX : Hid (ChaR s l a n o b en0 10) := hid (HR.out _ _ _ _ _ _ _ _ HSD1.out HSD2.out (Or.inl ⟨Or.inl rfl, rfl, rfl⟩))
    obtain ⟨c0, c1, c2, c3, c4, z0, z1, z2, z3, z4⟩ := HC4.out
    go_wp2
    (try simp only [Exit.inBlock, Exit.then])
    clear c0 c1 c2 c3 c4 z0 z1 z2 z3 z4
    obtain ⟨c0, c1, c2, c3, c4, -, -, -, -, -⟩ := HC4.out.store (.string ⟨#[]⟩) (.string ⟨#[]⟩) (.slice none 0 0) (.slice none 0 0) (.slice none 0 0)
    refine bodyPost_ret (v := .tuple #[.agg #[.string ⟨#[]⟩, .string ⟨#[]⟩, .slice none 0 0, .slice none 0 0, .slice none 0 0], .int .i64 10]) ?_ rfl (EntQ.zero HX.out (set5_below (HBW.out w4 HB4.out) (Nat.le_refl _) _ _ _ _ _))
    unfold set5 at c0 c1 c2 c3 c4
    simp only [results, Tryz.results21]
    go_simp
  | true =>
  cases y2 with
  | false =>
    have HX : Hid (ChaR s l a n o b en0 10) := hid (HR.out _ _ _ _ _ _ _ _ HSD1.out HSD2.out (Or.inl ⟨Or.inr rfl, rfl, rfl⟩))
    obtain ⟨c0, c1, c2, c3, c4, z0, z1, z2, z3, z4⟩ := HC4.out
    go_wp2
    (try simp only [Exit.inBlock, Exit.then])
    clear c0 c1 c2 c3 c4 z0 z1 z2 z3 z4
    obtain ⟨c0, c1, c2, c3, c4, -, -, -, -, -⟩ := HC4.out.store (.string ⟨#[]⟩) (.string ⟨#[]⟩) (.slice none 0 0) (.slice none 0 0) (.slice none 0 0)
    refine bodyPost_ret (v := .tuple #[.agg #[.string ⟨#[]⟩, .string ⟨#[]⟩, .slice none 0 0, .slice none 0 0, .slice none 0 0], .int .i64 10]) ?_ rfl (EntQ.zero HX.out (set5_below (HBW.out w4 HB4.out) (Nat.le_refl _) _ _ _ _ _))
    unfold set5 at c0 c1 c2 c3 c4
    simp only [results, Tryz.results21]
    go_simp
  | true =>
  have HR2 : Hid (∀ x e z, MeetsA s B C z → (((z = false ∨ sayN s l sL = noN ∨ sayN s l kL = noN) ∧ x = en0 ∧ e = 8) ∨ (z = true ∧ sayN s l sL ≠ noN ∧ sayN s l kL ≠ noN ∧ ChaE s l a n o b (sayN s l sL) (sayN s l kL) x e)) → ChaR s l a n o b x e) :=
    hid fun x e z h1 h2 => HR.out _ _ _ _ _ _ _ _ HSD1.out HSD2.out (Or.inr ⟨rfl, rfl, z, h1, h2⟩)
  clear HR HC4 HSD1 HSD2
  go_wp2_with fail
  refine (ref8_S w4).mono ?_
  rintro e w5 ⟨u5, rfl, i5, hb5⟩
  have HB5 := hid (HB4.out.trans (hb5.mono HB4.out.size))
  have H45 := hid hb5
  have HSA := hid (ref8_alikeI vs _ u5 s l sL w5 (HSG.out w5 HB5.out) (HLL.out w5 HB5.out) i5)
  obtain ⟨v5a, v5c, rfl, -⟩ := i5.open
  clear hb5 i5
  go_wp2_with fail
  refine HSA.out.mono ?_
  rintro e w6 ⟨rfl, hb6⟩
  have HB6 := hid (HB5.out.trans (hb6.mono HB5.out.size))
  have H46 := hid (H45.out.trans (hb6.mono H45.out.size))
  clear hb6 HSA
  go_wp2_with fail
  refine (ref8_K w6).mono ?_
  rintro e w7 ⟨u7, rfl, i7, hb7⟩
  have HB7 := hid (HB6.out.trans (hb7.mono HB6.out.size))
  have H47 := hid (H46.out.trans (hb7.mono H46.out.size))
  have HSB := hid (ref8_alikeI vs _ u7 s l kL w7 (HSG.out w7 HB7.out) (HLL.out w7 HB7.out) i7)
  obtain ⟨v7a, v7c, rfl, -⟩ := i7.open
  clear hb7 i7
  go_wp2_with fail
  refine HSB.out.mono ?_
  rintro e w8 ⟨rfl, hb8⟩
  have HB8 := hid (HB7.out.trans (hb8.mono HB7.out.size))
  have H48 := hid (H47.out.trans (hb8.mono H47.out.size))
  have HI0 := hid (alike_name (s := s) (t := sL) HLOK.out)
  have HK0 := hid (alike_name (s := s) (t := kL) HLOK.out)
  obtain ⟨ii, hii⟩ : ∃ ii, sayI s l sL = ii := ⟨_, rfl⟩
  obtain ⟨kk, hkk⟩ : ∃ kk, sayI s l kL = kk := ⟨_, rfl⟩
  rw [hii] at HI0
  rw [hkk] at HK0
  rw [hii]
  rw [hkk]
  have HME := hid (ref2_Meets vs _ _ s B C w8 (HSG.out w8 HB8.out) (HIB4.out.below H48.out) (HIC4.out.below H48.out))
  clear hb8 HSB hii hkk H45 H46 H47 H48 HIB HIB4 HIC4
  go_wp2_with fail
  refine HME.out.mono ?_
  rintro e w9 ⟨z, hz, rfl, hb9⟩
  have HB9 := hid (HB8.out.trans (hb9.mono HB8.out.size))
  have HC9 := hid (HC.out w9 HB9.out)
  have HZ := hid hz
  clear hb9 HME hz
  cases z with
  | false =>
    have HX : Hid (ChaR s l a n o b en0 8) := hid (HR2.out _ _ _ HZ.out (Or.inl ⟨Or.inl rfl, rfl, rfl⟩))
    obtain ⟨c0, c1, c2, c3, c4, z0, z1, z2, z3, z4⟩ := HC9.out
    go_wp2
    (try simp only [Exit.inBlock, Exit.then])
    clear c0 c1 c2 c3 c4 z0 z1 z2 z3 z4
    obtain ⟨c0, c1, c2, c3, c4, -, -, -, -, -⟩ := HC9.out.store (.string ⟨#[]⟩) (.string ⟨#[]⟩) (.slice none 0 0) (.slice none 0 0) (.slice none 0 0)
    refine bodyPost_ret (v := .tuple #[.agg #[.string ⟨#[]⟩, .string ⟨#[]⟩, .slice none 0 0, .slice none 0 0, .slice none 0 0], .int .i64 8]) ?_ rfl (EntQ.zero HX.out (set5_below (HBW.out w9 HB9.out) (Nat.le_refl _) _ _ _ _ _))
    unfold set5 at c0 c1 c2 c3 c4
    simp only [results, Tryz.results21]
    go_simp
  | true =>
  by_cases hI : ii < 0
  case pos =>
    have q1 : decide (ii < 0) = true := by simpa using hI
    have HX : Hid (ChaR s l a n o b en0 8) := hid (HR2.out _ _ _ HZ.out (Or.inl ⟨Or.inr (Or.inl (HI0.out.1 hI)), rfl, rfl⟩))
    clear hI
    obtain ⟨c0, c1, c2, c3, c4, z0, z1, z2, z3, z4⟩ := HC9.out
    go_wp2
    (try simp only [Exit.inBlock, Exit.then])
    clear c0 c1 c2 c3 c4 z0 z1 z2 z3 z4
    obtain ⟨c0, c1, c2, c3, c4, -, -, -, -, -⟩ := HC9.out.store (.string ⟨#[]⟩) (.string ⟨#[]⟩) (.slice none 0 0) (.slice none 0 0) (.slice none 0 0)
    refine bodyPost_ret (v := .tuple #[.agg #[.string ⟨#[]⟩, .string ⟨#[]⟩, .slice none 0 0, .slice none 0 0, .slice none 0 0], .int .i64 8]) ?_ rfl (EntQ.zero HX.out (set5_below (HBW.out w9 HB9.out) (Nat.le_refl _) _ _ _ _ _))
    unfold set5 at c0 c1 c2 c3 c4
    simp only [results, Tryz.results21]
    go_simp
  have q1 : decide (ii < 0) = false := by simpa using hI
  by_cases hK : kk < 0
  case pos =>
    have q2 : decide (kk < 0) = true := by simpa using hK
    have HX : Hid (ChaR s l a n o b en0 8) := hid (HR2.out _ _ _ HZ.out (Or.inl ⟨Or.inr (Or.inr (HK0.out.1 hK)), rfl, rfl⟩))
    clear hK
    obtain ⟨c0, c1, c2, c3, c4, z0, z1, z2, z3, z4⟩ := HC9.out
    go_wp2
    (try simp only [Exit.inBlock, Exit.then])
    clear c0 c1 c2 c3 c4 z0 z1 z2 z3 z4
    obtain ⟨c0, c1, c2, c3, c4, -, -, -, -, -⟩ := HC9.out.store (.string ⟨#[]⟩) (.string ⟨#[]⟩) (.slice none 0 0) (.slice none 0 0) (.slice none 0 0)
    refine bodyPost_ret (v := .tuple #[.agg #[.string ⟨#[]⟩, .string ⟨#[]⟩, .slice none 0 0, .slice none 0 0, .slice none 0 0], .int .i64 8]) ?_ rfl (EntQ.zero HX.out (set5_below (HBW.out w9 HB9.out) (Nat.le_refl _) _ _ _ _ _))
    unfold set5 at c0 c1 c2 c3 c4
    simp only [results, Tryz.results21]
    go_simp
  have q2 : decide (kk < 0) = false := by simpa using hK
  obtain ⟨i, hil, rfl, hiN, hi0⟩ := HI0.out.2 (by omega)
  obtain ⟨k, hkl, rfl, hkN, hk0⟩ := HK0.out.2 (by omega)
  obtain ⟨lb, lo, _, _, _, rfl, m0, -, -, -, -, mE⟩ := LC'.out i hil
  obtain ⟨lb', lo', _, _, _, he', m1, -, -, -, -, mE'⟩ := LC'.out k hkl
  obtain ⟨rfl, rfl⟩ : lb = lb' ∧ lo = lo' := by simpa using he'
  have hbw9 := HBW.out w9 HB9.out
  have n0 := (hbw9.cell (World.block_lt_of_cell? _ _ m0)).trans m0
  have n1 := (hbw9.cell (World.block_lt_of_cell? _ _ m1)).trans m1
  have his := mE.n1
  have hks := mE'.n1
  obtain ⟨I, hIe⟩ : ∃ I, l[i].name = I := ⟨_, rfl⟩
  obtain ⟨K, hKe⟩ : ∃ K, l[k].name = K := ⟨_, rfl⟩
  rw [hIe] at n0 his hiN
  rw [hKe] at n1 hks hkN
  rw [hiN, hkN] at HR2 HG4
  rw [hiN] at hi0
  rw [hkN] at hk0
  obtain ⟨g, hg⟩ := HG4.out hi0 hk0
  have HR3 : Hid (∀ x e, ChaE s l a n o b I K x e → ChaR s l a n o b x e) := hid fun x e h => HR2.out _ _ _ HZ.out (Or.inr ⟨rfl, hi0, hk0, h⟩)
  have HG := hid hg
  have HI1 := hid hi0
  have HK1 := hid hk0
  clear hI hK hg HR2 HG4 HC9 HI0 HK0 he' m0 m1 mE mE' hIe hKe hiN hkN hi0 hk0 LC' hbw9
  have CX := hid (C5.new w9 (.string o) (.string b) (.slice none 0 0) (.slice none 0 0) (.slice none 0 0) 35)
  obtain ⟨WX, hWX⟩ : ∃ WX, w9.alloc (.cells #[.string o, .string b, .slice none 0 0, .slice none 0 0, .slice none 0 0] 35) = WX := ⟨_, rfl⟩
  have hb9x : Below w9.heap.size w9 WX := hWX ▸ (Below.refl _ _).alloc (Nat.le_refl _) _
  have hzx : WX.heap.size = w9.heap.size + 1 := by rw [← hWX]; simp
  rw [hWX] at CX
  have p0 := (hb9x.cell (World.block_lt_of_cell? _ _ n0)).trans n0
  have p1 := (hb9x.cell (World.block_lt_of_cell? _ _ n1)).trans n1
  have HWX := hid hWX
  have HBX := hid hb9x
  have HZX := hid hzx
  have HN01 := hid (And.intro n0 n1)
  clear hWX hb9x hzx n0 n1
  go_wp2
  rw [HWX.out]
  go_region
  obtain ⟨WA, hWA⟩ : ∃ WA, (WX.alloc (.cells #[.string a, .string n, .string I, .string K] 9)).drew = WA := ⟨_, rfl⟩
  rw [hWA]
  have hza : WA.heap.size = WX.heap.size + 1 := by rw [← hWA]; show (WX.alloc _).heap.size = _; simp
  have hbA : Below WX.heap.size WX WA := hWA ▸ (show Below WX.heap.size WX (WX.alloc (.cells #[.string a, .string n, .string I, .string K] 9)).drew from below_drewN (show Below WX.heap.size WX (WX.alloc (.cells #[.string a, .string n, .string I, .string K] 9)) from (Below.refl _ _).alloc (Nat.le_refl _) _) 1)
  have HAC : Hid (∀ j (h : j < 4), WA.cell? ⟨WX.heap.size, j, none⟩ = some (.string (([a, n, I, K] : List Nm)[j]))) := hid (fun j h => by
    rw [← hWA]
    show (WX.alloc _).cell? _ = _
    rw [World.cell?_alloc_new]
    match j, h with
    | 0, _ => rfl
    | 1, _ => rfl
    | 2, _ => rfl
    | 3, _ => rfl)
  have HBA9 := hid (HBX.out.trans (hbA.mono HBX.out.size))
  have CXA := hid (CX.out.below hbA)
  have HZA := hid hza
  obtain ⟨ns, hns⟩ : ∃ ns, ([a, n, I, K] : List Nm) = ns := ⟨_, rfl⟩
  have hnl : ns.length = 4 := by rw [← hns]; rfl
  have HNM4 : Hid (∀ x ∈ ns, x.size ≤ 140737488355328) := hid (fun x hx => by
    rw [← hns] at hx
    simp at hx
    rcases hx with rfl | rfl | rfl | rfl
    · exact ha
    · exact hn
    · exact his
    · exact hks)
  have HAC : Hid (∀ j (h : j < ns.length), WA.cell? ⟨WX.heap.size, j, none⟩ = some (.string ns[j])) := hid (by subst hns; exact HAC.out)
  have HNS := hid hns
  have hown0 := hid (World.ownsRow_nil WA WA.heap.size 9 1)
  clear hWA hza hbA p0 p1 hns q1 q2
  go_wp2
  go_loopw [127] (fun jv wr => ∃ (j : Nat) (uU : Value), j ≤ 4 ∧ jv = .int .i64 j ∧ C5 wr w9.heap.size (.string o) (.string b) (.slice none 0 0) uU (.slice none 0 0) ∧ wr.ownsRow WA.heap.size 9 1 uU (usedL (ns.take j)).length ((usedL (ns.take j)).map Value.string) ∧ wr.heap[WX.heap.size]? = WA.heap[WX.heap.size]? ∧ Below w9.heap.size w9 wr ∧ WA.heap.size ≤ wr.heap.size) (fun jv _ => 4 - (intOf jv).toNat)
  case atStart => exact ⟨0, _, by omega, rfl, CXA.out, hown0.out, rfl, HBA9.out, Nat.le_refl _⟩
  case round =>
    clear hown0
    obtain ⟨j, uU, hj, rfl, hC, hown, hblk, hb, hsz⟩ := hrel
    obtain ⟨f1, f2, -⟩ := usedL_facts (ns.take j)
    have hT : TxtsAt wr uU (usedL (ns.take j)) := ⟨RowK.of_owns hown (by rw [List.length_take] at f1; omega), fun x hx => HNM4.out x (List.mem_of_mem_take ((f2 x).1 hx))⟩
    by_cases hlt : j < 4
    · have hltn : j < ns.length := by omega
      have c1 := (World.cell?_of_block (a := ⟨WX.heap.size, j, none⟩) hblk).trans (HAC.out j hltn)
      have hst := usedL_take ns hltn
      obtain ⟨x, hx⟩ : ∃ x, ns[j] = x := ⟨_, rfl⟩
      rw [hx] at c1 hst
      have hlen : (usedL (ns.take j)).length ≤ j := by rw [List.length_take] at f1; omega
      obtain ⟨U, hU⟩ : ∃ U, usedL (ns.take j) = U := ⟨_, rfl⟩
      rw [hU] at hT hst hown hlen
      have HCT := hid (ref6_Has uU U x wr hT)
      obtain ⟨xa, xc, rfl⟩ := owns_slice hown
      have HB := hid hb
      have HOWN := hid hown
      have HCC := hid hC
      have HBLK := hid hblk
      have c3 := hC.c3
      clear hx hU f1 f2 hT hb hown hC hblk
      cases g : hasN U x
      · have HST : Hid (usedL (ns.take (j + 1)) = U ++ [x]) := hid (by rw [hst, g]; rfl)
        rw [g] at HCT
        clear hst g
        have hbl := (show Below wr.heap.size wr (wr.alloc (.cells #[.string x] 9)) from (Below.refl _ _).alloc (Nat.le_refl _) _)
        have HCA := hid (HCC.out.below hbl)
        have HLT := hid HOWN.out.lt
        clear hbl
        go_wp2_with (first
          | (go_at_call 78; refine HCT.out.mono ?_; rintro e w' ⟨rfl, rfl⟩)
          | (at_builtin; refine wpList_append_row rfl _ _ 32 rfl WA.heap.size 9 el_str Tryz.underlying32 rfl (by decide) _ _ _ rfl (HOWN.out.alloc _) _ 1 [.string x] rfl (row_one_new _ _ _) (oneCell_one rfl) (by omega) (by omega) (by have := HZX.out; have := HZA.out; simp; omega) ?_; intro v' w4 hown4 hgrow4 _; obtain ⟨x3, y3, he3⟩ := owns_slice hown4; subst he3; have hCg := HCA.out.block (hgrow4.block w9.heap.size (by have := HZX.out; have := HZA.out; simp; omega) (fun e => by have := HZX.out; have := HZA.out; have := (HLT.out _ e.symm).1; omega)); have HCG := hid hCg; obtain ⟨c0', c1', c2', c3', c4', z0, z1, z2, z3, z4⟩ := hCg))
        go_roundw
        case rel =>
          have hzx1 := HZX.out
          have hza1 := HZA.out
          have hgs := hgrow4.size
          simp at hgs
          refine ⟨j + 1, _, by omega, by go_num, HCG.out.put3 _, ?_, ?_, (((HB.out.alloc (by omega) _).grown hgrow4 (by simp; omega) (fun q hq => by have := (HLT.out q hq).1; omega)).setCell (p := ⟨w9.heap.size, 3, none⟩) (Nat.le_refl _) _), by simp; omega⟩
          · rw [HST.out]
            have := owns_setCell hown4 (a := ⟨w9.heap.size, 3, none⟩) (by show w9.heap.size < WA.heap.size; omega) (.slice x3 (U.length + 1) y3)
            simpa using this
          · rw [Below.heap_setCell _ _ _ _ (by show WX.heap.size ≠ w9.heap.size; omega), hgrow4.block WX.heap.size (by simp; omega) (fun e => by have := (HLT.out _ e.symm).1; omega), Below.heap_alloc _ _ _ (by omega)]
            exact HBLK.out
        case measure => simp [intOf]; omega
      · have HST : Hid (usedL (ns.take (j + 1)) = U) := hid (by rw [hst, g]; rfl)
        rw [g] at HCT
        clear hst g
        go_wp2_with (first
          | (go_at_call 78; refine HCT.out.mono ?_; rintro e w' ⟨rfl, rfl⟩))
        go_roundw
        case rel => exact ⟨j + 1, _, by omega, by go_num, HCC.out, by rw [HST.out]; exact HOWN.out, HBLK.out, HB.out, hsz⟩
        case measure => simp [intOf]; omega
    · have hj4 : j = 4 := by omega
      subst hj4
      obtain ⟨wq, hwq⟩ : ∃ wq, wq = wr := ⟨_, rfl⟩
      subst hwq
      rw [List.take_of_length_le (by omega), ← HNS.out] at hown hT f1 f2
      obtain ⟨-, -, f3⟩ := usedL_facts [a, n, I, K]
      have hul : (usedL [a, n, I, K]).length ≤ 4 := by simpa using f1
      obtain ⟨U, hU⟩ : ∃ U, usedL [a, n, I, K] = U := ⟨_, rfl⟩
      have HR4 : Hid (∀ y x e, SayP s g (chP U I K n a) y → ((y.2 ≠ 0 ∧ x = en0 ∧ e = 4) ∨ (y.2 = 0 ∧ x = ⟨o, b, y.1, U, chP U I K n a⟩ ∧ e = 0)) → ChaR s l a n o b x e) := hid (fun y x e h1 h2 => HR3.out x e (by
        unfold ChaE
        rw [hU]
        exact ⟨g, y, by rw [← hU]; exact HG.out, h1, h2⟩))
      rw [hU] at hown hT HG f2 f3 hul
      have HND := hid f3
      have HMI : Hid (I ∈ U ∧ K ∈ U ∧ n ∈ U ∧ a ∈ U) := hid ⟨(f2 I).2 (by simp), (f2 K).2 (by simp), (f2 n).2 (by simp), (f2 a).2 (by simp)⟩
      have HN0 : Hid (noN ∉ U) := hid (fun h => by
        have h0 : nmB noN = false := by decide
        have := (f2 noN).1 h
        simp at this
        rcases this with e | e | e | e
        · rw [e, HNZ.out.1] at h0; cases h0
        · rw [e, HNZ.out.2] at h0; cases h0
        · exact HI1.out e.symm
        · exact HK1.out e.symm)
      obtain ⟨ua, uc, huu, hgo⟩ := owns_open hown
      subst huu
      obtain ⟨gb, rfl, hgb⟩ := hgo (List.length_pos_of_mem HMI.out.1)
      have HGB := hid (hown.lt gb rfl)
      have hbX : Below w9.heap.size w9 wq := hb
      have p0 := (hb.cell (World.block_lt_of_cell? _ _ HN01.out.1)).trans HN01.out.1
      have p1 := (hb.cell (World.block_lt_of_cell? _ _ HN01.out.2)).trans HN01.out.2
      have HB := hid hb
      have HOWN := hid hown
      have HT := hid hT
      have HCC := hid hC
      clear hb hown hT hC hblk hbX hU hgo hgb f1 f2 f3 HR3 HI1 HK1 HAC HNM4 HNS
      go_wp2
      go_region
      obtain ⟨WC, hWC⟩ : ∃ WC, (wq.alloc (.cells #[.string I, .string K, .string n, .string ⟨#[]⟩, .string ⟨#[]⟩, .string a, .string ⟨#[]⟩] 9)).drew = WC := ⟨_, rfl⟩
      rw [hWC]
      have hbc : Below wq.heap.size wq WC := hWC ▸ (show Below wq.heap.size wq (wq.alloc (.cells #[.string I, .string K, .string n, .string ⟨#[]⟩, .string ⟨#[]⟩, .string a, .string ⟨#[]⟩] 9)).drew from below_drewN (show Below wq.heap.size wq (wq.alloc (.cells #[.string I, .string K, .string n, .string ⟨#[]⟩, .string ⟨#[]⟩, .string a, .string ⟨#[]⟩] 9)) from (Below.refl _ _).alloc (Nat.le_refl _) _) 1)
      have hzc : WC.heap.size = wq.heap.size + 1 := by rw [← hWC]; show (wq.alloc _).heap.size = _; simp
      have HCT : Hid (∀ k (h : k < 7), WC.cell? ⟨wq.heap.size, k, none⟩ = some (.string ((ctL I K n a).getD k noN))) := hid (fun k h => by
        rw [← hWC]
        show (wq.alloc _).cell? _ = _
        rw [World.cell?_alloc_new]
        match k, h with
        | 0, _ => rfl
        | 1, _ => rfl
        | 2, _ => rfl
        | 3, _ => rfl
        | 4, _ => rfl
        | 5, _ => rfl
        | 6, _ => rfl)
      have hbp : Below WC.heap.size WC (WC.alloc (.cells #[.int .i64 1, .int .i64 0, .int .i64 0, .int .i64 1, .int .i64 0, .int .i64 0, .int .i64 1, .int .i64 0, .int .i64 0, .int .i64 2, .int .i64 1, .int .i64 2, .int .i64 2, .int .i64 0, .int .i64 3, .int .i64 1, .int .i64 0, .int .i64 0, .int .i64 2, .int .i64 4, .int .i64 5] 76)) := (Below.refl _ _).alloc (Nat.le_refl _) _
      have hCP := (HCC.out.below hbc).below hbp
      have HCQ := hid (hCP.set4 (.slice (some ⟨WC.heap.size, 0, none⟩) 7 7))
      obtain ⟨c0, c1, c2, c3, c4, z0, z1, z2, z3, z4⟩ := hCP
      obtain ⟨WB, hWB⟩ : ∃ WB, (WC.alloc (.cells #[.int .i64 1, .int .i64 0, .int .i64 0, .int .i64 1, .int .i64 0, .int .i64 0, .int .i64 1, .int .i64 0, .int .i64 0, .int .i64 2, .int .i64 1, .int .i64 2, .int .i64 2, .int .i64 0, .int .i64 3, .int .i64 1, .int .i64 0, .int .i64 0, .int .i64 2, .int .i64 4, .int .i64 5] 76)).setCell ⟨w9.heap.size, 4, none⟩ (.slice (some ⟨WC.heap.size, 0, none⟩) 7 7) = WB := ⟨_, rfl⟩
      have hbx9 : w9.heap.size < wq.heap.size := by have := HZX.out; have := HZA.out; omega
      have hSR : Hid (StR WB WB WC.heap.size (runA U I K n a 0 0)) := hid (by
        have hne : w9.heap.size ≠ WC.heap.size := by omega
        have hcl : ∀ o, WB.cell? ⟨WC.heap.size, o, none⟩ = (#[.int .i64 1, .int .i64 0, .int .i64 0, .int .i64 1, .int .i64 0, .int .i64 0, .int .i64 1, .int .i64 0, .int .i64 0, .int .i64 2, .int .i64 1, .int .i64 2, .int .i64 2, .int .i64 0, .int .i64 3, .int .i64 1, .int .i64 0, .int .i64 0, .int .i64 2, .int .i64 4, .int .i64 5] : Array Value)[o]? := fun o => by
          rw [← hWB, World.cell?_setCell_other _ _ _ _ (fun e => hne (by injection e)), World.cell?_alloc_new]
        refine ⟨fun q _ => rfl, rfl, fun i hi => ?_, fun o => by rw [← hWB, World.frozen?_setCell]; exact World.frozen?_alloc_new _ _ _ _, Below.refl _ _⟩
        rw [hcl, hcl, hcl]
        match i, hi with
        | 0, _ => exact ⟨rfl, rfl, rfl⟩
        | 1, _ => exact ⟨rfl, rfl, rfl⟩
        | 2, _ => exact ⟨rfl, rfl, rfl⟩
        | 3, _ => exact ⟨rfl, rfl, rfl⟩
        | 4, _ => exact ⟨rfl, rfl, rfl⟩
        | 5, _ => exact ⟨rfl, rfl, rfl⟩
        | 6, _ => exact ⟨rfl, rfl, rfl⟩)
      have HBB : Hid (Below w9.heap.size w9 WB) := hid (hWB ▸ (((HB.out.trans (hbc.mono (by omega))).trans (hbp.mono (by omega))).setCell (p := ⟨w9.heap.size, 4, none⟩) (Nat.le_refl _) _))
      have HWB := hid hWB
      rw [hWB] at HCQ
      have HSB : Hid (∀ q, q < WC.heap.size → q ≠ w9.heap.size → WB.heap[q]? = WC.heap[q]?) := hid (fun q h1 h2 => by
        rw [← hWB, Below.heap_setCell _ _ _ _ h2, Below.heap_alloc _ _ _ h1])
      have HOB : Hid (WB.ownsRow WA.heap.size 9 1 (.slice (some ⟨gb, 0, none⟩) U.length uc) U.length (U.map Value.string)) := hid (hWB ▸ owns_setCell (owns_below (owns_below HOWN.out hbc) hbp) (a := ⟨w9.heap.size, 4, none⟩) (by have := HZX.out; have := HZA.out; show w9.heap.size < WA.heap.size; omega) _)
      have HZC := hid hzc
      have HX9 := hid hbx9
      have HTB : Hid (TxtsAt WB (.slice (some ⟨gb, 0, none⟩) U.length uc) U) := hid ⟨RowK.of_owns HOB.out (by omega), HT.out.2⟩
      clear hWB hWC hbc hbp p0 p1 hzc hbx9
      go_wp2
      rw [HWB.out]
      clear c0 c1 c2 c3 c4 z0 z1 z2 z3 z4
      go_loopw [27] (fun kv w2' => ∃ (k : Nat), k ≤ 7 ∧ kv = .int .i64 k ∧ StR WB w2' WC.heap.size (runA U I K n a k 0)) (fun kv _ => 7 - (intOf kv).toNat)
      case atStart => exact ⟨0, by omega, rfl, hSR.out⟩
      case round =>
        clear hSR
        obtain ⟨k, hk, rfl, hS⟩ := hrel
        have HS := hid hS
        clear hS
        by_cases hlt : k < 7
        · have hc7 := (World.cell?_of_block (a := ⟨wq.heap.size, k, none⟩) (HSB.out wq.heap.size (by have := HZC.out; omega) (by have := HX9.out; omega))).trans (HCT.out k hlt)
          obtain ⟨c, hc⟩ : ∃ c, (ctL I K n a).getD k noN = c := ⟨_, rfl⟩
          rw [hc] at hc7
          have HCE := hid hc
          have HC7 := hid hc7
          clear hc hc7
          go_wp2
          go_loopw [28] (fun jv w3' => ∃ (j : Nat), j ≤ U.length ∧ jv = .int .i64 j ∧ StR WB w3' WC.heap.size (runA U I K n a k j)) (fun jv _ => U.length - (intOf jv).toNat)
          case atStart => exact ⟨0, by omega, rfl, HS.out⟩
          case round =>
            obtain ⟨j, hj, rfl, hS⟩ := hrel
            have hX := (HCQ.out.block (hS.same w9.heap.size (by have := HZC.out; have := HX9.out; omega)))
            have d3 := hX.c3
            have d4 := hX.c4
            have e7 := (World.cell?_of_block (a := ⟨wq.heap.size, k, none⟩) (hS.same wq.heap.size (by have := HZC.out; omega))).trans HC7.out
            by_cases hlj : j < U.length
            · obtain ⟨a5, c5, hv5, -, -, -, UC⟩ := HTB.out.open
              simp only [Value.slice.injEq] at hv5
              obtain ⟨hv5, -, -⟩ := hv5
              obtain ⟨b5, o5, he5, u5⟩ := UC j hlj
              rw [← hv5] at he5
              simp only [Option.some.injEq, Addr.mk.injEq, and_true] at he5
              obtain ⟨he5, he6⟩ := he5
              rw [← he5, ← he6] at u5
              have hne5 : gb ≠ WC.heap.size := by have := HGB.out.2; have := HZC.out; omega
              rw [Nat.zero_add] at u5
              have u6 := (World.cell?_of_block (a := ⟨gb, j, none⟩) (hS.same gb hne5)).trans u5
              have hgd : U.getD j ByteArray.empty = U[j] := by rw [List.getD_eq_getElem?_getD, List.getElem?_eq_getElem hlj]; rfl
              obtain ⟨y, hy⟩ : ∃ y, U[j] = y := ⟨_, rfl⟩
              rw [hy] at u6 hgd
              obtain ⟨s1, s2, s3⟩ := hS.cell k hlt
              have s4 := hS.fz (k * 3 + 1)
              have HSS := hid hS
              have HGD := hid hgd
              clear UC u5 hne5 hy hgd hS hX hv5 he5 he6
              by_cases hyc : y = c
              · have q1 : (y.toList == c.toList) = true := by rw [bytes_eq]; exact decide_eq_true hyc
                have HHIT := hid (fun (m : Nat) => (HSS.out.drewN m).hit hlt (by rw [HGD.out, HCE.out]; exact hyc))
                clear hyc
                go_wp2
                go_quiet (fail)
                go_wp2
                go_roundw
                case rel => exact ⟨j + 1, by omega, by go_num, HHIT.out _⟩
                case measure => simp [intOf]; omega
              · have q1 : (y.toList == c.toList) = false := by rw [bytes_eq]; exact decide_eq_false hyc
                have HMIS := hid (fun (m : Nat) => (HSS.out.drewN m).miss (by rw [HGD.out, HCE.out]; exact hyc))
                clear hyc
                go_wp2
                go_quiet (fail)
                go_wp2
                go_roundw
                case rel => exact ⟨j + 1, by omega, by go_num, HMIS.out _⟩
                case measure => simp [intOf]; omega
            · have hjl : j = U.length := by omega
              subst hjl
              have HSN := hid hS.next
              clear hS hX
              go_wp2
              go_roundw
              case rel => exact ⟨k + 1, by omega, by go_num, HSN.out⟩
              case measure => simp [intOf]; omega
        · have hk7 : k = 7 := by omega
          subst hk7
          have hST := HS.out.steps HND.out HMI.out.1 HMI.out.2.1 HMI.out.2.2.1 HMI.out.2.2.2 HN0.out
          have hX := HCQ.out.block (HS.out.same w9.heap.size (by have := HZC.out; have := HX9.out; omega))
          have hTU : TxtsAt wr (.slice (some ⟨gb, 0, none⟩) U.length uc) U := ⟨rowK_block HTB.out.1 (HS.out.same gb (by have := HGB.out.2; have := HZC.out; omega)), HTB.out.2⟩
          have hb9r : Below w9.heap.size w9 wr := HBB.out.trans (HS.out.bel.mono (by have := HZC.out; have := HX9.out; omega))
          have HBWr := hid (HB9.out.trans (hb9r.mono HB9.out.size))
          have HGV := hid (ref6_Givens _ (.slice none 0 0) (.slice (some ⟨gb, 0, none⟩) U.length uc) (.slice (some ⟨WC.heap.size, 0, none⟩) 7 7) l ⟨o, b, [], U, chP U I K n a⟩ wr (HLL.out wr HBWr.out) ⟨Ints.nil _, hTU, hST, ho, hbn⟩ (by show U.length ≤ 1000; omega))
          have HSZ := hid HS.out.size
          have HXr := hid hX
          have HTU := hid hTU
          have HSTr := hid hST
          obtain ⟨c0, c1, c2, c3, c4, z0, z1, z2, z3, z4⟩ := hX
          clear hTU hST hb9r HS HCQ HTB HOB HSB HCT HWB
          go_wp2_with fail
          refine HGV.out.mono ?_
          rintro e x1 ⟨u1, ts, z, hz, rfl, hT1, hb1⟩
          obtain ⟨rfl, rfl⟩ : ts = g ∧ z = true := by
            rcases hz with ⟨h, -, -⟩ | ⟨h, h2⟩
            · rw [HG.out] at h; cases h
            · rw [HG.out] at h; cases h; exact ⟨rfl, h2⟩
          have HB1r := hid hb1
          have HBW1 := hid (HBWr.out.trans (hb1.mono HBWr.out.size))
          have HX1 := hid (HXr.out.below hb1)
          have HKS2 := hid (ref4_Says vs u1 _ s ts (chP U I K n a) x1 (HSG.out x1 HBW1.out) hT1 (HSTr.out.below hb1))
          obtain ⟨ta18, tc18, rfl, -⟩ := hT1.open
          have e4 := HX1.out.c4
          clear c0 c1 c2 c3 c4 z0 z1 z2 z3 z4 hz hb1 hT1 HGV
          go_wp2_with fail
          refine HKS2.out.mono ?_
          rintro e x2 ⟨y, uy, hsay, rfl, iy, hb2⟩
          obtain ⟨yt, ye⟩ := y
          dsimp only at iy
          obtain ⟨yya, yyc, rfl, -⟩ := iy.open
          have HIY := hid iy
          have HBW2 := hid (HBW1.out.trans (hb2.mono HBW1.out.size))
          have HBr2 := hid (HB1r.out.trans (hb2.mono HB1r.out.size))
          have HX2 := hid (HX1.out.below hb2)
          have HSAYP := hid hsay
          have HC2 := hid (HC.out x2 HBW2.out)
          clear e4 hsay iy hb2 HKS2
          by_cases hy0 : ye = 0
          case neg =>
            have n0 : (ye != 0) = true := by simpa using hy0
            have HX : Hid (ChaR s l a n o b en0 4) := hid (HR4.out _ _ _ HSAYP.out (Or.inl ⟨hy0, rfl, rfl⟩))
            clear hy0
            obtain ⟨c0, c1, c2, c3, c4, z0, z1, z2, z3, z4⟩ := HC2.out
            go_wp2
            (try simp only [Exit.inBlock, Exit.then])
            clear c0 c1 c2 c3 c4 z0 z1 z2 z3 z4
            obtain ⟨c0, c1, c2, c3, c4, -, -, -, -, -⟩ := HC2.out.store (.string ⟨#[]⟩) (.string ⟨#[]⟩) (.slice none 0 0) (.slice none 0 0) (.slice none 0 0)
            refine bodyPost_ret (v := .tuple #[.agg #[.string ⟨#[]⟩, .string ⟨#[]⟩, .slice none 0 0, .slice none 0 0, .slice none 0 0], .int .i64 4]) ?_ rfl (EntQ.zero HX.out (set5_below (HBW.out x2 HBW2.out) (Nat.le_refl _) _ _ _ _ _))
            unfold set5 at c0 c1 c2 c3 c4
            simp only [results, Tryz.results21]
            go_simp
          subst hy0
          have HX : Hid (ChaR s l a n o b ⟨o, b, yt, U, chP U I K n a⟩ 0) := hid (HR4.out _ _ _ HSAYP.out (Or.inr ⟨rfl, rfl, rfl⟩))
          have CZ := hid (HX2.out.set2 (.slice yya yt.length yyc))
          obtain ⟨Z, hZ⟩ : ∃ Z, x2.setCell ⟨w9.heap.size, 2, none⟩ (.slice yya yt.length yyc) = Z := ⟨_, rfl⟩
          have HBWZ := hid (show Below W.heap.size W Z from hZ ▸ HBW2.out.setCell (p := ⟨w9.heap.size, 2, none⟩) (by show W.heap.size ≤ w9.heap.size; exact HB9.out.size) _)
          have HIZ := hid (show Ints Z (.slice yya yt.length yyc) yt from hZ ▸ ints_set (b := w9.heap.size) (k := 2) HIY.out HX2.out.c2 (by simp))
          have HGZ := hid (fun (k : Nat) (hk : k ≠ w9.heap.size) => (show Z.heap[k]? = x2.heap[k]? from hZ ▸ Below.heap_setCell _ _ _ _ hk))
          rw [hZ] at CZ
          have HCZ := hid (HC.out Z HBWZ.out)
          have HZE := hid hZ
          obtain ⟨d0, d1, d2, d3, d4, k0, k1, k2, k3, k4⟩ := HX2.out
          obtain ⟨c0, c1, c2, c3, c4, z0, z1, z2, z3, z4⟩ := HCZ.out
          obtain ⟨g0, g1, g2, g3, g4, -, -, -, -, -⟩ := CZ.out
          rw [← HZE.out] at c0 c1 c2 c3 c4 z0 z1 z2 z3 z4 g0 g1 g2 g3 g4
          clear hZ
          go_wp2
          (try simp only [Exit.inBlock, Exit.then])
          rw [HZE.out]
          clear c0 c1 c2 c3 c4 z0 z1 z2 z3 z4 d0 d1 d2 d3 d4 k0 k1 k2 k3 k4 g0 g1 g2 g3 g4
          have hzc1 := HZC.out
          have hx91 := HX9.out
          have hgb1 := HGB.out
          have hsz1 := HSZ.out
          have hzx1 := HZX.out
          have hza1 := HZA.out
          have h9z := HB9.out.size
          have hwz1 := HWZ.out
          have hbbz := HBB.out.size
          have hltC : WC.heap.size < wr.heap.size := by
            obtain ⟨_, _, e, -, -, -, hcc⟩ := HSTr.out.open
            simp only [Value.slice.injEq] at e
            obtain ⟨rfl, -, -⟩ := e
            obtain ⟨b6, o6, e6, k6, -⟩ := hcc 0 (by simp [chP])
            obtain ⟨rfl, rfl⟩ : b6 = WC.heap.size ∧ o6 = 0 := by simpa using e6.symm
            exact World.block_lt_of_cell? _ _ k6
          have hall : ∀ k, k ≠ w.heap.size → k ≠ w9.heap.size → k < wr.heap.size → (set5 Z w.heap.size (.string o) (.string b) (.slice yya yt.length yyc) (.slice (some ⟨gb, 0, none⟩) U.length uc) (.slice (some ⟨WC.heap.size, 0, none⟩) 7 7)).heap[k]? = wr.heap[k]? := fun k h1 h2 h3 => by
            rw [heap_set5 _ _ _ _ _ _ _ h1, HGZ.out k h2, HBr2.out.block k h3]
          have r1 : Ints (set5 Z w.heap.size (.string o) (.string b) (.slice yya yt.length yyc) (.slice (some ⟨gb, 0, none⟩) U.length uc) (.slice (some ⟨WC.heap.size, 0, none⟩) 7 7)) (.slice yya yt.length yyc) yt := ints_set5 HIZ.out HCZ.out (by simp) (by simp) (by simp) (by simp) (by simp) _ _ _ _ _
          have r2 : TxtsAt (set5 Z w.heap.size (.string o) (.string b) (.slice yya yt.length yyc) (.slice (some ⟨gb, 0, none⟩) U.length uc) (.slice (some ⟨WC.heap.size, 0, none⟩) 7 7)) (.slice (some ⟨gb, 0, none⟩) U.length uc) U := ⟨rowK_block HTU.out.1 (hall gb (by omega) (by omega) (by omega)), HTU.out.2⟩
          have r3 : StepsAt (set5 Z w.heap.size (.string o) (.string b) (.slice yya yt.length yyc) (.slice (some ⟨gb, 0, none⟩) U.length uc) (.slice (some ⟨WC.heap.size, 0, none⟩) 7 7)) (.slice (some ⟨WC.heap.size, 0, none⟩) 7 7) (chP U I K n a) := rowK_block HSTr.out (hall _ (by omega) (by omega) hltC)
          obtain ⟨c0, c1, c2, c3, c4, -, -, -, -, -⟩ := HCZ.out.store (.string o) (.string b) (.slice yya yt.length yyc) (.slice (some ⟨gb, 0, none⟩) U.length uc) (.slice (some ⟨WC.heap.size, 0, none⟩) 7 7)
          refine bodyPost_ret (v := .tuple #[.agg #[.string o, .string b, .slice yya yt.length yyc, .slice (some ⟨gb, 0, none⟩) U.length uc, .slice (some ⟨WC.heap.size, 0, none⟩) 7 7], .int .i64 0]) ?_ rfl (EntQ.mk ⟨o, b, yt, U, chP U I K n a⟩ (.slice yya yt.length yyc) (.slice (some ⟨gb, 0, none⟩) U.length uc) (.slice (some ⟨WC.heap.size, 0, none⟩) 7 7) 0 HX.out rfl ⟨r1, r2, r3, ho, hbn⟩ (set5_below (HBW.out Z HBWZ.out) (Nat.le_refl _) _ _ _ _ _))
          unfold set5 at c0 c1 c2 c3 c4
          clear r1 r2 r3 hall hzc1 hx91 hgb1 hsz1 hzx1 hza1 h9z hwz1 hbbz hltC
          simp only [results, Tryz.results21]
          go_simp
end Go.Proofs.YtpflkjldapmgdaaGreat
namespace Go.Proofs.YtpflkjldapmgdaaGreat
open Go Go.RowKit Go.Maps
theorem EntAt.slicesC {w : World} {vS vU vP : Value} {x : En} (h : EntAt w vS vU vP x) : ∃ a1 k1 a2 k2 a3 k3, vS = .slice a1 x.says.length k1 ∧ vU = .slice a2 x.uses.length k2 ∧ vP = .slice a3 x.proof.length k3 := by
  obtain ⟨a1, k1, h1, -⟩ := h.s.open
  obtain ⟨a2, k2, h2, -⟩ := h.u.open
  obtain ⟨a3, k3, h3, -⟩ := h.p.open
  exact ⟨a1, k1, a2, k2, a3, k3, h1, h2, h3⟩
set_option maxHeartbeats 8000000 in
set_option maxRecDepth 100000 in
theorem walk_CarryChains (vs vl : Value) (s : Sg) (l : List En) (a n o b : Nm) (w : World) (hs : SignAt w vs s) (hl : EntsAt w vl l) (ha : a.size ≤ 140737488355328) (hn : n.size ≤ 140737488355328) (ho : o.size ≤ 140737488355328) (hbn : b.size ≤ 140737488355328) :
    Calls Tryz.prog 4 #[vs, vl, .string a, .string n, .string o, .string b] w fun e w' => e = .returned (.bool true) ∧ Below w.heap.size w w' := by
  have HSG := hid hs
  have HLL := hid hl
  clear hs hl
  go_enter Tryz.func4, Tryz.ntmps4
  go_wp2_with fail
  refine (law8_awake w).mono ?_
  rintro e w1 ⟨rfl, hb1⟩
  go_wp2_with fail
  refine (law8_heavy vs vl s l w1 (HSG.out.below hb1) (HLL.out.below hb1)).mono ?_
  rintro e w2 ⟨z, rfl, hz, hb2'⟩
  have hb2 := hb1.trans (hb2'.mono hb1.size)
  clear hb1 hb2'
  cases z
  case true =>
    clear hz
    go_wp2
    go_ret
    exact ⟨rfl, hb2⟩
  obtain ⟨hs20, hl100⟩ := hz rfl
  clear hz
  by_cases e1 : (a.size : Int) > 100
  · go_wp2
    go_ret
    exact ⟨rfl, hb2⟩
  by_cases e2 : (n.size : Int) > 100
  · go_wp2
    go_ret
    exact ⟨rfl, hb2⟩
  by_cases e3 : (o.size : Int) > 100
  · go_wp2
    go_ret
    exact ⟨rfl, hb2⟩
  by_cases e4 : (b.size : Int) > 100
  · go_wp2
    go_ret
    exact ⟨rfl, hb2⟩
  have HS1 := hid (show s.length ≤ 1000 by omega)
  have HL1 := hid (show l.length ≤ 1000 by omega)
  clear hs20 hl100
  have HB2 := hid hb2
  clear hb2
  go_wp2_with fail
  refine (carry_Chain vs vl s l a n o b w2 (HSG.out.below HB2.out) (HLL.out.below HB2.out) HS1.out HL1.out ha hn ho hbn).mono ?_
  rintro e w5 ⟨x, vS, vU, vP, r2, hm1, rfl, hE1, hb5⟩
  obtain ⟨a1, k1, a2, k2, a3, k3, rfl, rfl, rfl⟩ := hE1.slicesC
  have HB5 := hid (HB2.out.trans (hb5.mono HB2.out.size))
  have HE1 := hid hE1
  have EB5 := EB.new w5 x (.slice a1 x.says.length k1) (.slice a2 x.uses.length k2) (.slice a3 x.proof.length k3) 35
  obtain ⟨W5, hW5⟩ : ∃ W5, w5.alloc (.cells #[.string x.name, .string x.who, .slice a1 x.says.length k1, .slice a2 x.uses.length k2, .slice a3 x.proof.length k3] 35) = W5 := ⟨_, rfl⟩
  have hb55 : Below w5.heap.size w5 W5 := hW5 ▸ (Below.refl _ _).alloc (Nat.le_refl _) _
  rw [hW5] at EB5
  have HW5 := hid hW5
  have HB55 := hid hb55
  have HE5 := hid EB5
  have HBW5 := hid (HB5.out.trans (hb55.mono HB5.out.size))
  clear hb5 hb55 hE1 EB5 hW5
  go_wp2_with fail
  rw [HW5.out]
  refine (ref8_Chain vs vl s l a n o b W5 (HSG.out.below HBW5.out) (HLL.out.below HBW5.out) HS1.out HL1.out ha hn ho hbn).mono ?_
  rintro e w6 ⟨y, uS, uU, uP, r3, hm2, rfl, hE2, hb6⟩
  obtain ⟨he, hr⟩ := hm2.unique hm1
  subst he
  subst hr
  obtain ⟨b1, j1, b2, j2, b3, j3, rfl, rfl, rfl⟩ := hE2.slicesC
  have HM := hid hm1
  have n2 : (r3 != r3) = false := by simp
  have EX6 := HE5.out.below hb6
  have HEX := hid ((HE1.out.below HB55.out).below hb6)
  have HEY := hid hE2
  have HB6 := hid (HBW5.out.trans (hb6.mono HBW5.out.size))
  have EY6 := EB.new w6 y (.slice b1 y.says.length j1) (.slice b2 y.uses.length j2) (.slice b3 y.proof.length j3) 35
  obtain ⟨W6, hW6⟩ : ∃ W6, w6.alloc (.cells #[.string y.name, .string y.who, .slice b1 y.says.length j1, .slice b2 y.uses.length j2, .slice b3 y.proof.length j3] 35) = W6 := ⟨_, rfl⟩
  have hb66 : Below w6.heap.size w6 W6 := hW6 ▸ (Below.refl _ _).alloc (Nat.le_refl _) _
  have x6 := EX6.below hb66
  have y6 := EY6
  obtain ⟨x0, x1, x2, x3, x4⟩ := x6
  obtain ⟨y0, y1, y2, y3, y4⟩ := y6
  rw [hW6] at EY6
  have HW6 := hid hW6
  have HB66 := hid hb66
  have HX8 := hid (EX6.below hb66)
  have HY8 := hid EY6
  have HBW6 := hid (HB6.out.trans (hb66.mono HB6.out.size))
  have HEX8 := hid (HEX.out.below hb66)
  have HEY8 := hid (HEY.out.below hb66)
  have HSE := hid (ref6_SameEntry _ _ _ _ _ _ y y W6 HEX8.out HEY8.out)
  rw [decide_eq_true (rfl : y = y)] at HSE
  rw [← hW6] at x0 x1 x2 x3 x4
  clear hb6 hb66 hE2 EX6 EY6 hW6 hm1 hm2 HE5 HE1 HEX HEY
  go_wp2_with fail
  rw [HW6.out]
  refine HSE.out.mono ?_
  rintro e w11 ⟨rfl, hb11⟩
  have HB11 := hid (HBW6.out.trans (hb11.mono HBW6.out.size))
  have H811 := hid hb11
  clear hb11 HSE x0 x1 x2 x3 x4 y0 y1 y2 y3 y4
  by_cases h0 : r3 = 0
  case neg =>
    have n0 : (r3 != 0) = true := by simpa using h0
    clear h0
    go_wp2
    go_ret
    exact ⟨rfl, HB11.out⟩
  subst h0
  obtain ⟨m1, m2, m3, m4, m6⟩ := chain_holds HM.out
  have HAR : Hid (addR s l y = if l.length = 60 then ([], 4) else (l ++ [y], 0)) := hid (by rw [addR_2 (libB_iff.2 m1) m2, m3, m4]; rfl)
  have HM6 := hid m6
  have HL60 := hid m1.len
  have HADD := hid (carry_Added vs vl _ _ _ s l y w11 (HSG.out.below HB11.out) (HLL.out.below HB11.out) (HEX8.out.below H811.out) HS1.out HL1.out)
  obtain ⟨x0, x1, x2, x3, x4⟩ := HX8.out.below H811.out
  have HX11 := hid (HX8.out.below H811.out)
  have HIS := hid (HEX8.out.s.below H811.out)
  clear m1 m2 m3 m4 m6
  by_cases h60 : l.length = 60
  · rw [HAR.out, if_pos h60] at HADD
    clear h60
    go_wp2_with fail
    refine HADD.out.mono ?_
    rintro e w12 ⟨um, rfl, -, hb12⟩
    go_wp2
    go_ret
    exact ⟨rfl, HB11.out.trans (hb12.mono HB11.out.size)⟩
  · rw [HAR.out, if_neg h60] at HADD
    have HHD := hid (HM6.out h60).1
    have HSD := hid (HM6.out h60).2
    clear h60
    go_wp2_with fail
    refine HADD.out.mono ?_
    rintro e w12 ⟨um, rfl, hem, hb12⟩
    have HB12 := hid (HB11.out.trans (hb12.mono HB11.out.size))
    have HX12 := hid (HX11.out.below hb12)
    have HIS12 := hid (HIS.out.below hb12)
    have HEM := hid hem
    have HHO := hid (deps_Holds vs um s (l ++ [y]) o w12 (HSG.out.below HB12.out) hem HS1.out (by simp; have := HL60.out; omega) ho)
    clear hem hb12 x0 x1 x2 x3 x4
    go_wp2_with fail
    refine HHO.out.mono ?_
    rintro e w13 ⟨z, er, hh, rfl, hb13⟩
    obtain ⟨rfl, rfl⟩ := hh.unique HHD.out
    have HX13 := hid (HX12.out.below hb13)
    have HIS13 := hid (HIS12.out.below hb13)
    have HB13 := hid (HB12.out.trans (hb13.mono HB12.out.size))
    have HST := hid (deps_Strongest vs um s (l ++ [y]) o w13 (HSG.out.below HB13.out) (HEM.out.below hb13) HS1.out (by simp; have := HL60.out; omega) ho)
    clear hh hb13
    go_wp2_with fail
    refine HST.out.mono ?_
    rintro e w14 ⟨ut, t, er, hh, rfl, hit, hb14⟩
    obtain ⟨rfl, rfl⟩ := hh.unique HSD.out
    obtain ⟨x0, x1, x2, x3, x4⟩ := HX13.out.below hb14
    have HB14 := hid (HB13.out.trans (hb14.mono HB13.out.size))
    have HSS := hid (ref6_SameTerm _ _ y.says y.says w14 hit (HIS13.out.below hb14))
    rw [decide_eq_true (rfl : y.says = y.says)] at HSS
    obtain ⟨ta, tc, rfl, -⟩ := hit.open
    clear hh hb14 hit
    go_wp2_with fail
    refine HSS.out.mono ?_
    rintro e w15 ⟨rfl, n15, hw15⟩
    have HB15 := hid (show Below w.heap.size w w15 from hw15 ▸ below_drewN HB14.out n15)
    clear hw15
    go_wp2
    go_ret
    exact ⟨rfl, HB15.out⟩
end Go.Proofs.YtpflkjldapmgdaaGreat
