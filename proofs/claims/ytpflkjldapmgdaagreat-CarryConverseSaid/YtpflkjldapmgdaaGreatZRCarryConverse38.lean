/-
  WHAT IT HOLDS: contracts of named, says, Along and There of the reference of layer 8. Conditions: the arguments read as data; small signs, small libraries.
  WHAT IT HOLDS: the contract of Moved of the reference of layer 8. Conditions: the arguments read as data; small signs, small libraries.
  WHAT IT HOLDS: the contract of copied of package carry. Conditions: the argument reads as data; it is small.
  WHAT IT HOLDS: the contract of copied of the reference of layer 8. Conditions: the argument reads as data; it is small.
-/
import Derived.Test.YtpflkjldapmgdaaGreatZRCarryConverse33
import Derived.Test.YtpflkjldapmgdaaGreatZRCarryConverse35
import Derived.Test.YtpflkjldapmgdaaGreatZRCarryConverse36
import Derived.Test.YtpflkjldapmgdaaGreatZRCarryConverse34
import Derived.Test.YtpflkjldapmgdaaGreatZRCarryConverse37
import Derived.Test.YtpflkjldapmgdaaGreatZRCarryConverse20
namespace Go.Proofs.YtpflkjldapmgdaaGreat
open Go Go.RowKit Go.Maps
theorem givL_part {l : List En} {ns : List Nm} (h : ∀ n ∈ ns, 0 ≤ idxI l n) : ∃ ts, givL l ns = some ts := by
  induction ns with
  | nil => exact ⟨[], rfl⟩
  | cons n ns ih =>
    obtain ⟨ts, ht⟩ := ih fun m hm => h m (by simp [hm])
    obtain ⟨i, hi, -, -, e⟩ := idxI_pos (h n (by simp))
    obtain ⟨_, h2⟩ := saysN_some e
    exact ⟨_, by unfold givL; rw [h2, ht]⟩
theorem idxI_none {l : List En} {n : Nm} (h : idxI l n < 0) : idxN l n = none := by
  unfold idxI at h
  cases e : idxN l n with
  | none => rfl
  | some i => rw [e] at h; simp only at h; omega
set_option maxHeartbeats 1000000 in
theorem ref8_named (vs vl vn : Value) (s : Sg) (l : List En) (ns : List Nm) (w : World) (hs : SignAt w vs s) (hl : EntsAt w vl l) (hn : TxtsAt w vn ns) (hs1 : s.length ≤ 1000) (hl1 : l.length ≤ 1000) :
    Calls Tryz.prog 43 #[vs, vl, vn] w fun e w' => e = .returned (.int .i64 (nmdI s l ns)) ∧ Below w.heap.size w w' := by
  have HV := hid (ref6_Valid vs vl s l w hs hl hs1 hl1)
  have HLL := hid hl
  obtain ⟨na, nc, rfl, -, nl, -, NC⟩ := hn.open
  have NC' := hid NC
  clear NC hl hs hn
  cases g : libB s l
  · have HF : Hid (nmdI s l ns = 1) := hid (by unfold nmdI; rw [g]; rfl)
    rw [g] at HV
    clear g
    go_enter Tryz.func43, Tryz.ntmps43
    go_wp2_with fail
    refine HV.out.mono ?_
    rintro e w1 ⟨rfl, hb1⟩
    go_wp2
    go_ret
    exact ⟨ret_int HF.out.symm, hb1⟩
  rw [g] at HV
  have HN : Hid (nmdI s l ns = if (givL l ns).isNone then 5 else 0) := hid (by unfold nmdI; rw [g]; rfl)
  clear g
  go_enter Tryz.func43, Tryz.ntmps43
  go_wp2_with fail
  refine HV.out.mono ?_
  rintro e w1 ⟨rfl, hb1⟩
  have HB1 := hid hb1
  clear hb1
  go_wp2
  go_loop [7] (fun kv => ∃ k : Nat, k ≤ ns.length ∧ kv = .int .i64 k ∧ ∀ j (hj : j < ns.length), j < k → 0 ≤ idxI l ns[j]) (fun kv => ns.length - (intOf kv).toNat)
  case atStart => exact ⟨0, by omega, rfl, by simp⟩
  case round =>
    obtain ⟨k, hk, rfl, hrel⟩ := hrel
    have HR := hid hrel
    clear hrel
    by_cases hlt : k < ns.length
    · obtain ⟨xb, xo, rfl, x0⟩ := NC'.out k hlt
      have x1 := (HB1.out.cell (World.block_lt_of_cell? _ _ x0)).trans x0
      have HNO := hid (fun h => givL_no (l := l) (List.getElem_mem hlt) (saysN_none h))
      obtain ⟨x, hx⟩ : ∃ x, ns[k] = x := ⟨_, rfl⟩
      have HX := hid hx
      rw [hx] at x1 HNO
      have HIX := hid (ref6_Index vl l x w1 (HLL.out.below HB1.out))
      obtain ⟨ix, hix⟩ : ∃ ix, idxI l x = ix := ⟨_, rfl⟩
      have HIE := hid hix
      rw [hix] at HIX
      clear x0 hx hix
      by_cases h0 : 0 ≤ ix
      · have H0 := hid h0
        have q0 : decide (ix < 0) = false := by simpa using h0
        go_wp2_with (go_at_call 53; refine HIX.out.mono ?_; rintro e w' ⟨rfl, rfl⟩)
        go_round
        case rel =>
          refine ⟨k + 1, by omega, by go_num, fun j hj hjk => ?_⟩
          by_cases e : j = k
          · subst e; rw [HX.out, HIE.out]; exact H0.out
          · exact HR.out j hj (by omega)
        case measure => simp [intOf]; omega
      · have HF : Hid (nmdI s l ns = 5) := hid (by rw [HN.out, HNO.out (idxI_none (by rw [HIE.out]; omega))]; rfl)
        have q0 : decide (ix < 0) = true := by simp; omega
        go_wp2_with (go_at_call 53; refine HIX.out.mono ?_; rintro e w' ⟨rfl, rfl⟩)
        go_ret
        exact ⟨ret_int HF.out.symm, HB1.out⟩
    · have HF : Hid (nmdI s l ns = 0) := hid (by
        obtain ⟨ts, ht⟩ := givL_part (l := l) (ns := ns) fun n hn => by
          obtain ⟨j, hj, rfl⟩ := List.getElem_of_mem hn
          exact HR.out j hj (by omega)
        rw [HN.out, ht]; rfl)
      go_wp2
      go_ret
      exact ⟨ret_int HF.out.symm, HB1.out⟩
theorem ref8_says (vl : Value) (l : List En) (n : Nm) (t : List Int) (w : World) (hl : EntsAt w vl l) (h : saysN l n = some t) :
    Calls Tryz.prog 45 #[vl, .string n] w fun e w' => ∃ u, e = .returned u ∧ Ints w u t ∧ w = w' := by
  have HIX := hid (ref6_Index vl l n w hl)
  obtain ⟨la, lc, rfl, -, ll, -, HC⟩ := hl.open
  cases e : idxN l n with
  | none => rw [saysN_none e] at h; cases h
  | some i =>
    obtain ⟨hi, h2⟩ := saysN_some e
    rw [h2] at h
    cases h
    have he : idxI l n = i := by unfold idxI; rw [e]
    rw [he] at HIX
    obtain ⟨b, o, vS, vu, vp, rfl, -, -, c2, -, -, hx⟩ := HC i hi
    have HI := hid hx.s
    obtain ⟨ta, tc, rfl, -⟩ := hx.s.open
    clear HC hl h2 e he hx
    go_enter Tryz.func45, Tryz.ntmps45
    go_wp2_with (go_at_call 53; refine HIX.out.mono ?_; rintro e w' ⟨rfl, rfl⟩)
    go_ret
    exact ⟨_, rfl, HI.out, rfl⟩
theorem nmdI_0 {s : Sg} {l : List En} {ns : List Nm} (h : nmdI s l ns = 0) : libB s l = true ∧ ∃ ts, givL l ns = some ts := by
  unfold nmdI at h
  cases g : libB s l with
  | false => rw [g] at h; simp at h
  | true =>
    rw [g] at h
    cases e : givL l ns with
    | none => rw [e] at h; simp at h
    | some ts => exact ⟨rfl, ts, rfl⟩
set_option maxHeartbeats 1000000 in
theorem ref8_Along (vs vl : Value) (s : Sg) (l : List En) (a n : Nm) (w : World) (hs : SignAt w vs s) (hl : EntsAt w vl l) (hs1 : s.length ≤ 1000) (hl1 : l.length ≤ 1000) (ha : a.size ≤ 140737488355328) (hn : n.size ≤ 140737488355328) :
    Calls Tryz.prog 11 #[vs, vl, .string a, .string n] w fun e w' => ∃ x u, AloR s l a n x ∧ e = .returned (.tuple #[u, .int .i64 x.2]) ∧ Ints w' u x.1 ∧ Below w.heap.size w w' := by
  have hlit := txts_lit2 w a n 9 ha hn
  have hb0 : Below w.heap.size w (w.alloc (.cells #[.string a, .string n] 9)) := (Below.refl _ _).alloc (Nat.le_refl _) _
  have HNM := hid (ref8_named vs vl _ s l [a, n] _ (hs.below hb0) (hl.below hb0) hlit hs1 hl1)
  have HB0 := hid hb0
  have HSG := hid hs
  have HLL := hid hl
  obtain ⟨er, he⟩ : ∃ er, nmdI s l [a, n] = er := ⟨_, rfl⟩
  have HE := hid he
  rw [he] at HNM
  clear hlit hb0 hl hs he
  go_enter Tryz.func11, Tryz.ntmps11
  go_wp2_with fail
  refine HNM.out.mono ?_
  rintro e w1 ⟨rfl, hb1⟩
  have hb := HB0.out.trans (hb1.mono HB0.out.size)
  by_cases h0 : er = 0
  · subst h0
    obtain ⟨hlib, ts, hg⟩ := nmdI_0 HE.out
    obtain ⟨p, q, rfl, hp, hq⟩ := givL_two hg
    have HR : Hid (∀ x, DetR s p q x → AloR s l a n x) := hid fun x hx => Or.inr ⟨HE.out, hlib, p, q, hp, hq, hx⟩
    have HSA := hid (ref8_says vl l a p w1 (HLL.out.below hb) hp)
    have HSN := hid (ref8_says vl l n q w1 (HLL.out.below hb) hq)
    have HSG1 := hid (HSG.out.below hb)
    have HB := hid hb
    clear hlib hg hp hq hb1 hb
    go_wp2_with fail
    refine HSA.out.mono ?_
    rintro e w' ⟨up, rfl, ip, rfl⟩
    go_wp2_with fail
    refine HSN.out.mono ?_
    rintro e w' ⟨uq, rfl, iq, rfl⟩
    go_wp2_with fail
    refine (ref4_Detach vs up uq s p q w1 HSG1.out ip iq).mono ?_
    rintro e w4 ⟨x, u, hx, rfl, hown, hb4⟩
    have HX := hid (HR.out x hx)
    have HI := hid (Ints.of_owns hown (by have := det_len hx; omega))
    have HB4 := hid (HB.out.trans (hb4.mono HB.out.size))
    clear hx hown hb4 ip iq
    go_wp2
    go_ret2
    exact ⟨x, _, HX.out, rfl, HI.out, HB4.out⟩
  · have HR : Hid (AloR s l a n ([], er)) := hid (Or.inl ⟨by rw [HE.out]; exact h0, by rw [HE.out]⟩)
    have n0 : (er != 0) = true := by simpa using h0
    clear h0
    go_wp2
    go_ret2
    exact ⟨([], er), _, HR.out, rfl, Ints.nil _, hb⟩
set_option maxHeartbeats 1000000 in
theorem ref8_There (vs vl : Value) (s : Sg) (l : List En) (a b n : Nm) (w : World) (hs : SignAt w vs s) (hl : EntsAt w vl l) (hs1 : s.length ≤ 1000) (hl1 : l.length ≤ 1000) (ha : a.size ≤ 140737488355328) (hbn : b.size ≤ 140737488355328) (hn : n.size ≤ 140737488355328) :
    Calls Tryz.prog 15 #[vs, vl, .string a, .string b, .string n] w fun e w' => ∃ x u, TheR s l a b n x ∧ e = .returned (.tuple #[u, .int .i64 x.2]) ∧ Ints w' u x.1 ∧ Below w.heap.size w w' := by
  have hlit := txts_lit3 w a b n 9 ha hbn hn
  have hb0 : Below w.heap.size w (w.alloc (.cells #[.string a, .string b, .string n] 9)) := (Below.refl _ _).alloc (Nat.le_refl _) _
  have HNM := hid (ref8_named vs vl _ s l [a, b, n] _ (hs.below hb0) (hl.below hb0) hlit hs1 hl1)
  have HB0 := hid hb0
  have HSG := hid hs
  have HLL := hid hl
  obtain ⟨er, he⟩ : ∃ er, nmdI s l [a, b, n] = er := ⟨_, rfl⟩
  have HE := hid he
  rw [he] at HNM
  clear hlit hb0 hl hs he
  go_enter Tryz.func15, Tryz.ntmps15
  go_wp2_with fail
  refine HNM.out.mono ?_
  rintro e w1 ⟨rfl, hb1⟩
  have hb := HB0.out.trans (hb1.mono HB0.out.size)
  by_cases h0 : er = 0
  · subst h0
    obtain ⟨hlib, ts, hg⟩ := nmdI_0 HE.out
    obtain ⟨p, q, r, rfl, hp, hq, hrr⟩ := givL_three hg
    have HR : Hid (∀ y x, DetR s p r y → ((y.2 ≠ 0 ∧ x = ([], y.2)) ∨ (y.2 = 0 ∧ DetR s q y.1 x)) → TheR s l a b n x) := hid fun y x hy hx => Or.inr ⟨HE.out, hlib, p, q, r, y, hp, hq, hrr, hy, hx⟩
    have HSA := hid (ref8_says vl l a p w1 (HLL.out.below hb) hp)
    have HSN := hid (ref8_says vl l n r w1 (HLL.out.below hb) hrr)
    have HSB := hid (fun (X : World) (hX : Below w1.heap.size w1 X) => ref8_says vl l b q X ((HLL.out.below hb).below hX) hq)
    have HSG1 := hid (HSG.out.below hb)
    have HB := hid hb
    clear hlib hg hp hq hrr hb1 hb
    go_wp2_with fail
    refine HSA.out.mono ?_
    rintro e w' ⟨up, rfl, ip, rfl⟩
    go_wp2_with fail
    refine HSN.out.mono ?_
    rintro e w' ⟨ur, rfl, ir, rfl⟩
    go_wp2_with fail
    refine (ref4_Detach vs up ur s p r w1 HSG1.out ip ir).mono ?_
    rintro e w4 ⟨⟨y1, y2⟩, u, hy, rfl, hown, hb4⟩
    have HI := hid (Ints.of_owns hown (by have := det_len hy; omega))
    have HB4 := hid (HB.out.trans (hb4.mono HB.out.size))
    by_cases hy0 : y2 = 0
    · subst hy0
      have HR2 : Hid (∀ x, DetR s q y1 x → TheR s l a b n x) := hid fun x hx => HR.out _ x hy (Or.inr ⟨rfl, hx⟩)
      have HSB4 := hid (HSB.out w4 hb4)
      have HSG4 := hid (HSG1.out.below hb4)
      clear hy hown hb4 ip ir
      go_wp2_with fail
      refine HSB4.out.mono ?_
      rintro e w' ⟨uq, rfl, iq, rfl⟩
      go_wp2_with fail
      refine (ref4_Detach vs uq u s q y1 w4 HSG4.out iq HI.out).mono ?_
      rintro e w5 ⟨x, u5, hx, rfl, hown, hb5⟩
      have HX := hid (HR2.out x hx)
      have HI5 := hid (Ints.of_owns hown (by have := det_len hx; omega))
      have HB5 := hid (HB4.out.trans (hb5.mono HB4.out.size))
      clear hx hown hb5 iq
      go_wp2
      go_ret2
      exact ⟨x, _, HX.out, rfl, HI5.out, HB5.out⟩
    · have HX : Hid (TheR s l a b n ([], y2)) := hid (HR.out _ _ hy (Or.inl ⟨hy0, rfl⟩))
      have n0 : (y2 != 0) = true := by simpa using hy0
      clear hy hown hb4 hy0 ip ir
      go_wp2
      go_ret2
      exact ⟨([], y2), _, HX.out, rfl, Ints.nil _, HB4.out⟩
  · have HR : Hid (TheR s l a b n ([], er)) := hid (Or.inl ⟨by rw [HE.out]; exact h0, by rw [HE.out]⟩)
    have n0 : (er != 0) = true := by simpa using h0
    clear h0
    go_wp2
    go_ret2
    exact ⟨([], er), _, HR.out, rfl, Ints.nil _, hb⟩
end Go.Proofs.YtpflkjldapmgdaaGreat
namespace Go.Proofs.YtpflkjldapmgdaaGreat
open Go Go.RowKit Go.Maps
set_option maxHeartbeats 4000000 in
theorem ref8_Moved (vs vl : Value) (s : Sg) (l : List En) (a n o b : Nm) (w : World) (hs : SignAt w vs s) (hl : EntsAt w vl l) (hs1 : s.length ≤ 1000) (hl1 : l.length ≤ 1000) (ha : a.size ≤ 140737488355328) (hn : n.size ≤ 140737488355328) (ho : o.size ≤ 140737488355328) (hbn : b.size ≤ 140737488355328) :
    Calls Tryz.prog 13 #[vs, vl, .string a, .string n, .string o, .string b] w fun e w' => EntQ (MovR s l a n o b) w e w' := by
  have hC5 := C5.new w (.string ⟨#[]⟩) (.string ⟨#[]⟩) (.slice none 0 0) (.slice none 0 0) (.slice none 0 0) 35
  have hbC : Below w.heap.size w (w.alloc (.cells #[.string ⟨#[]⟩, .string ⟨#[]⟩, .slice none 0 0, .slice none 0 0, .slice none 0 0] 35)) := (Below.refl _ _).alloc (Nat.le_refl _) _
  obtain ⟨W, hW⟩ : ∃ W, w.alloc (.cells #[.string ⟨#[]⟩, .string ⟨#[]⟩, .slice none 0 0, .slice none 0 0, .slice none 0 0] 35) = W := ⟨_, rfl⟩
  rw [hW] at hC5 hbC
  have HV := hid (ref6_Valid vs vl s l W (hs.below hbC) (hl.below hbC) hs1 hl1)
  have HC5 := hid hC5
  have HBC := hid hbC
  have HSG := hid hs
  have HLL := hid hl
  have HW := hid hW
  have hR0 : w.heap.size < W.heap.size := World.block_lt_of_cell? _ _ hC5.c0
  have HER : Hid (∀ e, frI s l o b [a, n] = e → e ≠ 0 → MovR s l a n o b en0 e) := hid fun e h1 h2 => Or.inl ⟨by rw [h1]; exact h2, rfl, h1.symm⟩
  clear hl hs hC5 hbC hW
  go_enter Tryz.func13, Tryz.ntmps13
  go_wp2_with fail
  rw [HW.out]
  refine HV.out.mono ?_
  rintro e w1 ⟨rfl, hb1⟩
  have hb := HBC.out.trans (hb1.mono HBC.out.size)
  have HC1 := hid (HC5.out.below hb1)
  have hR1 : w.heap.size < w1.heap.size := by have := hb1.size; omega
  clear hb1 HV HC5
  cases g1 : libB s l
  · have HX := hid (HER.out 1 (frI_no (Or.inl g1)) (by decide))
    clear g1
    obtain ⟨c0, c1, c2, c3, c4, z0, z1, z2, z3, z4⟩ := HC1.out
    go_wp2
    (try simp only [Exit.inBlock, Exit.then])
    clear c0 c1 c2 c3 c4 z0 z1 z2 z3 z4
    obtain ⟨c0, c1, c2, c3, c4, -, -, -, -, -⟩ := (HC1.out).store (.string ⟨#[]⟩) (.string ⟨#[]⟩) (.slice none 0 0) (.slice none 0 0) (.slice none 0 0)
    refine bodyPost_ret (v := .tuple #[.agg #[.string ⟨#[]⟩, .string ⟨#[]⟩, .slice none 0 0, .slice none 0 0, .slice none 0 0], .int .i64 1]) ?_ rfl (EntQ.zero HX.out (set5_below hb (Nat.le_refl _) _ _ _ _ _))
    unfold set5 at c0 c1 c2 c3 c4
    simp only [results, Tryz.results13]
    go_simp
  cases g2 : nmB o
  · have HX := hid (HER.out 1 (frI_no (Or.inr (Or.inl g2))) (by decide))
    have G2 := hid g2
    clear g1 g2
    go_wp2_with fail
    refine (ref6_Name _ _ ho).mono ?_
    rintro e w' ⟨rfl, rfl⟩
    rw [G2.out]
    obtain ⟨c0, c1, c2, c3, c4, z0, z1, z2, z3, z4⟩ := HC1.out
    go_wp2
    (try simp only [Exit.inBlock, Exit.then])
    clear c0 c1 c2 c3 c4 z0 z1 z2 z3 z4
    obtain ⟨c0, c1, c2, c3, c4, -, -, -, -, -⟩ := (HC1.out).store (.string ⟨#[]⟩) (.string ⟨#[]⟩) (.slice none 0 0) (.slice none 0 0) (.slice none 0 0)
    refine bodyPost_ret (v := .tuple #[.agg #[.string ⟨#[]⟩, .string ⟨#[]⟩, .slice none 0 0, .slice none 0 0, .slice none 0 0], .int .i64 1]) ?_ rfl (EntQ.zero HX.out (set5_below hb (Nat.le_refl _) _ _ _ _ _))
    unfold set5 at c0 c1 c2 c3 c4
    simp only [results, Tryz.results13]
    go_simp
  cases g3 : nmB b
  · have HX := hid (HER.out 1 (frI_no (Or.inr (Or.inr g3))) (by decide))
    have G2 := hid g2
    have G3 := hid g3
    clear g1 g2 g3
    go_wp2_with fail
    refine (ref6_Name _ _ ho).mono ?_
    rintro e w' ⟨rfl, rfl⟩
    rw [G2.out]
    go_wp2_with fail
    refine (ref6_Name _ _ hbn).mono ?_
    rintro e w' ⟨rfl, rfl⟩
    rw [G3.out]
    obtain ⟨c0, c1, c2, c3, c4, z0, z1, z2, z3, z4⟩ := HC1.out
    go_wp2
    (try simp only [Exit.inBlock, Exit.then])
    clear c0 c1 c2 c3 c4 z0 z1 z2 z3 z4
    obtain ⟨c0, c1, c2, c3, c4, -, -, -, -, -⟩ := (HC1.out).store (.string ⟨#[]⟩) (.string ⟨#[]⟩) (.slice none 0 0) (.slice none 0 0) (.slice none 0 0)
    refine bodyPost_ret (v := .tuple #[.agg #[.string ⟨#[]⟩, .string ⟨#[]⟩, .slice none 0 0, .slice none 0 0, .slice none 0 0], .int .i64 1]) ?_ rfl (EntQ.zero HX.out (set5_below hb (Nat.le_refl _) _ _ _ _ _))
    unfold set5 at c0 c1 c2 c3 c4
    simp only [results, Tryz.results13]
    go_simp
  have HFR : Hid (frI s l o b [a, n] = if nmdI s l [a, n] = 0 then (if (idxN l o).isSome then 6 else 0) else nmdI s l [a, n]) := hid (frI_yes g1 g2 g3)
  have G2 := hid g2
  have G3 := hid g3
  clear g1 g2 g3
  have hlit := txts_lit2 w1 a n 9 ha hn
  have hba : Below w1.heap.size w1 (w1.alloc (.cells #[.string a, .string n] 9)) := (Below.refl _ _).alloc (Nat.le_refl _) _
  have HNM := hid (ref8_named vs vl _ s l [a, n] _ ((HSG.out.below hb).below hba) ((HLL.out.below hb).below hba) hlit hs1 hl1)
  obtain ⟨er, he⟩ : ∃ er, nmdI s l [a, n] = er := ⟨_, rfl⟩
  have HE := hid he
  rw [he] at HNM
  have HBA := hid hba
  clear hlit hba he
  go_wp2_with fail
  refine (ref6_Name _ _ ho).mono ?_
  rintro e w' ⟨rfl, rfl⟩
  rw [G2.out]
  go_wp2_with fail
  refine (ref6_Name _ _ hbn).mono ?_
  rintro e w' ⟨rfl, rfl⟩
  rw [G3.out]
  go_wp2_with fail
  refine HNM.out.mono ?_
  rintro e w2 ⟨rfl, hb2'⟩
  have hb12 : Below w1.heap.size w1 w2 := HBA.out.trans (hb2'.mono HBA.out.size)
  have hb2 := hb.trans (hb12.mono hb.size)
  have HC2 := hid (HC1.out.below hb12)
  have hR2 : w.heap.size < w2.heap.size := by have := hb12.size; omega
  clear hb2' HC1 hb hb12 HNM
  by_cases h0 : er = 0
  · subst h0
    obtain ⟨hlib, ts, hg⟩ := nmdI_0 HE.out
    obtain ⟨p, q, rfl, hp, hq⟩ := givL_two hg
    have HIX := hid (ref6_Index vl l o w2 (HLL.out.below hb2))
    obtain ⟨ix, hix⟩ : ∃ ix, idxI l o = ix := ⟨_, rfl⟩
    have HIE := hid hix
    rw [hix] at HIX
    have HP := hid hp
    have HQ := hid hq
    clear hix hg hlib hp hq
    by_cases hi : 0 ≤ ix
    · have HX := hid (HER.out 6 (by
        rw [HFR.out, if_pos HE.out]
        obtain ⟨i, _, -, -, e⟩ := idxI_pos (l := l) (n := o) (by rw [HIE.out]; exact hi)
        rw [e]; rfl) (by decide))
      have q0 : decide (0 ≤ ix) = true := by simpa using hi
      have q1 : decide (ix ≥ 0) = true := by simpa using hi
      go_wp2_with fail
      refine HIX.out.mono ?_
      rintro e w' ⟨rfl, rfl⟩
      obtain ⟨c0, c1, c2, c3, c4, z0, z1, z2, z3, z4⟩ := HC2.out
      go_wp2
      (try simp only [Exit.inBlock, Exit.then])
      clear c0 c1 c2 c3 c4 z0 z1 z2 z3 z4
      obtain ⟨c0, c1, c2, c3, c4, -, -, -, -, -⟩ := (HC2.out).store (.string ⟨#[]⟩) (.string ⟨#[]⟩) (.slice none 0 0) (.slice none 0 0) (.slice none 0 0)
      refine bodyPost_ret (v := .tuple #[.agg #[.string ⟨#[]⟩, .string ⟨#[]⟩, .slice none 0 0, .slice none 0 0, .slice none 0 0], .int .i64 6]) ?_ rfl (EntQ.zero HX.out (set5_below hb2 (Nat.le_refl _) _ _ _ _ _))
      unfold set5 at c0 c1 c2 c3 c4
      simp only [results, Tryz.results13]
      go_simp
    have HFZ : Hid (frI s l o b [a, n] = 0) := hid (by rw [HFR.out, if_pos HE.out, idxI_none (by rw [HIE.out]; omega)]; rfl)
    have q0 : decide (0 ≤ ix) = false := by simpa using hi
    have HR : Hid (∀ y x e, DetR s p q y → ((y.2 ≠ 0 ∧ x = en0 ∧ e = y.2) ∨ (y.2 = 0 ∧ x = ⟨o, b, y.1, if a = n then [a] else [a, n], if a = n then mvP1 else mvP⟩ ∧ e = 0)) → MovR s l a n o b x e) := hid fun y x e hy hx => Or.inr ⟨HFZ.out, p, q, y, HP.out, HQ.out, hy, hx⟩
    have HSA := hid (ref8_says vl l a p w2 (HLL.out.below hb2) HP.out)
    have HSN := hid (ref8_says vl l n q w2 (HLL.out.below hb2) HQ.out)
    have HSG2 := hid (HSG.out.below hb2)
    go_wp2_with fail
    refine HIX.out.mono ?_
    rintro e w' ⟨rfl, rfl⟩
    go_wp2_with fail
    refine HSA.out.mono ?_
    rintro e w' ⟨up, rfl, ip, rfl⟩
    go_wp2_with fail
    refine HSN.out.mono ?_
    rintro e w' ⟨uq, rfl, iq, rfl⟩
    go_wp2_with fail
    refine (ref4_Detach vs up uq s p q w2 HSG2.out ip iq).mono ?_
    rintro e w4 ⟨⟨y1, y2⟩, u, hy, rfl, hown, hb4⟩
    have hown : w4.ownsRow w2.heap.size 3 1 u y1.length (y1.map (Value.int .i64)) := hown
    have HO4 := hid hown
    have HB4 := hid (hb2.trans (hb4.mono hb2.size))
    have HC4 := hid (HC2.out.below hb4)
    have hsz4 := hb4.size
    have HY60 : Hid (y1.length ≤ 60) := hid (det_len hy)
    by_cases hy0 : y2 = 0
    · subst hy0
      obtain ⟨ya, yc, rfl⟩ := owns_slice hown
      have HMV : Hid (MovR s l a n o b ⟨o, b, y1, if a = n then [a] else [a, n], if a = n then mvP1 else mvP⟩ 0) := hid (HR.out _ _ _ hy (Or.inr ⟨rfl, rfl, rfl⟩))
      obtain ⟨c0, c1, c2, c3, c4, z0, z1, z2, z3, z4⟩ := HC4.out
      have hR4 : w.heap.size < w4.heap.size := by omega
      have hR41 : w.heap.size < w4.heap.size + 1 := by omega
      have hR42 : w.heap.size < w4.heap.size + 1 + 1 := by omega
      have hR43 : w.heap.size < w4.heap.size + 1 + 1 + 1 := by omega
      have hR44 : w.heap.size < w4.heap.size + 1 + 1 + 1 + 1 := by omega
      clear hy hown hb4 HR ip iq
      by_cases han : a = n
      · subst han
        have qa : (a.toList == a.toList) = true := by rw [bytes_eq]; simp
        go_wp2
        (try simp only [Exit.inBlock, Exit.then])
        clear c0 c1 c2 c3 c4 z0 z1 z2 z3 z4 hR41 hR42 hR43 hR44
        obtain ⟨S5, hS5⟩ : ∃ S5, (set5 w4 w.heap.size (.string o) (.string b) (.slice ya y1.length yc) (.slice (some ⟨w4.heap.size + 1 + 1 + 1, 0, none⟩) 1 1) (.slice (some ⟨w4.heap.size + 1 + 1 + 1 + 1, 0, none⟩) 2 2)) = S5 := ⟨_, rfl⟩
        have hzs : S5.heap.size = w4.heap.size := by rw [← hS5]; unfold set5; simp
        have C5S : C5 S5 _ _ _ _ _ _ := hS5 ▸ HC4.out.store (.string o) (.string b) (.slice ya y1.length yc) (.slice (some ⟨w4.heap.size + 1 + 1 + 1, 0, none⟩) 1 1) (.slice (some ⟨w4.heap.size + 1 + 1 + 1 + 1, 0, none⟩) 2 2)
        have hb5 : Below w.heap.size w S5 := hS5 ▸ set5_below HB4.out (Nat.le_refl _) _ _ _ _ _
        have r1 : Ints S5 (.slice ya y1.length yc) y1 := Ints.of_owns (owns_blocks HO4.out fun q h1 h2 _ => by rw [← hS5]; exact heap_set5 _ _ _ _ _ _ _ (by omega)) (by have := HY60.out; omega)
        unfold set5 at hS5
        rw [hS5]
        obtain ⟨S8, hS8⟩ : ∃ S8, (((S5.alloc (.cells #[.string a, .string a] 9)).alloc (.cells #[.int .i64 1, .int .i64 0, .int .i64 0, .int .i64 1, .int .i64 1, .int .i64 0, .int .i64 2, .int .i64 0, .int .i64 1] 76)).alloc (.cells #[.string o, .string b, .slice ya y1.length yc, .slice (some ⟨w4.heap.size + 1 + 1 + 1, 0, none⟩) 1 1, .slice (some ⟨w4.heap.size + 1 + 1 + 1 + 1, 0, none⟩) 2 2] 35)) = S8 := ⟨_, rfl⟩
        have b1 : Below S5.heap.size S5 S8 := hS8 ▸ (((Below.refl _ _).alloc (Nat.le_refl _) _).alloc (by simp) _).alloc (by simp; omega) _
        have hz8 : S8.heap.size = w4.heap.size + 1 + 1 + 1 := by rw [← hS8]; simp [hzs]
        rw [hS8]
        have r2 := txts_lit1 S8 a 9 ha
        have r3 : StepsAt ((S8.alloc (.cells #[.string a] 9)).alloc (.cells #[.int .i64 1, .int .i64 0, .int .i64 0, .int .i64 2, .int .i64 0, .int .i64 0] 76)) (.slice (some ⟨(S8.alloc (.cells #[.string a] 9)).heap.size, 0, none⟩) 2 2) mvP1 := steps_lit (l := mvP1) (by decide) rfl
        have hz1 : (S8.alloc (.cells #[.string a] 9)).heap.size = w4.heap.size + 1 + 1 + 1 + 1 := by rw [World.size_alloc, hz8]
        rw [hz1] at r3
        rw [hz8] at r2
        have b2 : Below S8.heap.size S8 (S8.alloc (.cells #[.string a] 9)) := (Below.refl _ _).alloc (Nat.le_refl _) _
        have b3 : Below (S8.alloc (.cells #[.string a] 9)).heap.size (S8.alloc (.cells #[.string a] 9)) ((S8.alloc (.cells #[.string a] 9)).alloc (.cells #[.int .i64 1, .int .i64 0, .int .i64 0, .int .i64 2, .int .i64 0, .int .i64 0] 76)) := (Below.refl _ _).alloc (Nat.le_refl _) _
        have b13 := b1.trans ((b2.trans (b3.mono b2.size)).mono b1.size)
        have R1 := hid (r1.below b13)
        have R2 := hid (r2.below b3)
        have R3 := hid r3
        have CF := C5S.below b13
        have HBF := hid (hb5.trans (b13.mono hb5.size))
        obtain ⟨WF, hWF⟩ : ∃ WF, (S8.alloc (.cells #[.string a] 9)).alloc (.cells #[.int .i64 1, .int .i64 0, .int .i64 0, .int .i64 2, .int .i64 0, .int .i64 0] 76) = WF := ⟨_, rfl⟩
        rw [hWF] at R1 R2 R3 CF HBF ⊢
        clear hWF b1 b2 b3 b13 r1 r2 r3 C5S hb5 hS5 hS8
        obtain ⟨c0, c1, c2, c3, c4, -, -, -, -, -⟩ := CF
        have HMV1 : MovR s l a a o b ⟨o, b, y1, [a], mvP1⟩ 0 := by simpa using HMV.out
        refine bodyPost_ret (v := .tuple #[.agg #[.string o, .string b, .slice ya y1.length yc, .slice (some ⟨w4.heap.size + 1 + 1 + 1, 0, none⟩) 1 1, .slice (some ⟨w4.heap.size + 1 + 1 + 1 + 1, 0, none⟩) 2 2], .int .i64 0]) ?_ rfl (EntQ.mk ⟨o, b, y1, [a], mvP1⟩ _ _ _ 0 HMV1 rfl ⟨R1.out, R2.out, R3.out, ho, hbn⟩ HBF.out)
        clear HMV1
        simp only [results, Tryz.results13]
        go_simp
      · have qa : (a.toList == n.toList) = false := by rw [bytes_eq]; simpa using han
        go_wp2
        (try simp only [Exit.inBlock, Exit.then])
        clear c0 c1 c2 c3 c4 z0 z1 z2 z3 z4 hR41 hR42 hR43 hR44
        obtain ⟨S5, hS5⟩ : ∃ S5, (set5 w4 w.heap.size (.string o) (.string b) (.slice ya y1.length yc) (.slice (some ⟨w4.heap.size, 0, none⟩) 2 2) (.slice (some ⟨w4.heap.size + 1, 0, none⟩) 3 3)) = S5 := ⟨_, rfl⟩
        have hzs : S5.heap.size = w4.heap.size := by rw [← hS5]; unfold set5; simp
        have C5S : C5 S5 _ _ _ _ _ _ := hS5 ▸ HC4.out.store (.string o) (.string b) (.slice ya y1.length yc) (.slice (some ⟨w4.heap.size, 0, none⟩) 2 2) (.slice (some ⟨w4.heap.size + 1, 0, none⟩) 3 3)
        have hb5 : Below w.heap.size w S5 := hS5 ▸ set5_below HB4.out (Nat.le_refl _) _ _ _ _ _
        have r1 : Ints S5 (.slice ya y1.length yc) y1 := Ints.of_owns (owns_blocks HO4.out fun q h1 h2 _ => by rw [← hS5]; exact heap_set5 _ _ _ _ _ _ _ (by omega)) (by have := HY60.out; omega)
        have r2 := txts_lit2 S5 a n 9 ha hn
        have b1 : Below S5.heap.size S5 (S5.alloc (.cells #[.string a, .string n] 9)) := (Below.refl _ _).alloc (Nat.le_refl _) _
        have r3 : StepsAt ((S5.alloc (.cells #[.string a, .string n] 9)).alloc (.cells #[.int .i64 1, .int .i64 0, .int .i64 0, .int .i64 1, .int .i64 1, .int .i64 0, .int .i64 2, .int .i64 0, .int .i64 1] 76)) (.slice (some ⟨(S5.alloc (.cells #[.string a, .string n] 9)).heap.size, 0, none⟩) 3 3) mvP := steps_lit (l := mvP) (by decide) rfl
        have hz1 : (S5.alloc (.cells #[.string a, .string n] 9)).heap.size = w4.heap.size + 1 := by rw [World.size_alloc, hzs]
        rw [hz1] at r3
        rw [hzs] at r2
        have b2 : Below (S5.alloc (.cells #[.string a, .string n] 9)).heap.size (S5.alloc (.cells #[.string a, .string n] 9)) ((S5.alloc (.cells #[.string a, .string n] 9)).alloc (.cells #[.int .i64 1, .int .i64 0, .int .i64 0, .int .i64 1, .int .i64 1, .int .i64 0, .int .i64 2, .int .i64 0, .int .i64 1] 76)) := (Below.refl _ _).alloc (Nat.le_refl _) _
        have b3 : Below ((S5.alloc (.cells #[.string a, .string n] 9)).alloc (.cells #[.int .i64 1, .int .i64 0, .int .i64 0, .int .i64 1, .int .i64 1, .int .i64 0, .int .i64 2, .int .i64 0, .int .i64 1] 76)).heap.size ((S5.alloc (.cells #[.string a, .string n] 9)).alloc (.cells #[.int .i64 1, .int .i64 0, .int .i64 0, .int .i64 1, .int .i64 1, .int .i64 0, .int .i64 2, .int .i64 0, .int .i64 1] 76)) (((S5.alloc (.cells #[.string a, .string n] 9)).alloc (.cells #[.int .i64 1, .int .i64 0, .int .i64 0, .int .i64 1, .int .i64 1, .int .i64 0, .int .i64 2, .int .i64 0, .int .i64 1] 76)).alloc (.cells #[.string o, .string b, .slice ya y1.length yc, .slice (some ⟨w4.heap.size, 0, none⟩) 2 2, .slice (some ⟨w4.heap.size + 1, 0, none⟩) 3 3] 35)) := (Below.refl _ _).alloc (Nat.le_refl _) _
        have b23 := b2.trans (b3.mono b2.size)
        have b13 := b1.trans (b23.mono b1.size)
        have R1 := hid (r1.below b13)
        have R2 := hid (r2.below b23)
        have R3 := hid (r3.below b3)
        have CF := C5S.below b13
        have HBF := hid (hb5.trans (b13.mono hb5.size))
        unfold set5 at hS5
        rw [hS5]
        obtain ⟨WF, hWF⟩ : ∃ WF, ((S5.alloc (.cells #[.string a, .string n] 9)).alloc (.cells #[.int .i64 1, .int .i64 0, .int .i64 0, .int .i64 1, .int .i64 1, .int .i64 0, .int .i64 2, .int .i64 0, .int .i64 1] 76)).alloc (.cells #[.string o, .string b, .slice ya y1.length yc, .slice (some ⟨w4.heap.size, 0, none⟩) 2 2, .slice (some ⟨w4.heap.size + 1, 0, none⟩) 3 3] 35) = WF := ⟨_, rfl⟩
        rw [hWF] at R1 R2 R3 CF HBF ⊢
        clear hWF b1 b2 b3 b23 b13 r1 r2 r3 C5S hb5 hS5
        obtain ⟨c0, c1, c2, c3, c4, -, -, -, -, -⟩ := CF
        have HMV1 : MovR s l a n o b ⟨o, b, y1, [a, n], mvP⟩ 0 := by have := HMV.out; rwa [if_neg han, if_neg han] at this
        refine bodyPost_ret (v := .tuple #[.agg #[.string o, .string b, .slice ya y1.length yc, .slice (some ⟨w4.heap.size, 0, none⟩) 2 2, .slice (some ⟨w4.heap.size + 1, 0, none⟩) 3 3], .int .i64 0]) ?_ rfl (EntQ.mk ⟨o, b, y1, [a, n], mvP⟩ _ _ _ 0 HMV1 rfl ⟨R1.out, R2.out, R3.out, ho, hbn⟩ HBF.out)
        clear HMV1
        simp only [results, Tryz.results13]
        go_simp
    · have HX : Hid (MovR s l a n o b en0 y2) := hid (HR.out _ _ _ hy (Or.inl ⟨hy0, rfl, rfl⟩))
      have n0 : (y2 != 0) = true := by simpa using hy0
      clear hy hown hb4 HR hy0 ip iq
      obtain ⟨c0, c1, c2, c3, c4, z0, z1, z2, z3, z4⟩ := HC4.out
      go_wp2
      (try simp only [Exit.inBlock, Exit.then])
      clear c0 c1 c2 c3 c4 z0 z1 z2 z3 z4
      obtain ⟨c0, c1, c2, c3, c4, -, -, -, -, -⟩ := (HC4.out).store (.string ⟨#[]⟩) (.string ⟨#[]⟩) (.slice none 0 0) (.slice none 0 0) (.slice none 0 0)
      refine bodyPost_ret (v := .tuple #[.agg #[.string ⟨#[]⟩, .string ⟨#[]⟩, .slice none 0 0, .slice none 0 0, .slice none 0 0], .int .i64 y2]) ?_ rfl (EntQ.zero HX.out (set5_below HB4.out (Nat.le_refl _) _ _ _ _ _))
      unfold set5 at c0 c1 c2 c3 c4
      simp only [results, Tryz.results13]
      go_simp
  · have HX := hid (HER.out er (by rw [HFR.out, if_neg (by rw [HE.out]; exact h0), HE.out]) h0)
    have n0 : (er != 0) = true := by simpa using h0
    clear h0
    obtain ⟨c0, c1, c2, c3, c4, z0, z1, z2, z3, z4⟩ := HC2.out
    go_wp2
    (try simp only [Exit.inBlock, Exit.then])
    clear c0 c1 c2 c3 c4 z0 z1 z2 z3 z4
    obtain ⟨c0, c1, c2, c3, c4, -, -, -, -, -⟩ := (HC2.out).store (.string ⟨#[]⟩) (.string ⟨#[]⟩) (.slice none 0 0) (.slice none 0 0) (.slice none 0 0)
    refine bodyPost_ret (v := .tuple #[.agg #[.string ⟨#[]⟩, .string ⟨#[]⟩, .slice none 0 0, .slice none 0 0, .slice none 0 0], .int .i64 er]) ?_ rfl (EntQ.zero HX.out (set5_below hb2 (Nat.le_refl _) _ _ _ _ _))
    unfold set5 at c0 c1 c2 c3 c4
    simp only [results, Tryz.results13]
    go_simp
end Go.Proofs.YtpflkjldapmgdaaGreat
namespace Go.Proofs.YtpflkjldapmgdaaGreat
open Go Go.RowKit Go.Maps
/-- an entry of the call's own memory: its slices lie in blocks from 'base' on. -/
structure EntO (w : World) (base : Nat) (vS vU vP : Value) (x : En) : Prop where
  s : w.ownsRow base 3 1 vS x.says.length (x.says.map (Value.int .i64))
  u : w.ownsRow base 9 1 vU x.uses.length (x.uses.map Value.string)
  p : w.ownsRow base 76 3 vP x.proof.length (stC x.proof)
  ls : x.says.length ≤ 1000
  lu : x.uses.length ≤ 1000
  lp : x.proof.length ≤ 1000
  nu : ∀ n ∈ x.uses, n.size ≤ 140737488355328
  n1 : x.name.size ≤ 140737488355328
  n2 : x.who.size ≤ 140737488355328
theorem EntO.ent {w : World} {base : Nat} {vS vU vP : Value} {x : En} (h : EntO w base vS vU vP x) : EntAt w vS vU vP x :=
  ⟨Ints.of_owns h.s (by have := h.ls; omega), ⟨RowK.of_owns h.u (by have := h.lu; omega), h.nu⟩, RowK.of_owns h.p (by have := h.lp; omega), h.n1, h.n2⟩
theorem EntO.blocks {w W' : World} {base base' : Nat} {vS vU vP : Value} {x : En} (h : EntO w base vS vU vP x) (hb : base' ≤ base) (hs : ∀ q, base ≤ q → q < w.heap.size → W'.heap[q]? = w.heap[q]?) : EntO W' base' vS vU vP x :=
  ⟨owns_base (owns_blocks h.s fun q h1 h2 _ => hs q h1 h2) hb, owns_base (owns_blocks h.u fun q h1 h2 _ => hs q h1 h2) hb, owns_base (owns_blocks h.p fun q h1 h2 _ => hs q h1 h2) hb, h.ls, h.lu, h.lp, h.nu, h.n1, h.n2⟩
/-- the value of an entry of the call's own. -/
def EnO (w : World) (base : Nat) (v : Value) (x : En) : Prop := ∃ vS vU vP, v = .agg #[.string x.name, .string x.who, vS, vU, vP] ∧ EntO w base vS vU vP x
theorem C5.set3 {w : World} {b : Nat} {x0 x1 x2 x3 x4 : Value} (h : C5 w b x0 x1 x2 x3 x4) (y2 y3 y4 : Value) : C5 (((w.setCell ⟨b, 2, none⟩ y2).setCell ⟨b, 3, none⟩ y3).setCell ⟨b, 4, none⟩ y4) b x0 x1 y2 y3 y4 := by
  have e : ((w.setCell ⟨b, 2, none⟩ y2).setCell ⟨b, 3, none⟩ y3).setCell ⟨b, 4, none⟩ y4 = w.setCells b 2 [y2, y3, y4] := rfl
  have hin := World.cell?_setCells_in b [y2, y3, y4] 2 w (by
    intro j hj
    match j, hj with
    | 0, _ => show (w.cell? ⟨b, 2, none⟩).isSome = true; rw [h.c2]; rfl
    | 1, _ => show (w.cell? ⟨b, 3, none⟩).isSome = true; rw [h.c3]; rfl
    | 2, _ => show (w.cell? ⟨b, 4, none⟩).isSome = true; rw [h.c4]; rfl)
  have hout := fun (o : Nat) (ho : o < 2) => World.cell?_setCells_out b [y2, y3, y4] 2 w ⟨b, o, none⟩ (fun _ _ => Or.inl ho)
  have hf := fun j => World.frozen?_setCells b [y2, y3, y4] 2 w ⟨b, j, none⟩
  rw [e]
  exact ⟨(hout 0 (by omega)).trans h.c0, (hout 1 (by omega)).trans h.c1, hin 0 (by simp), hin 1 (by simp), hin 2 (by simp), (hf 0).trans h.z0, (hf 1).trans h.z1, (hf 2).trans h.z2, (hf 3).trans h.z3, (hf 4).trans h.z4⟩
set_option maxHeartbeats 2000000 in
set_option maxRecDepth 100000 in
theorem carry_copied (vS vU vP : Value) (x : En) (w : World) (he : EntAt w vS vU vP x) (h0 : 0 < x.says.length) (ls : x.says.length ≤ 1000) (lu : x.uses.length ≤ 1000) (lp : x.proof.length ≤ 1000) :
    Calls Tryz.prog 62 #[.agg #[.string x.name, .string x.who, vS, vU, vP]] w fun e w' => ∃ v, e = .returned v ∧ EnO w' w.heap.size v x ∧ Below w.heap.size w w' := by
  obtain ⟨sa, sc, rfl, -⟩ := he.s.open
  obtain ⟨ua, uc, rfl, -⟩ := he.u.open
  obtain ⟨pa, pc, rfl, -⟩ := he.p.open
  have hC5 := C5.new w (.string x.name) (.string x.who) (.slice sa x.says.length sc) (.slice ua x.uses.length uc) (.slice pa x.proof.length pc) 35
  have hbV : Below w.heap.size w (w.alloc (.cells #[.string x.name, .string x.who, .slice sa x.says.length sc, .slice ua x.uses.length uc, .slice pa x.proof.length pc] 35)) := (Below.refl _ _).alloc (Nat.le_refl _) _
  obtain ⟨V, hV⟩ : ∃ V, w.alloc (.cells #[.string x.name, .string x.who, .slice sa x.says.length sc, .slice ua x.uses.length uc, .slice pa x.proof.length pc] 35) = V := ⟨_, rfl⟩
  have hVz : V.heap.size = w.heap.size + 1 := by rw [← hV]; simp
  rw [hV] at hC5 hbV
  have hR5 := C5.new V (.string ⟨#[]⟩) (.string ⟨#[]⟩) (.slice none 0 0) (.slice none 0 0) (.slice none 0 0) 35
  have hbX : Below V.heap.size V (V.alloc (.cells #[.string ⟨#[]⟩, .string ⟨#[]⟩, .slice none 0 0, .slice none 0 0, .slice none 0 0] 35)) := (Below.refl _ _).alloc (Nat.le_refl _) _
  obtain ⟨X, hX⟩ : ∃ X, V.alloc (.cells #[.string ⟨#[]⟩, .string ⟨#[]⟩, .slice none 0 0, .slice none 0 0, .slice none 0 0] 35) = X := ⟨_, rfl⟩
  have hXz : X.heap.size = w.heap.size + 1 + 1 := by rw [← hX, World.size_alloc, hVz]
  rw [hX] at hR5 hbX
  rw [hVz] at hR5
  have C1 := hC5.below hbX
  have C2 := hR5
  have hb := hbV.trans (hbX.mono hbV.size)
  have HE := hid (he.below hb)
  have hXe : (w.alloc (.cells #[.string x.name, .string x.who, .slice sa x.says.length sc, .slice ua x.uses.length uc, .slice pa x.proof.length pc] 35)).alloc (.cells #[.string ⟨#[]⟩, .string ⟨#[]⟩, .slice none 0 0, .slice none 0 0, .slice none 0 0] 35) = X := by rw [hV, hX]
  have HXE := hid hXe
  have HB := hid hb
  have HXZ := hid hXz
  have HC1 := hid C1
  have HC2 := hid C2
  have HN := hid he.n1
  have HN2 := hid he.n2
  have HNU := hid he.u.2
  have HSC := hid (fun (W : World) (hW : Below X.heap.size X W) => sl_CloneT _ _ W (HE.out.s.below hW) h0 ls)
  have HUC := hid (fun (W : World) (hW : Below X.heap.size X W) => sl_Clone_strs _ _ _ W (HE.out.u.1.below hW) (strs_one x.uses) lu)
  have HPC := hid (fun (W : World) (hW : Below X.heap.size X W) => sl_Clone_steps _ _ _ W (HE.out.p.below hW) (stC_one x.proof) lp)
  clear hC5 hbV hV hVz hbX hX hXz hR5 hb he hXe C1 C2
  go_enter Tryz.func62, Tryz.ntmps62
  go_wp2_with fail
  rw [HXE.out]
  have hbZ : Below X.heap.size X X := Below.refl _ _
  obtain ⟨-, -, c2, c3, c4, -, -, -, -, -⟩ := HC1.out
  refine anyK.beginS (S := fun w' => w'.cell? ⟨w.heap.size, 2, none⟩ = some (.slice sa x.says.length sc) ∧ w'.cell? ⟨w.heap.size, 3, none⟩ = some (.slice ua x.uses.length uc) ∧ w'.cell? ⟨w.heap.size, 4, none⟩ = some (.slice pa x.proof.length pc)) (k := 10) (by kernel_rfl) ?_ (fun hHeld => ?_)
  · exact ⟨c2, c3, c4⟩
  refine anyK.take (i := 0) (oi := { dst := some 3, op := Op.fieldAddr 35 (Operand.tmp 1) 2, type := 0, pos := _, after := _, guard := none }) (v := ?_) rfl (by kernel_rfl) (by kernel_rfl) (by kernel_rfl) (by kernel_rfl) (by kernel_rfl) (by decide) (fun _ _ _ h => h) (Or.inl ⟨by rfl, ?_⟩) hHeld ?_
  rotate_left
  · (intro w hSw; (try dsimp only at hSw); go_simp; (try with_reducible rfl))
  (try simp only [Act.put, List.setIfInBounds_toArray, List.set_cons_zero, List.set_cons_succ])
  refine anyK.take (i := 1) (oi := { dst := some 4, op := Op.load 28 (Operand.tmp 3), type := 28, pos := _, after := _, guard := none }) (v := ?_) rfl (by kernel_rfl) (by kernel_rfl) (by kernel_rfl) (by kernel_rfl) (by kernel_rfl) (by decide) (fun _ _ _ h => h) (Or.inl ⟨by rfl, ?_⟩) hHeld ?_
  rotate_left
  · (intro w hSw; (try dsimp only at hSw); go_simp; (try with_reducible rfl))
  (try simp only [Act.put, List.setIfInBounds_toArray, List.set_cons_zero, List.set_cons_succ])
  refine anyK.take (i := 3) (oi := { dst := some 6, op := Op.fieldAddr 35 (Operand.tmp 1) 3, type := 0, pos := _, after := _, guard := none }) (v := ?_) rfl (by kernel_rfl) (by kernel_rfl) (by kernel_rfl) (by kernel_rfl) (by kernel_rfl) (by decide) (fun _ _ _ h => h) (Or.inl ⟨by rfl, ?_⟩) hHeld ?_
  rotate_left
  · (intro w hSw; (try dsimp only at hSw); go_simp; (try with_reducible rfl))
  (try simp only [Act.put, List.setIfInBounds_toArray, List.set_cons_zero, List.set_cons_succ])
  refine anyK.take (i := 4) (oi := { dst := some 7, op := Op.load 32 (Operand.tmp 6), type := 32, pos := _, after := _, guard := none }) (v := ?_) rfl (by kernel_rfl) (by kernel_rfl) (by kernel_rfl) (by kernel_rfl) (by kernel_rfl) (by decide) (fun _ _ _ h => h) (Or.inl ⟨by rfl, ?_⟩) hHeld ?_
  rotate_left
  · (intro w hSw; (try dsimp only at hSw); go_simp; (try with_reducible rfl))
  (try simp only [Act.put, List.setIfInBounds_toArray, List.set_cons_zero, List.set_cons_succ])
  refine anyK.take (i := 6) (oi := { dst := some 9, op := Op.fieldAddr 35 (Operand.tmp 1) 4, type := 0, pos := _, after := _, guard := none }) (v := ?_) rfl (by kernel_rfl) (by kernel_rfl) (by kernel_rfl) (by kernel_rfl) (by kernel_rfl) (by decide) (fun _ _ _ h => h) (Or.inl ⟨by rfl, ?_⟩) hHeld ?_
  rotate_left
  · (intro w hSw; (try dsimp only at hSw); go_simp; (try with_reducible rfl))
  (try simp only [Act.put, List.setIfInBounds_toArray, List.set_cons_zero, List.set_cons_succ])
  refine anyK.take (i := 7) (oi := { dst := some 10, op := Op.load 33 (Operand.tmp 9), type := 33, pos := _, after := _, guard := none }) (v := ?_) rfl (by kernel_rfl) (by kernel_rfl) (by kernel_rfl) (by kernel_rfl) (by kernel_rfl) (by decide) (fun _ _ _ h => h) (Or.inl ⟨by rfl, ?_⟩) hHeld ?_
  rotate_left
  · (intro w hSw; (try dsimp only at hSw); go_simp; (try with_reducible rfl))
  (try simp only [Act.put, List.setIfInBounds_toArray, List.set_cons_zero, List.set_cons_succ])
  refine anyK.one (i := 2) (o := { dst := some 5, op := Op.call { callee := Callee.value (Operand.func 97), args := #[Operand.tmp 4], argTypes := #[28] }, type := 28, pos := _, after := _, guard := none }) (by kernel_rfl) rfl (fun K hK => ?_)
  (try go_simp)
  (go_at_call 97; refine (HSC.out _ (by first | exact hbZ | exact hbZ.drew | exact below_drewN hbZ _)).mono ?_; rintro e wz ⟨u1, rfl, o1, hb1⟩; have o1 := owns_base (b' := X.heap.size) o1 (by first | exact hbZ.size | (simp; done) | exact Nat.le_refl _); obtain ⟨a1, k1, rfl⟩ := owns_slice o1; have hbZ := Below.trans (show Below X.heap.size X _ from (by first | exact hbZ | exact hbZ.drew | exact below_drewN hbZ _)) (hb1.mono (by first | exact hbZ.size | (simp; exact hbZ.size))); obtain ⟨_, _, c2, c3, c4, _, _, z2, z3, z4⟩ := HC1.out.below hbZ)
  refine hK.out _ _ (fun _ => ?_) ?_
  · exact ⟨c2, c3, c4⟩
  clear hHeld
  have hHeld := (by exact ⟨c2, c3, c4⟩ : (fun w' => w'.cell? ⟨w.heap.size, 2, none⟩ = some (.slice sa x.says.length sc) ∧ w'.cell? ⟨w.heap.size, 3, none⟩ = some (.slice ua x.uses.length uc) ∧ w'.cell? ⟨w.heap.size, 4, none⟩ = some (.slice pa x.proof.length pc)) wz)
  clear hK K
  (try simp only [Act.put, List.setIfInBounds_toArray, List.set_cons_zero, List.set_cons_succ])
  refine anyK.take (i := 9) (oi := { dst := some 12, op := Op.fieldAddr 35 (Operand.tmp 1) 2, type := 0, pos := _, after := _, guard := none }) (v := ?_) rfl (by kernel_rfl) (by kernel_rfl) (by kernel_rfl) (by kernel_rfl) (by kernel_rfl) (by decide) (fun _ _ _ h => h) (Or.inl ⟨by rfl, ?_⟩) hHeld ?_
  rotate_left
  · (intro w hSw; (try dsimp only at hSw); go_simp; (try with_reducible rfl))
  (try simp only [Act.put, List.setIfInBounds_toArray, List.set_cons_zero, List.set_cons_succ])
  refine anyK.one (i := 5) (o := { dst := some 8, op := Op.call { callee := Callee.value (Operand.func 125), args := #[Operand.tmp 7], argTypes := #[32] }, type := 32, pos := _, after := _, guard := none }) (by kernel_rfl) rfl (fun K hK => ?_)
  (try go_simp)
  (go_at_call 125; refine (HUC.out _ (by first | exact hbZ | exact hbZ.drew | exact below_drewN hbZ _)).mono ?_; rintro e wz ⟨u2, rfl, o2, hb1⟩; have o2 := owns_base (b' := X.heap.size) o2 (by first | exact hbZ.size | (simp; done) | exact Nat.le_refl _); obtain ⟨a2, k2, rfl⟩ := owns_slice o2; have o1 := owns_below o1 hb1; have hbZ := Below.trans (show Below X.heap.size X _ from (by first | exact hbZ | exact hbZ.drew | exact below_drewN hbZ _)) (hb1.mono (by first | exact hbZ.size | (simp; exact hbZ.size))); obtain ⟨_, _, c2, c3, c4, _, _, z2, z3, z4⟩ := HC1.out.below hbZ)
  refine hK.out _ _ (fun _ => ?_) ?_
  · exact ⟨c2, c3, c4⟩
  clear hHeld
  have hHeld := (by exact ⟨c2, c3, c4⟩ : (fun w' => w'.cell? ⟨w.heap.size, 2, none⟩ = some (.slice sa x.says.length sc) ∧ w'.cell? ⟨w.heap.size, 3, none⟩ = some (.slice ua x.uses.length uc) ∧ w'.cell? ⟨w.heap.size, 4, none⟩ = some (.slice pa x.proof.length pc)) wz)
  clear hK K
  (try simp only [Act.put, List.setIfInBounds_toArray, List.set_cons_zero, List.set_cons_succ])
  refine anyK.one (i := 8) (o := { dst := some 11, op := Op.call { callee := Callee.value (Operand.func 117), args := #[Operand.tmp 10], argTypes := #[33] }, type := 33, pos := _, after := _, guard := none }) (by kernel_rfl) rfl (fun K hK => ?_)
  (try go_simp)
  (go_at_call 117; refine (HPC.out _ (by first | exact hbZ | exact hbZ.drew | exact below_drewN hbZ _)).mono ?_; rintro e wz ⟨u3, rfl, o3, hb1⟩; have o3 := owns_base (b' := X.heap.size) o3 (by first | exact hbZ.size | (simp; done) | exact Nat.le_refl _); obtain ⟨a3, k3, rfl⟩ := owns_slice o3; have o1 := owns_below o1 hb1; have o2 := owns_below o2 hb1; have hbZ := Below.trans (show Below X.heap.size X _ from (by first | exact hbZ | exact hbZ.drew | exact below_drewN hbZ _)) (hb1.mono (by first | exact hbZ.size | (simp; exact hbZ.size))); obtain ⟨_, _, c2, c3, c4, _, _, z2, z3, z4⟩ := HC1.out.below hbZ)
  refine hK.out _ _ (fun _ => ?_) ?_
  · exact ⟨c2, c3, c4⟩
  clear hHeld
  have hHeld := (by exact ⟨c2, c3, c4⟩ : (fun w' => w'.cell? ⟨w.heap.size, 2, none⟩ = some (.slice sa x.says.length sc) ∧ w'.cell? ⟨w.heap.size, 3, none⟩ = some (.slice ua x.uses.length uc) ∧ w'.cell? ⟨w.heap.size, 4, none⟩ = some (.slice pa x.proof.length pc)) wz)
  clear hK K
  (try simp only [Act.put, List.setIfInBounds_toArray, List.set_cons_zero, List.set_cons_succ])
  refine anyK.one (i := 10) (o := { dst := none, op := Op.store 28 (Operand.tmp 12) (Operand.tmp 5), type := 0, pos := _, after := _, guard := none }) (by kernel_rfl) rfl (fun K hK => ?_)
  (try go_simp)
  refine hK.out _ _ (fun h => absurd h (by decide)) ?_
  clear hK K
  (try simp only [Act.put, List.setIfInBounds_toArray, List.set_cons_zero, List.set_cons_succ])
  refine anyK.one (i := 11) (o := { dst := some 13, op := Op.fieldAddr 35 (Operand.tmp 1) 3, type := 0, pos := _, after := _, guard := none }) (by kernel_rfl) rfl (fun K hK => ?_)
  (try go_simp)
  refine hK.out _ _ (fun h => absurd h (by decide)) ?_
  clear hK K
  (try simp only [Act.put, List.setIfInBounds_toArray, List.set_cons_zero, List.set_cons_succ])
  refine anyK.one (i := 12) (o := { dst := none, op := Op.store 32 (Operand.tmp 13) (Operand.tmp 8), type := 0, pos := _, after := _, guard := none }) (by kernel_rfl) rfl (fun K hK => ?_)
  (try go_simp)
  refine hK.out _ _ (fun h => absurd h (by decide)) ?_
  clear hK K
  (try simp only [Act.put, List.setIfInBounds_toArray, List.set_cons_zero, List.set_cons_succ])
  refine anyK.one (i := 13) (o := { dst := some 14, op := Op.fieldAddr 35 (Operand.tmp 1) 4, type := 0, pos := _, after := _, guard := none }) (by kernel_rfl) rfl (fun K hK => ?_)
  (try go_simp)
  refine hK.out _ _ (fun h => absurd h (by decide)) ?_
  clear hK K
  (try simp only [Act.put, List.setIfInBounds_toArray, List.set_cons_zero, List.set_cons_succ])
  refine anyK.one (i := 14) (o := { dst := none, op := Op.store 33 (Operand.tmp 14) (Operand.tmp 11), type := 0, pos := _, after := _, guard := none }) (by kernel_rfl) rfl (fun K hK => ?_)
  (try go_simp)
  refine hK.out _ _ (fun h => absurd h (by decide)) ?_
  clear hK K
  (try simp only [Act.put, List.setIfInBounds_toArray, List.set_cons_zero, List.set_cons_succ])
  refine anyK.done (by kernel_rfl) ?_ _
  have hXw := HXZ.out
  have hzz := hbZ.size
  have C1z := HC1.out.below hbZ
  have C2z := HC2.out.below hbZ
  have D1 := hid (C1z.set3 (.slice a1 x.says.length k1) (.slice a2 x.uses.length k2) (.slice a3 x.proof.length k3))
  obtain ⟨W3, hW3⟩ : ∃ W3, ((wz.setCell ⟨w.heap.size, 2, none⟩ (.slice a1 x.says.length k1)).setCell ⟨w.heap.size, 3, none⟩ (.slice a2 x.uses.length k2)).setCell ⟨w.heap.size, 4, none⟩ (.slice a3 x.proof.length k3) = W3 := ⟨_, rfl⟩
  have hg3 : ∀ k, k ≠ w.heap.size → W3.heap[k]? = wz.heap[k]? := fun k hk => by
    rw [← hW3, Below.heap_setCell _ _ _ _ hk, Below.heap_setCell _ _ _ _ hk, Below.heap_setCell _ _ _ _ hk]
  have hb3 : Below w.heap.size w W3 := hW3 ▸ ((((HB.out.trans (hbZ.mono HB.out.size)).setCell (p := ⟨w.heap.size, 2, none⟩) (Nat.le_refl _) _).setCell (p := ⟨w.heap.size, 3, none⟩) (Nat.le_refl _) _).setCell (p := ⟨w.heap.size, 4, none⟩) (Nat.le_refl _) _)
  have D2 := hid (C2z.block (hg3 (w.heap.size + 1) (by omega)))
  rw [hW3] at D1 ⊢
  obtain ⟨c0, c1, c2, c3, c4, z0, z1, z2, z3, z4⟩ := D1.out
  obtain ⟨d0, d1, d2, d3, d4, y0, y1, y2, y3, y4⟩ := D2.out
  have HG3 := hid hg3
  have HB3 := hid hb3
  clear hg3 hb3 hW3 C1z C2z hHeld
  go_wp2
  (try simp only [Exit.inBlock, Exit.then])
  clear c0 c1 c2 c3 c4 z0 z1 z2 z3 z4 d0 d1 d2 d3 d4 y0 y1 y2 y3 y4
  obtain ⟨c0, c1, c2, c3, c4, -, -, -, -, -⟩ := D2.out.store (.string x.name) (.string x.who) (.slice a1 x.says.length k1) (.slice a2 x.uses.length k2) (.slice a3 x.proof.length k3)
  have hall : ∀ q, X.heap.size ≤ q → (set5 W3 (w.heap.size + 1) (.string x.name) (.string x.who) (.slice a1 x.says.length k1) (.slice a2 x.uses.length k2) (.slice a3 x.proof.length k3)).heap[q]? = wz.heap[q]? := fun q hq => by rw [heap_set5 _ _ _ _ _ _ _ (by omega), HG3.out q (by omega)]
  have hO : EntO wz X.heap.size (.slice a1 x.says.length k1) (.slice a2 x.uses.length k2) (.slice a3 x.proof.length k3) x := ⟨o1, o2, o3, ls, lu, lp, HNU.out, HN.out, HN2.out⟩
  have hF := hO.blocks (base' := w.heap.size) (by omega) fun q hq _ => hall q hq
  refine bodyPost_ret (v := .agg #[.string x.name, .string x.who, .slice a1 x.says.length k1, .slice a2 x.uses.length k2, .slice a3 x.proof.length k3]) ?_ rfl ⟨_, rfl, ⟨_, _, _, rfl, hF⟩, set5_below HB3.out (by omega) _ _ _ _ _⟩
  unfold set5 at c0 c1 c2 c3 c4
  clear hall hO hF
  simp only [results, Tryz.results62]
  go_simp
end Go.Proofs.YtpflkjldapmgdaaGreat
namespace Go.Proofs.YtpflkjldapmgdaaGreat
open Go Go.RowKit Go.Maps
theorem C5.set_2 {w : World} {b : Nat} {x0 x1 x2 x3 x4 : Value} (h : C5 w b x0 x1 x2 x3 x4) (y : Value) : C5 (w.setCell ⟨b, 2, none⟩ y) b x0 x1 y x3 x4 := by
  refine ⟨?_, ?_, World.cell?_setCell_same _ _ _ h.c2, ?_, ?_, ?_, ?_, ?_, ?_, ?_⟩
  · rw [World.cell?_setCell_other _ _ _ _ (by simp)]; exact h.c0
  · rw [World.cell?_setCell_other _ _ _ _ (by simp)]; exact h.c1
  · rw [World.cell?_setCell_other _ _ _ _ (by simp)]; exact h.c3
  · rw [World.cell?_setCell_other _ _ _ _ (by simp)]; exact h.c4
  · rw [World.frozen?_setCell]; exact h.z0
  · rw [World.frozen?_setCell]; exact h.z1
  · rw [World.frozen?_setCell]; exact h.z2
  · rw [World.frozen?_setCell]; exact h.z3
  · rw [World.frozen?_setCell]; exact h.z4
theorem C5.set_3 {w : World} {b : Nat} {x0 x1 x2 x3 x4 : Value} (h : C5 w b x0 x1 x2 x3 x4) (y : Value) : C5 (w.setCell ⟨b, 3, none⟩ y) b x0 x1 x2 y x4 := by
  refine ⟨?_, ?_, ?_, World.cell?_setCell_same _ _ _ h.c3, ?_, ?_, ?_, ?_, ?_, ?_⟩
  · rw [World.cell?_setCell_other _ _ _ _ (by simp)]; exact h.c0
  · rw [World.cell?_setCell_other _ _ _ _ (by simp)]; exact h.c1
  · rw [World.cell?_setCell_other _ _ _ _ (by simp)]; exact h.c2
  · rw [World.cell?_setCell_other _ _ _ _ (by simp)]; exact h.c4
  · rw [World.frozen?_setCell]; exact h.z0
  · rw [World.frozen?_setCell]; exact h.z1
  · rw [World.frozen?_setCell]; exact h.z2
  · rw [World.frozen?_setCell]; exact h.z3
  · rw [World.frozen?_setCell]; exact h.z4
theorem lit_own {w : World} {base : Nat} {e : TypeId} (size : Nat) (h : base ≤ w.heap.size) : (w.alloc (.cells #[] e)).ownsRow base e size (.slice (some ⟨w.heap.size, 0, none⟩) 0 0) 0 [] := by
  have := World.ownsRow_lit (base := base) (e := e) (size := size) w #[] 0 h (by simp [maxLen]) (by simp)
  simpa using this
set_option maxHeartbeats 2000000 in
set_option maxRecDepth 100000 in
theorem ref8_copied (vS vU vP : Value) (x : En) (w : World) (he : EntAt w vS vU vP x) (ls : x.says.length ≤ 1000) (lu : x.uses.length ≤ 1000) (lp : x.proof.length ≤ 1000) :
    Calls Tryz.prog 105 #[.agg #[.string x.name, .string x.who, vS, vU, vP]] w fun e w' => ∃ v, e = .returned v ∧ EnO w' w.heap.size v x ∧ Below w.heap.size w w' := by
  obtain ⟨sa, sc, rfl, -⟩ := he.s.open
  obtain ⟨ua, uc, rfl, -⟩ := he.u.open
  obtain ⟨pa, pc, rfl, -⟩ := he.p.open
  have hC5 := C5.new w (.string x.name) (.string x.who) (.slice sa x.says.length sc) (.slice ua x.uses.length uc) (.slice pa x.proof.length pc) 35
  have hbV : Below w.heap.size w (w.alloc (.cells #[.string x.name, .string x.who, .slice sa x.says.length sc, .slice ua x.uses.length uc, .slice pa x.proof.length pc] 35)) := (Below.refl _ _).alloc (Nat.le_refl _) _
  obtain ⟨V, hV⟩ : ∃ V, w.alloc (.cells #[.string x.name, .string x.who, .slice sa x.says.length sc, .slice ua x.uses.length uc, .slice pa x.proof.length pc] 35) = V := ⟨_, rfl⟩
  have hVz : V.heap.size = w.heap.size + 1 := by rw [← hV]; simp
  rw [hV] at hC5 hbV
  have hR5 := C5.new V (.string ⟨#[]⟩) (.string ⟨#[]⟩) (.slice none 0 0) (.slice none 0 0) (.slice none 0 0) 35
  have hbX : Below V.heap.size V (V.alloc (.cells #[.string ⟨#[]⟩, .string ⟨#[]⟩, .slice none 0 0, .slice none 0 0, .slice none 0 0] 35)) := (Below.refl _ _).alloc (Nat.le_refl _) _
  obtain ⟨X, hX⟩ : ∃ X, V.alloc (.cells #[.string ⟨#[]⟩, .string ⟨#[]⟩, .slice none 0 0, .slice none 0 0, .slice none 0 0] 35) = X := ⟨_, rfl⟩
  have hXz : X.heap.size = w.heap.size + 2 := by rw [← hX, World.size_alloc, hVz]
  rw [hX] at hR5 hbX
  rw [hVz] at hR5
  have C1 := hC5.below hbX
  have hb := hbV.trans (hbX.mono hbV.size)
  have hXe : (w.alloc (.cells #[.string x.name, .string x.who, .slice sa x.says.length sc, .slice ua x.uses.length uc, .slice pa x.proof.length pc] 35)).alloc (.cells #[.string ⟨#[]⟩, .string ⟨#[]⟩, .slice none 0 0, .slice none 0 0, .slice none 0 0] 35) = X := by rw [hV, hX]
  -- the first copy
  have hb1a : Below w.heap.size w (X.alloc (.cells #[] 3)) := hb.alloc (by omega) _
  have hO1 := lit_own (w := X) (base := X.heap.size) (e := 3) 1 (Nat.le_refl _)
  have hR1 : RowK (X.alloc (.cells #[] 3)) _ 1 _ _ := he.s.below hb1a
  have hCa := C1.below (show Below X.heap.size X (X.alloc (.cells #[] 3)) from (Below.refl _ _).alloc (Nat.le_refl _) _)
  have hDa := hR5.below (show Below X.heap.size X (X.alloc (.cells #[] 3)) from (Below.refl _ _).alloc (Nat.le_refl _) _)
  have hza : (X.alloc (.cells #[] 3)).heap.size = w.heap.size + 3 := by rw [World.size_alloc, hXz]
  have hXz' : X.heap.size = w.heap.size + 1 + 1 := by omega
  rw [hXz'] at hO1
  have HE := hid he
  have HN := hid he.n1
  have HN2 := hid he.n2
  have HNU := hid he.u.2
  have HXA : Hid (((w.alloc (.cells #[.string x.name, .string x.who, .slice sa x.says.length sc, .slice ua x.uses.length uc, .slice pa x.proof.length pc] 35)).alloc (.cells #[.string ⟨#[]⟩, .string ⟨#[]⟩, .slice none 0 0, .slice none 0 0, .slice none 0 0] 35)).alloc (.cells #[] 3) = X.alloc (.cells #[] 3)) := hid (by rw [hXe])
  obtain ⟨XA, hXA⟩ : ∃ XA, X.alloc (.cells #[] 3) = XA := ⟨_, rfl⟩
  rw [hXA] at HXA hO1 hR1 hCa hDa hza hb1a
  have HO1 := hid hO1
  have HR1 := hid hR1
  have HCA := hid hCa
  have HDA := hid hDa
  have HB1 := hid hb1a
  have HZA := hid hza
  clear hC5 hbV hV hVz hbX hX hR5 hb he hXe hb1a hO1 hR1 hCa hDa hza hXA C1 hXz hXz' X
  go_enter Tryz.func105, Tryz.ntmps105
  go_wp2_with (first
    | (at_builtin; rw [HXA.out]; refine wpList_append_row rfl (.tmp 3) (.tmp 5) 28 rfl (w.heap.size + 1 + 1) 3 el_int Tryz.underlying28 rfl (by decide) _ _ _ rfl HO1.out _ x.says.length (x.says.map (Value.int .i64)) rfl HR1.out (ints_one _) (by omega) (by omega) (by rw [HZA.out]; omega) ?_
       intro v1 w1 own1' grow1 _
       have own1 : w1.ownsRow (w.heap.size + 1 + 1) 3 1 v1 x.says.length (x.says.map (Value.int .i64)) := (by simpa using own1')
       have gb1 := grow1.block
       have gz1 := grow1.size
       have bw1 := HB1.out.grown grow1 (by rw [HZA.out]; omega) (fun q hq => by cases hq; show w.heap.size ≤ w.heap.size + 1 + 1; omega)
       have C1 := HCA.out.block (gb1 w.heap.size (by rw [HZA.out]; omega) (fun e => by have e2 : w.heap.size = w.heap.size + 1 + 1 := Option.some.inj e; omega))
       have D1 := HDA.out.block (gb1 (w.heap.size + 1) (by rw [HZA.out]; omega) (fun e => by have e2 : w.heap.size + 1 = w.heap.size + 1 + 1 := Option.some.inj e; omega))
       obtain ⟨a1, k1, rfl⟩ := owns_slice own1
       have C1s := C1.set_2 (.slice a1 x.says.length k1)
       have D1s := D1.block (w' := w1.setCell ⟨w.heap.size, 2, none⟩ (.slice a1 x.says.length k1)) (Below.heap_setCell _ _ _ _ (by simp))
       have bw1s := bw1.setCell (p := ⟨w.heap.size, 2, none⟩) (Nat.le_refl _) (.slice a1 x.says.length k1)
       have own1s := owns_blocks (W' := w1.setCell ⟨w.heap.size, 2, none⟩ (.slice a1 x.says.length k1)) own1 (fun q h1 _ _ => Below.heap_setCell _ _ _ _ (by simp only; omega))
       have zs1 : (w1.setCell ⟨w.heap.size, 2, none⟩ (.slice a1 x.says.length k1)).heap.size = w1.heap.size := (by simp)
       have z1w : w.heap.size + 3 ≤ w1.heap.size := (by have := HZA.out; omega)
       have hO2 := lit_own (w := w1.setCell ⟨w.heap.size, 2, none⟩ (.slice a1 x.says.length k1)) (base := w1.heap.size) (e := 9) 1 (by rw [zs1]; exact Nat.le_refl _)
       rw [zs1] at hO2
       have bw2a := bw1s.alloc (by rw [zs1]; omega) (.cells #[] 9)
       have hR2 := HE.out.u.1.below bw2a
       have bA2 := (Below.refl (w1.setCell ⟨w.heap.size, 2, none⟩ (.slice a1 x.says.length k1)).heap.size (w1.setCell ⟨w.heap.size, 2, none⟩ (.slice a1 x.says.length k1))).alloc (Nat.le_refl _) (.cells #[] 9)
       have C2a := hid (C1s.below bA2)
       have D2a := hid (D1s.below bA2)
       have own1a := hid (owns_below own1s bA2)
       have O1L := hid (fun q h => (own1.lt q h).2)
       have Z2a := hid (show ((w1.setCell ⟨w.heap.size, 2, none⟩ (.slice a1 x.says.length k1)).alloc (.cells #[] 9)).heap.size = w1.heap.size + 1 from (by rw [World.size_alloc, zs1]))
       have B2a := hid bw2a
       have Z1W := hid z1w
       have lt1 : w.heap.size < w1.heap.size := (by omega)
       have lt1' : w.heap.size + 1 < w1.heap.size := (by omega)
       obtain ⟨c0, c1, c2, c3, c4, z0, z1, z2, z3, z4⟩ := C1
       clear C1s D1s bw1s own1s zs1 z1w bw2a bA2 D1 bw1 gb1 gz1 own1' own1 grow1)
    | (at_builtin; refine wpList_append_row rfl (.tmp 8) (.tmp 10) 32 rfl w1.heap.size 9 el_str Tryz.underlying32 rfl (by decide) _ _ _ rfl hO2 _ x.uses.length (x.uses.map Value.string) rfl hR2 (strs_one _) (by omega) (by omega) (by rw [Z2a.out]; omega) ?_
       intro v2 w2 own2' grow2 _
       have own2 : w2.ownsRow w1.heap.size 9 1 v2 x.uses.length (x.uses.map Value.string) := (by simpa using own2')
       have gb2 : ∀ q, q < w1.heap.size → w2.heap[q]? = _ := fun q hq => grow2.block q (by rw [Z2a.out]; omega) (fun e => by have e2 : q = w1.heap.size := Option.some.inj e; omega)
       have gz2 := grow2.size
       have bw2 := B2a.out.grown grow2 (by rw [Z2a.out]; omega) (fun q hq => by cases hq; show w.heap.size ≤ w1.heap.size; omega)
       have C2 := C2a.out.block (gb2 w.heap.size lt1)
       have D2 := D2a.out.block (gb2 (w.heap.size + 1) lt1')
       have own1b := owns_blocks own1a.out (fun q h1 h2 h3 => gb2 q (O1L.out q h3))
       obtain ⟨a2, k2, rfl⟩ := owns_slice own2
       have C2s := C2.set_3 (.slice a2 x.uses.length k2)
       have D2s := D2.block (w' := w2.setCell ⟨w.heap.size, 3, none⟩ (.slice a2 x.uses.length k2)) (Below.heap_setCell _ _ _ _ (by simp))
       have bw2s := bw2.setCell (p := ⟨w.heap.size, 3, none⟩) (Nat.le_refl _) (.slice a2 x.uses.length k2)
       have own1s := owns_blocks (W' := w2.setCell ⟨w.heap.size, 3, none⟩ (.slice a2 x.uses.length k2)) own1b (fun q h1 _ _ => Below.heap_setCell _ _ _ _ (by simp only; omega))
       have own2s := owns_blocks (W' := w2.setCell ⟨w.heap.size, 3, none⟩ (.slice a2 x.uses.length k2)) own2 (fun q h1 _ _ => Below.heap_setCell _ _ _ _ (by simp only; omega))
       have zs2 : (w2.setCell ⟨w.heap.size, 3, none⟩ (.slice a2 x.uses.length k2)).heap.size = w2.heap.size := (by simp)
       have z2w : w1.heap.size + 1 ≤ w2.heap.size := (by have := Z2a.out; omega)
       have hO3 := lit_own (w := w2.setCell ⟨w.heap.size, 3, none⟩ (.slice a2 x.uses.length k2)) (base := w2.heap.size) (e := 76) 3 (by rw [zs2]; exact Nat.le_refl _)
       rw [zs2] at hO3
       have bw3a := bw2s.alloc (by rw [zs2]; omega) (.cells #[] 76)
       have hR3 : RowK _ _ 3 x.proof.length (stC x.proof) := HE.out.p.below bw3a
       have bA3 := (Below.refl (w2.setCell ⟨w.heap.size, 3, none⟩ (.slice a2 x.uses.length k2)).heap.size (w2.setCell ⟨w.heap.size, 3, none⟩ (.slice a2 x.uses.length k2))).alloc (Nat.le_refl _) (.cells #[] 76)
       have C3a := hid (C2s.below bA3)
       have D3a := hid (D2s.below bA3)
       have own1c := hid (owns_below own1s bA3)
       have own2c := hid (owns_below own2s bA3)
       have O2L := hid (fun q h => (own2.lt q h).2)
       have Z3a := hid (show ((w2.setCell ⟨w.heap.size, 3, none⟩ (.slice a2 x.uses.length k2)).alloc (.cells #[] 76)).heap.size = w2.heap.size + 1 from (by rw [World.size_alloc, zs2]))
       have B3a := hid bw3a
       have Z2W := hid z2w
       have lt2 : w.heap.size < w2.heap.size := (by omega)
       have lt2' : w.heap.size + 1 < w2.heap.size := (by omega)
       clear c0 c1 c2 c3 c4 z0 z1 z2 z3 z4
       obtain ⟨c0, c1, c2, c3, c4, z0, z1, z2, z3, z4⟩ := C2
       clear C2s D2s bw2s own1s own2s zs2 z2w bw3a bA3 D2 bw2 gb2 gz2 own2' own2 grow2 own1b hO2 hR2)
    | (at_builtin; refine wpList_append_row rfl (.tmp 13) (.tmp 15) 33 rfl w2.heap.size 76 el_step Tryz.underlying33 rfl (by decide) _ _ _ rfl hO3 _ x.proof.length (stC x.proof) rfl hR3 (stC_one _) (by omega) (by omega) (by rw [Z3a.out]; omega) ?_
       intro v3 w3 own3' grow3 _
       have own3 : w3.ownsRow w2.heap.size 76 3 v3 x.proof.length (stC x.proof) := (by simpa using own3')
       have gb3 : ∀ q, q < w2.heap.size → w3.heap[q]? = _ := fun q hq => grow3.block q (by rw [Z3a.out]; omega) (fun e => by have e2 : q = w2.heap.size := Option.some.inj e; omega)
       have gz3 := grow3.size
       have bw3 := B3a.out.grown grow3 (by rw [Z3a.out]; omega) (fun q hq => by cases hq; show w.heap.size ≤ w2.heap.size; omega)
       have C3 := C3a.out.block (gb3 w.heap.size lt2)
       have D3 := D3a.out.block (gb3 (w.heap.size + 1) lt2')
       have own1d := owns_blocks own1c.out (fun q h1 h2 h3 => gb3 q (by have := O1L.out q h3; have := Z2W.out; omega))
       have own2d := owns_blocks own2c.out (fun q h1 h2 h3 => gb3 q (O2L.out q h3))
       obtain ⟨a3, k3, rfl⟩ := owns_slice own3
       have hO : EntO w3 (w.heap.size + 2) (.slice a1 x.says.length k1) (.slice a2 x.uses.length k2) (.slice a3 x.proof.length k3) x := ⟨owns_base own1d (by omega), owns_base own2d (by have := Z1W.out; omega), owns_base own3 (by have := Z1W.out; have := Z2W.out; omega), ls, lu, lp, HNU.out, HN.out, HN2.out⟩
       have C3s := C3.set4 (.slice a3 x.proof.length k3)
       have D3s := D3.block (w' := w3.setCell ⟨w.heap.size, 4, none⟩ (.slice a3 x.proof.length k3)) (Below.heap_setCell _ _ _ _ (by simp))
       have bw3s := bw3.setCell (p := ⟨w.heap.size, 4, none⟩) (Nat.le_refl _) (.slice a3 x.proof.length k3)
       have HOO := hid hO
       have HC3 := hid C3s
       have HD3 := hid D3s
       have HB3 := hid bw3s
       clear c0 c1 c2 c3 c4 z0 z1 z2 z3 z4
       obtain ⟨c0, c1, c2, c3, c4, z0, z1, z2, z3, z4⟩ := C3
       obtain ⟨d0, d1, d2, d3, d4, y0, y1, y2, y3, y4⟩ := D3
       clear own1d own2d own3 own3' grow3 gb3 gz3 bw3 C3s D3s bw3s hO hO3 hR3))
  (try simp only [Exit.inBlock, Exit.then])
  clear c0 c1 c2 c3 c4 z0 z1 z2 z3 z4 d0 d1 d2 d3 d4 y0 y1 y2 y3 y4
  obtain ⟨c0, c1, c2, c3, c4, -, -, -, -, -⟩ := HD3.out.store (.string x.name) (.string x.who) (.slice a1 x.says.length k1) (.slice a2 x.uses.length k2) (.slice a3 x.proof.length k3)
  have hall : ∀ q, w.heap.size + 2 ≤ q → (set5 (w3.setCell ⟨w.heap.size, 4, none⟩ (.slice a3 x.proof.length k3)) (w.heap.size + 1) (.string x.name) (.string x.who) (.slice a1 x.says.length k1) (.slice a2 x.uses.length k2) (.slice a3 x.proof.length k3)).heap[q]? = w3.heap[q]? := fun q hq => by rw [heap_set5 _ _ _ _ _ _ _ (by omega)]; exact Below.heap_setCell _ _ _ _ (by simp only; omega)
  have hF := HOO.out.blocks (base' := w.heap.size) (by omega) fun q hq _ => hall q hq
  refine bodyPost_ret (v := .agg #[.string x.name, .string x.who, .slice a1 x.says.length k1, .slice a2 x.uses.length k2, .slice a3 x.proof.length k3]) ?_ rfl ⟨_, rfl, ⟨_, _, _, rfl, hF⟩, set5_below HB3.out (by omega) _ _ _ _ _⟩
  unfold set5 at c0 c1 c2 c3 c4
  clear hall hF
  simp only [results, Tryz.results105]
  go_simp
end Go.Proofs.YtpflkjldapmgdaaGreat
