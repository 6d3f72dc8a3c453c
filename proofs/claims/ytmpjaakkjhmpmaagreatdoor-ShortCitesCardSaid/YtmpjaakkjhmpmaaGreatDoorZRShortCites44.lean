/-
  WHAT IT HOLDS: a growing row of terms beside rows that change (TeB), a step stored whole (row_put7), and the contract of Citing of package short. Conditions: the arguments read as data; a small sign.
-/
import Derived.Deep.RegionHeld3
import Derived.Test.YtmpjaakkjhmpmaaGreatDoorZRShortCites39
import Derived.Test.YtmpjaakkjhmpmaaGreatDoorZRShortCites43
import Derived.Test.YtmpjaakkjhmpmaaGreatDoorZRShortCites0
import Derived.Test.YtmpjaakkjhmpmaaGreatDoorZRShortCites34
namespace Go.Proofs.YtmpjaakkjhmpmaaGreatDoor
open Go Go.RowKit Go.Maps
/-- a growing row of terms whose numbers lie at B or above: behind any change of its own block, or below B, the terms still lie. -/
structure TeB (w : World) (base : Nat) (u : Value) (vs : List Value) (l : List (List Int)) : Prop where
  top : w.ownsRow base 34 1 u l.length vs
  len : vs.length = l.length
  rd : ∀ W' : World, (∀ q, base ≤ q → q < w.heap.size → some q ≠ u.ownBlock → W'.heap[q]? = w.heap[q]?) → ∀ (j : Nat) (h : j < l.length) (h' : j < vs.length), Ints W' vs[j] l[j]
theorem TeB.nil (w : World) (base : Nat) : TeB w base (.slice none 0 0) [] [] := ⟨World.ownsRow_nil _ _ _ _, rfl, fun _ _ j h => by simp at h⟩
theorem TeB.turn {w w' : World} {base : Nat} {u : Value} {vs : List Value} {l : List (List Int)} (h : TeB w base u vs l) (hs : w.heap.size ≤ w'.heap.size) (hb : ∀ q, base ≤ q → q < w.heap.size → w'.heap[q]? = w.heap[q]?) : TeB w' base u vs l :=
  ⟨owns_blocks h.top fun q h1 h2 _ => hb q h1 h2, h.len, fun W' hW => h.rd W' fun q h1 hq hne => (hW q h1 (Nat.lt_of_lt_of_le hq hs) hne).trans (hb q h1 hq)⟩
theorem TeB.below {w w' : World} {base : Nat} {u : Value} {vs : List Value} {l : List (List Int)} (h : TeB w base u vs l) (hb : Below w.heap.size w w') : TeB w' base u vs l := h.turn hb.size fun q _ hq => hb.block q hq
theorem TeB.terms {w : World} {base : Nat} {u : Value} {vs : List Value} {l : List (List Int)} (h : TeB w base u vs l) (hl : l.length ≤ 100000) : Terms w u l :=
  ⟨vs, by unfold Vals; rw [h.len]; exact RowK.of_owns h.top (by omega), h.len, fun i v t h1 h2 => by
    obtain ⟨k1, e1⟩ := List.getElem?_eq_some_iff.1 h1
    obtain ⟨k2, e2⟩ := List.getElem?_eq_some_iff.1 h2
    subst e1 e2
    exact h.rd w (fun _ _ _ _ => rfl) i k2 k1⟩
theorem TeB.push {w1 w2 : World} {base : Nat} {u : Value} {vs : List Value} {l : List (List Int)} (h : TeB w1 base u vs l) {x : List Int} {v : Value}
    (hx : ∀ W' : World, (∀ q, base ≤ q → q < w1.heap.size → some q ≠ u.ownBlock → W'.heap[q]? = w1.heap[q]?) → Ints W' v x)
    {g cap n : Nat} (hn : n = l.length) (hown : w2.ownsRow base 34 1 (.slice (some ⟨g, 0, none⟩) (n + 1) cap) (n + 1) (vs ++ [v])) (hg : w1.grownBy w2 u.ownBlock) {H : Nat} (hH : H = w1.heap.size) (hat : u.ownBlock = some g ∨ g = H) :
    TeB w2 base (.slice (some ⟨g, 0, none⟩) (n + 1) cap) (vs ++ [v]) (l ++ [x]) := by
  subst hn
  have key : ∀ W' : World, (∀ q, base ≤ q → q < w2.heap.size → some q ≠ (Value.slice (some ⟨g, 0, none⟩) (l.length + 1) cap).ownBlock → W'.heap[q]? = w2.heap[q]?) → ∀ q, base ≤ q → q < w1.heap.size → some q ≠ u.ownBlock → W'.heap[q]? = w1.heap[q]? := by
    intro W' hW q h1 hq hne
    rw [hW q h1 (Nat.lt_of_lt_of_le hq hg.size) ?_, hg.block q hq hne]
    intro e
    have e : q = g := Option.some.inj e
    rcases hat with ha | ha
    · exact hne (by rw [ha, e])
    · omega
  refine ⟨by simpa using hown, by simp [h.len], fun W' hW j hj hj' => ?_⟩
  have k1 := key W' hW
  by_cases hlt : j < l.length
  · have hv : j < vs.length := by rw [h.len]; exact hlt
    rw [List.getElem_append_left hlt, List.getElem_append_left hv]
    exact h.rd W' k1 j hlt hv
  · have e : j = l.length := by simp at hj; omega
    subst e
    have e1 : (l ++ [x])[l.length] = x := by simp
    have e2 : (vs ++ [v])[l.length] = v := by rw [List.getElem_append_right (by rw [h.len]; exact Nat.le_refl _)]; simp [h.len]
    rw [e1, e2]
    exact hx W' k1
/-- three cells of a row of steps are stored. -/
theorem row_put7 {w : World} {base c cap n : Nat} {xs : List Value} (h : w.ownsRow base 57 3 (.slice (some ⟨c, 0, none⟩) n cap) n xs) {k : Nat} (hk : k < n) (a b z : Value) :
    ∃ z0 z1 z2, w.cell? ⟨c, k * 3, none⟩ = some z0 ∧ (w.setCell ⟨c, k * 3, none⟩ a).cell? ⟨c, k * 3 + 1, none⟩ = some z1 ∧ ((w.setCell ⟨c, k * 3, none⟩ a).setCell ⟨c, k * 3 + 1, none⟩ b).cell? ⟨c, k * 3 + 2, none⟩ = some z2 ∧
      w.frozen? ⟨c, k * 3, none⟩ = false ∧ (w.setCell ⟨c, k * 3, none⟩ a).frozen? ⟨c, k * 3 + 1, none⟩ = false ∧ ((w.setCell ⟨c, k * 3, none⟩ a).setCell ⟨c, k * 3 + 1, none⟩ b).frozen? ⟨c, k * 3 + 2, none⟩ = false ∧
      (((w.setCell ⟨c, k * 3, none⟩ a).setCell ⟨c, k * 3 + 1, none⟩ b).setCell ⟨c, k * 3 + 2, none⟩ z).ownsRow base 57 3 (.slice (some ⟨c, 0, none⟩) n cap) n (((xs.set (k * 3) a).set (k * 3 + 1) b).set (k * 3 + 2) z) := by
  have hlen : xs.length = n * 3 := h.1
  have e0 := h.cellAt (k * 3) (by omega)
  rw [List.getElem?_eq_getElem (by omega)] at e0
  have s1 := (h.stored (k * 3) a).1
  have e1 := s1.cellAt (k * 3 + 1) (by omega)
  rw [List.getElem?_eq_getElem (by rw [List.length_set]; omega)] at e1
  have s2 := (s1.stored (k * 3 + 1) b).1
  have e2 := s2.cellAt (k * 3 + 2) (by omega)
  rw [List.getElem?_eq_getElem (by rw [List.length_set, List.length_set]; omega)] at e2
  exact ⟨_, _, _, e0, e1, e2, h.frozenAt _, s1.frozenAt _, s2.frozenAt _, (s2.stored (k * 3 + 2) z).1⟩
theorem set3_block7 (w : World) (b o o' o'' : Nat) (x y z : Value) {q : Nat} (hq : q ≠ b) : (((w.setCell ⟨b, o, none⟩ x).setCell ⟨b, o', none⟩ y).setCell ⟨b, o'', none⟩ z).heap[q]? = w.heap[q]? := by
  exact (Below.heap_setCell _ _ _ _ hq).trans ((Below.heap_setCell _ _ _ _ hq).trans (Below.heap_setCell _ _ _ _ hq))
theorem set3_size7 (w : World) (b o o' o'' : Nat) (x y z : Value) : (((w.setCell ⟨b, o, none⟩ x).setCell ⟨b, o', none⟩ y).setCell ⟨b, o'', none⟩ z).heap.size = w.heap.size := by simp
theorem box_own7 (w : World) (a b c : Value) : (w.alloc (.cells #[a, b, c] 57)).ownsRow w.heap.size 57 3 (.slice (some ⟨w.heap.size, 0, none⟩) 1 1) 1 [a, b, c] :=
  World.ownsRow_lit (base := w.heap.size) (e := 57) (size := 3) w #[a, b, c] 1 (Nat.le_refl _) (by simp [maxLen]) rfl
theorem cit_at {o p : List St} {k : Nat} (ho : o.length = k) (hk : k < p.length) : (o ++ p.drop k)[k]? = some p[k] := by
  rw [List.getElem?_append_right (by omega), ho, Nat.sub_self, List.getElem?_drop, Nat.add_zero, List.getElem?_eq_getElem hk]
theorem cit_set {o p : List St} {k : Nat} (ho : o.length = k) (hk : k < p.length) (x : St) : (o ++ p.drop k).set k x = (o ++ [x]) ++ p.drop (k + 1) := by
  rw [List.set_append_right _ _ (by omega), ho, Nat.sub_self, List.drop_eq_getElem_cons hk, List.set_cons_zero]
  simp
theorem cit_same {o p : List St} {k : Nat} (hk : k < p.length) : o ++ p.drop k = (o ++ [p[k]]) ++ p.drop (k + 1) := by
  rw [List.drop_eq_getElem_cons hk]; simp
theorem cit_len {o p : List St} {k : Nat} (ho : o.length = k) (hk : k ≤ p.length) : (o ++ p.drop k).length = p.length := by
  rw [List.length_append, List.length_drop]; omega
set_option maxHeartbeats 8000000 in
set_option maxRecDepth 100000 in
theorem short_Citing (vs vg vp : Value) (s : Sg) (g : List (List Int)) (p : List St) (w : World) (hs : SignAt w vs s) (hg : Terms w vg g) (hp : StepsAt w vp p) (hs1 : s.length ≤ 1000) :
    Calls Tryz.prog 41 #[vs, vg, vp] w fun e w' => ∃ u o er, e = .returned (.tuple #[u, .int .i64 er]) ∧ CitQ s g p o er ∧ StepsAt w' u o ∧ Below w.heap.size w w' := by
  have HSD := hid (short_said vs vg vp s g p w hs hg hp hs1)
  have HSG := hid hs
  have HGG := hid hg
  have HPP := hid hp
  obtain ⟨ga, gc, rfl, -, -, -, GC⟩ := hg.open
  obtain ⟨pa, pc, rfl, -⟩ := hp.open
  have GC' := hid GC
  clear hs hg hp GC
  go_enter Tryz.func41, Tryz.ntmps41
  go_wp2_with fail
  refine HSD.out.mono ?_
  rintro e w1 ⟨u1, lp, er, rfl, hq, hT, hb1⟩
  obtain ⟨ua, uc, rfl, -⟩ := hT.open
  have HB1 := hid hb1
  have HQ := hid hq
  clear hT hb1 HSD
  by_cases h0 : er = 0
  rotate_left
  · have n0 : (er != 0) = true := by simpa using h0
    have HN := hid h0
    clear h0 hq
    go_wp2
    go_ret2
    exact ⟨_, [], er, rfl, ⟨lp, er, HQ.out, Or.inl ⟨HN.out, rfl, rfl⟩⟩, StepsAt.nil _, HB1.out⟩
  subst h0
  have hgd := hq.good
  obtain ⟨hgv, hpv⟩ := asked_parts hgd.1
  have hp60 := proof60 hpv
  have hp1 := proof1 hpv
  have hg60 : g.length ≤ 60 := by unfold givensB at hgv; rw [Bool.and_eq_true, Bool.and_eq_true, decide_eq_true_eq] at hgv; omega
  have HST := hid (fun (k : Nat) (hk : k < p.length) => right_step (proofB_at hpv hk))
  have HGV : Hid (∀ (k : Nat) (hk : k < g.length), termB s g[k] = true) := hid (fun k hk => by
    unfold givensB at hgv
    simp only [Bool.and_eq_true] at hgv
    exact List.all_eq_true.1 hgv.2 _ (List.getElem_mem hk))
  clear hgd hgv hpv hq
  have HCL := hid (sl_Clone_steps (.slice pa p.length pc) p.length (stC p) w1 (HPP.out.below HB1.out) (stC_one p) (by omega))
  go_wp2_with fail
  refine HCL.out.mono ?_
  rintro e w3 ⟨u3, rfl, hown3, hb3⟩
  obtain ⟨c, cap, rfl⟩ : ∃ c cap, u3 = .slice (some ⟨c, 0, none⟩) p.length cap := by
    rcases hown3.2 with ⟨rfl, h⟩ | ⟨c, cap, cur, rfl, -⟩
    · omega
    · exact ⟨c, cap, rfl⟩
  have hc0 : w1.heap.size ≤ c := (hown3.lt c rfl).1
  have hc1 : c < w3.heap.size := (hown3.lt c rfl).2
  have hc2 : w.heap.size ≤ c := Nat.le_trans HB1.out.size hc0
  have HO3 := hid hown3
  have HB3 := hid (HB1.out.trans (hb3.mono HB1.out.size))
  have HT3 := hid (TeB.nil w3 w3.heap.size)
  clear hown3 hb3 HCL hc0
  go_wp2
  go_loopw [11, 33] (fun u kv wr => ∃ (k : Nat) (o : List St) (l : List (List Int)) (vvs : List Value), k ≤ p.length ∧ kv = .int .i64 k ∧ CiR s g p k o l ∧ wr.ownsRow w1.heap.size 57 3 (.slice (some ⟨c, 0, none⟩) p.length cap) p.length (stC (o ++ p.drop k)) ∧ TeB wr w3.heap.size u vvs l ∧ Below w.heap.size w wr ∧ w3.heap.size ≤ wr.heap.size) (fun _ kv _ => p.length - (intOf kv).toNat)
  case atStart => exact ⟨0, [], [], [], by omega, rfl, .zero, HO3.out, HT3.out, HB3.out, Nat.le_refl _⟩
  case round =>
    clear HO3 HB3 HT3
    obtain ⟨k, o, l, vvs, hk, rfl, hC, hown, hE, hb, hsz3⟩ := hrel
    have hsz := hb.size
    obtain ⟨hol, hll, -⟩ := hC.len
    by_cases hlt : k < p.length
    · have hml := cit_len hol hk
      have hat := cit_at hol hlt
      obtain ⟨g0, g1, g2⟩ := stC_get (o ++ p.drop k) k (by rw [hml]; exact hlt)
      have hat2 : (o ++ p.drop k)[k]'(by rw [hml]; exact hlt) = p[k] := by rw [List.getElem?_eq_getElem (by rw [hml]; exact hlt)] at hat; exact Option.some.inj hat
      rw [hat2] at g0 g1 g2
      have x0 := hown.cellAt (k * 3) (by omega)
      have x1 := hown.cellAt (k * 3 + 1) (by omega)
      have x2 := hown.cellAt (k * 3 + 2) (by omega)
      rw [g0] at x0
      rw [g1] at x1
      rw [g2] at x2
      have hst := HST.out k hlt
      have hpk : p[k]? = some p[k] := List.getElem?_eq_getElem hlt
      have hset := fun x => cit_set hol hlt x
      have hsame := cit_same (o := o) hlt
      obtain ⟨x, hxx⟩ : ∃ x, p[k] = x := ⟨_, rfl⟩
      rw [hxx] at x0 x1 x2 hst hpk hsame
      obtain ⟨s1, s2, s3⟩ := x
      dsimp only at x0 x1 x2 hst
      obtain ⟨L, hL⟩ : ∃ L, o ++ p.drop k = L := ⟨_, rfl⟩
      have HSAME := hid (hL.symm.trans hsame)
      have HSET := hid (fun x => hL ▸ hset x)
      rw [hL] at hown
      have HOWN := hid hown
      have HCI := hid hC
      have HPK := hid hpk
      have HE := hid hE
      have HB := hid hb
      have HLL := hid hll
      have HU := hid hE.top.lt
      clear g0 g1 g2 hat hat2 hml hset hsame hL hxx hpk hC
      rcases hst with ⟨rfl, h1, h2⟩ | ⟨rfl, h1, h2, h3, h4⟩
      · -- a citation
        obtain ⟨n, rfl⟩ : ∃ n : Nat, s2 = n := ⟨s2.toNat, by omega⟩
        have hng : n < g.length := by omega
        obtain ⟨gb, go, ug, rfl, q0, gI⟩ := GC'.out n hng
        have htv := HGV.out n hng
        have hgd : g.getD n [] = g[n] := by rw [List.getD_eq_getElem?_getD, List.getElem?_eq_getElem hng]; rfl
        obtain ⟨WA, hWA⟩ : ∃ WA, wr.alloc (.cells #[.int .i64 1, .int .i64 (n : Int), .int .i64 s3] 57) = WA := ⟨_, rfl⟩
        have hba : Below wr.heap.size wr WA := hWA ▸ (Below.refl _ _).alloc (Nat.le_refl _) _
        have hcb := cell3_new7 wr (.int .i64 1) (.int .i64 (n : Int)) (.int .i64 s3) 57
        rw [hWA] at hcb
        obtain ⟨b0, b1, b2⟩ := hcb
        have hbA := hb.trans (hba.mono hsz)
        have gA := (hbA.cell (World.block_lt_of_cell? _ _ q0)).trans q0
        have K := hid (term_Canonical vs ug s g[n] WA (HSG.out.below hbA) (gI.below hbA) hs1)
        have HBA := hid hba
        have HBWA := hid hbA
        have HCN := hid (CiR.cite HCI.out HPK.out rfl)
        have hcn : canonL (g.getD ((n : Int)).toNat []) = canonL g[n] := by rw [Int.toNat_natCast, hgd]
        have hcl := canonL_len g[n]
        have h60 := (termB_facts htv).2.2.2
        obtain ⟨z, hz⟩ : ∃ z, canonL g[n] = z := ⟨_, rfl⟩
        have HTV := hid htv
        dsimp only at HCN
        rw [hcn, hz] at HCN
        rw [hz] at K hcl
        have hz60 : z.length ≤ 60 := by omega
        clear q0 gI hgd hcn hz htv hown hE hb hba hbA hcl h60
        go_wp2_with fail
        refine K.out.mono ?_
        rintro e w5 ⟨hb5, ⟨hf, -⟩ | ⟨-, v5, rfl, o5⟩⟩
        · exact absurd (HTV.out.symm.trans hf) (by decide)
        obtain ⟨a5, c5, rfl⟩ := owns_slice o5
        have HO5 := hid o5
        have hb15 := HBA.out.trans (hb5.mono HBA.out.size)
        have HB15 := hid hb15
        have HE5 := hid (HE.out.below hb15)
        have HW5 := hid (owns_below HOWN.out hb15)
        have HBW5 := hid (HBWA.out.trans (hb5.mono HBWA.out.size))
        have hown2 := HE5.out.top
        rw [HLL.out] at hown2
        have hownA := hown2.alloc (.cells #[.slice a5 z.length c5] 34)
        have hz5 := hb15.size
        have hzA := HBA.out.size
        have hz5A := hb5.size
        clear o5 hb5 hb15 hown2 K
        go_wp2_with (at_builtin; refine wpList_append_lie rfl _ _ 24 rfl w3.heap.size 34 el_term Tryz.underlying24 rfl (by decide) _ k vvs rfl hownA _ 1 [.slice a5 z.length c5] rfl (row_one_new _ _ _) (oneCell_one rfl) (by omega) (by omega) (by omega) (by simp; omega) _ rfl ?_; intro g8 cap8 w8 hown8 hgrow8 hat8 hlt8)
        go_roundw
        case rel =>
          refine ⟨k + 1, o ++ [(1, (n : Int), s3)], l ++ [z], vvs ++ [.slice a5 z.length c5], by omega, by go_num, HCN.out, ?_, ?_, ?_, ?_⟩
          · rw [← HSAME.out]
            exact owns_kept7 (HW5.out.alloc _) hownA (by decide) hgrow8
          · exact (HE5.out.below ((Below.refl _ _).alloc (Nat.le_refl _) (.cells #[.slice a5 z.length c5] 34))).push (fun W' hW' => ints_own HO5.out (by omega) fun q h1 h2 => (hW' q (by omega) (by simp; omega) (fun e => by
              have := (HU.out q e.symm).2
              omega)).trans (Below.heap_alloc _ _ _ h2)) HLL.out.symm hown8 hgrow8 rfl hat8
          · exact (HBW5.out.alloc HBW5.out.size _).grown hgrow8 (by simp; have := HBW5.out.size; omega) (fun q hq => by have := (HU.out q hq).1; omega)
          · have := hgrow8.size; simp at this; omega
        case measure => simp [intOf]; omega
      · -- a detachment
        obtain ⟨n, rfl⟩ : ∃ n : Nat, s2 = n := ⟨s2.toNat, by omega⟩
        obtain ⟨m, rfl⟩ : ∃ m : Nat, s3 = m := ⟨s3.toNat, by omega⟩
        have hn : n < l.length := by omega
        have hm : m < l.length := by omega
        have hT := hE.terms (by omega)
        obtain ⟨oa, oc, rfl, ocap, -, -, OC⟩ := hT.open
        obtain ⟨ob, oo, un, rfl, k0, i0⟩ := OC n hn
        obtain ⟨ob', oo', um, he', k1, i1⟩ := OC m hm
        obtain ⟨rfl, rfl⟩ : ob = ob' ∧ oo = oo' := by simpa using he'
        have hgn : l.getD n [] = l[n] := by rw [List.getD_eq_getElem?_getD, List.getElem?_eq_getElem hn]; rfl
        have hgm : l.getD m [] = l[m] := by rw [List.getD_eq_getElem?_getD, List.getElem?_eq_getElem hm]; rfl
        obtain ⟨x, hx⟩ : ∃ x, l[n] = x := ⟨_, rfl⟩
        obtain ⟨y, hy⟩ : ∃ y, l[m] = y := ⟨_, rfl⟩
        rw [hx] at i0 hgn
        rw [hy] at i1 hgm
        have HDR := hid (fun (t : List Int) (er : Int) (h : DetR s x y (t, er)) => (show DetR s (l.getD ((2, (n : Int), (m : Int)) : St).2.1.toNat []) (l.getD ((2, (n : Int), (m : Int)) : St).2.2.toNat []) (t, er) from by
          show DetR s (l.getD (n : Int).toNat []) (l.getD (m : Int).toNat []) (t, er)
          rw [Int.toNat_natCast, Int.toNat_natCast, hgn, hgm]; exact h))
        obtain ⟨WA, hWA⟩ : ∃ WA, wr.alloc (.cells #[.int .i64 2, .int .i64 (n : Int), .int .i64 (m : Int)] 57) = WA := ⟨_, rfl⟩
        have hba : Below wr.heap.size wr WA := hWA ▸ (Below.refl _ _).alloc (Nat.le_refl _) _
        have hwaz : WA.heap.size = wr.heap.size + 1 := by rw [← hWA]; simp
        have hcb := cell3_new7 wr (.int .i64 2) (.int .i64 (n : Int)) (.int .i64 (m : Int)) 57
        have hbo := box_own7 wr (.int .i64 2) (.int .i64 (n : Int)) (.int .i64 (m : Int))
        rw [hWA] at hcb hbo
        obtain ⟨b0, b1, b2⟩ := hcb
        have HBO := hid hbo
        have hbA := hb.trans (hba.mono hsz)
        have k0' := (hba.cell (World.block_lt_of_cell? _ _ k0)).trans k0
        have k1' := (hba.cell (World.block_lt_of_cell? _ _ k1)).trans k1
        have HDE := hid (fun (j : Nat) => kernel_Detach vs un um s x y (WA.drewN j) ((HSG.out.below hbA).drewN j) ((i0.below hba).drewN j) ((i1.below hba).drewN j) hs1)
        have HBA := hid hba
        have HBWA := hid hbA
        rw [hll] at ocap
        rw [hll]
        have hnk : (n : Int) < (k : Int) := by omega
        have hmk : (m : Int) < (k : Int) := by omega
        clear OC he' hT hown hE hb i0 i1 hx hy hgn hgm k0 k1 hbo
        go_wp2
        go_region_held3 (fun w' => w'.cell? ⟨ob, oo + n, none⟩ = some un ∧ w'.cell? ⟨ob, oo + m, none⟩ = some um ∧ w'.cell? ⟨wr.heap.size, 1, none⟩ = some (.int .i64 n) ∧ w'.cell? ⟨wr.heap.size, 2, none⟩ = some (.int .i64 m)) (first | exact ⟨by assumption, by assumption, by assumption, by assumption⟩ | go_keep) (first
          | (go_at_call 86; refine (HDE.out _).mono ?_; rintro e w4 ⟨yy, u, hyy, rfl, hown, hb4'⟩; have hb4 : Below WA.heap.size WA w4 := (below_self_drewN WA _).trans hb4'; have e0 := (hb4.cell (World.block_lt_of_cell? _ _ k0')).trans k0'; have e1 := (hb4.cell (World.block_lt_of_cell? _ _ k1')).trans k1'; have e2 := (hb4.cell (World.block_lt_of_cell? _ _ b1)).trans b1; have e3 := (hb4.cell (World.block_lt_of_cell? _ _ b2)).trans b2))
        have HO4 : Hid (w4.ownsRow WA.heap.size 3 1 u yy.1.length (yy.1.map (Value.int .i64))) := hid hown
        have HB4 := hid hb4
        have HBW4 := hid (HBWA.out.trans (hb4.mono HBWA.out.size))
        have HL60 := hid (det_len hyy)
        obtain ⟨t, er⟩ := yy
        dsimp only at HO4 HL60 hyy ⊢
        have HD := hid (HDR.out _ _ hyy)
        obtain ⟨a4, c4, rfl⟩ := owns_slice hown
        have ht60 := HL60.out
        clear hown hb4 hb4' e0 e1 e2 e3 k0' k1' b0 b1 b2 hyy HDE HDR hba hbA
        by_cases hy0 : er = 0
        rotate_left
        · have n0 : (er != 0) = true := by simpa using hy0
          have HNE := hid hy0
          clear hy0
          go_wp2
          go_ret2
          exact ⟨_, [], 11, rfl, ⟨lp, 0, HQ.out, Or.inr ⟨rfl, Or.inr ⟨rfl, rfl, k, o, l, _, (t, er), HCI.out, HPK.out, (by show (2 : Int) ≠ 1; decide), HD.out, HNE.out⟩⟩⟩, StepsAt.nil _, HBW4.out⟩
        subst hy0
        have K := hid (short_given vs _ (.slice a4 t.length c4) s g t w4 (HSG.out.below HBW4.out) (HGG.out.below HBW4.out) (Ints.of_owns HO4.out (by omega)) hs1 (by omega))
        have HCN := hid (CiR.det HCI.out HPK.out (by show (2 : Int) ≠ 1; decide) HD.out)
        unfold citS citT at HCN
        rcases bestI_cases s g t with hbi | ⟨i, hig, hbi, hob⟩
        · rw [hbi, if_pos (by decide), if_pos (by decide)] at HCN
          rw [hbi] at K
          clear hbi
          go_wp2_with fail
          refine K.out.mono ?_
          rintro e w5 ⟨rfl, hb5⟩
          have hb45 := HB4.out.trans (hb5.mono HB4.out.size)
          have hb15 := HBA.out.trans (hb45.mono HBA.out.size)
          have HO5 := hid (owns_below HO4.out hb5)
          have HE5 := hid (HE.out.below hb15)
          have HW5 := hid (owns_below HOWN.out hb15)
          have HBW5 := hid (HBW4.out.trans (hb5.mono HBW4.out.size))
          have hown2 := HE5.out.top
          rw [HLL.out] at hown2
          have hownA := hown2.alloc (.cells #[.slice a4 t.length c4] 34)
          have hz5 := hb15.size
          have hz5A := hb45.size
          clear hb5 hb45 hb15 hown2 K
          go_wp2_with (at_builtin; refine wpList_append_lie rfl _ _ 24 rfl w3.heap.size 34 el_term Tryz.underlying24 rfl (by decide) _ k vvs rfl hownA _ 1 [.slice a4 t.length c4] rfl (row_one_new _ _ _) (oneCell_one rfl) (by omega) (by omega) (by omega) (by simp; omega) _ rfl ?_; intro g8 cap8 w8 hown8 hgrow8 hat8 hlt8)
          go_roundw
          case rel =>
            refine ⟨k + 1, _, l ++ [t], vvs ++ [.slice a4 t.length c4], by omega, by go_num, HCN.out, ?_, ?_, ?_, ?_⟩
            · rw [← HSAME.out]
              exact owns_kept7 (HW5.out.alloc _) hownA (by decide) hgrow8
            · exact (HE5.out.below ((Below.refl _ _).alloc (Nat.le_refl _) (.cells #[.slice a4 t.length c4] 34))).push (fun W' hW' => ints_own HO5.out (by omega) fun q h1 h2 => (hW' q (by omega) (by simp; omega) (fun e => by
                have := (HU.out q e.symm).2
                omega)).trans (Below.heap_alloc _ _ _ h2)) HLL.out.symm hown8 hgrow8 rfl hat8
            · exact (HBW5.out.alloc HBW5.out.size _).grown hgrow8 (by simp; have := HBW5.out.size; omega) (fun q hq => by have := (HU.out q hq).1; omega)
            · have := hgrow8.size; simp at this; omega
          case measure => simp [intOf]; omega
        -- the detachment becomes a citation
        rw [hbi, if_neg (by omega), if_neg (by omega)] at HCN
        rw [hbi] at K
        obtain ⟨gb, go, ug, rfl, q0, gI⟩ := GC'.out i hig
        have htv := HGV.out i hig
        have hgd : g.getD i [] = g[i] := by rw [List.getD_eq_getElem?_getD, List.getElem?_eq_getElem hig]; rfl
        have hcl := canonL_len g[i]
        have h60 := (termB_facts htv).2.2.2
        have HTV := hid htv
        have HGI := hid gI
        have HQ0 := hid q0
        obtain ⟨z, hz⟩ : ∃ z, canonL g[i] = z := ⟨_, rfl⟩
        have HZ := hid hz
        rw [Int.toNat_natCast, hgd, hz] at HCN
        rw [hz] at hcl
        have hz60 : z.length ≤ 60 := by omega
        have hi0 : (0 : Int) ≤ (i : Int) := by omega
        clear hbi hob htv hgd hcl h60 gI q0 hz
        go_wp2_with fail
        refine K.out.mono ?_
        rintro e w5 ⟨rfl, hb5⟩
        have hb45 := HB4.out.trans (hb5.mono HB4.out.size)
        have hb15 := HBA.out.trans (hb45.mono HBA.out.size)
        have HBW5 := hid (HBW4.out.trans (hb5.mono HBW4.out.size))
        have hz15 := hb15.size
        have hz45 := hb45.size
        -- the box
        have hbo5 := owns_below HBO.out hb45
        obtain ⟨v0, v1, v2, e0, e1, e2, f0, f1, f2, hbo6⟩ := row_put7 hbo5 (k := 0) (by omega) (.int .i64 1) (.int .i64 (i : Int)) (.int .i64 0)
        simp only [Nat.zero_mul, Nat.zero_add] at e0 e1 e2 f0 f1 f2 hbo6
        have hblk6 := fun q (hq : q ≠ wr.heap.size) => set3_block7 w5 wr.heap.size 0 1 2 (.int .i64 1) (.int .i64 (i : Int)) (.int .i64 0) hq
        have hs6 := set3_size7 w5 wr.heap.size 0 1 2 (.int .i64 1) (.int .i64 (i : Int)) (.int .i64 0)
        have hw6 := ownsRow_setCell_other (a := ⟨wr.heap.size, 2, none⟩) (ownsRow_setCell_other (a := ⟨wr.heap.size, 1, none⟩) (ownsRow_setCell_other (a := ⟨wr.heap.size, 0, none⟩) (owns_below HOWN.out hb15) (by simp [Value.ownBlock]; omega) (.int .i64 1)) (by simp [Value.ownBlock]; omega) (.int .i64 (i : Int))) (by simp [Value.ownBlock]; omega) (.int .i64 0)
        have hb6 := ((HBW5.out.setCell (p := ⟨wr.heap.size, 0, none⟩) hsz (.int .i64 1)).setCell (p := ⟨wr.heap.size, 1, none⟩) hsz (.int .i64 (i : Int))).setCell (p := ⟨wr.heap.size, 2, none⟩) hsz (.int .i64 0)
        obtain ⟨X6, hX6⟩ : ∃ X, ((w5.setCell ⟨wr.heap.size, 0, none⟩ (.int .i64 1)).setCell ⟨wr.heap.size, 1, none⟩ (.int .i64 (i : Int))).setCell ⟨wr.heap.size, 2, none⟩ (.int .i64 0) = X := ⟨_, rfl⟩
        rw [hX6] at hbo6 hs6 hw6 hb6
        simp only [hX6] at hblk6
        have y0 := hbo6.cellAt 0 (by omega)
        have y1 := hbo6.cellAt 1 (by omega)
        have y2 := hbo6.cellAt 2 (by omega)
        simp at y0 y1 y2
        -- the row
        obtain ⟨v3, v4, v5, d0, d1, d2, m0, m1, m2, hw7⟩ := row_put7 hw6 (k := k) hlt (.int .i64 1) (.int .i64 (i : Int)) (.int .i64 0)
        rw [stC_set L (1, (i : Int), 0) k, HSET.out] at hw7
        have hblk7 := fun q (hq : q ≠ c) => set3_block7 X6 c (k * 3) (k * 3 + 1) (k * 3 + 2) (.int .i64 1) (.int .i64 (i : Int)) (.int .i64 0) hq
        have hs7 := set3_size7 X6 c (k * 3) (k * 3 + 1) (k * 3 + 2) (.int .i64 1) (.int .i64 (i : Int)) (.int .i64 0)
        have hb7 := ((hb6.setCell (p := ⟨c, k * 3, none⟩) hc2 (.int .i64 1)).setCell (p := ⟨c, k * 3 + 1, none⟩) hc2 (.int .i64 (i : Int))).setCell (p := ⟨c, k * 3 + 2, none⟩) hc2 (.int .i64 0)
        obtain ⟨X7, hX7⟩ : ∃ X, ((X6.setCell ⟨c, k * 3, none⟩ (.int .i64 1)).setCell ⟨c, k * 3 + 1, none⟩ (.int .i64 (i : Int))).setCell ⟨c, k * 3 + 2, none⟩ (.int .i64 0) = X := ⟨_, rfl⟩
        rw [hX7] at hw7 hs7 hb7
        simp only [hX7] at hblk7
        have n1 := (World.cell?_of_block (a := ⟨wr.heap.size, 1, none⟩) (hblk7 wr.heap.size (by omega))).trans y1
        have gA := (hb7.cell (World.block_lt_of_cell? _ _ HQ0.out)).trans HQ0.out
        have HE7 := hid (HE.out.turn (w' := X7) (by omega) (fun q h1 h2 => (hblk7 q (by omega)).trans ((hblk6 q (by omega)).trans (hb15.block q h2))))
        have HW7 := hid hw7
        have HB7 := hid hb7
        have K7 := hid (term_Canonical vs ug s g[i] X7 (HSG.out.below hb7) (HGI.out.below hb7) hs1)
        rw [HZ.out] at K7
        have hzX : wr.heap.size ≤ X7.heap.size := by omega
        clear hbo5 hbo6 hblk6 hs6 hw6 hb6 hw7 hblk7 hs7 hb7 hb5 hb45 hb15 K
        go_wp2_with fail
        refine K7.out.mono ?_
        rintro e w8 ⟨hb8, ⟨hf, -⟩ | ⟨-, v8, rfl, o8⟩⟩
        · exact absurd (HTV.out.symm.trans hf) (by decide)
        obtain ⟨a8, c8, rfl⟩ := owns_slice o8
        have HO8 := hid o8
        have HE8 := hid (HE7.out.below hb8)
        have HW8 := hid (owns_below HW7.out hb8)
        have HBW8 := hid (HB7.out.trans (hb8.mono HB7.out.size))
        have hown2 := HE8.out.top
        rw [HLL.out] at hown2
        have hownA := hown2.alloc (.cells #[.slice a8 z.length c8] 34)
        have hz8 := hb8.size
        clear o8 hb8 hown2 K7 hX6 hX7 e0 e1 e2 f0 f1 f2 d0 d1 d2 m0 m1 m2 y0 y1 y2 n1 gA
        go_wp2_with (at_builtin; refine wpList_append_lie rfl _ _ 24 rfl w3.heap.size 34 el_term Tryz.underlying24 rfl (by decide) _ k vvs rfl hownA _ 1 [.slice a8 z.length c8] rfl (row_one_new _ _ _) (oneCell_one rfl) (by omega) (by omega) (by omega) (by simp; omega) _ rfl ?_; intro g9 cap9 w9 hown9 hgrow9 hat9 hlt9)
        go_roundw
        case rel =>
          refine ⟨k + 1, _, l ++ [z], vvs ++ [.slice a8 z.length c8], by omega, by go_num, HCN.out, ?_, ?_, ?_, ?_⟩
          · exact owns_kept7 (HW8.out.alloc _) hownA (by decide) hgrow9
          · exact (HE8.out.below ((Below.refl _ _).alloc (Nat.le_refl _) (.cells #[.slice a8 z.length c8] 34))).push (fun W' hW' => ints_own HO8.out (by omega) fun q h1 h2 => (hW' q (by omega) (by simp; omega) (fun e => by
              have := (HU.out q e.symm).2
              omega)).trans (Below.heap_alloc _ _ _ h2)) HLL.out.symm hown9 hgrow9 rfl hat9
          · exact (HBW8.out.alloc HBW8.out.size _).grown hgrow9 (by simp; have := HBW8.out.size; omega) (fun q hq => by have := (HU.out q hq).1; omega)
          · have := hgrow9.size; simp at this; omega
        case measure => simp [intOf]; omega
    · have hkl : k = p.length := by omega
      subst hkl
      rw [List.drop_length, List.append_nil] at hown
      have HO := hid (show StepsAt wr (.slice (some ⟨c, 0, none⟩) p.length cap) o from by
        have h := RowK.of_owns hown (by omega)
        unfold StepsAt
        rw [hol]
        exact h)
      have HC := hid hC
      have HB := hid hb
      clear hown hC hE hb
      go_wp2
      go_ret2
      exact ⟨_, o, 0, rfl, ⟨lp, 0, HQ.out, Or.inr ⟨rfl, Or.inl ⟨l, HC.out, rfl⟩⟩⟩, HO.out, HB.out⟩
end Go.Proofs.YtmpjaakkjhmpmaaGreatDoor
