/-
  WHAT IT HOLDS: contract of Lattice of the reference of layer 5. Conditions: the arguments read as data; the shelf and the sign are small.
-/
import Derived.Test.YtiacbdipagbblaaLat3
import Derived.Test.YtiacbdipagbblaaGrp5
import Derived.Test.YtiacbdipagbblaaOver
import Derived.Deep.RegionLaw
namespace Go.Proofs.Ytiacbdipagbblaa
open Go Go.RowKit Go.Maps
/-- a slice of slices whose first numbers are those of F. -/
def Heads (w : World) (u : Value) (F : List Int) : Prop := ∃ a c, u = .slice a F.length c ∧ ∀ j (h : j < F.length), ∃ gU gr m rc, a = some ⟨gU, 0, none⟩ ∧ w.cell? ⟨gU, j, none⟩ = some (.slice (some ⟨gr, 0, none⟩) m rc) ∧ 0 < m ∧ w.cell? ⟨gr, 0, none⟩ = some (.int .i64 F[j])
theorem Heads.below {w w' : World} {u : Value} {F : List Int} (h : Heads w u F) (hb : Below w.heap.size w w') : Heads w' u F := by
  obtain ⟨a, c, h1, h2⟩ := h
  refine ⟨a, c, h1, fun j hj => ?_⟩
  obtain ⟨gU, gr, m, rc, e1, e2, e3, e4⟩ := h2 j hj
  exact ⟨gU, gr, m, rc, e1, (hb.cell (World.block_lt_of_cell? _ _ e2)).trans e2, e3, (hb.cell (World.block_lt_of_cell? _ _ e4)).trans e4⟩
theorem NR.heads {w : World} {base : Nat} {E e : TypeId} {u : Value} {vs : List Value} {gs : List (List Int)} (h : NR w base E e u vs gs) (h0 : ∀ j (h : j < gs.length), 0 < gs[j].length) : Heads w u (gs.map fun g => g.headD 0) := by
  have hlen : (gs.map fun g => g.headD 0).length = gs.length := by simp
  have hu : ∃ a' c', u = .slice a' gs.length c' := by
    rcases h.top.2 with ⟨z1, z2⟩ | ⟨g', c', cur, z1, _⟩
    · rw [z2]; exact ⟨none, 0, z1⟩
    · exact ⟨_, _, z1⟩
  obtain ⟨a, c, rfl⟩ := hu
  refine ⟨a, c, by rw [hlen], fun j hj => ?_⟩
  have hjg : j < gs.length := by omega
  obtain ⟨gU, c', h1, _⟩ := owns_some h.top (by omega)
  simp only [Value.slice.injEq] at h1
  obtain ⟨rfl, _, rfl⟩ := h1
  obtain ⟨gr, rc, hvj, -, hfst⟩ := h.rowAt hjg (h0 j hjg)
  have hct := (h.cellTop rfl hvj (World.grownBy.refl _ _)).1
  refine ⟨gU, gr, _, rc, rfl, hct, h0 j hjg, ?_⟩
  rw [List.getElem_map]
  have : gs[j].headD 0 = gs[j][0]'(h0 j hjg) := by
    rw [List.headD_eq_head?_getD, List.head?_eq_getElem?, List.getElem?_eq_getElem (h0 j hjg)]; rfl
  rw [this]; exact hfst
theorem cell_set_far {w : World} {g q b o : Nat} {x : Value} (h : w.cell? ⟨b, o, none⟩ = some x) (hne : b ≠ g) (v : Value) : (w.setCell ⟨g, q, none⟩ v).cell? ⟨b, o, none⟩ = some x :=
  (World.cell?_setCell_other _ _ _ _ (by intro h'; exact hne (congrArg Addr.block h').symm)).trans h
def matB (U : Int → Int → Bool) (F : List Int) : List Bool := (List.range (F.length * F.length)).map fun q => U (F.getD (q / F.length) 0) (F.getD (q % F.length) 0)
theorem matB_len (U : Int → Int → Bool) (F : List Int) : (matB U F).length = F.length * F.length := by simp [matB]
theorem mat_lt {i j L : Nat} (hi : i < L) (hj : j < L) : i * L + j < L * L := by
  have : (i + 1) * L ≤ L * L := Nat.mul_le_mul_right _ (by omega)
  rw [Nat.add_mul] at this
  omega
theorem matB_at {U : Int → Int → Bool} {F : List Int} {i j : Nat} (hi : i < F.length) (hj : j < F.length) {q : Nat} (hq : i * F.length + j = q) (h : q < (matB U F).length) : (matB U F)[q] = U F[i] F[j] := by
  have e1 : q / F.length = i := by rw [← hq, Nat.mul_comm, Nat.mul_add_div (by omega), Nat.div_eq_of_lt hj]; rfl
  have e2 : q % F.length = j := by rw [← hq, Nat.mul_comm, Nat.mul_add_mod, Nat.mod_eq_of_lt hj]
  have hlt : q < F.length * F.length := by rw [← hq]; exact mat_lt hi hj
  rw [List.getElem_eq_iff]
  simp [matB, hlt, e1, e2, hi, hj]
theorem mul_letter {i L p : Nat} (h : i * L = p) (hp : p ≤ 1000000) : IntKind.i64.wrap ((i : Int) * (L : Int)) = (p : Int) ∧ (i : Int) * (L : Int) = (p : Int) := by
  have e : (i : Int) * (L : Int) = (p : Int) := by rw [← h]; simp
  refine ⟨?_, e⟩
  rw [e]
  exact IntWalk.i64_in _ ⟨by omega, by omega⟩
theorem add_letter {p j q : Nat} (h : p + j = q) (hq : q ≤ 1000000) : IntKind.i64.wrap ((p : Int) + (j : Int)) = (q : Int) := by
  have e : (p : Int) + (j : Int) = (q : Int) := by rw [← h]; simp
  rw [e]
  exact IntWalk.i64_in _ ⟨by omega, by omega⟩
theorem allT_ok {s : Sg} {l : List (List Int)} (h : shelfB s l = true) : ∀ t ∈ l, 0 < t.length ∧ t.length ≤ 1000 ∧ ∀ x ∈ t, -1000000 ≤ x ∧ x ≤ 1000000 := by
  obtain ⟨-, -, -, hall, -, hs2⟩ := shelfB_facts h
  intro t ht
  obtain ⟨k, hk, rfl⟩ := List.getElem_of_mem ht
  have hT := allB_get hall hk
  have h4 := (termB_facts hT).2.2.2
  refine ⟨(termB_T hT).ne, by omega, fun x hx => ?_⟩
  have := T_small (termB_T hT) (by omega) x hx
  omega
theorem canon_small {l : List (List Int)} {ks : List (List Int)} (h : ks = l.map canonL) (h0 : ∀ t ∈ l, t.length ≤ 1000) : ∀ g ∈ ks, g.length ≤ 1000 := by
  subst h
  intro g hg
  obtain ⟨t, ht, rfl⟩ := List.mem_map.1 hg
  rw [canonL_len]
  exact h0 t ht
theorem grp_pos (ks : List (List Int)) (n : Nat) (hn : n ≤ ks.length) : ∀ j (h : j < (grpL ks n).length), 0 < (grpL ks n)[j].length := by
  intro j h
  obtain ⟨_, k0, h2, _⟩ := grpL_first hn h
  cases hq : (grpL ks n)[j] with
  | nil => rw [hq] at h2; simp at h2
  | cons => simp
set_option maxHeartbeats 8000000 in
set_option maxRecDepth 100000 in
theorem ref5_Lattice (vs vl : Value) (s : Sg) (l : List (List Int)) (w : World) (hs : SignAt w vs s) (hv : Terms w vl l) (hs1 : s.length ≤ 1000) (hl1 : l.length ≤ 1000) :
    Calls Try.prog 30 #[vs, vl] w fun e w' => Below w.heap.size w w' ∧ ((shelfB s l = false ∧ e = .returned (.tuple #[.slice none 0 0, .int .i64 1])) ∨
      (shelfB s l = true ∧ ∃ u, e = .returned (.tuple #[u, .int .i64 0]) ∧ w'.ownsRow w.heap.size 76 2 u (latB s l).length (pCells (latB s l)))) := by
  have HVV := hid (ref5_Valid vs vl s l w hs hv)
  obtain ⟨la, lc, hve, -, -, -, HC⟩ := hv.open
  subst hve
  have HC' := hid HC
  have HS := hid hs
  have HV := hid hv
  clear hs hv HC
  cases h1 : shelfB s l
  · have H1 := hid h1
    simp only [h1] at HVV
    clear h1
    go_enter Try.func30, Try.ntmps30
    go_wp2_with fail
    refine HVV.out.mono ?_
    rintro e w1 ⟨rfl, n1, rfl⟩
    go_wp2
    go_ret2
    exact ⟨below_self_drewN w n1, Or.inl ⟨by simp, rfl⟩⟩
  · have H1 := hid h1
    have hok := allT_ok h1
    have hl60 := (shelfB_facts h1).2.2.1
    have hall := (shelfB_facts h1).2.2.2.1
    have HALL := hid (fun k (hk : k < l.length) => allB_get hall hk)
    have HOK := hid hok
    simp only [h1] at HVV
    clear h1 hok hall
    go_enter Try.func30, Try.ntmps30
    go_wp2_with fail
    refine HVV.out.mono ?_
    rintro e w1 ⟨rfl, n1, rfl⟩
    have HB1 := hid (below_self_drewN w n1)
    generalize w.drewN n1 = w1 at *
    go_wp2_with fail
    refine (ref5_canonical _ l w1 (HV.out.below HB1.out) hl1 HOK.out).mono ?_
    rintro e w2 ⟨u2, vs2, rfl, hN2, hb2⟩
    have HB2 := hid (HB1.out.trans (hb2.mono HB1.out.size))
    have HT2 := hid (hN2.terms (by simp; omega) (canon_small rfl (fun t ht => (HOK.out t ht).2.1)))
    clear hN2 hb2
    go_wp2_with fail
    refine (ref5_grouped u2 _ w2 HT2.out (by simp; omega)).mono ?_
    rintro e w3 ⟨u3, vs3, rfl, hN3, hb3⟩
    have HB3 := hid (HB2.out.trans (hb3.mono HB2.out.size))
    have hF : (grpL (l.map canonL) (l.map canonL).length).map (fun g => g.headD 0) = firstsL l := by unfold firstsL; rw [List.length_map]
    have hhd := hN3.heads (grp_pos _ _ (Nat.le_refl _))
    rw [hF] at hhd
    have hfr := firstsL_range l
    have hfl := firstsL_len l
    clear hN3 hb3 hF HT2
    obtain ⟨F, hFF⟩ : ∃ F, firstsL l = F := ⟨_, rfl⟩
    have HLB : Hid (latB s l = latL (uAt s l) F) := hid (by unfold latB; rw [hFF])
    rw [hFF] at hhd hfr hfl
    have HFR := hid hfr
    obtain ⟨ua, uc, rfl, hhc⟩ := hhd
    have HHC := hid hhc
    clear hfr hFF hhc
    obtain ⟨L, hL⟩ : ∃ L, F.length = L := ⟨_, rfl⟩
    rw [hL] at hfl
    obtain ⟨N, hN⟩ : ∃ N, L * L = N := ⟨_, rfl⟩
    have hN36 : N ≤ 3600 := by
      have : L * L ≤ 60 * 60 := Nat.mul_le_mul (by omega) (by omega)
      omega
    have hmN := (mul_letter hN (by omega)).1
    have hmN2 := (mul_letter hN (by omega)).2
    have HUU := hid (fun (X : World) (hX : Below w.heap.size w X) (x y : Value) (i j : Nat) (hi : i < l.length) (hj : j < l.length) (ix : Ints X x l[i]) (iy : Ints X y l[j]) => ref5_under vs x y s l[i] l[j] X (HS.out.below hX) ix iy hs1 (HALL.out i hi) (HALL.out j hj))
    rw [hL]
    have hNw : (L : Int) * (L : Int) = (N : Int) := hmN2
    obtain ⟨bs, hbs⟩ : ∃ bs, matB (uAt s l) F = bs := ⟨_, rfl⟩
    have hbl : bs.length = N := by rw [← hbs, matB_len, hL, hN]
    have hbg : ∀ i j q (hi : i < F.length) (hj : j < F.length) (hq : i * L + j = q) (h : q < bs.length), bs[q] = uAt s l F[i] F[j] := by
      intro i j q hi hj hq h
      subst hbs
      exact matB_at hi hj (by rw [hL]; exact hq) h
    have HBL := hid hbl
    have HBG := hid hbg
    have HL := hid hL
    have HN := hid hN
    have hsz3 := HB3.out.size
    clear hbs hbl hbg hL hN hmN2 hmN
    go_wp2_with (at_make; refine wpList_make_row rfl _ _ 67 rfl w3.heap.size 4 el_bool Try.underlying67 rfl N rfl rfl (by omega) (by omega) (Nat.le_refl _) ?_; intro g w4 hg0 hg1 hown4 hgrow4)
    have HB34 : Hid (Below w3.heap.size w3 w4) := hid ((Below.refl _ _).grown hgrow4 (Nat.le_refl _) (fun _ h => by cases h))
    have HOWN4 : Hid (w4.ownsRow w3.heap.size 4 1 (.slice (some ⟨g, 0, none⟩) N N) N ((fillB bs 0).map Value.bool)) := hid (by
      rw [fillB_zero, HBL.out, List.map_replicate]; simpa using hown4)
    clear hown4 hgrow4 hg1 hNw
    go_loopw [9] (fun kv wr => ∃ i p : Nat, i ≤ L ∧ i * L = p ∧ kv = .int .i64 i ∧ wr.ownsRow w3.heap.size 4 1 (.slice (some ⟨g, 0, none⟩) N N) N ((fillB bs p).map Value.bool) ∧ Below w3.heap.size w3 wr) (fun kv _ => L - (intOf kv).toNat)
    case atStart => exact ⟨0, 0, by omega, by omega, rfl, HOWN4.out, HB34.out⟩
    case round =>
      clear HOWN4 HB34
      obtain ⟨i, p, hi, hp, rfl, hown, hb⟩ := hrel
      have hsz := hb.size
      by_cases hlti : i < L
      · have hpN : p + L ≤ N := by
          rw [← hp, ← HN.out]
          have := Nat.mul_le_mul_right L (show i + 1 ≤ L by omega)
          rw [Nat.add_mul] at this
          omega
        have hml := (mul_letter hp (by omega)).1
        have HML2 := hid (mul_letter hp (by omega)).2
        have HP := hid hp
        have HOWN := hid hown
        obtain ⟨wo, rfl⟩ : ∃ wo : World, wo = wr := ⟨_, rfl⟩
        have HBO := hid hb
        clear hp hown hb
        go_wp2
        go_loopw [10] (fun kv wr => ∃ j : Nat, j ≤ L ∧ kv = .int .i64 j ∧ wr.ownsRow w3.heap.size 4 1 (.slice (some ⟨g, 0, none⟩) N N) N ((fillB bs (p + j)).map Value.bool) ∧ Below w3.heap.size w3 wr) (fun kv _ => L - (intOf kv).toNat)
        case atStart => exact ⟨0, by omega, rfl, HOWN.out, HBO.out⟩
        case round =>
          clear HOWN HBO
          obtain ⟨j, hj, rfl, hown, hb⟩ := hrel
          have hszj := hb.size
          by_cases hltj : j < L
          · obtain ⟨q, hq⟩ : ∃ q, p + j = q := ⟨_, rfl⟩
            have hqN : q < N := by omega
            have hal := add_letter hq (by omega)
            rw [hq] at hown
            have hiF : i < F.length := by rw [HL.out]; exact hlti
            have hjF : j < F.length := by rw [HL.out]; exact hltj
            obtain ⟨gU, gr, m, rc, rfl, ci1, hm0, ci2⟩ := HHC.out i hiF
            obtain ⟨gU', gr', m', rc', hae, cj1, hm0', cj2⟩ := HHC.out j hjF
            obtain rfl : gU = gU' := by simpa using hae
            have hri := HFR.out F[i] (List.getElem_mem hiF)
            have hrj := HFR.out F[j] (List.getElem_mem hjF)
            have hbq := HBG.out i j q hiF hjF (by rw [HP.out]; exact hq) (by rw [HBL.out]; exact hqN)
            obtain ⟨qi, hqi⟩ := Int.eq_ofNat_of_zero_le hri.1
            obtain ⟨qj, hqj⟩ := Int.eq_ofNat_of_zero_le hrj.1
            rw [hqi] at ci2 hbq hri
            rw [hqj] at cj2 hbq hrj
            have hqil : qi < l.length := by omega
            have hqjl : qj < l.length := by omega
            obtain ⟨lb, lo, xi, rfl, si, ixi⟩ := HC'.out qi hqil
            obtain ⟨lb', lo', xj, hae2, sj, ixj⟩ := HC'.out qj hqjl
            obtain ⟨rfl, rfl⟩ : lb = lb' ∧ lo = lo' := by simpa using hae2
            have hbw : Below w.heap.size w wr := HB3.out.trans (hb.mono hsz3)
            have gt1 := World.block_lt_of_cell? _ _ ci1
            have gt2 := World.block_lt_of_cell? _ _ ci2
            have gt3 := World.block_lt_of_cell? _ _ cj1
            have gt4 := World.block_lt_of_cell? _ _ cj2
            have gt5 := World.block_lt_of_cell? _ _ si
            have gt6 := World.block_lt_of_cell? _ _ sj
            have a1 := (hb.cell gt1).trans ci1
            have a2 := (hb.cell gt2).trans ci2
            have a3 := (hb.cell gt3).trans cj1
            have a4 := (hb.cell gt4).trans cj2
            have a5 := (hbw.cell gt5).trans si
            have a6 := (hbw.cell gt6).trans sj
            have HU := hid (HUU.out (wr.drewN 1) (below_drewN hbw 1) xi xj qi qj hqil hqjl ((ixi.below hbw).drewN 1) ((ixj.below hbw).drewN 1))
            have hqb : q < bs.length := by rw [HBL.out]; exact hqN
            have hue : underB s l[qi] l[qj] = bs[q] := by
              rw [hbq]; unfold uAt; simp [List.getD, hqil, hqjl]
            have HUE := hid hue
            have HGET := hid (fillB_get bs hqb)
            have HSET := hid (fillB_set bs hqb)
            have HOWN := hid hown
            simp only at gt1 gt2 gt3 gt4 gt5 gt6
            have n1 : gU ≠ g := by omega
            have n2 : gr ≠ g := by omega
            have n4 : gr' ≠ g := by omega
            have n5 : lb ≠ g := by omega
            have HQ := hid hq
            have HB := hid hb
            have z0 : (0 : Int) ≤ (i : Int) := by omega
            have z1 : (i : Int) < (L : Int) := by omega
            have z2 : (0 : Int) ≤ (j : Int) := by omega
            have z3 : (j : Int) < (L : Int) := by omega
            have z4 : (0 : Int) < (m : Int) := by omega
            have z5 : (0 : Int) < (m' : Int) := by omega
            have z6 : (0 : Int) ≤ (qi : Int) := by omega
            have z7 : (qi : Int) < (l.length : Int) := by omega
            have z8 : (0 : Int) ≤ (qj : Int) := by omega
            have z9 : (qj : Int) < (l.length : Int) := by omega
            have y0 : (0 : Int) ≤ (q : Int) := by omega
            have y1 : (q : Int) < (N : Int) := by omega
            clear hown hae hae2 ci1 ci2 cj1 cj2 si sj ixi ixj hbq hqi hqj hue hq hb hbw gt1 gt2 gt3 gt4 gt5 gt6 hri hrj
            go_wp2
            go_region_held3 (fun w' => w'.cell? ⟨gU, i, none⟩ = some (.slice (some ⟨gr, 0, none⟩) m rc) ∧ w'.cell? ⟨gr, 0, none⟩ = some (.int .i64 qi) ∧ w'.cell? ⟨gU, j, none⟩ = some (.slice (some ⟨gr', 0, none⟩) m' rc') ∧ w'.cell? ⟨gr', 0, none⟩ = some (.int .i64 qj) ∧ w'.cell? ⟨lb, lo + qi, none⟩ = some xi ∧ w'.cell? ⟨lb, lo + qj, none⟩ = some xj)
              (first | exact ⟨by assumption, by assumption, by assumption, by assumption, by assumption, by assumption⟩ | exact ⟨cell_set_far d1 n1 _, cell_set_far d2 n2 _, cell_set_far d3 n1 _, cell_set_far d4 n4 _, cell_set_far d5 n5 _, cell_set_far d6 n5 _⟩ | go_keep)
              (first
              | (go_at_call 80; refine HU.out.mono ?_; rintro e w5 ⟨rfl, hb5'⟩; rw [HUE.out]
                 have hb5 : Below wr.heap.size wr w5 := (below_self_drewN wr 1).trans hb5'
                 have d1 := (hb5.cell (World.block_lt_of_cell? _ _ a1)).trans a1
                 have d2 := (hb5.cell (World.block_lt_of_cell? _ _ a2)).trans a2
                 have d3 := (hb5.cell (World.block_lt_of_cell? _ _ a3)).trans a3
                 have d4 := (hb5.cell (World.block_lt_of_cell? _ _ a4)).trans a4
                 have d5 := (hb5.cell (World.block_lt_of_cell? _ _ a5)).trans a5
                 have d6 := (hb5.cell (World.block_lt_of_cell? _ _ a6)).trans a6
                 have hown5 := owns_below HOWN.out hb5
                 have hc1 := hown5.cellAt q (by omega)
                 rw [HGET.out] at hc1
                 have hf1 := hown5.frozenAt q))
            have hst := (hown5.stored q (.bool bs[q])).1
            rw [HSET.out] at hst
            have hb6 : Below w3.heap.size w3 (w5.setCell ⟨g, q, none⟩ (.bool bs[q])) := (HB.out.trans (hb5.mono hszj)).setCell (p := ⟨g, q, none⟩) hg0 _
            have HST := hid hst
            clear hst hown5 hc1 hf1 d1 d2 d3 d4 d5 d6 hb5 hb5' a1 a2 a3 a4 a5 a6
            go_wp2
            go_roundw
            case rel => exact ⟨j + 1, by omega, by go_num, by rw [← Nat.add_assoc, HQ.out]; exact HST.out, hb6⟩
            case measure => simp [intOf]; omega
          · obtain rfl : j = L := by omega
            have HOWN := hid hown
            have HB := hid hb
            clear hown hb
            go_wp2
            go_roundw
            case rel => exact ⟨i + 1, p + j, by omega, by rw [Nat.add_mul, HP.out]; omega, by go_num, HOWN.out, HB.out⟩
            case measure => simp [intOf]; omega
      · obtain rfl : L = i := by omega
        have hpe : p = N := by rw [← hp, HN.out]
        subst hpe
        have hbm : Bools wr (.slice (some ⟨g, 0, none⟩) p p) bs := by
          rw [← HBL.out, fillB_all, HBL.out] at hown
          unfold Bools
          rw [HBL.out]
          exact RowK.of_owns hown (by omega)
        have HBM := hid hbm
        have HB4 := hid hb
        obtain ⟨w4, rfl⟩ : ∃ w4 : World, w4 = wr := ⟨_, rfl⟩
        clear hown hbm hb hp
        have hcq : ∀ q (h : q < bs.length), w4.cell? ⟨g, q, none⟩ = some (.bool bs[q]) := by
          intro q h
          obtain ⟨a', c', e1, _, _, _, e2⟩ := HBM.out.open
          simp only [Value.slice.injEq] at e1
          obtain ⟨rfl, _, _⟩ := e1
          obtain ⟨b', o', e3, e4⟩ := e2 q h
          simp only [Option.some.injEq, Addr.mk.injEq] at e3
          obtain ⟨rfl, rfl, _⟩ := e3
          simpa using e4
        have HCQ := hid hcq
        have hgl : g < w4.heap.size ∨ p = 0 := by
          by_cases h0 : 0 < p
          · exact Or.inl (World.block_lt_of_cell? _ _ (hcq 0 (by rw [HBL.out]; exact h0)))
          · exact Or.inr (by omega)
        have hsz4 := HB4.out.size
        have hbw4 := HB3.out.trans (HB4.out.mono hsz3)
        have HBW4 := hid hbw4
        clear hcq hgl hbw4 HBM
        go_wp2
        go_loopw [11, 12] (fun u kv wr => ∃ i : Nat, i ≤ L ∧ kv = .int .i64 i ∧ wr.ownsRow w4.heap.size 76 2 u (latP (uAt s l) F i).length (pCells (latP (uAt s l) F i)) ∧ Below w4.heap.size w4 wr) (fun _ kv _ => L - (intOf kv).toNat)
        case atStart => exact ⟨0, by omega, rfl, World.ownsRow_nil _ _ _ _, Below.refl _ _⟩
        case round =>
          obtain ⟨i, hi, rfl, hown, hbo⟩ := hrel
          have hszo := hbo.size
          by_cases hlti : i < L
          · obtain ⟨pi, hpi⟩ : ∃ pi, i * L = pi := ⟨_, rfl⟩
            have hpiN : pi + L ≤ p := by
              rw [← hpi, ← HN.out]
              have := Nat.mul_le_mul_right L (show i + 1 ≤ L by omega)
              rw [Nat.add_mul] at this
              omega
            have hmi := (mul_letter hpi (by omega)).2
            have hiF : i < F.length := by rw [HL.out]; exact hlti
            have HSUC := hid (latP_succ (U := uAt s l) hiF)
            have hLL := latP_len (U := uAt s l) (F := F) (i := i) (by omega)
            have hFF : i * F.length ≤ 1000 * 1000 := Nat.mul_le_mul (by omega) (by rw [HL.out]; omega)
            have hFL : F.length ≤ 60 := by rw [HL.out]; omega
            have HPI := hid hpi
            have HOWN := hid hown
            have HBO := hid hbo
            obtain ⟨wo, rfl⟩ : ∃ wo : World, wo = wr := ⟨_, rfl⟩
            clear hown hbo hpi
            go_wp2
            go_loopw [11, 13] (fun u kv wi => ∃ j : Nat, j ≤ L ∧ kv = .int .i64 j ∧ wi.ownsRow w4.heap.size 76 2 u (latP (uAt s l) F i ++ rowP (uAt s l) F F[i] (F.take j)).length (pCells (latP (uAt s l) F i ++ rowP (uAt s l) F F[i] (F.take j))) ∧ Below w4.heap.size w4 wi) (fun _ kv _ => L - (intOf kv).toNat)
            case atStart => exact ⟨0, by omega, rfl, by simpa [rowP] using HOWN.out, HBO.out⟩
            case round =>
              clear HOWN HBO
              obtain ⟨j, hj, rfl, hown, hbi⟩ := hrel
              have hszi := hbi.size
              obtain ⟨wi, rfl⟩ : ∃ wi : World, wi = wr := ⟨_, rfl⟩
              have hLR : (rowP (uAt s l) F F[i] (F.take j)).length ≤ F.length := Nat.le_trans (rowP_len (uAt s l) F F[i] (F.take j)) (List.length_take_le' _ _)
              by_cases hltj : j < L
              · have hjF : j < F.length := by rw [HL.out]; exact hltj
                have hsn : latP (uAt s l) F i ++ rowP (uAt s l) F F[i] (F.take (j + 1)) = latP (uAt s l) F i ++ rowP (uAt s l) F F[i] (F.take j) ++ if nextB (uAt s l) F F[i] F[j] then [(F[i], F[j])] else [] := by
                  rw [List.take_succ_eq_append_getElem hjF, rowP_snoc, List.append_assoc]
                have hlen : (latP (uAt s l) F i ++ rowP (uAt s l) F F[i] (F.take j)).length ≤ 1002000 := by rw [List.length_append]; omega
                obtain ⟨LL, hLLL⟩ : ∃ LL, latP (uAt s l) F i ++ rowP (uAt s l) F F[i] (F.take j) = LL := ⟨_, rfl⟩
                rw [hLLL] at hown hlen hsn
                have hpj : pi + j < p := by omega
                have cij := (hbi.cell (World.block_lt_of_cell? _ _ (HCQ.out (pi + j) (by rw [HBL.out]; exact hpj)))).trans (HCQ.out (pi + j) (by rw [HBL.out]; exact hpj))
                rw [HBG.out i j (pi + j) hiF hjF (by rw [HPI.out])] at cij
                obtain ⟨c0, hc0⟩ : ∃ c0, uAt s l F[i] F[j] = c0 := ⟨_, rfl⟩
                rw [hc0] at cij
                have HC0 := hid hc0
                have HSN := hid hsn
                have HOWN := hid hown
                have HBI := hid hbi
                clear hc0 hsn hown hLLL hLR hLL
                go_wp2
                go_loop [14, 15] (fun nx kv => ∃ k : Nat, k ≤ L ∧ kv = .int .i64 k ∧ nx = .bool (c0 && !(F.take k).any fun x => uAt s l x F[j] && uAt s l F[i] x)) (fun _ kv => L - (intOf kv).toNat)
                case atStart => exact ⟨0, by omega, rfl, by simp⟩
                case round =>
                  obtain ⟨k, hk, rfl, rfl⟩ := hrel
                  by_cases hltk : k < L
                  · have hkF : k < F.length := by rw [HL.out]; exact hltk
                    obtain ⟨r, hr⟩ : ∃ r, k * L = r := ⟨_, rfl⟩
                    have hrN : r + L ≤ p := by
                      rw [← hr, ← HN.out]
                      have := Nat.mul_le_mul_right L (show k + 1 ≤ L by omega)
                      rw [Nat.add_mul] at this
                      omega
                    have hmk := (mul_letter hr (by omega)).2
                    have hpk : pi + k < p := by omega
                    have hrj : r + j < p := by omega
                    have cik := (HBI.out.cell (World.block_lt_of_cell? _ _ (HCQ.out (pi + k) (by rw [HBL.out]; exact hpk)))).trans (HCQ.out (pi + k) (by rw [HBL.out]; exact hpk))
                    have ckj := (HBI.out.cell (World.block_lt_of_cell? _ _ (HCQ.out (r + j) (by rw [HBL.out]; exact hrj)))).trans (HCQ.out (r + j) (by rw [HBL.out]; exact hrj))
                    rw [HBG.out i k (pi + k) hiF hkF (by rw [HPI.out])] at cik
                    rw [HBG.out k j (r + j) hkF hjF (by rw [hr])] at ckj
                    have hst : (c0 && !(F.take (k + 1)).any fun x => uAt s l x F[j] && uAt s l F[i] x) = ((c0 && !(F.take k).any fun x => uAt s l x F[j] && uAt s l F[i] x) && !(uAt s l F[i] F[k] && uAt s l F[k] F[j])) := by
                      rw [List.take_succ_eq_append_getElem hkF, List.any_append]
                      simp only [List.any_cons, List.any_nil, Bool.or_false]
                      cases c0 <;> cases ((F.take k).any fun x => uAt s l x F[j] && uAt s l F[i] x) <;> cases uAt s l F[i] F[k] <;> cases uAt s l F[k] F[j] <;> rfl
                    have HST := hid hst
                    obtain ⟨cu, hcu⟩ : ∃ cu, (c0 && !(F.take k).any fun x => uAt s l x F[j] && uAt s l F[i] x) = cu := ⟨_, rfl⟩
                    rw [hcu] at HST ⊢
                    obtain ⟨c1, hc1⟩ : ∃ c1, uAt s l F[i] F[k] = c1 := ⟨_, rfl⟩
                    obtain ⟨c2, hc2⟩ : ∃ c2, uAt s l F[k] F[j] = c2 := ⟨_, rfl⟩
                    rw [hc1] at cik HST
                    rw [hc2] at ckj HST
                    clear hst hcu hr hc1 hc2
                    cases cu
                    · go_wp2
                      go_round
                      case rel => exact ⟨k + 1, by omega, by go_num, by rw [HST.out]; rfl⟩
                      case measure => simp [intOf]; omega
                    · cases c1
                      · go_wp2
                        go_round
                        case rel => exact ⟨k + 1, by omega, by go_num, by rw [HST.out]; rfl⟩
                        case measure => simp [intOf]; omega
                      · cases c2
                        · go_wp2
                          go_round
                          case rel => exact ⟨k + 1, by omega, by go_num, by rw [HST.out]; rfl⟩
                          case measure => simp [intOf]; omega
                        · go_wp2
                          go_round
                          case rel => exact ⟨k + 1, by omega, by go_num, by rw [HST.out]; rfl⟩
                          case measure => simp [intOf]; omega
                  · have hkL : k = L := by omega
                    have hnx : (c0 && !(F.take k).any fun x => uAt s l x F[j] && uAt s l F[i] x) = nextB (uAt s l) F F[i] F[j] := by
                      rw [List.take_of_length_le (by rw [HL.out]; omega)]
                      unfold nextB
                      rw [HC0.out]
                    rw [hnx]
                    clear hnx hkL
                    cases hnb : nextB (uAt s l) F F[i] F[j]
                    · have HNX := hid hnb
                      clear hnb
                      go_wp2
                      go_roundw
                      case rel => exact ⟨j + 1, by omega, by go_num, by rw [HSN.out, HNX.out]; simpa using HOWN.out, HBI.out⟩
                      case measure => simp [intOf]; omega
                    · have HNX := hid hnb
                      clear hnb
                      obtain ⟨gU, gr, m, rc, rfl, ci1, hm0, ci2⟩ := HHC.out i hiF
                      obtain ⟨gU', gr', m', rc', hae, cj1, hm0', cj2⟩ := HHC.out j hjF
                      obtain rfl : gU = gU' := by simpa using hae
                      have gt1 := World.block_lt_of_cell? _ _ ci1
                      have gt2 := World.block_lt_of_cell? _ _ ci2
                      have gt3 := World.block_lt_of_cell? _ _ cj1
                      have gt4 := World.block_lt_of_cell? _ _ cj2
                      simp only at gt1 gt2 gt3 gt4
                      have b1 := (HB4.out.cell gt1).trans ci1
                      have b2 := (HB4.out.cell gt2).trans ci2
                      have b3 := (HB4.out.cell gt3).trans cj1
                      have b4 := (HB4.out.cell gt4).trans cj2
                      have hr1 : gU < w4.heap.size := by omega
                      have hr2 : gr < w4.heap.size := by omega
                      have hr4 : gr' < w4.heap.size := by omega
                      have a1 := (HBI.out.cell (p := ⟨gU, i, none⟩) hr1).trans b1
                      have a2 := (HBI.out.cell (p := ⟨gr, 0, none⟩) hr2).trans b2
                      have a3 := (HBI.out.cell (p := ⟨gU, j, none⟩) hr1).trans b3
                      have a4 := (HBI.out.cell (p := ⟨gr', 0, none⟩) hr4).trans b4
                      have B1 := hid b1
                      have B2 := hid b2
                      have B3 := hid b3
                      have B4 := hid b4
                      obtain ⟨x, hx⟩ : ∃ x, F[i] = x := ⟨_, rfl⟩
                      obtain ⟨y, hy⟩ : ∃ y, F[j] = y := ⟨_, rfl⟩
                      rw [hx] at a2 B2
                      rw [hy] at a4 B4
                      have HX := hid hx
                      have HY := hid hy
                      have z0 : (0 : Int) ≤ (i : Int) := by omega
                      have z1 : (i : Int) < (L : Int) := by omega
                      have z2 : (0 : Int) ≤ (j : Int) := by omega
                      have z3 : (j : Int) < (L : Int) := by omega
                      have z4 : (0 : Int) < (m : Int) := by omega
                      have z5 : (0 : Int) < (m' : Int) := by omega
                      have hbP : Below wi.heap.size wi (wi.alloc (.cells #[.int .i64 x, .int .i64 y] 76)).drew := ((Below.refl _ _).alloc (Nat.le_refl _) _).drew
                      have HOP := hid (owns_below HOWN.out hbP)
                      have HBP := hid (HBI.out.trans (hbP.mono hszi))
                      have hsrc : RowK ((wi.alloc (.cells #[.int .i64 x, .int .i64 y] 76)).drew) (.slice (some ⟨wi.heap.size, 0, none⟩) 1 1) 2 1 [.int .i64 x, .int .i64 y] := row_two_new wi (.int .i64 x) (.int .i64 y) 76
                      have HSRC := hid hsrc
                      have hszP := HBP.out.size
                      have q1 : LL.length + 1 ≤ 140737488355328 := by omega
                      have q2 : (LL.length + 1) * 16 ≤ 140737488355328 := by omega
                      have q0 : ∀ u ∈ [Value.int .i64 x, .int .i64 y], u.oneCell' = true := by simp; exact ⟨rfl, rfl⟩
                      clear hbP hsrc hx hy hae ci1 ci2 cj1 cj2 gt1 gt2 gt3 gt4 b1 b2 b3 b4 hbi
                      go_wp2
                      go_region_held3 (fun w' => w'.cell? ⟨gU, i, none⟩ = some (.slice (some ⟨gr, 0, none⟩) m rc) ∧ w'.cell? ⟨gr, 0, none⟩ = some (.int .i64 x) ∧ w'.cell? ⟨gU, j, none⟩ = some (.slice (some ⟨gr', 0, none⟩) m' rc') ∧ w'.cell? ⟨gr', 0, none⟩ = some (.int .i64 y))
                        (first | exact ⟨by assumption, by assumption, by assumption, by assumption⟩ | go_keep)
                        (first
                        | (refine step_append_lie rfl (.tmp 112) (.tmp 126) 44 (by rfl) w4.heap.size 76 el_pair Try.underlying44 rfl (by decide) _ LL.length _ (by rfl) HOP.out (.slice (some ⟨wi.heap.size, 0, none⟩) 1 1) 1 [.int .i64 x, .int .i64 y] (by rfl) HSRC.out q0 (by decide) q1 q2 hszP _ rfl ?_
                           intro g7 c7 w7 hown7 hgrow7 hat7 hlt7
                           have hb7 := HBP.out.grown hgrow7 hszP (fun q hq => (HOP.out.lt q hq).1)
                           have e1 := (hb7.cell (p := ⟨gU, i, none⟩) hr1).trans B1.out
                           have e2 := (hb7.cell (p := ⟨gr, 0, none⟩) hr2).trans B2.out
                           have e3 := (hb7.cell (p := ⟨gU, j, none⟩) hr1).trans B3.out
                           have e4 := (hb7.cell (p := ⟨gr', 0, none⟩) hr4).trans B4.out))
                      have HB7 := hid hb7
                      have HO7 := hid hown7
                      clear hb7 hown7 hgrow7 hat7 hlt7 e1 e2 e3 e4 a1 a2 a3 a4
                      go_wp2
                      go_roundw
                      case rel => exact ⟨j + 1, by omega, by go_num, by rw [HSN.out, HNX.out, if_pos rfl, List.length_append, pCells_app, HX.out, HY.out]; exact HO7.out, HB7.out⟩
                      case measure => simp [intOf]; omega
              · obtain rfl : j = L := by omega
                have HO : Hid (wi.ownsRow w4.heap.size 76 2 u11 (latP (uAt s l) F (i + 1)).length (pCells (latP (uAt s l) F (i + 1)))) := hid (by
                  rw [HSUC.out]
                  rw [List.take_of_length_le (by rw [HL.out]; omega)] at hown
                  exact hown)
                have HBI := hid hbi
                clear hown hbi hLR
                go_wp2
                go_roundw
                case rel => exact ⟨i + 1, by omega, by go_num, HO.out, HBI.out⟩
                case measure => simp [intOf]; omega
          · obtain rfl : i = L := by omega
            have HLL : Hid (latB s l = latP (uAt s l) F i) := hid (by rw [HLB.out]; unfold latP latL; rw [List.take_of_length_le (by rw [HL.out]; omega)]; rfl)
            have HO := hid (owns_base hown HBW4.out.size)
            have HBO := hid hbo
            clear hown hbo
            go_wp2
            go_ret2
            exact ⟨HBW4.out.trans (HBO.out.mono HBW4.out.size), Or.inr ⟨by first | exact H1.out | trivial, _, rfl, by rw [HLL.out]; exact HO.out⟩⟩
end Go.Proofs.Ytiacbdipagbblaa
