/-
  WHAT IT HOLDS: symMergeCmpFunc of package slices at int, where the middle lies behind the first part. Conditions: both parts stand in order, and the numbers of the first are below those of the second.
-/
import Derived.Test.YtldgkidojepdlaaGreatZRTopCarriedShelves42
namespace Go.Proofs.YtldgkidojepdlaaGreat
open Go Go.RowKit Go.Maps Go.Shelf
set_option maxHeartbeats 16000000 in
set_option maxRecDepth 100000 in
theorem sl_symB (base g n cap : Nat) (q1 q2 : Value) (cf : Int → Int → Int) (r : Int → Int) (N : Nat) (hn : n ≤ 1000) (K : Nat) (ih : SymIH base g n cap q1 q2 cf r N K) (P L Q S : List Int) (w : World) (pa pm pb : Int) (hK : L.length + Q.length ≤ K + 1) (ha : pa = P.length) (hm : pm = ((P.length + L.length : Nat) : Int)) (hb : pb = ((P.length + L.length + Q.length : Nat) : Int)) (hl0 : 0 < L.length) (hq0 : 0 < Q.length)
    (hL : SoR r L) (hQ : SoR r Q) (hx : ∀ x ∈ L, ∀ y ∈ Q, x < y) (hr : ∀ x ∈ L ++ Q, 0 ≤ x ∧ x < N) (hc : CmpOK q1 q2 cf r N g w) (hd : Dat base g n cap (P ++ (L ++ (Q ++ S))) w) (hl1 : ¬ L.length = 1) (hq1 : ¬ Q.length = 1)
    (dm : ¬ (P.length + (P.length + L.length + Q.length)) / 2 < P.length + L.length) :
    Calls Tryz.prog 86 #[.slice (some ⟨g, 0, none⟩) n cap, .int .i64 pa, .int .i64 pm, .int .i64 pb, .func (.func 51) #[] #[q1, q2]] w (SortR base g n cap P (L ++ Q) S r w) := by
  have hlen : P.length + L.length + Q.length + S.length = n := by have := hd.1; simp only [List.length_append] at this; omega
  obtain ⟨a, hal⟩ : ∃ a, P.length = a := ⟨_, rfl⟩
  obtain ⟨m, hml⟩ : ∃ m, P.length + L.length = m := ⟨_, rfl⟩
  obtain ⟨b, hbl⟩ : ∃ b, P.length + L.length + Q.length = b := ⟨_, rfl⟩
  obtain ⟨l, hll⟩ : ∃ l, L.length = l := ⟨_, rfl⟩
  obtain ⟨q, hql⟩ : ∃ q, Q.length = q := ⟨_, rfl⟩
  rw [hbl, hml, hal] at dm
  rw [hbl] at hlen
  rw [hal] at ha
  rw [hml] at hm
  rw [hbl] at hb
  have HAL := hid hal
  have HLL := hid hll
  have HQL := hid hql
  have hlq : a + l ≤ m ∧ m ≤ a + l ∧ m + q ≤ b ∧ b ≤ m + q ∧ 2 ≤ l ∧ 2 ≤ q ∧ l + q ≤ K + 1 := by omega
  subst ha hm hb
  obtain ⟨mid, hmid⟩ : ∃ mid, (a + b) / 2 = mid := ⟨_, rfl⟩
  rw [hmid] at dm
  obtain ⟨M, hM⟩ : ∃ M, mid - a = M := ⟨_, rfl⟩
  obtain ⟨nn, hnn⟩ : ∃ nn, mid + m = nn := ⟨_, rfl⟩
  obtain ⟨pp, hpp⟩ : ∃ pp, nn - 1 = pp := ⟨_, rfl⟩
  have hmm : a + M ≤ mid ∧ mid ≤ a + M ∧ 2 ≤ M ∧ 2 * M ≤ l + q ∧ l + q ≤ 2 * M + 1 ∧ mid + m ≤ nn ∧ nn ≤ mid + m ∧ pp + 1 ≤ nn ∧ nn ≤ pp + 1 := by omega
  obtain ⟨lo, hi, s0, v0, hs0, hv0, hb1, hb2, hb3, hb4, hb5, hlo0, hhi0⟩ : ∃ lo hi s0 v0 : Nat, a = s0 ∧ m = v0 ∧ s0 = a + lo ∧ v0 = a + hi ∧ lo ≤ hi ∧ hi ≤ l ∧ (hi ≤ M ∧ M - lo ≤ q) ∧ (lo = 0 ∨ M - lo = q) ∧ (hi = l ∨ hi = M) :=
    ⟨0, l, a, m, rfl, rfl, by omega, by omega, by omega, by omega, by omega, by omega, by omega⟩
  have H0 : Hid (Mg5 base g n cap a M lo hi (P ++ (L ++ (Q ++ S))) L Q r w (.int .i64 (s0 : Int)) (.int .i64 (v0 : Int)) w) := hid ⟨lo, hi, Nat.le_refl _, hb3, Nat.le_refl _, by rw [hb1], by rw [hb2], hd, Kb.refl _ _, fun c h1 h2 => by omega, fun c h1 h2 => by omega⟩
  have HC := hid hc
  have HL := hid hL
  have HQ := hid hQ
  have HX := hid hx
  have HR := hid hr
  have HIH := hid ih
  have n1 : ((m : Int) - (a : Int) == 1) = false := by simp; omega
  have n2 : ((b : Int) - (m : Int) == 1) = false := by simp; omega
  have e1 : ((a : Int) + (b : Int)) / 2 = (mid : Int) := by omega
  have e2 : (mid : Int) + (m : Int) = (nn : Int) := by omega
  have e3 : (nn : Int) - 1 = (pp : Int) := by omega
  have HO : Hid (lo ≤ hi ∧ hi ≤ l ∧ hi ≤ M ∧ M - lo ≤ q ∧ (lo = 0 ∨ M - lo = q) ∧ (hi = l ∨ hi = M)) := hid ⟨hb3, hb4, hb5.1, hb5.2, hlo0, hhi0⟩
  have hbn : b ≤ n := by omega
  clear hc hL hQ hx hr hd hal hml hbl hll hql hmid hM hnn hpp ih hl1 hq1 hl0 hq0 hK hb1 hb2 hb3 hb4 hb5 hlo0 hhi0
  go_enter Tryz.func86, Tryz.ntmps86
  have dmd : decide (mid < m) = false := by simpa using dm
  subst hs0 hv0
  go_wp2
  clear n1 n2 e1 e2 e3
  skip
  go_loopw [20, 21] (fun sv rv wr => Mg5 base g n cap a M lo hi (P ++ (L ++ (Q ++ S))) L Q r w sv rv wr) (fun sv rv _ => (intOf rv).toNat - (intOf sv).toNat)
  case atStart => exact H0.out
  case round =>
    clear H0
    obtain ⟨s, v, hls, hsv, hvh, rfl, rfl, hd, hkb, hlo, hhi⟩ := hrel
    obtain ⟨o1, o2, o3, o4, o5, o6⟩ := HO.out
    obtain ⟨st, hst⟩ : ∃ st, a + s = st := ⟨_, rfl⟩
    obtain ⟨rr, hrr⟩ : ∃ rr, a + v = rr := ⟨_, rfl⟩
    rw [hst, hrr]
    by_cases hlt : s < v
    · have hdij : decide (st < rr) = true := by simp; omega
      obtain ⟨c, hcu, hcv, hce⟩ : ∃ c, s ≤ c ∧ c < v ∧ (st + rr) / 2 = a + c := ⟨(st + rr) / 2 - a, by omega, by omega, by omega⟩
      have hcl : c < L.length := by rw [HLL.out]; omega
      have hcq : M - 1 - c < Q.length := by rw [HQL.out]; omega
      have gl := getD_part P L (Q ++ S) c hcl
      have gq := getD_part (P ++ L) Q S (M - 1 - c) hcq
      have e1 : (P ++ L) ++ (Q ++ S) = P ++ (L ++ (Q ++ S)) := by simp
      have e3 : (P ++ L).length + (M - 1 - c) = m + (M - 1 - c) := by rw [List.length_append, HAL.out, HLL.out]; omega
      rw [HAL.out] at gl
      rw [e1, e3] at gq
      obtain ⟨c1, -⟩ := hd.cell (i := a + c) (by omega)
      obtain ⟨c2, -⟩ := hd.cell (i := m + (M - 1 - c)) (by omega)
      rw [gl] at c1
      rw [gq] at c2
      have hxy := HX.out L[c] (List.getElem_mem hcl) Q[M - 1 - c] (List.getElem_mem hcq)
      have hrx := HR.out L[c] (by simp)
      have hry := HR.out Q[M - 1 - c] (by simp)
      have hnx : Hid ((¬ Lt r Q[M - 1 - c] L[c] → ∀ c', lo ≤ c' → c' < c + 1 → ∀ (g1 : M - 1 - c' < Q.length) (g2 : c' < L.length), ¬ Lt r Q[M - 1 - c'] L[c']) ∧ (Lt r Q[M - 1 - c] L[c] → ∀ c', c ≤ c' → c' < hi → ∀ (g1 : M - 1 - c' < Q.length) (g2 : c' < L.length), Lt r Q[M - 1 - c'] L[c'])) := hid ⟨fun h c' k1 k2 g1 g2 h2 => h (by
          have h3 : Lt r Q[M - 1 - c] L[c'] := by
            rcases HQ.out.le (i := M - 1 - c) (j := M - 1 - c') (by omega) g1 with h1 | h1
            · exact h1.trans h2
            · rw [h1]; exact h2
          rcases HL.out.le (i := c') (j := c) (by omega) hcl with h1 | h1
          · exact h3.trans h1
          · rw [← h1]; exact h3), fun h c' k1 k2 g1 g2 => by
          have h3 : Lt r Q[M - 1 - c'] L[c] := by
            rcases HQ.out.le (i := M - 1 - c') (j := M - 1 - c) (by omega) hcq with h1 | h1
            · exact h1.trans h
            · rw [h1]; exact h
          rcases HL.out.le (i := c) (j := c') (by omega) g2 with h1 | h1
          · exact h3.trans h1
          · rw [← h1]; exact h3⟩
      obtain ⟨x, hx⟩ : ∃ x, L[c] = x := ⟨_, rfl⟩
      obtain ⟨y, hy⟩ : ∃ y, Q[M - 1 - c] = y := ⟨_, rfl⟩
      rw [hx] at c1 hxy hrx hnx
      rw [hy] at c2 hxy hry hnx
      have HCC := hid (fun (X : World) (hX : Below wr.heap.size wr X) => HC.out.2 X (hkb.chain (Kb.of_below hX)) y x hry.1 hry.2 hrx.1 hrx.2)
      have hlt9 : cf y x < 0 ↔ Lt r y x := by rw [lt_iff hxy]; exact HC.out.1 y x hry.1 hry.2 hrx.1 hrx.2
      obtain ⟨hh, hhe⟩ : ∃ hh, a + c = hh := ⟨_, rfl⟩
      obtain ⟨kk, hke⟩ : ∃ kk, m + (M - 1 - c) = kk := ⟨_, rfl⟩
      rw [hhe] at c1 hce
      rw [hke] at c2
      have hdv : ((st : Int) + (rr : Int)) / 2 = (hh : Int) := by omega
      have w1 : IntKind.i64.wrap ((pp : Int) - (hh : Int)) = (kk : Int) := by rw [IntWalk.i64_in _ (by omega)]; omega
      have p1 : (0 : Int) ≤ (hh : Int) := by omega
      have p2 : (hh : Int) < (n : Int) := by omega
      have p3 : (0 : Int) ≤ (kk : Int) := by omega
      have p4 : (kk : Int) < (n : Int) := by omega
      have HNEXT : Hid (∀ wr', Below wr.heap.size wr wr' → (¬ Lt r y x → Mg5 base g n cap a M lo hi (P ++ (L ++ (Q ++ S))) L Q r w (.int .i64 ((hh : Int) + 1)) (.int .i64 (rr : Int)) wr') ∧ (Lt r y x → Mg5 base g n cap a M lo hi (P ++ (L ++ (Q ++ S))) L Q r w (.int .i64 (st : Int)) (.int .i64 (hh : Int)) wr')) := hid (fun wr' hb =>
        ⟨fun h => ⟨c + 1, v, by omega, by omega, hvh, by congr 1; omega, by congr 1; omega, hd.below hb, hkb.chain (Kb.of_below hb), hnx.out.1 h, hhi⟩,
          fun h => ⟨s, c, hls, hcu, by omega, by congr 1; omega, by congr 1; omega, hd.below hb, hkb.chain (Kb.of_below hb), hlo, hnx.out.2 h⟩⟩)
      have hih : st ≤ hh ∧ hh < rr := by omega
      clear hd hkb hlo hhi hnx gl gq e1 e3 hx hy hce hhe hke hst hrr
      by_cases hcf : cf y x < 0
      · have hdc : decide (cf y x < 0) = true := by simpa using hcf
        have hL := hid (hlt9.1 hcf)
        clear hlt9 hcf
        go_wp2
        go_region_held3 (fun w' => w'.cell? ⟨g, hh, none⟩ = some (.int .i64 x) ∧ w'.cell? ⟨g, kk, none⟩ = some (.int .i64 y))
          (first | exact ⟨by assumption, by assumption⟩ | go_keep)
          (first
          | (go_at_call 51; refine (HCC.out _ (Below.drew (Below.refl _ _))).mono ?_; rintro e w5 ⟨rfl, hb5⟩
             have hb5' := (Below.drew (Below.refl _ _)).trans (hb5.mono (Nat.le_refl _))
             have c1 := (hb5.cell (World.block_lt_of_cell? _ _ c1)).trans c1
             have c2 := (hb5.cell (World.block_lt_of_cell? _ _ c2)).trans c2))
        have HN := hid ((HNEXT.out w5 hb5').2 hL.out)
        clear hb5 hb5'
        go_wp2
        go_roundw
        case rel => exact HN.out
        case measure => simp [intOf]; omega
      · have hdc : decide (cf y x < 0) = false := by simpa using hcf
        have hL := hid (fun h => hcf (hlt9.2 h))
        clear hlt9 hcf
        go_wp2
        go_region_held3 (fun w' => w'.cell? ⟨g, hh, none⟩ = some (.int .i64 x) ∧ w'.cell? ⟨g, kk, none⟩ = some (.int .i64 y))
          (first | exact ⟨by assumption, by assumption⟩ | go_keep)
          (first
          | (go_at_call 51; refine (HCC.out _ (Below.drew (Below.refl _ _))).mono ?_; rintro e w5 ⟨rfl, hb5⟩
             have hb5' := (Below.drew (Below.refl _ _)).trans (hb5.mono (Nat.le_refl _))
             have c1 := (hb5.cell (World.block_lt_of_cell? _ _ c1)).trans c1
             have c2 := (hb5.cell (World.block_lt_of_cell? _ _ c2)).trans c2))
        have HN := hid ((HNEXT.out w5 hb5').1 hL.out)
        clear hb5 hb5'
        go_wp2
        go_roundw
        case rel => exact HN.out
        case measure => simp [intOf]; omega
    · have hsv' : s = v := by omega
      subst hsv'
      have hrr' : rr = st := by omega
      subst hrr'
      have hcross := sym_halves HL.out HQ.out HX.out (M := M) (s := s) (lo := lo) (hi := hi) hls hvh (by rw [HLL.out]; exact o2) o3 (by rw [HQL.out]; exact o4) (by rw [HQL.out]; exact o5) (by rw [HLL.out]; exact o6) hlo hhi
      have HCR := hid hcross
      obtain ⟨t, ht⟩ : ∃ t, M - s = t := ⟨_, rfl⟩
      rw [ht] at HCR
      have htl : M ≤ s + t ∧ s + t ≤ M ∧ s ≤ l ∧ t ≤ q := by omega
      have HJ := hid (fun (Z1 Z2 : List Int) p1 p2 s1 s2 => sym_join (r := r) (L := L) (Q := Q) (Z1 := Z1) (Z2 := Z2) (M := M) (s := s) (by rw [ht]; exact HCR.out) (by rw [ht]; exact p1) (by rw [ht]; exact p2) s1 s2)
      obtain ⟨en, hen⟩ : ∃ en, nn - rr = en := ⟨_, rfl⟩
      have hee : en ≤ m + t ∧ m + t ≤ en := by omega
      have e5 : (nn : Int) - (rr : Int) = (en : Int) := by omega
      have lt1 : (L.take s).length = s := by rw [List.length_take, HLL.out]; omega
      have lt2 : (L.drop s).length = l - s := by rw [List.length_drop, HLL.out]
      have lt3 : (Q.take t).length = t := by rw [List.length_take, HQL.out]; omega
      have lt4 : (Q.drop t).length = q - t := by rw [List.length_drop, HQL.out]
      have LT := hid (And.intro lt1 (And.intro lt2 (And.intro lt3 lt4)))
      have HD := hid hd
      have HK := hid hkb
      have HSL := hid (show SoR r (L.take s) ∧ SoR r (L.drop s) ∧ SoR r (Q.take t) ∧ SoR r (Q.drop t) from ⟨HL.out.take s, HL.out.drop s, HQ.out.take t, HQ.out.drop t⟩)
      have hdrr : decide (rr < rr) = false := by simp
      have hra : rr ≤ a + s ∧ a + s ≤ rr := by omega
      clear hd hkb hlo hhi hcross ht hen lt1 lt2 lt3 lt4 hst hrr
      by_cases hsl : s < l
      · by_cases ht0 : 0 < t
        · by_cases hs0 : 0 < s
          · by_cases htq : t < q
            · have d1 : decide (rr < m) = true := by simp; omega
              have d2 : decide (m < en) = true := by simp; omega
              have d3 : decide (a < rr) = true := by simp; omega
              have d4 : decide (rr < mid) = true := by simp; omega
              have d5 : decide (mid < en) = true := by simp; omega
              have d6 : decide (en < b) = true := by simp; omega
              have HRO := hid (sl_rotate' base g n cap (P ++ L.take s) (L.drop s) (Q.take t) (Q.drop t ++ S) (.func (.func 51) #[] #[q1, q2]) wr (rr : Int) (m : Int) (en : Int) (by rw [List.length_append, HAL.out, LT.out.1]; omega) (by rw [List.length_append, HAL.out, LT.out.1, LT.out.2.1]; omega) (by rw [List.length_append, HAL.out, LT.out.1, LT.out.2.1, LT.out.2.2.1]; omega) (by rw [LT.out.2.1]; omega) (by rw [LT.out.2.2.1]; omega) (by rw [(symD_rot P L Q S s t).1]; exact HD.out) hn)
              go_wp2_with fail
              refine HRO.out.mono ?_
              rintro e w1 ⟨rfl, hd1, hk1⟩
              rw [(symD_rot P L Q S s t).2] at hd1
              have HD1 := hid hd1
              have HK1 := hid (HK.out.chain hk1)
              clear hd1 hk1 HRO
              have HLE := hid (HIH.out P (L.take s) (Q.take t) (L.drop s ++ (Q.drop t ++ S)) w1 (a : Int) (rr : Int) (mid : Int) (by rw [LT.out.1, LT.out.2.2.1]; omega) (by rw [HAL.out]) (by rw [HAL.out, LT.out.1]; omega) (by rw [HAL.out, LT.out.1, LT.out.2.2.1]; omega) (by rw [LT.out.1]; omega) (by rw [LT.out.2.2.1]; omega) HSL.out.1 HSL.out.2.2.1 (fun x h y h' => HX.out x (List.mem_of_mem_take h) y (List.mem_of_mem_take h')) (fun x h => HR.out x (by rcases List.mem_append.1 h with h | h; exact List.mem_append_left _ (List.mem_of_mem_take h); exact List.mem_append_right _ (List.mem_of_mem_take h))) (HC.out.turn HK1.out) HD1.out)
              go_wp2_with fail
              refine HLE.out.mono ?_
              rintro e w2 ⟨Z1, rfl, hp1, hs1, hd2, hk2⟩
              have HD2 : Hid (Dat base g n cap ((P ++ Z1) ++ (L.drop s ++ (Q.drop t ++ S))) w2) := hid (by rw [List.append_assoc]; exact hd2)
              have HK2 := hid (HK1.out.chain hk2)
              have HP1 := hid hp1
              have HS1 := hid hs1
              clear hd2 hk2 hp1 hs1 HLE
              have HZL : Hid ((P ++ Z1).length = mid) := hid (by rw [List.length_append, HP1.out.length_eq, List.length_append, HAL.out, LT.out.1, LT.out.2.2.1]; omega)
              have HRI := hid (HIH.out (P ++ Z1) (L.drop s) (Q.drop t) S w2 (mid : Int) (en : Int) (b : Int) (by rw [LT.out.2.1, LT.out.2.2.2]; omega) (by rw [HZL.out]) (by rw [HZL.out, LT.out.2.1]; omega) (by rw [HZL.out, LT.out.2.1, LT.out.2.2.2]; omega) (by rw [LT.out.2.1]; omega) (by rw [LT.out.2.2.2]; omega) HSL.out.2.1 HSL.out.2.2.2 (fun x h y h' => HX.out x (List.mem_of_mem_drop h) y (List.mem_of_mem_drop h')) (fun x h => HR.out x (by rcases List.mem_append.1 h with h | h; exact List.mem_append_left _ (List.mem_of_mem_drop h); exact List.mem_append_right _ (List.mem_of_mem_drop h))) (HC.out.turn HK2.out) HD2.out)
              go_wp2_with fail
              refine HRI.out.mono ?_
              rintro e w3 ⟨Z2, rfl, hp2, hs2, hd3, hk3⟩
              have HP2 := hid hp2
              have HS2 := hid hs2
              have HD3 := hid hd3
              have HK3 := hid (HK2.out.chain hk3)
              clear hp2 hs2 hd3 hk3 HRI
              have HF := hid (HJ.out Z1 Z2 HP1.out HP2.out HS1.out HS2.out)
              go_wp2
              go_end0
              exact ⟨Z1 ++ Z2, rfl, HF.out.1, HF.out.2, by have := HD3.out; rwa [List.append_assoc, ← List.append_assoc Z1] at this, HK3.out⟩
            · have d1 : decide (rr < m) = true := by simp; omega
              have d2 : decide (m < en) = true := by simp; omega
              have d3 : decide (a < rr) = true := by simp; omega
              have d4 : decide (rr < mid) = true := by simp; omega
              have d5 : decide (mid < en) = true := by simp; omega
              have d6 : decide (en < b) = false := by simp; omega
              have HRO := hid (sl_rotate' base g n cap (P ++ L.take s) (L.drop s) (Q.take t) (Q.drop t ++ S) (.func (.func 51) #[] #[q1, q2]) wr (rr : Int) (m : Int) (en : Int) (by rw [List.length_append, HAL.out, LT.out.1]; omega) (by rw [List.length_append, HAL.out, LT.out.1, LT.out.2.1]; omega) (by rw [List.length_append, HAL.out, LT.out.1, LT.out.2.1, LT.out.2.2.1]; omega) (by rw [LT.out.2.1]; omega) (by rw [LT.out.2.2.1]; omega) (by rw [(symD_rot P L Q S s t).1]; exact HD.out) hn)
              go_wp2_with fail
              refine HRO.out.mono ?_
              rintro e w1 ⟨rfl, hd1, hk1⟩
              rw [(symD_rot P L Q S s t).2] at hd1
              have HD1 := hid hd1
              have HK1 := hid (HK.out.chain hk1)
              clear hd1 hk1 HRO
              have HLE := hid (HIH.out P (L.take s) (Q.take t) (L.drop s ++ (Q.drop t ++ S)) w1 (a : Int) (rr : Int) (mid : Int) (by rw [LT.out.1, LT.out.2.2.1]; omega) (by rw [HAL.out]) (by rw [HAL.out, LT.out.1]; omega) (by rw [HAL.out, LT.out.1, LT.out.2.2.1]; omega) (by rw [LT.out.1]; omega) (by rw [LT.out.2.2.1]; omega) HSL.out.1 HSL.out.2.2.1 (fun x h y h' => HX.out x (List.mem_of_mem_take h) y (List.mem_of_mem_take h')) (fun x h => HR.out x (by rcases List.mem_append.1 h with h | h; exact List.mem_append_left _ (List.mem_of_mem_take h); exact List.mem_append_right _ (List.mem_of_mem_take h))) (HC.out.turn HK1.out) HD1.out)
              go_wp2_with fail
              refine HLE.out.mono ?_
              rintro e w2 ⟨Z1, rfl, hp1, hs1, hd2, hk2⟩
              have HD2 : Hid (Dat base g n cap ((P ++ Z1) ++ (L.drop s ++ (Q.drop t ++ S))) w2) := hid (by rw [List.append_assoc]; exact hd2)
              have HK2 := hid (HK1.out.chain hk2)
              have HP1 := hid hp1
              have HS1 := hid hs1
              clear hd2 hk2 hp1 hs1 HLE
              obtain ⟨Z2, hZ2⟩ : ∃ Z2, L.drop s ++ Q.drop t = Z2 := ⟨_, rfl⟩
              have HP2 : Hid (Z2.Perm (L.drop s ++ Q.drop t)) := hid (by rw [hZ2])
              have HS2 : Hid (SoR r Z2) := hid (by rw [← hZ2]; exact one_sorted HSL.out.2.1 HSL.out.2.2.2 (by rcases Nat.lt_or_ge s l with h | h; exact Or.inr (List.length_eq_zero_iff.1 (by rw [LT.out.2.2.2]; omega)); exact Or.inl (List.length_eq_zero_iff.1 (by rw [LT.out.2.1]; omega))))
              have HD3 : Hid (Dat base g n cap ((P ++ Z1) ++ (Z2 ++ S)) w2) := hid (by have := HD2.out; rw [← hZ2]; simpa using this)
              have HK3 := hid HK2.out
              clear hZ2
              have HF := hid (HJ.out Z1 Z2 HP1.out HP2.out HS1.out HS2.out)
              go_wp2
              go_end0
              exact ⟨Z1 ++ Z2, rfl, HF.out.1, HF.out.2, by have := HD3.out; rwa [List.append_assoc, ← List.append_assoc Z1] at this, HK3.out⟩
          · by_cases htq : t < q
            · have d1 : decide (rr < m) = true := by simp; omega
              have d2 : decide (m < en) = true := by simp; omega
              have d3 : decide (a < rr) = false := by simp; omega
              have d4 : decide (rr < mid) = true := by simp; omega
              have d5 : decide (mid < en) = true := by simp; omega
              have d6 : decide (en < b) = true := by simp; omega
              have HRO := hid (sl_rotate' base g n cap (P ++ L.take s) (L.drop s) (Q.take t) (Q.drop t ++ S) (.func (.func 51) #[] #[q1, q2]) wr (rr : Int) (m : Int) (en : Int) (by rw [List.length_append, HAL.out, LT.out.1]; omega) (by rw [List.length_append, HAL.out, LT.out.1, LT.out.2.1]; omega) (by rw [List.length_append, HAL.out, LT.out.1, LT.out.2.1, LT.out.2.2.1]; omega) (by rw [LT.out.2.1]; omega) (by rw [LT.out.2.2.1]; omega) (by rw [(symD_rot P L Q S s t).1]; exact HD.out) hn)
              go_wp2_with fail
              refine HRO.out.mono ?_
              rintro e w1 ⟨rfl, hd1, hk1⟩
              rw [(symD_rot P L Q S s t).2] at hd1
              have HD1 := hid hd1
              have HK1 := hid (HK.out.chain hk1)
              clear hd1 hk1 HRO
              obtain ⟨Z1, hZ1⟩ : ∃ Z1, L.take s ++ Q.take t = Z1 := ⟨_, rfl⟩
              have HP1 : Hid (Z1.Perm (L.take s ++ Q.take t)) := hid (by rw [hZ1])
              have HS1 : Hid (SoR r Z1) := hid (by rw [← hZ1]; exact one_sorted HSL.out.1 HSL.out.2.2.1 (by rcases Nat.eq_zero_or_pos s with h | h; exact Or.inl (List.length_eq_zero_iff.1 (by rw [LT.out.1, h])); exact Or.inr (List.length_eq_zero_iff.1 (by rw [LT.out.2.2.1]; omega))))
              have HD2 : Hid (Dat base g n cap ((P ++ Z1) ++ (L.drop s ++ (Q.drop t ++ S))) w1) := hid (by have := HD1.out; unfold SymD at this; rw [← hZ1]; simpa using this)
              have HK2 := hid HK1.out
              clear hZ1
              have HZL : Hid ((P ++ Z1).length = mid) := hid (by rw [List.length_append, HP1.out.length_eq, List.length_append, HAL.out, LT.out.1, LT.out.2.2.1]; omega)
              have HRI := hid (HIH.out (P ++ Z1) (L.drop s) (Q.drop t) S w1 (mid : Int) (en : Int) (b : Int) (by rw [LT.out.2.1, LT.out.2.2.2]; omega) (by rw [HZL.out]) (by rw [HZL.out, LT.out.2.1]; omega) (by rw [HZL.out, LT.out.2.1, LT.out.2.2.2]; omega) (by rw [LT.out.2.1]; omega) (by rw [LT.out.2.2.2]; omega) HSL.out.2.1 HSL.out.2.2.2 (fun x h y h' => HX.out x (List.mem_of_mem_drop h) y (List.mem_of_mem_drop h')) (fun x h => HR.out x (by rcases List.mem_append.1 h with h | h; exact List.mem_append_left _ (List.mem_of_mem_drop h); exact List.mem_append_right _ (List.mem_of_mem_drop h))) (HC.out.turn HK2.out) HD2.out)
              go_wp2_with fail
              refine HRI.out.mono ?_
              rintro e w3 ⟨Z2, rfl, hp2, hs2, hd3, hk3⟩
              have HP2 := hid hp2
              have HS2 := hid hs2
              have HD3 := hid hd3
              have HK3 := hid (HK2.out.chain hk3)
              clear hp2 hs2 hd3 hk3 HRI
              have HF := hid (HJ.out Z1 Z2 HP1.out HP2.out HS1.out HS2.out)
              go_wp2
              go_end0
              exact ⟨Z1 ++ Z2, rfl, HF.out.1, HF.out.2, by have := HD3.out; rwa [List.append_assoc, ← List.append_assoc Z1] at this, HK3.out⟩
            · have d1 : decide (rr < m) = true := by simp; omega
              have d2 : decide (m < en) = true := by simp; omega
              have d3 : decide (a < rr) = false := by simp; omega
              have d4 : decide (rr < mid) = true := by simp; omega
              have d5 : decide (mid < en) = true := by simp; omega
              have d6 : decide (en < b) = false := by simp; omega
              have HRO := hid (sl_rotate' base g n cap (P ++ L.take s) (L.drop s) (Q.take t) (Q.drop t ++ S) (.func (.func 51) #[] #[q1, q2]) wr (rr : Int) (m : Int) (en : Int) (by rw [List.length_append, HAL.out, LT.out.1]; omega) (by rw [List.length_append, HAL.out, LT.out.1, LT.out.2.1]; omega) (by rw [List.length_append, HAL.out, LT.out.1, LT.out.2.1, LT.out.2.2.1]; omega) (by rw [LT.out.2.1]; omega) (by rw [LT.out.2.2.1]; omega) (by rw [(symD_rot P L Q S s t).1]; exact HD.out) hn)
              go_wp2_with fail
              refine HRO.out.mono ?_
              rintro e w1 ⟨rfl, hd1, hk1⟩
              rw [(symD_rot P L Q S s t).2] at hd1
              have HD1 := hid hd1
              have HK1 := hid (HK.out.chain hk1)
              clear hd1 hk1 HRO
              obtain ⟨Z1, hZ1⟩ : ∃ Z1, L.take s ++ Q.take t = Z1 := ⟨_, rfl⟩
              have HP1 : Hid (Z1.Perm (L.take s ++ Q.take t)) := hid (by rw [hZ1])
              have HS1 : Hid (SoR r Z1) := hid (by rw [← hZ1]; exact one_sorted HSL.out.1 HSL.out.2.2.1 (by rcases Nat.eq_zero_or_pos s with h | h; exact Or.inl (List.length_eq_zero_iff.1 (by rw [LT.out.1, h])); exact Or.inr (List.length_eq_zero_iff.1 (by rw [LT.out.2.2.1]; omega))))
              have HD2 : Hid (Dat base g n cap ((P ++ Z1) ++ (L.drop s ++ (Q.drop t ++ S))) w1) := hid (by have := HD1.out; unfold SymD at this; rw [← hZ1]; simpa using this)
              have HK2 := hid HK1.out
              clear hZ1
              obtain ⟨Z2, hZ2⟩ : ∃ Z2, L.drop s ++ Q.drop t = Z2 := ⟨_, rfl⟩
              have HP2 : Hid (Z2.Perm (L.drop s ++ Q.drop t)) := hid (by rw [hZ2])
              have HS2 : Hid (SoR r Z2) := hid (by rw [← hZ2]; exact one_sorted HSL.out.2.1 HSL.out.2.2.2 (by rcases Nat.lt_or_ge s l with h | h; exact Or.inr (List.length_eq_zero_iff.1 (by rw [LT.out.2.2.2]; omega)); exact Or.inl (List.length_eq_zero_iff.1 (by rw [LT.out.2.1]; omega))))
              have HD3 : Hid (Dat base g n cap ((P ++ Z1) ++ (Z2 ++ S)) w1) := hid (by have := HD2.out; rw [← hZ2]; simpa using this)
              have HK3 := hid HK2.out
              clear hZ2
              have HF := hid (HJ.out Z1 Z2 HP1.out HP2.out HS1.out HS2.out)
              go_wp2
              go_end0
              exact ⟨Z1 ++ Z2, rfl, HF.out.1, HF.out.2, by have := HD3.out; rwa [List.append_assoc, ← List.append_assoc Z1] at this, HK3.out⟩
        · by_cases hs0 : 0 < s
          · by_cases htq : t < q
            · have d1 : decide (rr < m) = true := by simp; omega
              have d2 : decide (m < en) = false := by simp; omega
              have d3 : decide (a < rr) = true := by simp; omega
              have d4 : decide (rr < mid) = false := by simp; omega
              have d5 : decide (mid < en) = true := by simp; omega
              have d6 : decide (en < b) = true := by simp; omega
              have HD1 : Hid (Dat base g n cap (SymD P L Q S s t) wr) := hid (by rw [← symD_same P L Q S s t (by rw [HLL.out]; omega)]; exact HD.out)
              have HK1 := hid HK.out
              obtain ⟨Z1, hZ1⟩ : ∃ Z1, L.take s ++ Q.take t = Z1 := ⟨_, rfl⟩
              have HP1 : Hid (Z1.Perm (L.take s ++ Q.take t)) := hid (by rw [hZ1])
              have HS1 : Hid (SoR r Z1) := hid (by rw [← hZ1]; exact one_sorted HSL.out.1 HSL.out.2.2.1 (by rcases Nat.eq_zero_or_pos s with h | h; exact Or.inl (List.length_eq_zero_iff.1 (by rw [LT.out.1, h])); exact Or.inr (List.length_eq_zero_iff.1 (by rw [LT.out.2.2.1]; omega))))
              have HD2 : Hid (Dat base g n cap ((P ++ Z1) ++ (L.drop s ++ (Q.drop t ++ S))) wr) := hid (by have := HD1.out; unfold SymD at this; rw [← hZ1]; simpa using this)
              have HK2 := hid HK1.out
              clear hZ1
              have HZL : Hid ((P ++ Z1).length = mid) := hid (by rw [List.length_append, HP1.out.length_eq, List.length_append, HAL.out, LT.out.1, LT.out.2.2.1]; omega)
              have HRI := hid (HIH.out (P ++ Z1) (L.drop s) (Q.drop t) S wr (mid : Int) (en : Int) (b : Int) (by rw [LT.out.2.1, LT.out.2.2.2]; omega) (by rw [HZL.out]) (by rw [HZL.out, LT.out.2.1]; omega) (by rw [HZL.out, LT.out.2.1, LT.out.2.2.2]; omega) (by rw [LT.out.2.1]; omega) (by rw [LT.out.2.2.2]; omega) HSL.out.2.1 HSL.out.2.2.2 (fun x h y h' => HX.out x (List.mem_of_mem_drop h) y (List.mem_of_mem_drop h')) (fun x h => HR.out x (by rcases List.mem_append.1 h with h | h; exact List.mem_append_left _ (List.mem_of_mem_drop h); exact List.mem_append_right _ (List.mem_of_mem_drop h))) (HC.out.turn HK2.out) HD2.out)
              go_wp2_with fail
              refine HRI.out.mono ?_
              rintro e w3 ⟨Z2, rfl, hp2, hs2, hd3, hk3⟩
              have HP2 := hid hp2
              have HS2 := hid hs2
              have HD3 := hid hd3
              have HK3 := hid (HK2.out.chain hk3)
              clear hp2 hs2 hd3 hk3 HRI
              have HF := hid (HJ.out Z1 Z2 HP1.out HP2.out HS1.out HS2.out)
              go_wp2
              go_end0
              exact ⟨Z1 ++ Z2, rfl, HF.out.1, HF.out.2, by have := HD3.out; rwa [List.append_assoc, ← List.append_assoc Z1] at this, HK3.out⟩
            · have d1 : decide (rr < m) = true := by simp; omega
              have d2 : decide (m < en) = false := by simp; omega
              have d3 : decide (a < rr) = true := by simp; omega
              have d4 : decide (rr < mid) = false := by simp; omega
              have d5 : decide (mid < en) = true := by simp; omega
              have d6 : decide (en < b) = false := by simp; omega
              have HD1 : Hid (Dat base g n cap (SymD P L Q S s t) wr) := hid (by rw [← symD_same P L Q S s t (by rw [HLL.out]; omega)]; exact HD.out)
              have HK1 := hid HK.out
              obtain ⟨Z1, hZ1⟩ : ∃ Z1, L.take s ++ Q.take t = Z1 := ⟨_, rfl⟩
              have HP1 : Hid (Z1.Perm (L.take s ++ Q.take t)) := hid (by rw [hZ1])
              have HS1 : Hid (SoR r Z1) := hid (by rw [← hZ1]; exact one_sorted HSL.out.1 HSL.out.2.2.1 (by rcases Nat.eq_zero_or_pos s with h | h; exact Or.inl (List.length_eq_zero_iff.1 (by rw [LT.out.1, h])); exact Or.inr (List.length_eq_zero_iff.1 (by rw [LT.out.2.2.1]; omega))))
              have HD2 : Hid (Dat base g n cap ((P ++ Z1) ++ (L.drop s ++ (Q.drop t ++ S))) wr) := hid (by have := HD1.out; unfold SymD at this; rw [← hZ1]; simpa using this)
              have HK2 := hid HK1.out
              clear hZ1
              obtain ⟨Z2, hZ2⟩ : ∃ Z2, L.drop s ++ Q.drop t = Z2 := ⟨_, rfl⟩
              have HP2 : Hid (Z2.Perm (L.drop s ++ Q.drop t)) := hid (by rw [hZ2])
              have HS2 : Hid (SoR r Z2) := hid (by rw [← hZ2]; exact one_sorted HSL.out.2.1 HSL.out.2.2.2 (by rcases Nat.lt_or_ge s l with h | h; exact Or.inr (List.length_eq_zero_iff.1 (by rw [LT.out.2.2.2]; omega)); exact Or.inl (List.length_eq_zero_iff.1 (by rw [LT.out.2.1]; omega))))
              have HD3 : Hid (Dat base g n cap ((P ++ Z1) ++ (Z2 ++ S)) wr) := hid (by have := HD2.out; rw [← hZ2]; simpa using this)
              have HK3 := hid HK2.out
              clear hZ2
              have HF := hid (HJ.out Z1 Z2 HP1.out HP2.out HS1.out HS2.out)
              go_wp2
              go_end0
              exact ⟨Z1 ++ Z2, rfl, HF.out.1, HF.out.2, by have := HD3.out; rwa [List.append_assoc, ← List.append_assoc Z1] at this, HK3.out⟩
          · by_cases htq : t < q
            · exfalso; omega
            · exfalso; omega
      · by_cases ht0 : 0 < t
        · by_cases hs0 : 0 < s
          · by_cases htq : t < q
            · have d1 : decide (rr < m) = false := by simp; omega
              have d2 : decide (m < en) = true := by simp; omega
              have d3 : decide (a < rr) = true := by simp; omega
              have d4 : decide (rr < mid) = true := by simp; omega
              have d5 : decide (mid < en) = false := by simp; omega
              have d6 : decide (en < b) = true := by simp; omega
              have HD1 : Hid (Dat base g n cap (SymD P L Q S s t) wr) := hid (by rw [← symD_same P L Q S s t (by rw [HLL.out]; omega)]; exact HD.out)
              have HK1 := hid HK.out
              have HLE := hid (HIH.out P (L.take s) (Q.take t) (L.drop s ++ (Q.drop t ++ S)) wr (a : Int) (rr : Int) (mid : Int) (by rw [LT.out.1, LT.out.2.2.1]; omega) (by rw [HAL.out]) (by rw [HAL.out, LT.out.1]; omega) (by rw [HAL.out, LT.out.1, LT.out.2.2.1]; omega) (by rw [LT.out.1]; omega) (by rw [LT.out.2.2.1]; omega) HSL.out.1 HSL.out.2.2.1 (fun x h y h' => HX.out x (List.mem_of_mem_take h) y (List.mem_of_mem_take h')) (fun x h => HR.out x (by rcases List.mem_append.1 h with h | h; exact List.mem_append_left _ (List.mem_of_mem_take h); exact List.mem_append_right _ (List.mem_of_mem_take h))) (HC.out.turn HK1.out) HD1.out)
              go_wp2_with fail
              refine HLE.out.mono ?_
              rintro e w2 ⟨Z1, rfl, hp1, hs1, hd2, hk2⟩
              have HD2 : Hid (Dat base g n cap ((P ++ Z1) ++ (L.drop s ++ (Q.drop t ++ S))) w2) := hid (by rw [List.append_assoc]; exact hd2)
              have HK2 := hid (HK1.out.chain hk2)
              have HP1 := hid hp1
              have HS1 := hid hs1
              clear hd2 hk2 hp1 hs1 HLE
              obtain ⟨Z2, hZ2⟩ : ∃ Z2, L.drop s ++ Q.drop t = Z2 := ⟨_, rfl⟩
              have HP2 : Hid (Z2.Perm (L.drop s ++ Q.drop t)) := hid (by rw [hZ2])
              have HS2 : Hid (SoR r Z2) := hid (by rw [← hZ2]; exact one_sorted HSL.out.2.1 HSL.out.2.2.2 (by rcases Nat.lt_or_ge s l with h | h; exact Or.inr (List.length_eq_zero_iff.1 (by rw [LT.out.2.2.2]; omega)); exact Or.inl (List.length_eq_zero_iff.1 (by rw [LT.out.2.1]; omega))))
              have HD3 : Hid (Dat base g n cap ((P ++ Z1) ++ (Z2 ++ S)) w2) := hid (by have := HD2.out; rw [← hZ2]; simpa using this)
              have HK3 := hid HK2.out
              clear hZ2
              have HF := hid (HJ.out Z1 Z2 HP1.out HP2.out HS1.out HS2.out)
              go_wp2
              go_end0
              exact ⟨Z1 ++ Z2, rfl, HF.out.1, HF.out.2, by have := HD3.out; rwa [List.append_assoc, ← List.append_assoc Z1] at this, HK3.out⟩
            · exfalso; omega
          · by_cases htq : t < q
            · have d1 : decide (rr < m) = false := by simp; omega
              have d2 : decide (m < en) = true := by simp; omega
              have d3 : decide (a < rr) = false := by simp; omega
              have d4 : decide (rr < mid) = true := by simp; omega
              have d5 : decide (mid < en) = false := by simp; omega
              have d6 : decide (en < b) = true := by simp; omega
              have HD1 : Hid (Dat base g n cap (SymD P L Q S s t) wr) := hid (by rw [← symD_same P L Q S s t (by rw [HLL.out]; omega)]; exact HD.out)
              have HK1 := hid HK.out
              obtain ⟨Z1, hZ1⟩ : ∃ Z1, L.take s ++ Q.take t = Z1 := ⟨_, rfl⟩
              have HP1 : Hid (Z1.Perm (L.take s ++ Q.take t)) := hid (by rw [hZ1])
              have HS1 : Hid (SoR r Z1) := hid (by rw [← hZ1]; exact one_sorted HSL.out.1 HSL.out.2.2.1 (by rcases Nat.eq_zero_or_pos s with h | h; exact Or.inl (List.length_eq_zero_iff.1 (by rw [LT.out.1, h])); exact Or.inr (List.length_eq_zero_iff.1 (by rw [LT.out.2.2.1]; omega))))
              have HD2 : Hid (Dat base g n cap ((P ++ Z1) ++ (L.drop s ++ (Q.drop t ++ S))) wr) := hid (by have := HD1.out; unfold SymD at this; rw [← hZ1]; simpa using this)
              have HK2 := hid HK1.out
              clear hZ1
              obtain ⟨Z2, hZ2⟩ : ∃ Z2, L.drop s ++ Q.drop t = Z2 := ⟨_, rfl⟩
              have HP2 : Hid (Z2.Perm (L.drop s ++ Q.drop t)) := hid (by rw [hZ2])
              have HS2 : Hid (SoR r Z2) := hid (by rw [← hZ2]; exact one_sorted HSL.out.2.1 HSL.out.2.2.2 (by rcases Nat.lt_or_ge s l with h | h; exact Or.inr (List.length_eq_zero_iff.1 (by rw [LT.out.2.2.2]; omega)); exact Or.inl (List.length_eq_zero_iff.1 (by rw [LT.out.2.1]; omega))))
              have HD3 : Hid (Dat base g n cap ((P ++ Z1) ++ (Z2 ++ S)) wr) := hid (by have := HD2.out; rw [← hZ2]; simpa using this)
              have HK3 := hid HK2.out
              clear hZ2
              have HF := hid (HJ.out Z1 Z2 HP1.out HP2.out HS1.out HS2.out)
              go_wp2
              go_end0
              exact ⟨Z1 ++ Z2, rfl, HF.out.1, HF.out.2, by have := HD3.out; rwa [List.append_assoc, ← List.append_assoc Z1] at this, HK3.out⟩
            · exfalso; omega
        · by_cases hs0 : 0 < s
          · by_cases htq : t < q
            · have d1 : decide (rr < m) = false := by simp; omega
              have d2 : decide (m < en) = false := by simp; omega
              have d3 : decide (a < rr) = true := by simp; omega
              have d4 : decide (rr < mid) = false := by simp; omega
              have d5 : decide (mid < en) = false := by simp; omega
              have d6 : decide (en < b) = true := by simp; omega
              have HD1 : Hid (Dat base g n cap (SymD P L Q S s t) wr) := hid (by rw [← symD_same P L Q S s t (by rw [HLL.out]; omega)]; exact HD.out)
              have HK1 := hid HK.out
              obtain ⟨Z1, hZ1⟩ : ∃ Z1, L.take s ++ Q.take t = Z1 := ⟨_, rfl⟩
              have HP1 : Hid (Z1.Perm (L.take s ++ Q.take t)) := hid (by rw [hZ1])
              have HS1 : Hid (SoR r Z1) := hid (by rw [← hZ1]; exact one_sorted HSL.out.1 HSL.out.2.2.1 (by rcases Nat.eq_zero_or_pos s with h | h; exact Or.inl (List.length_eq_zero_iff.1 (by rw [LT.out.1, h])); exact Or.inr (List.length_eq_zero_iff.1 (by rw [LT.out.2.2.1]; omega))))
              have HD2 : Hid (Dat base g n cap ((P ++ Z1) ++ (L.drop s ++ (Q.drop t ++ S))) wr) := hid (by have := HD1.out; unfold SymD at this; rw [← hZ1]; simpa using this)
              have HK2 := hid HK1.out
              clear hZ1
              obtain ⟨Z2, hZ2⟩ : ∃ Z2, L.drop s ++ Q.drop t = Z2 := ⟨_, rfl⟩
              have HP2 : Hid (Z2.Perm (L.drop s ++ Q.drop t)) := hid (by rw [hZ2])
              have HS2 : Hid (SoR r Z2) := hid (by rw [← hZ2]; exact one_sorted HSL.out.2.1 HSL.out.2.2.2 (by rcases Nat.lt_or_ge s l with h | h; exact Or.inr (List.length_eq_zero_iff.1 (by rw [LT.out.2.2.2]; omega)); exact Or.inl (List.length_eq_zero_iff.1 (by rw [LT.out.2.1]; omega))))
              have HD3 : Hid (Dat base g n cap ((P ++ Z1) ++ (Z2 ++ S)) wr) := hid (by have := HD2.out; rw [← hZ2]; simpa using this)
              have HK3 := hid HK2.out
              clear hZ2
              have HF := hid (HJ.out Z1 Z2 HP1.out HP2.out HS1.out HS2.out)
              go_wp2
              go_end0
              exact ⟨Z1 ++ Z2, rfl, HF.out.1, HF.out.2, by have := HD3.out; rwa [List.append_assoc, ← List.append_assoc Z1] at this, HK3.out⟩
            · exfalso; omega
          · by_cases htq : t < q
            · exfalso; omega
            · exfalso; omega
end Go.Proofs.YtldgkidojepdlaaGreat
