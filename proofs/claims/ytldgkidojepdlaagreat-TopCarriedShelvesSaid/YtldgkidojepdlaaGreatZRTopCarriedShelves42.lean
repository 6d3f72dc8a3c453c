/-
  WHAT IT HOLDS: contract of symMergeCmpFunc of package slices at int, of a slice of the call's own, by a comparison that ranks. Conditions: both parts stand in order, and the numbers of the first are below those of the second.
  WHAT IT HOLDS: contract of symMergeCmpFunc of package slices at int, whole. Conditions: both parts stand in order, and the numbers of the first are below those of the second.
-/
import Derived.Test.YtldgkidojepdlaaGreatZRTopCarriedShelves41
namespace Go.Proofs.YtldgkidojepdlaaGreat
open Go Go.RowKit Go.Maps Go.Shelf
theorem swap_up (P Z S : List Int) (x : Int) (t : Nat) (ht : t < Z.length) : swapL (P ++ (Z.take t ++ x :: (Z.drop t ++ S))) (P.length + t) (P.length + t + 1) = P ++ (Z.take (t + 1) ++ x :: (Z.drop (t + 1) ++ S)) := by
  have e := swapL_next (P ++ Z.take t) (Z.drop (t + 1) ++ S) x Z[t]
  have l1 : (P ++ Z.take t).length = P.length + t := by simp; omega
  rw [l1] at e
  conv => lhs; rw [List.drop_eq_getElem_cons ht]
  rw [List.take_succ_eq_append_getElem ht]
  simp only [List.append_assoc, List.cons_append, List.nil_append] at e ⊢
  exact e
theorem getD_part (P L S : List Int) (c : Nat) (hc : c < L.length) : (P ++ (L ++ S)).getD (P.length + c) 0 = L[c] := by
  rw [List.getD_eq_getElem?_getD, List.getElem?_append_right (by omega), show P.length + c - P.length = c from by omega, List.getElem?_append_left hc, List.getElem?_eq_getElem hc]
  rfl
def Mg1 (base g n cap m : Nat) (D Q : List Int) (x : Int) (r : Int → Int) (w : World) (iv jv : Value) (wr : World) : Prop :=
  ∃ u v : Nat, u ≤ v ∧ v ≤ Q.length ∧ iv = .int .i64 ((m + u : Nat) : Int) ∧ jv = .int .i64 ((m + v : Nat) : Int) ∧ Dat base g n cap D wr ∧ Kb (fun k => k = g) w wr ∧ (∀ c (h : c < Q.length), c < u → Lt r Q[c] x) ∧ (∀ c (h : c < Q.length), v ≤ c → ¬ Lt r Q[c] x)
def Mg2 (base g n cap a u : Nat) (P Q S : List Int) (x : Int) (w : World) (kv : Value) (wr : World) : Prop :=
  ∃ t : Nat, t ≤ u ∧ kv = .int .i64 ((a + t : Nat) : Int) ∧ Dat base g n cap (P ++ (Q.take t ++ x :: (Q.drop t ++ S))) wr ∧ Kb (fun k => k = g) w wr
set_option maxHeartbeats 4000000 in
set_option maxRecDepth 100000 in
theorem sl_symMerge1 (base g n cap : Nat) (P Q S : List Int) (x : Int) (q1 q2 : Value) (cf : Int → Int → Int) (r : Int → Int) (N : Nat) (w : World) (pa pm pb : Int) (ha : pa = P.length) (hm : pm = ((P.length + 1 : Nat) : Int)) (hb : pb = ((P.length + 1 + Q.length : Nat) : Int))
    (hQ : SoR r Q) (hx : ∀ y ∈ Q, x < y) (hrx : 0 ≤ x ∧ x < N) (hr : ∀ y ∈ Q, 0 ≤ y ∧ y < N) (hc : CmpOK q1 q2 cf r N g w) (hd : Dat base g n cap (P ++ (x :: (Q ++ S))) w) (hn : n ≤ 1000) :
    Calls Tryz.prog 86 #[.slice (some ⟨g, 0, none⟩) n cap, .int .i64 pa, .int .i64 pm, .int .i64 pb, .func (.func 51) #[] #[q1, q2]] w (SortR base g n cap P (x :: Q) S r w) := by
  have hlen : P.length + 1 + Q.length + S.length = n := by have := hd.1; simp only [List.length_append, List.length_cons] at this; omega
  obtain ⟨a, hal⟩ : ∃ a, P.length = a := ⟨_, rfl⟩
  obtain ⟨m, hml⟩ : ∃ m, P.length + 1 = m := ⟨_, rfl⟩
  obtain ⟨b, hbl⟩ : ∃ b, P.length + 1 + Q.length = b := ⟨_, rfl⟩
  rw [hbl] at hlen
  rw [hal] at ha
  rw [hml] at hm
  rw [hbl] at hb
  have HAL := hid hal
  have hm1 : a + 1 ≤ m ∧ m ≤ a + 1 := by omega
  have hbq : m + Q.length ≤ b ∧ b ≤ m + Q.length := by omega
  subst ha hm hb
  have H0 : Hid (Mg1 base g n cap m (P ++ (x :: (Q ++ S))) Q x r w (.int .i64 (m : Int)) (.int .i64 (b : Int)) w) := hid ⟨0, Q.length, Nat.zero_le _, Nat.le_refl _, by simp, by congr 1; omega, hd, Kb.refl _ _, fun c h h' => by omega, fun c h h' => by omega⟩
  have HC := hid hc
  have HQ := hid hQ
  have HX := hid hx
  have HR := hid hr
  have n1 : ((m : Int) - (a : Int) == 1) = true := by simp; omega
  clear hc hQ hx hr hd hal hml hbl
  go_enter Tryz.func86, Tryz.ntmps86
  go_wp2
  go_loopw [10, 11] (fun iv jv wr => Mg1 base g n cap m (P ++ (x :: (Q ++ S))) Q x r w iv jv wr) (fun iv jv _ => (intOf jv).toNat - (intOf iv).toNat)
  case atStart => exact H0.out
  case round =>
    clear H0 n1
    obtain ⟨u, v, huv, hvq, rfl, rfl, hd, hkb, hlo, hhi⟩ := hrel
    by_cases hlt : u < v
    · obtain ⟨i, hi⟩ : ∃ i, m + u = i := ⟨_, rfl⟩
      obtain ⟨j, hj⟩ : ∃ j, m + v = j := ⟨_, rfl⟩
      rw [hi, hj]
      have hij : i < j := by omega
      have hdij : decide (i < j) = true := by simpa using hij
      obtain ⟨c, hcu, hcv, hce⟩ : ∃ c, u ≤ c ∧ c < v ∧ (i + j) / 2 = m + c := ⟨(i + j) / 2 - m, by omega, by omega, by omega⟩
      have hcq : c < Q.length := by omega
      have gc := getD_part (P ++ [x]) Q S c hcq
      have gx := getD_part P [x] (Q ++ S) 0 (by simp)
      have e1 : (P ++ [x]) ++ (Q ++ S) = P ++ (x :: (Q ++ S)) := by simp
      have e2 : P ++ ([x] ++ (Q ++ S)) = P ++ (x :: (Q ++ S)) := by simp
      have e3 : (P ++ [x]).length + c = m + c := by simp; have := HAL.out; omega
      rw [e1, e3] at gc
      rw [e2, HAL.out] at gx
      simp only [List.getElem_cons_zero, Nat.add_zero] at gx
      obtain ⟨c1, -⟩ := hd.cell (i := m + c) (by omega)
      obtain ⟨c2, -⟩ := hd.cell (i := a) (by omega)
      rw [gc] at c1
      rw [gx] at c2
      have hxy := HX.out Q[c] (List.getElem_mem hcq)
      have hry := HR.out Q[c] (List.getElem_mem hcq)
      have hnx : Hid ((Lt r Q[c] x → ∀ c' (h : c' < Q.length), c' < c + 1 → Lt r Q[c'] x) ∧ (¬ Lt r Q[c] x → ∀ c' (h : c' < Q.length), c ≤ c' → ¬ Lt r Q[c'] x)) := hid ⟨fun h c' g1 g2 => by
          rcases HQ.out.le (i := c') (j := c) (by omega) hcq with h1 | h1
          · exact h1.trans h
          · rw [h1]; exact h, fun h c' g1 g2 h2 => by
          rcases HQ.out.le (i := c) (j := c') (by omega) g1 with h1 | h1
          · exact h (h1.trans h2)
          · rw [h1] at h; exact h h2⟩
      obtain ⟨y, hy⟩ : ∃ y, Q[c] = y := ⟨_, rfl⟩
      rw [hy] at c1 hxy hry hnx
      have HCC := hid (fun (X : World) (hX : Below wr.heap.size wr X) => HC.out.2 X (hkb.chain (Kb.of_below hX)) y x hry.1 hry.2 hrx.1 hrx.2)
      have hlt9 : cf y x < 0 ↔ Lt r y x := by rw [lt_iff hxy]; exact HC.out.1 y x hry.1 hry.2 hrx.1 hrx.2
      obtain ⟨hh, hhe⟩ : ∃ hh, m + c = hh := ⟨_, rfl⟩
      rw [hhe] at c1 hce
      have hdv : ((i : Int) + (j : Int)) / 2 = (hh : Int) := by omega
      have hhn : (hh : Int) < (n : Int) ∧ hh < n := by omega
      have p1 : (0 : Int) ≤ (hh : Int) := by omega
      have p2 : (hh : Int) < (n : Int) := by omega
      have p3 : (0 : Int) ≤ (a : Int) := by omega
      have p4 : (a : Int) < (n : Int) := by omega
      have HNEXT : Hid (∀ wr', Below wr.heap.size wr wr' → (Lt r y x → Mg1 base g n cap m (P ++ (x :: (Q ++ S))) Q x r w (.int .i64 ((hh : Int) + 1)) (.int .i64 (j : Int)) wr') ∧ (¬ Lt r y x → Mg1 base g n cap m (P ++ (x :: (Q ++ S))) Q x r w (.int .i64 (i : Int)) (.int .i64 (hh : Int)) wr')) := hid (fun wr' hb =>
        ⟨fun h => ⟨c + 1, v, by omega, hvq, by congr 1; omega, by congr 1; omega, hd.below hb, hkb.chain (Kb.of_below hb), hnx.out.1 h, hhi⟩,
          fun h => ⟨u, c, hcu, by omega, by congr 1; omega, by congr 1; omega, hd.below hb, hkb.chain (Kb.of_below hb), hlo, hnx.out.2 h⟩⟩)
      have hih : i ≤ hh ∧ hh < j := by omega
      clear hd hkb hlo hhi hnx gc gx e1 e2 e3 hy hce hhe hi hj
      by_cases hcf : cf y x < 0
      · have hdc : decide (cf y x < 0) = true := by simpa using hcf
        have hL := hid (hlt9.1 hcf)
        clear hlt9 hcf
        go_wp2
        go_region_held3 (fun w' => w'.cell? ⟨g, hh, none⟩ = some (.int .i64 y) ∧ w'.cell? ⟨g, a, none⟩ = some (.int .i64 x))
          (first | exact ⟨by assumption, by assumption⟩ | go_keep)
          (first
          | (go_at_call 51; refine (HCC.out _ (Below.drew (Below.refl _ _))).mono ?_; rintro e w5 ⟨rfl, hb5⟩
             have hb5' := (Below.drew (Below.refl _ _)).trans (hb5.mono (Nat.le_refl _))
             have c1 := (hb5.cell (World.block_lt_of_cell? _ _ c1)).trans c1
             have c2 := (hb5.cell (World.block_lt_of_cell? _ _ c2)).trans c2))
        have HN := hid ((HNEXT.out w5 hb5').1 hL.out)
        clear hb5 hb5'
        go_wp2
        go_roundw
        case rel => exact HN.out
        case measure => simp [intOf]; omega
      · have hdc : decide (cf y x < 0) = false := by simpa using hcf
        have hL := hid (fun h => hcf (hlt9.2 h))
        clear hlt9 hcf
        go_wp2
        go_region_held3 (fun w' => w'.cell? ⟨g, hh, none⟩ = some (.int .i64 y) ∧ w'.cell? ⟨g, a, none⟩ = some (.int .i64 x))
          (first | exact ⟨by assumption, by assumption⟩ | go_keep)
          (first
          | (go_at_call 51; refine (HCC.out _ (Below.drew (Below.refl _ _))).mono ?_; rintro e w5 ⟨rfl, hb5⟩
             have hb5' := (Below.drew (Below.refl _ _)).trans (hb5.mono (Nat.le_refl _))
             have c1 := (hb5.cell (World.block_lt_of_cell? _ _ c1)).trans c1
             have c2 := (hb5.cell (World.block_lt_of_cell? _ _ c2)).trans c2))
        have HN := hid ((HNEXT.out w5 hb5').2 hL.out)
        clear hb5 hb5'
        go_wp2
        go_roundw
        case rel => exact HN.out
        case measure => simp [intOf]; omega
    · have huv' : u = v := by omega
      subst huv'
      obtain ⟨W3, hW3⟩ : ∃ W3, W3 = wr := ⟨_, rfl⟩
      subst hW3
      have hS0 : Hid (Mg2 base g n cap a u P Q S x w (.int .i64 (a : Int)) W3) := hid ⟨0, Nat.zero_le _, by simp, by simpa using hd, hkb⟩
      have hfin : Hid ((Q.take u ++ x :: Q.drop u).Perm (x :: Q) ∧ SoR r (Q.take u ++ x :: Q.drop u)) := hid (by
        have hp := put_left (r := r) (x := x) (Q1 := Q.take u) (Q2 := Q.drop u) (by rw [List.take_append_drop]; exact HQ.out) (fun y hy => by
          obtain ⟨i, hi, rfl⟩ := List.getElem_of_mem hy
          simp only [List.length_take] at hi
          rw [List.getElem_take]
          exact hlo i (by omega) (by omega)) (fun y hy => by
          obtain ⟨i, hi, rfl⟩ := List.getElem_of_mem hy
          simp only [List.length_drop] at hi
          rw [List.getElem_drop]
          exact Lt.total (hhi (u + i) (by omega) (by omega)) (fun e => by have := HX.out Q[u + i] (List.getElem_mem (by omega)); omega))
        rw [List.take_append_drop] at hp
        exact hp)
      obtain ⟨i, hi⟩ : ∃ i, m + u = i := ⟨_, rfl⟩
      rw [hi]
      have hdii : decide (i < i) = false := by simp
      have hi1 : ((i : Int) - 1) = ((a + u : Nat) : Int) := by omega
      obtain ⟨z, hz⟩ : ∃ z, a + u = z := ⟨_, rfl⟩
      rw [hz] at hi1
      have hzu : a + u ≤ z ∧ z ≤ a + u := by omega
      clear hd hkb hlo hhi hi hz
      go_wp2
      go_loopw [13] (fun kv w2 => Mg2 base g n cap a u P Q S x w kv w2) (fun kv _ => z - (intOf kv).toNat)
      case atStart => exact hS0.out
      case round =>
        clear hS0
        obtain ⟨t, ht, rfl, hd, hkb⟩ := hrel
        obtain ⟨k, hk⟩ : ∃ k, a + t = k := ⟨_, rfl⟩
        rw [hk]
        by_cases hlt2 : t < u
        · have htq : t < Q.length := by omega
          have g1 := getD_mid P Q S x t (by omega)
          have hsd := swap_up P Q S x t htq
          have g2 : (P ++ (Q.take t ++ x :: (Q.drop t ++ S))).getD (a + (t + 1)) 0 = Q[t] := by
            rw [List.drop_eq_getElem_cons htq]
            have := getD_part (P ++ (Q.take t ++ [x])) [Q[t]] (Q.drop (t + 1) ++ S) 0 (by simp)
            have e3 : (P ++ (Q.take t ++ [x])).length + 0 = a + (t + 1) := by simp; have := HAL.out; omega
            rw [e3] at this
            simp only [List.append_assoc, List.cons_append, List.nil_append, List.getElem_cons_zero] at this ⊢
            exact this
          rw [HAL.out] at g1 hsd
          obtain ⟨c1, f1⟩ := hd.cell (i := a + t) (by omega)
          obtain ⟨c2, f2⟩ := hd.cell (i := a + (t + 1)) (by omega)
          have hsw := hd.swap (a + t) (a + (t + 1))
          rw [show a + t + 1 = a + (t + 1) from by omega] at hsd
          rw [g1] at c1 hsw
          rw [g2] at c2 hsw
          rw [hsd] at hsw
          obtain ⟨y, hy⟩ : ∃ y, Q[t] = y := ⟨_, rfl⟩
          rw [hy] at c2 hsw
          obtain ⟨k1, hk1⟩ : ∃ k1, a + (t + 1) = k1 := ⟨_, rfl⟩
          rw [hk1] at c2 f2 hsw
          rw [hk] at c1 f1 hsw
          have hn2 : Hid (Mg2 base g n cap a u P Q S x w (.int .i64 (k1 : Int)) (((wr.setCell ⟨g, k, none⟩ (.int .i64 y)).setCell ⟨g, k1, none⟩ (.int .i64 x)).drew)) := hid ⟨t + 1, by omega, by rw [hk1], hsw.below (Below.drew (Below.refl _ _)), hkb.chain (kb_set2.chain (Kb.of_below (Below.drew (Below.refl _ _))))⟩
          have w1 : IntKind.i64.wrap ((k : Int) + 1) = (k1 : Int) := by rw [IntWalk.i64_in _ (by omega)]; omega
          have w2 : (k : Int) + 1 = (k1 : Int) := by omega
          have p1 : (0 : Int) ≤ (k : Int) := by omega
          have p2 : (k : Int) < (n : Int) := by omega
          have p3 : (0 : Int) ≤ (k1 : Int) := by omega
          have p4 : (k1 : Int) < (n : Int) := by omega
          have hkz : k < z ∧ k1 ≤ k + 1 ∧ k + 1 ≤ k1 := by omega
          have hdkz : decide (k < z) = true := by simp; omega
          clear hd hkb g1 g2 hsd hsw hy hk hk1
          go_wp2
          go_region
          go_wp2
          go_roundw
          case rel => exact hn2.out
          case measure => simp [intOf]; omega
        · have htu : t = u := by omega
          subst htu
          have hdkz : decide (k < z) = false := by simp; omega
          have HD := hid hd
          have HK := hid hkb
          clear hd hkb hk
          go_wp2
          go_end0
          exact ⟨_, rfl, hfin.out.1, hfin.out.2, by simpa using HD.out, HK.out⟩
def Mg3 (base g n cap a : Nat) (D L : List Int) (y : Int) (r : Int → Int) (w : World) (iv jv : Value) (wr : World) : Prop :=
  ∃ u v : Nat, u ≤ v ∧ v ≤ L.length ∧ iv = .int .i64 ((a + u : Nat) : Int) ∧ jv = .int .i64 ((a + v : Nat) : Int) ∧ Dat base g n cap D wr ∧ Kb (fun k => k = g) w wr ∧ (∀ c (h : c < L.length), c < u → ¬ Lt r y L[c]) ∧ (∀ c (h : c < L.length), v ≤ c → Lt r y L[c])
def Mg4 (base g n cap a u : Nat) (P L S : List Int) (y : Int) (w : World) (kv : Value) (wr : World) : Prop :=
  ∃ t : Nat, u ≤ t ∧ t ≤ L.length ∧ kv = .int .i64 ((a + t : Nat) : Int) ∧ Dat base g n cap (P ++ (L.take t ++ y :: (L.drop t ++ S))) wr ∧ Kb (fun k => k = g) w wr
set_option maxHeartbeats 4000000 in
set_option maxRecDepth 100000 in
theorem sl_symMerge2 (base g n cap : Nat) (P L S : List Int) (y : Int) (q1 q2 : Value) (cf : Int → Int → Int) (r : Int → Int) (N : Nat) (w : World) (pa pm pb : Int) (ha : pa = P.length) (hm : pm = ((P.length + L.length : Nat) : Int)) (hb : pb = ((P.length + L.length + 1 : Nat) : Int)) (hl2 : L.length ≠ 1)
    (hL : SoR r L) (hx : ∀ x ∈ L, x < y) (hry : 0 ≤ y ∧ y < N) (hr : ∀ x ∈ L, 0 ≤ x ∧ x < N) (hc : CmpOK q1 q2 cf r N g w) (hd : Dat base g n cap (P ++ (L ++ (y :: S))) w) (hn : n ≤ 1000) :
    Calls Tryz.prog 86 #[.slice (some ⟨g, 0, none⟩) n cap, .int .i64 pa, .int .i64 pm, .int .i64 pb, .func (.func 51) #[] #[q1, q2]] w (SortR base g n cap P (L ++ [y]) S r w) := by
  have hlen : P.length + L.length + 1 + S.length = n := by have := hd.1; simp only [List.length_append, List.length_cons] at this; omega
  obtain ⟨a, hal⟩ : ∃ a, P.length = a := ⟨_, rfl⟩
  obtain ⟨b, hbl⟩ : ∃ b, P.length + L.length + 1 = b := ⟨_, rfl⟩
  obtain ⟨m, hml⟩ : ∃ m, P.length + L.length = m := ⟨_, rfl⟩
  rw [hbl] at hlen
  rw [hal] at ha
  rw [hml] at hm
  rw [hbl] at hb
  have HAL := hid hal
  have hm1 : a + L.length ≤ m ∧ m ≤ a + L.length := by omega
  have hbq : m + 1 ≤ b ∧ b ≤ m + 1 := by omega
  subst ha hm hb
  have H0 : Hid (Mg3 base g n cap a (P ++ (L ++ (y :: S))) L y r w (.int .i64 (a : Int)) (.int .i64 (m : Int)) w) := hid ⟨0, L.length, Nat.zero_le _, Nat.le_refl _, by simp, by congr 1; omega, hd, Kb.refl _ _, fun c h h' => by omega, fun c h h' => by omega⟩
  have HC := hid hc
  have HL := hid hL
  have HX := hid hx
  have HR := hid hr
  have n1 : ((m : Int) - (a : Int) == 1) = false := by simp; omega
  have n2 : ((b : Int) - (m : Int) == 1) = true := by simp; omega
  clear hc hL hx hr hd hal hml hbl
  go_enter Tryz.func86, Tryz.ntmps86
  go_wp2
  go_loopw [14, 15] (fun iv jv wr => Mg3 base g n cap a (P ++ (L ++ (y :: S))) L y r w iv jv wr) (fun iv jv _ => (intOf jv).toNat - (intOf iv).toNat)
  case atStart => exact H0.out
  case round =>
    clear H0 n1 n2
    obtain ⟨u, v, huv, hvq, rfl, rfl, hd, hkb, hlo, hhi⟩ := hrel
    by_cases hlt : u < v
    · obtain ⟨i, hi⟩ : ∃ i, a + u = i := ⟨_, rfl⟩
      obtain ⟨j, hj⟩ : ∃ j, a + v = j := ⟨_, rfl⟩
      rw [hi, hj]
      have hij : i < j := by omega
      have hdij : decide (i < j) = true := by simpa using hij
      obtain ⟨c, hcu, hcv, hce⟩ : ∃ c, u ≤ c ∧ c < v ∧ (i + j) / 2 = a + c := ⟨(i + j) / 2 - a, by omega, by omega, by omega⟩
      have hcq : c < L.length := by omega
      have gc := getD_part P L (y :: S) c hcq
      have gx := getD_part (P ++ L) [y] S 0 (by simp)
      have e1 : (P ++ L) ++ ([y] ++ S) = P ++ (L ++ (y :: S)) := by simp
      have e3 : (P ++ L).length + 0 = m := by simp; have := HAL.out; omega
      rw [HAL.out] at gc
      rw [e1, e3] at gx
      simp only [List.getElem_cons_zero] at gx
      obtain ⟨c1, -⟩ := hd.cell (i := a + c) (by omega)
      obtain ⟨c2, -⟩ := hd.cell (i := m) (by omega)
      rw [gc] at c1
      rw [gx] at c2
      have hxy := HX.out L[c] (List.getElem_mem hcq)
      have hrx := HR.out L[c] (List.getElem_mem hcq)
      have hnx : Hid ((¬ Lt r y L[c] → ∀ c' (h : c' < L.length), c' < c + 1 → ¬ Lt r y L[c']) ∧ (Lt r y L[c] → ∀ c' (h : c' < L.length), c ≤ c' → Lt r y L[c'])) := hid ⟨fun h c' g1 g2 h2 => by
          rcases HL.out.le (i := c') (j := c) (by omega) hcq with h1 | h1
          · exact h (h2.trans h1)
          · rw [h1] at h2; exact h h2, fun h c' g1 g2 => by
          rcases HL.out.le (i := c) (j := c') (by omega) g1 with h1 | h1
          · exact h.trans h1
          · rw [h1] at h; exact h⟩
      obtain ⟨x, hx⟩ : ∃ x, L[c] = x := ⟨_, rfl⟩
      rw [hx] at c1 hxy hrx hnx
      have HCC := hid (fun (X : World) (hX : Below wr.heap.size wr X) => HC.out.2 X (hkb.chain (Kb.of_below hX)) y x hry.1 hry.2 hrx.1 hrx.2)
      have hlt9 : cf y x < 0 ↔ Lt r y x := by rw [lt_iff hxy]; exact HC.out.1 y x hry.1 hry.2 hrx.1 hrx.2
      obtain ⟨hh, hhe⟩ : ∃ hh, a + c = hh := ⟨_, rfl⟩
      rw [hhe] at c1 hce
      have hdv : ((i : Int) + (j : Int)) / 2 = (hh : Int) := by omega
      have hhn : (hh : Int) < (n : Int) ∧ hh < n := by omega
      have p1 : (0 : Int) ≤ (hh : Int) := by omega
      have p2 : (hh : Int) < (n : Int) := by omega
      have p3 : (0 : Int) ≤ (m : Int) := by omega
      have p4 : (m : Int) < (n : Int) := by omega
      have HNEXT : Hid (∀ wr', Below wr.heap.size wr wr' → (¬ Lt r y x → Mg3 base g n cap a (P ++ (L ++ (y :: S))) L y r w (.int .i64 ((hh : Int) + 1)) (.int .i64 (j : Int)) wr') ∧ (Lt r y x → Mg3 base g n cap a (P ++ (L ++ (y :: S))) L y r w (.int .i64 (i : Int)) (.int .i64 (hh : Int)) wr')) := hid (fun wr' hb =>
        ⟨fun h => ⟨c + 1, v, by omega, hvq, by congr 1; omega, by congr 1; omega, hd.below hb, hkb.chain (Kb.of_below hb), hnx.out.1 h, hhi⟩,
          fun h => ⟨u, c, hcu, by omega, by congr 1; omega, by congr 1; omega, hd.below hb, hkb.chain (Kb.of_below hb), hlo, hnx.out.2 h⟩⟩)
      have hih : i ≤ hh ∧ hh < j := by omega
      clear hd hkb hlo hhi hnx gc gx e1 e3 hx hce hhe hi hj
      by_cases hcf : cf y x < 0
      · have hdc : decide (cf y x < 0) = true := by simpa using hcf
        have hL := hid (hlt9.1 hcf)
        clear hlt9 hcf
        go_wp2
        go_region_held3 (fun w' => w'.cell? ⟨g, hh, none⟩ = some (.int .i64 x) ∧ w'.cell? ⟨g, m, none⟩ = some (.int .i64 y))
          (first | exact ⟨by assumption, by assumption⟩ | go_keep)
          (first
          | (go_at_call 51; refine (HCC.out _ (Below.drew (Below.refl _ _))).mono ?_; rintro e w5 ⟨rfl, hb5⟩
             have hb5' := (Below.drew (Below.refl _ _)).trans (hb5.mono (Nat.le_refl _))
             have c1 := (hb5.cell (World.block_lt_of_cell? _ _ c1)).trans c1
             have c2 := (hb5.cell (World.block_lt_of_cell? _ _ c2)).trans c2))
        have HN := hid ((HNEXT.out w5 hb5').2 hL.out)
        clear hb5 hb5'
        go_wp2
        go_roundw
        case rel => exact HN.out
        case measure => simp [intOf]; omega
      · have hdc : decide (cf y x < 0) = false := by simpa using hcf
        have hL := hid (fun h => hcf (hlt9.2 h))
        clear hlt9 hcf
        go_wp2
        go_region_held3 (fun w' => w'.cell? ⟨g, hh, none⟩ = some (.int .i64 x) ∧ w'.cell? ⟨g, m, none⟩ = some (.int .i64 y))
          (first | exact ⟨by assumption, by assumption⟩ | go_keep)
          (first
          | (go_at_call 51; refine (HCC.out _ (Below.drew (Below.refl _ _))).mono ?_; rintro e w5 ⟨rfl, hb5⟩
             have hb5' := (Below.drew (Below.refl _ _)).trans (hb5.mono (Nat.le_refl _))
             have c1 := (hb5.cell (World.block_lt_of_cell? _ _ c1)).trans c1
             have c2 := (hb5.cell (World.block_lt_of_cell? _ _ c2)).trans c2))
        have HN := hid ((HNEXT.out w5 hb5').1 hL.out)
        clear hb5 hb5'
        go_wp2
        go_roundw
        case rel => exact HN.out
        case measure => simp [intOf]; omega
    · have huv' : u = v := by omega
      subst huv'
      obtain ⟨W3, hW3⟩ : ∃ W3, W3 = wr := ⟨_, rfl⟩
      subst hW3
      have hS0 : Hid (Mg4 base g n cap a u P L S y w (.int .i64 (m : Int)) W3) := hid ⟨L.length, hvq, Nat.le_refl _, by congr 1; omega, by simpa using hd, hkb⟩
      have hfin : Hid ((L.take u ++ y :: L.drop u).Perm (L ++ [y]) ∧ SoR r (L.take u ++ y :: L.drop u)) := hid (by
        have hp := put_left (r := r) (x := y) (Q1 := L.take u) (Q2 := L.drop u) (by rw [List.take_append_drop]; exact HL.out) (fun x hy => by
          obtain ⟨i, hi, rfl⟩ := List.getElem_of_mem hy
          simp only [List.length_take] at hi
          rw [List.getElem_take]
          exact Lt.total (hlo i (by omega) (by omega)) (fun e => by have := HX.out L[i] (List.getElem_mem (by omega)); omega)) (fun x hy => by
          obtain ⟨i, hi, rfl⟩ := List.getElem_of_mem hy
          simp only [List.length_drop] at hi
          rw [List.getElem_drop]
          exact hhi (u + i) (by omega) (by omega))
        rw [List.take_append_drop] at hp
        exact ⟨hp.1.trans (List.perm_append_comm (l₁ := [y])), hp.2⟩)
      obtain ⟨i, hi⟩ : ∃ i, a + u = i := ⟨_, rfl⟩
      rw [hi]
      have hdii : decide (i < i) = false := by simp
      have hzu : a + u ≤ i ∧ i ≤ a + u := by omega
      clear hd hkb hlo hhi hi
      go_wp2
      go_loopw [17] (fun kv w2 => Mg4 base g n cap a u P L S y w kv w2) (fun kv _ => (intOf kv).toNat)
      case atStart => exact hS0.out
      case round =>
        clear hS0
        obtain ⟨t, hut, ht, rfl, hd, hkb⟩ := hrel
        obtain ⟨k, hk⟩ : ∃ k, a + t = k := ⟨_, rfl⟩
        rw [hk]
        by_cases hlt2 : u < t
        · obtain ⟨s, hs⟩ : ∃ s, t = s + 1 := ⟨t - 1, by omega⟩
          subst hs
          have hsl : s < L.length := by omega
          have g1 := getD_mid P L S y (s + 1) ht
          have g2 := getD_pre P L S y s hsl
          have hsd := swap_down P L S y s hsl
          rw [HAL.out] at g1 g2 hsd
          obtain ⟨c1, f1⟩ := hd.cell (i := a + (s + 1)) (by omega)
          obtain ⟨c2, f2⟩ := hd.cell (i := a + s) (by omega)
          have hsw := hd.swap' (i := a + s) (j := a + (s + 1)) (by omega) (by omega)
          rw [show a + s + 1 = a + (s + 1) from by omega] at hsd
          rw [g1] at c1 hsw
          rw [g2] at c2 hsw
          rw [hsd] at hsw
          obtain ⟨x, hx⟩ : ∃ x, L[s] = x := ⟨_, rfl⟩
          rw [hx] at c2 hsw
          obtain ⟨k1, hk1⟩ : ∃ k1, a + s = k1 := ⟨_, rfl⟩
          rw [hk1] at c2 f2 hsw
          rw [hk] at c1 f1 hsw
          have hn2 : Hid (Mg4 base g n cap a u P L S y w (.int .i64 (k1 : Int)) (((wr.setCell ⟨g, k, none⟩ (.int .i64 x)).setCell ⟨g, k1, none⟩ (.int .i64 y)).drew)) := hid ⟨s, by omega, by omega, by rw [hk1], hsw.below (Below.drew (Below.refl _ _)), hkb.chain (kb_set2.chain (Kb.of_below (Below.drew (Below.refl _ _))))⟩
          have w1 : IntKind.i64.wrap ((k : Int) - 1) = (k1 : Int) := by rw [IntWalk.i64_in _ (by omega)]; omega
          have w2 : (k : Int) - 1 = (k1 : Int) := by omega
          have w3 : IntKind.i64.wrap (k1 : Int) = (k1 : Int) := by rw [IntWalk.i64_in _ (by omega)]
          have p1 : (0 : Int) ≤ (k : Int) := by omega
          have p2 : (k : Int) < (n : Int) := by omega
          have p3 : (0 : Int) ≤ (k1 : Int) := by omega
          have p4 : (k1 : Int) < (n : Int) := by omega
          have hkz : i < k ∧ k1 ≤ k - 1 ∧ k1 < k := by omega
          have hdkz : decide (i < k) = true := by simp; omega
          clear hd hkb g1 g2 hsd hsw hx hk hk1
          go_wp2
          go_region
          go_wp2
          go_roundw
          case rel => exact hn2.out
          case measure => simp [intOf]; omega
        · have htu : t = u := by omega
          subst htu
          have hdkz : decide (i < k) = false := by simp; omega
          have HD := hid hd
          have HK := hid hkb
          clear hd hkb hk
          go_wp2
          go_end0
          exact ⟨_, rfl, hfin.out.1, hfin.out.2, by simpa using HD.out, HK.out⟩
end Go.Proofs.YtldgkidojepdlaaGreat
namespace Go.Proofs.YtldgkidojepdlaaGreat
open Go Go.RowKit Go.Maps Go.Shelf
theorem sl_rotate' (base g n cap : Nat) (P U V S : List Int) (F : Value) (w : World) (pa pm pb : Int) (h1 : pa = P.length) (h2 : pm = ((P.length + U.length : Nat) : Int)) (h3 : pb = ((P.length + U.length + V.length : Nat) : Int)) (hU : 0 < U.length) (hV : 0 < V.length) (hd : Dat base g n cap (P ++ (U ++ (V ++ S))) w) (hn : n ≤ 1000) :
    Calls Tryz.prog 101 #[.slice (some ⟨g, 0, none⟩) n cap, .int .i64 pa, .int .i64 pm, .int .i64 pb, F] w
      fun e w' => e = .returned (.tuple #[]) ∧ Dat base g n cap (P ++ (V ++ (U ++ S))) w' ∧ Kb (fun k => k = g) w w' := by
  subst h1 h2 h3
  exact sl_rotate base g n cap P U V S F w hU hV hd hn
/-- what stands in the row once the middle is turned. -/
def SymD (P L Q S : List Int) (s t : Nat) : List Int := P ++ (L.take s ++ (Q.take t ++ (L.drop s ++ (Q.drop t ++ S))))
theorem symD_same (P L Q S : List Int) (s t : Nat) (h : L.length ≤ s ∨ t = 0) : P ++ (L ++ (Q ++ S)) = SymD P L Q S s t := by
  unfold SymD
  rcases h with h | h
  · rw [List.take_of_length_le h, List.drop_eq_nil_of_le h, List.nil_append, ← List.append_assoc (Q.take t), List.take_append_drop]
  · subst h
    simp only [List.take_zero, List.drop_zero, List.nil_append]
    rw [← List.append_assoc (L.take s), List.take_append_drop]
theorem symD_rot (P L Q S : List Int) (s t : Nat) : (P ++ L.take s) ++ (L.drop s ++ (Q.take t ++ (Q.drop t ++ S))) = P ++ (L ++ (Q ++ S)) ∧ (P ++ L.take s) ++ (Q.take t ++ (L.drop s ++ (Q.drop t ++ S))) = SymD P L Q S s t := by
  constructor
  · rw [← List.append_assoc (Q.take t), List.take_append_drop, List.append_assoc, ← List.append_assoc (L.take s), List.take_append_drop]
  · unfold SymD; rw [List.append_assoc]
theorem one_sorted {r : Int → Int} {A B : List Int} (hA : SoR r A) (hB : SoR r B) (h : A = [] ∨ B = []) : SoR r (A ++ B) := by
  rcases h with h | h <;> subst h <;> simpa
def Mg5 (base g n cap a M lo hi : Nat) (D L Q : List Int) (r : Int → Int) (w : World) (sv rv : Value) (wr : World) : Prop :=
  ∃ s v : Nat, lo ≤ s ∧ s ≤ v ∧ v ≤ hi ∧ sv = .int .i64 ((a + s : Nat) : Int) ∧ rv = .int .i64 ((a + v : Nat) : Int) ∧ Dat base g n cap D wr ∧ Kb (fun k => k = g) w wr ∧
    (∀ c, lo ≤ c → c < s → ∀ (g1 : M - 1 - c < Q.length) (g2 : c < L.length), ¬ Lt r Q[M - 1 - c] L[c]) ∧ (∀ c, v ≤ c → c < hi → ∀ (g1 : M - 1 - c < Q.length) (g2 : c < L.length), Lt r Q[M - 1 - c] L[c])
def SymIH (base g n cap : Nat) (q1 q2 : Value) (cf : Int → Int → Int) (r : Int → Int) (N K : Nat) : Prop := ∀ (P L Q S : List Int) (w : World) (pa pm pb : Int), L.length + Q.length ≤ K → pa = P.length → pm = ((P.length + L.length : Nat) : Int) → pb = ((P.length + L.length + Q.length : Nat) : Int) → 0 < L.length → 0 < Q.length →
    SoR r L → SoR r Q → (∀ x ∈ L, ∀ y ∈ Q, x < y) → (∀ x ∈ L ++ Q, 0 ≤ x ∧ x < N) → CmpOK q1 q2 cf r N g w → Dat base g n cap (P ++ (L ++ (Q ++ S))) w →
    Calls Tryz.prog 86 #[.slice (some ⟨g, 0, none⟩) n cap, .int .i64 pa, .int .i64 pm, .int .i64 pb, .func (.func 51) #[] #[q1, q2]] w (SortR base g n cap P (L ++ Q) S r w)
end Go.Proofs.YtldgkidojepdlaaGreat
