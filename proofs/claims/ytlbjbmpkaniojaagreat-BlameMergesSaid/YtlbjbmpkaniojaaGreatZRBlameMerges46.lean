/-
  WHAT IT HOLDS: the walk of the law BlameMerges: it returns true. Conditions: the arguments read as data.
-/
import Derived.Test.YtlbjbmpkaniojaaGreatZRBlameMerges44
import Derived.Test.YtlbjbmpkaniojaaGreatZRBlameMerges33
import Derived.Test.YtlbjbmpkaniojaaGreatZRBlameMerges45
import Derived.Test.YtlbjbmpkaniojaaGreatZRBlameMerges18
import Derived.Test.YtlbjbmpkaniojaaGreatZRBlameMerges42
namespace Go.Proofs.YtlbjbmpkaniojaaGreat
open Go Go.RowKit Go.Maps
theorem cnf_zero {s : Sg} {base a b : List En} (h : (cnfL s base a b).2 = 0) : thrB s base a b = true ∧ (cnfL s base a b).1 = badM base a b := by
  cases e : thrB s base a b with
  | false => rw [cnf_no e] at h; exact absurd h (by decide)
  | true => rw [cnf_yes e]; exact ⟨rfl, rfl⟩
/-- the merge fails by a conflict just if there is one. -/
theorem mrg_state {s : Sg} {base a b : List En} (h : (cnfL s base a b).2 = 0) : (mrgL s base a b).2 = 10 ↔ 0 < (cnfL s base a b).1.length := by
  obtain ⟨h1, h2⟩ := cnf_zero h
  rw [h2, mrg_yes h1]
  by_cases hb : 0 < (badM base a b).length
  · simp [hb]
  · rw [if_neg hb]
    split <;> simp [hb]
theorem cnf_base {s : Sg} {base a b : List En} (h : (cnfL s base a b).2 = 0) : mrgL s base a base = (a, 0) := by
  obtain ⟨h1, -⟩ := cnf_zero h
  exact mrg_base (thr_of h1).1 (thr_of h1).2.1
theorem lk_idx {l : List En} {x : En} (hn : x.name ≠ em ∨ x ∈ l) (hm : x ∈ l) (h : lkE l x.name = x) : ∃ i : Nat, ∃ hi : i < l.length, idxI l x.name = (i : Int) ∧ l[i] = x := by
  unfold lkE at h
  unfold idxI
  cases e : idxN l x.name with
  | none =>
    have := idxN_hasF e
    rw [hasE_no] at this
    exact absurd rfl (this x hm)
  | some i =>
    obtain ⟨hi, -⟩ := idxN_some e
    rw [e] at h
    have h' : l.getD i en0 = x := h
    rw [getD_at hi] at h'
    exact ⟨i, hi, rfl, h'⟩
theorem idxI_cases (l : List En) (n : Nm) : idxI l n = -1 ∨ ∃ i : Nat, ∃ _ : i < l.length, idxI l n = (i : Int) := by
  unfold idxI
  cases e : idxN l n with
  | none => exact Or.inl rfl
  | some i => obtain ⟨hi, -⟩ := idxN_some e; exact Or.inr ⟨i, hi, rfl⟩
/-- where an entry of the merge is found: on one side, or on the other. -/
theorem mrg_pick {s : Sg} {base a b : List En} (k : Nat) (x : En) (hx : (mrgL s base a b).1[k]? = some x) :
    (∃ i : Nat, ∃ hi : i < a.length, idxI a x.name = (i : Int) ∧ a[i] = x) ∨
    (∃ j : Nat, ∃ hj : j < b.length, idxI b x.name = (j : Int) ∧ b[j] = x ∧ (idxI a x.name = -1 ∨ ∃ i : Nat, ∃ _ : i < a.length, idxI a x.name = (i : Int))) := by
  have hm : x ∈ (mrgL s base a b).1 := List.mem_of_getElem? hx
  by_cases h0 : (mrgL s base a b).2 = 0
  · obtain ⟨-, -, -, -, -, h⟩ := mrg_from h0
    rcases h _ hm with ⟨h1, h2⟩ | ⟨h1, h2⟩
    · exact Or.inl (lk_idx (Or.inr h1) h1 h2)
    · obtain ⟨j, hj, h3, h4⟩ := lk_idx (Or.inr h1) h1 h2
      exact Or.inr ⟨j, hj, h3, h4, idxI_cases _ _⟩
  · exfalso
    have : (mrgL s base a b).1 = [] := by
      cases e : thrB s base a b with
      | false => rw [mrg_no e]
      | true =>
        rw [mrg_yes e] at h0 ⊢
        split
        · rfl
        rename_i g1
        split
        · rfl
        rename_i g2
        rw [if_neg g1, if_neg g2] at h0
        exact absurd rfl h0
    rw [this] at hm
    exact absurd hm (by simp)
theorem same_self (vS vU vP uS uU uP : Value) (x : En) (w : World) (hx : EntAt w vS vU vP x) (hy : EntAt w uS uU uP x) :
    Calls Tryz.prog 52 #[.agg #[.string x.name, .string x.who, vS, vU, vP], .agg #[.string x.name, .string x.who, uS, uU, uP]] w fun e w' => e = .returned (.bool true) ∧ Below w.heap.size w w' :=
  (ref6_SameEntry vS vU vP uS uU uP x x w hx hy).mono fun e w' h => ⟨by rw [h.1, decide_eq_true rfl], h.2⟩
theorem same_not (vS vU vP uS uU uP : Value) (x y : En) (hne : ¬ x = y) (w : World) (hx : EntAt w vS vU vP x) (hy : EntAt w uS uU uP y) :
    Calls Tryz.prog 52 #[.agg #[.string x.name, .string x.who, vS, vU, vP], .agg #[.string y.name, .string y.who, uS, uU, uP]] w fun e w' => e = .returned (.bool false) ∧ Below w.heap.size w w' :=
  (ref6_SameEntry vS vU vP uS uU uP x y w hx hy).mono fun e w' h => ⟨by rw [h.1, decide_eq_false hne], h.2⟩
set_option maxHeartbeats 8000000 in
set_option maxRecDepth 100000 in
theorem walk_BlameMerges (vs v0 v1 v2 : Value) (s : Sg) (base a b : List En) (w : World) (hs : SignAt w vs s) (h0 : EntsAt w v0 base) (h1 : EntsAt w v1 a) (h2 : EntsAt w v2 b) :
    Calls Tryz.prog 8 #[vs, v0, v1, v2] w fun e w' => e = .returned (.bool true) ∧ Below w.heap.size w w' := by
  have HAW := hid (law9_awake w)
  have HA := hid h1
  have HBL := hid h2
  have HH0 := hid (fun (X : World) (hX : Below w.heap.size w X) => law9_heavy _ _ s base X (hs.below hX) (h0.below hX))
  have HH1 := hid (fun (X : World) (hX : Below w.heap.size w X) => law9_heavy _ _ s a X (hs.below hX) (h1.below hX))
  have HH2 := hid (fun (X : World) (hX : Below w.heap.size w X) => law9_heavy _ _ s b X (hs.below hX) (h2.below hX))
  have F1 := hid (fun (X : World) (hX : Below w.heap.size w X) => blame_Conflicts _ _ _ _ s base a b X (hs.below hX) (h0.below hX) (h1.below hX) (h2.below hX))
  have F2 := hid (fun (X : World) (hX : Below w.heap.size w X) => ref9_Conflicts _ _ _ _ s base a b X (hs.below hX) (h0.below hX) (h1.below hX) (h2.below hX))
  have F3 := hid (fun (X : World) (hX : Below w.heap.size w X) => blame_Merged _ _ _ _ s base a b X (hs.below hX) (h0.below hX) (h1.below hX) (h2.below hX))
  have F4 := hid (fun (X : World) (hX : Below w.heap.size w X) => ref9_Merged _ _ _ _ s base a b X (hs.below hX) (h0.below hX) (h1.below hX) (h2.below hX))
  have F5 := hid (fun (X : World) (hX : Below w.heap.size w X) => blame_Merged _ _ _ _ s base b a X (hs.below hX) (h0.below hX) (h2.below hX) (h1.below hX))
  have F6 := hid (fun (X : World) (hX : Below w.heap.size w X) => blame_Merged _ _ _ _ s base a base X (hs.below hX) (h0.below hX) (h1.below hX) (h0.below hX))
  obtain ⟨sp, sc, rfl, -, hsl, -⟩ := hs.open
  obtain ⟨p0, c0, rfl, -⟩ := h0.open
  obtain ⟨p1, c1, rfl, -⟩ := h1.open
  obtain ⟨p2, c2, rfl, -⟩ := h2.open
  clear hs h0 h1 h2
  go_enter Tryz.func8, Tryz.ntmps8
  go_wp2_with fail
  refine HAW.out.mono ?_
  rintro e w1 ⟨rfl, hb1⟩
  have HB1 := hid hb1
  have K0 := hid (HH0.out w1 hb1)
  clear hb1 HAW HH0
  go_wp2_with fail
  refine K0.out.mono ?_
  rintro e w2 ⟨z, rfl, hz0, hb2⟩
  have HB2 := hid (HB1.out.trans (hb2.mono HB1.out.size))
  clear hb2 K0
  cases z
  case true =>
    go_wp2
    go_ret
    exact ⟨rfl, HB2.out⟩
  obtain ⟨hs20, l0⟩ := hz0 rfl
  have K1 := hid (HH1.out w2 HB2.out)
  clear HH1 hz0
  go_wp2_with fail
  refine K1.out.mono ?_
  rintro e w3 ⟨z, rfl, hz1, hb3⟩
  have HB3 := hid (HB2.out.trans (hb3.mono HB2.out.size))
  clear hb3 K1
  cases z
  case true =>
    go_wp2
    go_ret
    exact ⟨rfl, HB3.out⟩
  obtain ⟨-, l1⟩ := hz1 rfl
  have K2 := hid (HH2.out w3 HB3.out)
  clear HH2 hz1
  go_wp2_with fail
  refine K2.out.mono ?_
  rintro e w4 ⟨z, rfl, hz2, hb4⟩
  have HB4 := hid (HB3.out.trans (hb4.mono HB3.out.size))
  clear hb4 K2
  cases z
  case true =>
    go_wp2
    go_ret
    exact ⟨rfl, HB4.out⟩
  obtain ⟨-, l2⟩ := hz2 rfl
  clear hz2
  have HST := hid (mrg_state (s := s) (base := base) (a := a) (b := b))
  have HBS := hid (cnf_base (s := s) (base := base) (a := a) (b := b))
  have HPK := hid (mrg_pick (s := s) (base := base) (a := a) (b := b))
  have F1 := hid (fun (X : World) (hX : Below w.heap.size w X) => F1.out X hX (by omega) (by omega) (by omega) (by omega))
  have F2 := hid (fun (X : World) (hX : Below w.heap.size w X) => F2.out X hX (by omega) (by omega) (by omega) (by omega))
  have F3 := hid (fun (X : World) (hX : Below w.heap.size w X) => F3.out X hX (by omega) (by omega) (by omega) (by omega))
  have F4 := hid (fun (X : World) (hX : Below w.heap.size w X) => F4.out X hX (by omega) (by omega) (by omega) (by omega))
  have F5 := hid (fun (X : World) (hX : Below w.heap.size w X) => F5.out X hX (by omega) (by omega) (by omega) (by omega))
  have F6 := hid (fun (X : World) (hX : Below w.heap.size w X) => F6.out X hX (by omega) (by omega) (by omega) (by omega))
  rw [mrg_swap s base b a] at F5
  obtain ⟨C, e1, hC⟩ : ∃ C e1, cnfL s base a b = (C, e1) := ⟨_, _, rfl⟩
  obtain ⟨M, e2, hM⟩ : ∃ M e2, mrgL s base a b = (M, e2) := ⟨_, _, rfl⟩
  simp only [hC] at F1 F2 HST HBS
  simp only [hM] at F3 F4 F5 HST HPK
  clear hC hM l0 l1 l2 hs20
  have G1 := hid (F1.out w4 HB4.out)
  go_wp2_with fail
  refine G1.out.mono ?_
  rintro e w5 ⟨u5, rfl, hu5, hb5⟩
  have HB5 := hid (HB4.out.trans (hb5.mono HB4.out.size))
  have HU5 := hid hu5
  obtain ⟨a5, c5, rfl, -⟩ := hu5.open
  have G2 := hid (F2.out w5 HB5.out)
  clear hb5 hu5 G1 F1
  go_wp2_with fail
  refine G2.out.mono ?_
  rintro e w6 ⟨u6, rfl, hu6, hb6⟩
  have HB6 := hid (HB5.out.trans (hb6.mono HB5.out.size))
  have HU5 := hid (HU5.out.below hb6)
  have HU6 := hid hu6
  obtain ⟨a6, c6, rfl, -⟩ := hu6.open
  have G3 := hid (F3.out w6 HB6.out)
  clear hb6 hu6 G2 F2
  go_wp2_with fail
  refine G3.out.mono ?_
  rintro e w7 ⟨u7, rfl, hu7, hb7⟩
  have HB7 := hid (HB6.out.trans (hb7.mono HB6.out.size))
  have HU5 := hid (HU5.out.below hb7)
  have HU6 := hid (HU6.out.below hb7)
  have HU7 := hid hu7
  obtain ⟨a7, c7, rfl, -⟩ := hu7.open
  have G4 := hid (F4.out w7 HB7.out)
  clear hb7 hu7 G3 F3
  go_wp2_with fail
  refine G4.out.mono ?_
  rintro e w8 ⟨u8, rfl, hu8, hb8⟩
  have HB8 := hid (HB7.out.trans (hb8.mono HB7.out.size))
  have HU5 := hid (HU5.out.below hb8)
  have HU6 := hid (HU6.out.below hb8)
  have HU7 := hid (HU7.out.below hb8)
  have HU8 := hid hu8
  obtain ⟨a8, c8, rfl, -⟩ := hu8.open
  have G5 := hid (F5.out w8 HB8.out)
  clear hb8 hu8 G4 F4
  go_wp2_with fail
  refine G5.out.mono ?_
  rintro e w9 ⟨u9, rfl, hu9, hb9⟩
  have HB9 := hid (HB8.out.trans (hb9.mono HB8.out.size))
  have HU5 := hid (HU5.out.below hb9)
  have HU6 := hid (HU6.out.below hb9)
  have HU7 := hid (HU7.out.below hb9)
  have HU8 := hid (HU8.out.below hb9)
  have HU9 := hid hu9
  obtain ⟨a9, c9, rfl, -⟩ := hu9.open
  clear hb9 hu9 G5 F5
  have hne1 : (e1 != e1) = false := by simp
  have hne2 : (e2 != e2) = false := by simp
  have G6 := hid (ref6_SameTexts _ _ C C w9 HU5.out HU6.out)
  rw [show decide (C = C) = true from by simp] at G6
  go_wp2_with fail
  refine G6.out.mono ?_
  rintro e w10 ⟨rfl, q10, hw10⟩
  have hb10 : Below w9.heap.size w9 w10 := hw10 ▸ below_self_drewN _ _
  have HB10 := hid (HB9.out.trans (hb10.mono HB9.out.size))
  have HU7 := hid (HU7.out.below hb10)
  have HU8 := hid (HU8.out.below hb10)
  have HU9 := hid (HU9.out.below hb10)
  clear hw10 hb10 G6 HU5 HU6
  have G7 := hid (ref6_SameLibrary _ _ M M w10 HU7.out HU8.out)
  rw [show decide (M = M) = true from by simp] at G7
  go_wp2_with fail
  refine G7.out.mono ?_
  rintro e w11 ⟨rfl, hb11⟩
  have HB11 := hid (HB10.out.trans (hb11.mono HB10.out.size))
  have HU7 := hid (HU7.out.below hb11)
  have HU9 := hid (HU9.out.below hb11)
  clear hb11 G7 HU8
  have G8 := hid (ref6_SameLibrary _ _ M M w11 HU7.out HU9.out)
  rw [show decide (M = M) = true from by simp] at G8
  go_wp2_with fail
  refine G8.out.mono ?_
  rintro e w12 ⟨rfl, hb12⟩
  have HB12 := hid (HB11.out.trans (hb12.mono HB11.out.size))
  have HU7 := hid (HU7.out.below hb12)
  clear hb12 G8 HU9
  by_cases z0 : e1 = 0
  case neg =>
    have n1 : (e1 != 0) = true := by simpa using z0
    clear z0
    go_wp2
    go_ret
    exact ⟨rfl, HB12.out⟩
  subst z0
  have HST1 := hid (HST.out rfl)
  have HBS1 := hid (HBS.out rfl)
  clear HST HBS
  simp only [HBS1.out] at F6
  have G9 := hid (F6.out w12 HB12.out)
  clear F6 HBS1
  go_wp2_with fail
  refine G9.out.mono ?_
  rintro e w13 ⟨u13, rfl, hu13, hb13⟩
  have HB13 := hid (HB12.out.trans (hb13.mono HB12.out.size))
  have HU7 := hid (HU7.out.below hb13)
  have G10 := hid (ref6_SameLibrary _ _ a a w13 hu13 (HA.out.below HB13.out))
  rw [show decide (a = a) = true from by simp] at G10
  obtain ⟨a13, c13, rfl, -⟩ := hu13.open
  clear hu13 hb13 G9
  go_wp2_with fail
  refine G10.out.mono ?_
  rintro e w14 ⟨rfl, hb14⟩
  have HB14 := hid (HB13.out.trans (hb14.mono HB13.out.size))
  have HU7 := hid (HU7.out.below hb14)
  clear hb14 G10
  obtain ⟨fl, n1, n2⟩ : ∃ fl : Bool, (e2 == 10) = fl ∧ decide (0 < C.length) = fl := ⟨_, rfl, by
    by_cases hc : 0 < C.length
    · rw [HST1.out.2 hc]; simpa using hc
    · have : e2 ≠ 10 := fun h => hc (HST1.out.1 h)
      rw [show (e2 == 10) = false by simpa using this]; simpa using hc⟩
  have n2' : decide ((0 : Int) < (C.length : Int)) = fl := by rw [← n2]; exact decide_eq_decide.2 (by omega)
  have n3 : (fl != fl) = false := by simp
  clear HST1
  go_wp2
  go_loopw [21] (fun kv wr => ∃ k : Nat, k ≤ M.length ∧ kv = .int .i64 k ∧ Below w14.heap.size w14 wr) (fun kv _ => M.length - (intOf kv).toNat)
  case atStart => exact ⟨0, by omega, rfl, Below.refl _ _⟩
  case round =>
    clear n1 n2 n2' n3 hne1 hne2
    obtain ⟨k, hk, rfl, hbr⟩ := hrel
    have HBR := hid hbr
    have HBQ := hid (HB14.out.trans (hbr.mono HB14.out.size))
    have HUR := hid (HU7.out.below hbr)
    clear hbr
    by_cases hlt : k < M.length
    case neg =>
      go_wp2
      go_ret
      exact ⟨rfl, HBQ.out⟩
    obtain ⟨ap', ac', e', -, hMl, -, ZM⟩ := HUR.out.open
    cases e'
    have q9 : IntKind.i64.wrap ((k : Int) + 1) = (k : Int) + 1 := IntWalk.i64_in _ (by omega)
    obtain ⟨xb, xo, xS, xU, xP, rfl, x0, x1, x2, x3, x4, hex⟩ := ZM k hlt
    have hpk := HPK.out k M[k] (List.getElem?_eq_getElem hlt)
    have HAR := hid (HA.out.below HBQ.out)
    have HBLR := hid (HBL.out.below HBQ.out)
    obtain ⟨x, hx⟩ : ∃ x, M[k] = x := ⟨_, rfl⟩
    rw [hx] at x0 x1 hex hpk
    clear hx ZM
    have HI1 := fun j => hid ((ref6_Index _ a x.name (wr.drewN j) (HAR.out.below (below_self_drewN wr j))).mono (R' := fun e w' => e = .returned (.int .i64 (idxI a x.name)) ∧ w' = wr.drewN j) (fun _ _ h => ⟨h.1, h.2.symm⟩))
    have HI2 := fun j => hid ((ref6_Index _ b x.name (wr.drewN j) (HBLR.out.below (below_self_drewN wr j))).mono (R' := fun e w' => e = .returned (.int .i64 (idxI b x.name)) ∧ w' = wr.drewN j) (fun _ _ h => ⟨h.1, h.2.symm⟩))
    have HEX := hid hex
    obtain ⟨s1, t1, rfl, -⟩ := hex.s.open
    obtain ⟨s2, t2, rfl, -⟩ := hex.u.open
    obtain ⟨s3, t3, rfl, -⟩ := hex.p.open
    have X0 := hid x0
    have X1 := hid x1
    have X2 := hid x2
    have X3 := hid x3
    have X4 := hid x4
    clear hex x1 x2 x3 x4
    -- which case
    have hw : (∃ i : Nat, ∃ hi : i < a.length, idxI a x.name = (i : Int) ∧ a[i] = x) ∨ (idxI a x.name = -1 ∧ ∃ j : Nat, ∃ hj : j < b.length, idxI b x.name = (j : Int) ∧ b[j] = x) ∨
        (∃ i : Nat, ∃ hi : i < a.length, idxI a x.name = (i : Int) ∧ ¬ a[i] = x ∧ ∃ j : Nat, ∃ hj : j < b.length, idxI b x.name = (j : Int) ∧ b[j] = x) := by
      rcases hpk with h | ⟨j, hj, h1, h2, h3 | ⟨i, hi, h3⟩⟩
      · exact Or.inl h
      · exact Or.inr (Or.inl ⟨h3, j, hj, h1, h2⟩)
      · by_cases e : a[i] = x
        · exact Or.inl ⟨i, hi, h3, e⟩
        · exact Or.inr (Or.inr ⟨i, hi, h3, e, j, hj, h1, h2⟩)
    clear hpk
    obtain ⟨qa, hqa⟩ : ∃ q, idxI a x.name = q := ⟨_, rfl⟩
    obtain ⟨qb, hqb⟩ : ∃ q, idxI b x.name = q := ⟨_, rfl⟩
    simp only [hqa] at HI1 hw
    simp only [hqb] at HI2 hw
    clear hqa hqb
    go_wp2
    go_quiet ((first | (go_at_call 51; with_reducible exact Calls.quiet_of_same (HI1 _).out) | (go_at_call 51; with_reducible exact Calls.quiet_of_same (HI2 _).out)))
    have HBN := hid (below_self_drewN wr nq)
    obtain ⟨wn, hwn⟩ : ∃ wn, wr.drewN nq = wn := ⟨_, rfl⟩
    rw [hwn] at HBN ⊢
    clear hwn x0 HI1 HI2
    have HBQN := hid (HBQ.out.trans (HBN.out.mono HBQ.out.size))
    have HARN := hid (HAR.out.below HBN.out)
    have HBLN := hid (HBLR.out.below HBN.out)
    have HEXN := hid (HEX.out.below HBN.out)
    have HBRN := hid (HBR.out.trans (HBN.out.mono HBR.out.size))
    have x0 := (HBN.out.cell (World.block_lt_of_cell? _ _ X0.out)).trans X0.out
    have x1 := (HBN.out.cell (World.block_lt_of_cell? _ _ X1.out)).trans X1.out
    have x2 := (HBN.out.cell (World.block_lt_of_cell? _ _ X2.out)).trans X2.out
    have x3 := (HBN.out.cell (World.block_lt_of_cell? _ _ X3.out)).trans X3.out
    have x4 := (HBN.out.cell (World.block_lt_of_cell? _ _ X4.out)).trans X4.out
    clear X0 X1 X2 X3 X4 HAR HBLR HEX HUR
    rcases hw with ⟨i, hi, rfl, ha⟩ | ⟨rfl, j, hj, rfl, hb⟩ | ⟨i, hi, rfl, hc, j, hj, rfl, hb⟩
    case inl =>
      obtain ⟨_, _, e', -, -, -, ZM⟩ := HARN.out.open
      cases e'
      obtain ⟨ab, ao, vS, vU, vP, rfl, a0, a1, a2, a3, a4, hea⟩ := ZM i hi
      clear ZM
      rw [ha] at a0 a1 hea
      have HEa := hid hea
      obtain ⟨aa2, ak2, rfl, -⟩ := hea.s.open
      obtain ⟨aa3, ak3, rfl, -⟩ := hea.u.open
      obtain ⟨aa4, ak4, rfl, -⟩ := hea.p.open
      clear hea
      have aH0 := hid a0
      have aH1 := hid a1
      have aH2 := hid a2
      have aH3 := hid a3
      have aH4 := hid a4
      have xH0 := hid x0
      have xH1 := hid x1
      have xH2 := hid x2
      have xH3 := hid x3
      have xH4 := hid x4
      have HS1 := hid (fun (X : World) (hX : Below wn.heap.size wn X) => same_self _ _ _ _ _ _ x X (HEa.out.below hX) (HEXN.out.below hX))
      clear ha
      go_wp2
      refine wp_region_held_drew (S := (fun w' => w'.cell? ⟨ab, ao + i * 5, none⟩ = some (.string x.name) ∧ w'.cell? ⟨ab, ao + i * 5 + 1, none⟩ = some (.string x.who) ∧ w'.cell? ⟨ab, ao + i * 5 + 2, none⟩ = some (.slice aa2 x.says.length ak2) ∧ w'.cell? ⟨ab, ao + i * 5 + 3, none⟩ = some (.slice aa3 x.uses.length ak3) ∧ w'.cell? ⟨ab, ao + i * 5 + 4, none⟩ = some (.slice aa4 x.proof.length ak4) ∧ w'.cell? ⟨xb, xo + k * 5, none⟩ = some (.string x.name) ∧ w'.cell? ⟨xb, xo + k * 5 + 1, none⟩ = some (.string x.who) ∧ w'.cell? ⟨xb, xo + k * 5 + 2, none⟩ = some (.slice s1 x.says.length t1) ∧ w'.cell? ⟨xb, xo + k * 5 + 3, none⟩ = some (.slice s2 x.uses.length t2) ∧ w'.cell? ⟨xb, xo + k * 5 + 4, none⟩ = some (.slice s3 x.proof.length t3))) (by kernel_rfl) ?_ (fun hHeld => ?_)
      · exact ⟨by assumption, by assumption, by assumption, by assumption, by assumption, by assumption, by assumption, by assumption, by assumption, by assumption⟩
      refine wpAnyH_take (i := 0) (oi := { dst := some 156, op := Op.move (Operand.tmp 22), type := 3, pos := _, after := _, guard := none }) (v := ?_) rfl (by kernel_rfl) (by kernel_rfl) (by kernel_rfl) (fun _ _ _ h => h) (Or.inl ⟨by rfl, ?_⟩) hHeld ?_
      rotate_left
      · (intro w hSw; (try dsimp only at hSw); go_simp; (try with_reducible rfl))
      (try simp only [Act.put, List.setIfInBounds_toArray, List.set_cons_zero, List.set_cons_succ])
      refine wpAnyH_take (i := 1) (oi := { dst := some 157, op := Op.binOp BinOp.lss 3 (Operand.tmp 156) (Operand.const (Value.int IntKind.i64 0)) 3, type := 4, pos := _, after := _, guard := none }) (v := ?_) rfl (by kernel_rfl) (by kernel_rfl) (by kernel_rfl) (fun _ _ _ h => h) (Or.inl ⟨by rfl, ?_⟩) hHeld ?_
      rotate_left
      · (intro w hSw; (try dsimp only at hSw); go_simp; (try with_reducible rfl))
      (try simp only [Act.put, List.setIfInBounds_toArray, List.set_cons_zero, List.set_cons_succ])
      refine wpAnyH_take (i := 2) (oi := { dst := some 158, op := Op.move (Operand.tmp 157), type := 4, pos := _, after := _, guard := none }) (v := ?_) rfl (by kernel_rfl) (by kernel_rfl) (by kernel_rfl) (fun _ _ _ h => h) (Or.inl ⟨by rfl, ?_⟩) hHeld ?_
      rotate_left
      · (intro w hSw; (try dsimp only at hSw); go_simp; (try with_reducible rfl))
      (try simp only [Act.put, List.setIfInBounds_toArray, List.set_cons_zero, List.set_cons_succ])
      refine wpAnyH_take (i := 3) (oi := { dst := some 159, op := Op.move (Operand.tmp 2), type := 24, pos := _, after := _, guard := some (2, false) }) (v := ?_) rfl (by kernel_rfl) (by kernel_rfl) (by kernel_rfl) (fun _ _ _ h => h) (Or.inl ⟨by rfl, ?_⟩) hHeld ?_
      rotate_left
      · (intro w hSw; (try dsimp only at hSw); go_simp; (try with_reducible rfl))
      (try simp only [Act.put, List.setIfInBounds_toArray, List.set_cons_zero, List.set_cons_succ])
      refine wpAnyH_take (i := 4) (oi := { dst := some 160, op := Op.move (Operand.tmp 22), type := 3, pos := _, after := _, guard := some (2, false) }) (v := ?_) rfl (by kernel_rfl) (by kernel_rfl) (by kernel_rfl) (fun _ _ _ h => h) (Or.inl ⟨by rfl, ?_⟩) hHeld ?_
      rotate_left
      · (intro w hSw; (try dsimp only at hSw); go_simp; (try with_reducible rfl))
      (try simp only [Act.put, List.setIfInBounds_toArray, List.set_cons_zero, List.set_cons_succ])
      refine wpAnyH_take (i := 5) (oi := { dst := some 161, op := Op.indexAddr 24 (Operand.tmp 159) (Operand.tmp 160), type := 0, pos := _, after := _, guard := some (2, false) }) (v := ?_) rfl (by kernel_rfl) (by kernel_rfl) (by kernel_rfl) (fun _ _ _ h => h) (Or.inl ⟨by rfl, ?_⟩) hHeld ?_
      rotate_left
      · (intro w hSw; (try dsimp only at hSw); go_simp; (try with_reducible rfl))
      (try simp only [Act.put, List.setIfInBounds_toArray, List.set_cons_zero, List.set_cons_succ])
      refine wpAnyH_take (i := 6) (oi := { dst := some 162, op := Op.load 41 (Operand.tmp 161), type := 41, pos := _, after := _, guard := some (2, false) }) (v := ?_) rfl (by kernel_rfl) (by kernel_rfl) (by kernel_rfl) (fun _ _ _ h => h) (Or.inl ⟨by rfl, ?_⟩) hHeld ?_
      rotate_left
      · (intro w hSw; (try dsimp only at hSw); go_simp; (try with_reducible rfl))
      (try simp only [Act.put, List.setIfInBounds_toArray, List.set_cons_zero, List.set_cons_succ])
      refine wpAnyH_take (i := 7) (oi := { dst := some 163, op := Op.move (Operand.tmp 13), type := 24, pos := _, after := _, guard := some (2, false) }) (v := ?_) rfl (by kernel_rfl) (by kernel_rfl) (by kernel_rfl) (fun _ _ _ h => h) (Or.inl ⟨by rfl, ?_⟩) hHeld ?_
      rotate_left
      · (intro w hSw; (try dsimp only at hSw); go_simp; (try with_reducible rfl))
      (try simp only [Act.put, List.setIfInBounds_toArray, List.set_cons_zero, List.set_cons_succ])
      refine wpAnyH_take (i := 8) (oi := { dst := some 164, op := Op.move (Operand.tmp 21), type := 3, pos := _, after := _, guard := some (2, false) }) (v := ?_) rfl (by kernel_rfl) (by kernel_rfl) (by kernel_rfl) (fun _ _ _ h => h) (Or.inl ⟨by rfl, ?_⟩) hHeld ?_
      rotate_left
      · (intro w hSw; (try dsimp only at hSw); go_simp; (try with_reducible rfl))
      (try simp only [Act.put, List.setIfInBounds_toArray, List.set_cons_zero, List.set_cons_succ])
      refine wpAnyH_take (i := 9) (oi := { dst := some 165, op := Op.indexAddr 24 (Operand.tmp 163) (Operand.tmp 164), type := 0, pos := _, after := _, guard := some (2, false) }) (v := ?_) rfl (by kernel_rfl) (by kernel_rfl) (by kernel_rfl) (fun _ _ _ h => h) (Or.inl ⟨by rfl, ?_⟩) hHeld ?_
      rotate_left
      · (intro w hSw; (try dsimp only at hSw); go_simp; (try with_reducible rfl))
      (try simp only [Act.put, List.setIfInBounds_toArray, List.set_cons_zero, List.set_cons_succ])
      refine wpAnyH_take (i := 10) (oi := { dst := some 166, op := Op.load 41 (Operand.tmp 165), type := 41, pos := _, after := _, guard := some (2, false) }) (v := ?_) rfl (by kernel_rfl) (by kernel_rfl) (by kernel_rfl) (fun _ _ _ h => h) (Or.inl ⟨by rfl, ?_⟩) hHeld ?_
      rotate_left
      · (intro w hSw; (try dsimp only at hSw); go_simp; (try with_reducible rfl))
      (try simp only [Act.put, List.setIfInBounds_toArray, List.set_cons_zero, List.set_cons_succ])
      refine wpAnyH_ready (rs := [11]) (by kernel_rfl) (by simp) ?_
      refine AllReadyH.cons (o := { dst := some 167, op := Op.call { callee := Callee.value (Operand.func 52), args := #[Operand.tmp 162, Operand.tmp 166], argTypes := #[41, 41] }, type := 4, pos := _, after := _, guard := some (2, false) }) rfl (fun K hK => ?_) AllReadyH.nil
      go_simp
      (go_at_call 52; (with_reducible refine (HS1.out _ (by (repeat (first | with_reducible assumption | with_reducible exact Below.refl _ _ | with_reducible exact below_self_drewN _ _ | with_reducible refine Below.drew ?_ | with_reducible refine below_drewN ?_ _ | (with_reducible refine Below.alloc ?_ ?_ _; rotate_left; focus (first | (simp; done) | omega | (simp; omega))))))).mono ?_); rintro e wz ⟨rfl, hbz⟩; have hbr : Below wn.heap.size wn wz := Below.trans (by (repeat (first | with_reducible assumption | with_reducible exact Below.refl _ _ | with_reducible exact below_self_drewN _ _ | with_reducible refine Below.drew ?_ | with_reducible refine below_drewN ?_ _ | (with_reducible refine Below.alloc ?_ ?_ _; rotate_left; focus (first | (simp; done) | omega | (simp; omega)))))) (hbz.mono (by first | exact Below.size (by assumption) | (first | (simp; done) | omega | (simp; omega)))); have hsz := hbr.size; have a0 := (hbr.cell (World.block_lt_of_cell? _ _ aH0.out)).trans aH0.out; have a1 := (hbr.cell (World.block_lt_of_cell? _ _ aH1.out)).trans aH1.out; have a2 := (hbr.cell (World.block_lt_of_cell? _ _ aH2.out)).trans aH2.out; have a3 := (hbr.cell (World.block_lt_of_cell? _ _ aH3.out)).trans aH3.out; have a4 := (hbr.cell (World.block_lt_of_cell? _ _ aH4.out)).trans aH4.out; have x0 := (hbr.cell (World.block_lt_of_cell? _ _ xH0.out)).trans xH0.out; have x1 := (hbr.cell (World.block_lt_of_cell? _ _ xH1.out)).trans xH1.out; have x2 := (hbr.cell (World.block_lt_of_cell? _ _ xH2.out)).trans xH2.out; have x3 := (hbr.cell (World.block_lt_of_cell? _ _ xH3.out)).trans xH3.out; have x4 := (hbr.cell (World.block_lt_of_cell? _ _ xH4.out)).trans xH4.out; skip)
      refine hK.out _ _ ?_ (fun hHeld => ?_)
      · exact ⟨by assumption, by assumption, by assumption, by assumption, by assumption, by assumption, by assumption, by assumption, by assumption, by assumption⟩
      clear hK K
      (try simp only [Act.put, List.setIfInBounds_toArray, List.set_cons_zero, List.set_cons_succ])
      refine wpAnyH_take (i := 12) (oi := { dst := some 168, op := Op.unOp UnOp.not 4 (Operand.tmp 167), type := 4, pos := _, after := _, guard := some (2, false) }) (v := ?_) rfl (by kernel_rfl) (by kernel_rfl) (by kernel_rfl) (fun _ _ _ h => h) (Or.inl ⟨by rfl, ?_⟩) hHeld ?_
      rotate_left
      · (intro w hSw; (try dsimp only at hSw); go_simp; (try with_reducible rfl))
      (try simp only [Act.put, List.setIfInBounds_toArray, List.set_cons_zero, List.set_cons_succ])
      refine wpAnyH_take (i := 13) (oi := { dst := some 169, op := Op.pick (Operand.tmp 158) (Operand.const (Value.bool true)) (Operand.tmp 168), type := 4, pos := _, after := _, guard := none }) (v := ?_) rfl (by kernel_rfl) (by kernel_rfl) (by kernel_rfl) (fun _ _ _ h => h) (Or.inl ⟨by rfl, ?_⟩) hHeld ?_
      rotate_left
      · (intro w hSw; (try dsimp only at hSw); go_simp; (try with_reducible rfl))
      (try simp only [Act.put, List.setIfInBounds_toArray, List.set_cons_zero, List.set_cons_succ])
      refine wpAnyH_take (i := 14) (oi := { dst := some 170, op := Op.move (Operand.tmp 169), type := 4, pos := _, after := _, guard := none }) (v := ?_) rfl (by kernel_rfl) (by kernel_rfl) (by kernel_rfl) (fun _ _ _ h => h) (Or.inl ⟨by rfl, ?_⟩) hHeld ?_
      rotate_left
      · (intro w hSw; (try dsimp only at hSw); go_simp; (try with_reducible rfl))
      (try simp only [Act.put, List.setIfInBounds_toArray, List.set_cons_zero, List.set_cons_succ])
      refine wpAnyH_take (i := 15) (oi := { dst := some 171, op := Op.move (Operand.tmp 23), type := 3, pos := _, after := _, guard := some (14, true) }) (v := undef) rfl (by kernel_rfl) (by kernel_rfl) (by kernel_rfl) (fun _ _ _ h => h) (Or.inr ⟨by rfl, rfl⟩) hHeld ?_
      (try simp only [Act.put, List.setIfInBounds_toArray, List.set_cons_zero, List.set_cons_succ])
      refine wpAnyH_take (i := 16) (oi := { dst := some 172, op := Op.binOp BinOp.lss 3 (Operand.tmp 171) (Operand.const (Value.int IntKind.i64 0)) 3, type := 4, pos := _, after := _, guard := some (14, true) }) (v := undef) rfl (by kernel_rfl) (by kernel_rfl) (by kernel_rfl) (fun _ _ _ h => h) (Or.inr ⟨by rfl, rfl⟩) hHeld ?_
      (try simp only [Act.put, List.setIfInBounds_toArray, List.set_cons_zero, List.set_cons_succ])
      refine wpAnyH_take (i := 17) (oi := { dst := some 173, op := Op.move (Operand.tmp 172), type := 4, pos := _, after := _, guard := some (14, true) }) (v := undef) rfl (by kernel_rfl) (by kernel_rfl) (by kernel_rfl) (fun _ _ _ h => h) (Or.inr ⟨by rfl, rfl⟩) hHeld ?_
      (try simp only [Act.put, List.setIfInBounds_toArray, List.set_cons_zero, List.set_cons_succ])
      refine wpAnyH_take (i := 18) (oi := { dst := some 174, op := Op.move (Operand.tmp 3), type := 24, pos := _, after := _, guard := some (17, false) }) (v := undef) rfl (by kernel_rfl) (by kernel_rfl) (by kernel_rfl) (fun _ _ _ h => h) (Or.inr ⟨by rfl, rfl⟩) hHeld ?_
      (try simp only [Act.put, List.setIfInBounds_toArray, List.set_cons_zero, List.set_cons_succ])
      refine wpAnyH_take (i := 19) (oi := { dst := some 175, op := Op.move (Operand.tmp 23), type := 3, pos := _, after := _, guard := some (17, false) }) (v := undef) rfl (by kernel_rfl) (by kernel_rfl) (by kernel_rfl) (fun _ _ _ h => h) (Or.inr ⟨by rfl, rfl⟩) hHeld ?_
      (try simp only [Act.put, List.setIfInBounds_toArray, List.set_cons_zero, List.set_cons_succ])
      refine wpAnyH_take (i := 20) (oi := { dst := some 176, op := Op.indexAddr 24 (Operand.tmp 174) (Operand.tmp 175), type := 0, pos := _, after := _, guard := some (17, false) }) (v := undef) rfl (by kernel_rfl) (by kernel_rfl) (by kernel_rfl) (fun _ _ _ h => h) (Or.inr ⟨by rfl, rfl⟩) hHeld ?_
      (try simp only [Act.put, List.setIfInBounds_toArray, List.set_cons_zero, List.set_cons_succ])
      refine wpAnyH_take (i := 21) (oi := { dst := some 177, op := Op.load 41 (Operand.tmp 176), type := 41, pos := _, after := _, guard := some (17, false) }) (v := undef) rfl (by kernel_rfl) (by kernel_rfl) (by kernel_rfl) (fun _ _ _ h => h) (Or.inr ⟨by rfl, rfl⟩) hHeld ?_
      (try simp only [Act.put, List.setIfInBounds_toArray, List.set_cons_zero, List.set_cons_succ])
      refine wpAnyH_take (i := 22) (oi := { dst := some 178, op := Op.move (Operand.tmp 13), type := 24, pos := _, after := _, guard := some (17, false) }) (v := undef) rfl (by kernel_rfl) (by kernel_rfl) (by kernel_rfl) (fun _ _ _ h => h) (Or.inr ⟨by rfl, rfl⟩) hHeld ?_
      (try simp only [Act.put, List.setIfInBounds_toArray, List.set_cons_zero, List.set_cons_succ])
      refine wpAnyH_take (i := 23) (oi := { dst := some 179, op := Op.move (Operand.tmp 21), type := 3, pos := _, after := _, guard := some (17, false) }) (v := undef) rfl (by kernel_rfl) (by kernel_rfl) (by kernel_rfl) (fun _ _ _ h => h) (Or.inr ⟨by rfl, rfl⟩) hHeld ?_
      (try simp only [Act.put, List.setIfInBounds_toArray, List.set_cons_zero, List.set_cons_succ])
      refine wpAnyH_take (i := 24) (oi := { dst := some 180, op := Op.indexAddr 24 (Operand.tmp 178) (Operand.tmp 179), type := 0, pos := _, after := _, guard := some (17, false) }) (v := undef) rfl (by kernel_rfl) (by kernel_rfl) (by kernel_rfl) (fun _ _ _ h => h) (Or.inr ⟨by rfl, rfl⟩) hHeld ?_
      (try simp only [Act.put, List.setIfInBounds_toArray, List.set_cons_zero, List.set_cons_succ])
      refine wpAnyH_take (i := 25) (oi := { dst := some 181, op := Op.load 41 (Operand.tmp 180), type := 41, pos := _, after := _, guard := some (17, false) }) (v := undef) rfl (by kernel_rfl) (by kernel_rfl) (by kernel_rfl) (fun _ _ _ h => h) (Or.inr ⟨by rfl, rfl⟩) hHeld ?_
      (try simp only [Act.put, List.setIfInBounds_toArray, List.set_cons_zero, List.set_cons_succ])
      refine wpAnyH_take (i := 26) (oi := { dst := some 182, op := Op.call { callee := Callee.value (Operand.func 52), args := #[Operand.tmp 177, Operand.tmp 181], argTypes := #[41, 41] }, type := 4, pos := _, after := _, guard := some (17, false) }) (v := undef) rfl (by kernel_rfl) (by kernel_rfl) (by kernel_rfl) (fun _ _ _ h => h) (Or.inr ⟨by rfl, rfl⟩) hHeld ?_
      (try simp only [Act.put, List.setIfInBounds_toArray, List.set_cons_zero, List.set_cons_succ])
      refine wpAnyH_take (i := 27) (oi := { dst := some 183, op := Op.unOp UnOp.not 4 (Operand.tmp 182), type := 4, pos := _, after := _, guard := some (17, false) }) (v := undef) rfl (by kernel_rfl) (by kernel_rfl) (by kernel_rfl) (fun _ _ _ h => h) (Or.inr ⟨by rfl, rfl⟩) hHeld ?_
      (try simp only [Act.put, List.setIfInBounds_toArray, List.set_cons_zero, List.set_cons_succ])
      refine wpAnyH_take (i := 28) (oi := { dst := some 184, op := Op.pick (Operand.tmp 173) (Operand.const (Value.bool true)) (Operand.tmp 183), type := 4, pos := _, after := _, guard := some (14, true) }) (v := undef) rfl (by kernel_rfl) (by kernel_rfl) (by kernel_rfl) (fun _ _ _ h => h) (Or.inr ⟨by rfl, rfl⟩) hHeld ?_
      (try simp only [Act.put, List.setIfInBounds_toArray, List.set_cons_zero, List.set_cons_succ])
      refine wpAnyH_take (i := 29) (oi := { dst := some 185, op := Op.pick (Operand.tmp 170) (Operand.tmp 184) (Operand.const (Value.bool false)), type := 4, pos := _, after := _, guard := none }) (v := ?_) rfl (by kernel_rfl) (by kernel_rfl) (by kernel_rfl) (fun _ _ _ h => h) (Or.inl ⟨by rfl, ?_⟩) hHeld ?_
      rotate_left
      · (intro w hSw; (try dsimp only at hSw); go_simp; (try with_reducible rfl))
      (try simp only [Act.put, List.setIfInBounds_toArray, List.set_cons_zero, List.set_cons_succ])
      refine wpAnyH_done (by kernel_rfl) ?_ _
      have HBZ := hid hbr
      go_wp2
      go_roundw
      case rel => exact ⟨k + 1, by omega, by go_num, HBRN.out.trans (HBZ.out.mono HBRN.out.size)⟩
      case measure => simp [intOf]; omega

    case inr.inl =>
      obtain ⟨_, _, e', -, -, -, ZM⟩ := HBLN.out.open
      cases e'
      obtain ⟨bb, bo, vS, vU, vP, rfl, b0, b1, b2, b3, b4, heb⟩ := ZM j hj
      clear ZM
      rw [hb] at b0 b1 heb
      have HEb := hid heb
      obtain ⟨ba2, bk2, rfl, -⟩ := heb.s.open
      obtain ⟨ba3, bk3, rfl, -⟩ := heb.u.open
      obtain ⟨ba4, bk4, rfl, -⟩ := heb.p.open
      clear heb
      have bH0 := hid b0
      have bH1 := hid b1
      have bH2 := hid b2
      have bH3 := hid b3
      have bH4 := hid b4
      have xH0 := hid x0
      have xH1 := hid x1
      have xH2 := hid x2
      have xH3 := hid x3
      have xH4 := hid x4
      have HS2 := hid (fun (X : World) (hX : Below wn.heap.size wn X) => same_self _ _ _ _ _ _ x X (HEb.out.below hX) (HEXN.out.below hX))
      clear hb
      go_wp2
      refine wp_region_held_drew (S := (fun w' => w'.cell? ⟨bb, bo + j * 5, none⟩ = some (.string x.name) ∧ w'.cell? ⟨bb, bo + j * 5 + 1, none⟩ = some (.string x.who) ∧ w'.cell? ⟨bb, bo + j * 5 + 2, none⟩ = some (.slice ba2 x.says.length bk2) ∧ w'.cell? ⟨bb, bo + j * 5 + 3, none⟩ = some (.slice ba3 x.uses.length bk3) ∧ w'.cell? ⟨bb, bo + j * 5 + 4, none⟩ = some (.slice ba4 x.proof.length bk4) ∧ w'.cell? ⟨xb, xo + k * 5, none⟩ = some (.string x.name) ∧ w'.cell? ⟨xb, xo + k * 5 + 1, none⟩ = some (.string x.who) ∧ w'.cell? ⟨xb, xo + k * 5 + 2, none⟩ = some (.slice s1 x.says.length t1) ∧ w'.cell? ⟨xb, xo + k * 5 + 3, none⟩ = some (.slice s2 x.uses.length t2) ∧ w'.cell? ⟨xb, xo + k * 5 + 4, none⟩ = some (.slice s3 x.proof.length t3))) (by kernel_rfl) ?_ (fun hHeld => ?_)
      · exact ⟨by assumption, by assumption, by assumption, by assumption, by assumption, by assumption, by assumption, by assumption, by assumption, by assumption⟩
      refine wpAnyH_take (i := 0) (oi := { dst := some 156, op := Op.move (Operand.tmp 22), type := 3, pos := _, after := _, guard := none }) (v := ?_) rfl (by kernel_rfl) (by kernel_rfl) (by kernel_rfl) (fun _ _ _ h => h) (Or.inl ⟨by rfl, ?_⟩) hHeld ?_
      rotate_left
      · (intro w hSw; (try dsimp only at hSw); go_simp; (try with_reducible rfl))
      (try simp only [Act.put, List.setIfInBounds_toArray, List.set_cons_zero, List.set_cons_succ])
      refine wpAnyH_take (i := 1) (oi := { dst := some 157, op := Op.binOp BinOp.lss 3 (Operand.tmp 156) (Operand.const (Value.int IntKind.i64 0)) 3, type := 4, pos := _, after := _, guard := none }) (v := ?_) rfl (by kernel_rfl) (by kernel_rfl) (by kernel_rfl) (fun _ _ _ h => h) (Or.inl ⟨by rfl, ?_⟩) hHeld ?_
      rotate_left
      · (intro w hSw; (try dsimp only at hSw); go_simp; (try with_reducible rfl))
      (try simp only [Act.put, List.setIfInBounds_toArray, List.set_cons_zero, List.set_cons_succ])
      refine wpAnyH_take (i := 2) (oi := { dst := some 158, op := Op.move (Operand.tmp 157), type := 4, pos := _, after := _, guard := none }) (v := ?_) rfl (by kernel_rfl) (by kernel_rfl) (by kernel_rfl) (fun _ _ _ h => h) (Or.inl ⟨by rfl, ?_⟩) hHeld ?_
      rotate_left
      · (intro w hSw; (try dsimp only at hSw); go_simp; (try with_reducible rfl))
      (try simp only [Act.put, List.setIfInBounds_toArray, List.set_cons_zero, List.set_cons_succ])
      refine wpAnyH_take (i := 3) (oi := { dst := some 159, op := Op.move (Operand.tmp 2), type := 24, pos := _, after := _, guard := some (2, false) }) (v := undef) rfl (by kernel_rfl) (by kernel_rfl) (by kernel_rfl) (fun _ _ _ h => h) (Or.inr ⟨by rfl, rfl⟩) hHeld ?_
      (try simp only [Act.put, List.setIfInBounds_toArray, List.set_cons_zero, List.set_cons_succ])
      refine wpAnyH_take (i := 4) (oi := { dst := some 160, op := Op.move (Operand.tmp 22), type := 3, pos := _, after := _, guard := some (2, false) }) (v := undef) rfl (by kernel_rfl) (by kernel_rfl) (by kernel_rfl) (fun _ _ _ h => h) (Or.inr ⟨by rfl, rfl⟩) hHeld ?_
      (try simp only [Act.put, List.setIfInBounds_toArray, List.set_cons_zero, List.set_cons_succ])
      refine wpAnyH_take (i := 5) (oi := { dst := some 161, op := Op.indexAddr 24 (Operand.tmp 159) (Operand.tmp 160), type := 0, pos := _, after := _, guard := some (2, false) }) (v := undef) rfl (by kernel_rfl) (by kernel_rfl) (by kernel_rfl) (fun _ _ _ h => h) (Or.inr ⟨by rfl, rfl⟩) hHeld ?_
      (try simp only [Act.put, List.setIfInBounds_toArray, List.set_cons_zero, List.set_cons_succ])
      refine wpAnyH_take (i := 6) (oi := { dst := some 162, op := Op.load 41 (Operand.tmp 161), type := 41, pos := _, after := _, guard := some (2, false) }) (v := undef) rfl (by kernel_rfl) (by kernel_rfl) (by kernel_rfl) (fun _ _ _ h => h) (Or.inr ⟨by rfl, rfl⟩) hHeld ?_
      (try simp only [Act.put, List.setIfInBounds_toArray, List.set_cons_zero, List.set_cons_succ])
      refine wpAnyH_take (i := 7) (oi := { dst := some 163, op := Op.move (Operand.tmp 13), type := 24, pos := _, after := _, guard := some (2, false) }) (v := undef) rfl (by kernel_rfl) (by kernel_rfl) (by kernel_rfl) (fun _ _ _ h => h) (Or.inr ⟨by rfl, rfl⟩) hHeld ?_
      (try simp only [Act.put, List.setIfInBounds_toArray, List.set_cons_zero, List.set_cons_succ])
      refine wpAnyH_take (i := 8) (oi := { dst := some 164, op := Op.move (Operand.tmp 21), type := 3, pos := _, after := _, guard := some (2, false) }) (v := undef) rfl (by kernel_rfl) (by kernel_rfl) (by kernel_rfl) (fun _ _ _ h => h) (Or.inr ⟨by rfl, rfl⟩) hHeld ?_
      (try simp only [Act.put, List.setIfInBounds_toArray, List.set_cons_zero, List.set_cons_succ])
      refine wpAnyH_take (i := 9) (oi := { dst := some 165, op := Op.indexAddr 24 (Operand.tmp 163) (Operand.tmp 164), type := 0, pos := _, after := _, guard := some (2, false) }) (v := undef) rfl (by kernel_rfl) (by kernel_rfl) (by kernel_rfl) (fun _ _ _ h => h) (Or.inr ⟨by rfl, rfl⟩) hHeld ?_
      (try simp only [Act.put, List.setIfInBounds_toArray, List.set_cons_zero, List.set_cons_succ])
      refine wpAnyH_take (i := 10) (oi := { dst := some 166, op := Op.load 41 (Operand.tmp 165), type := 41, pos := _, after := _, guard := some (2, false) }) (v := undef) rfl (by kernel_rfl) (by kernel_rfl) (by kernel_rfl) (fun _ _ _ h => h) (Or.inr ⟨by rfl, rfl⟩) hHeld ?_
      (try simp only [Act.put, List.setIfInBounds_toArray, List.set_cons_zero, List.set_cons_succ])
      refine wpAnyH_take (i := 11) (oi := { dst := some 167, op := Op.call { callee := Callee.value (Operand.func 52), args := #[Operand.tmp 162, Operand.tmp 166], argTypes := #[41, 41] }, type := 4, pos := _, after := _, guard := some (2, false) }) (v := undef) rfl (by kernel_rfl) (by kernel_rfl) (by kernel_rfl) (fun _ _ _ h => h) (Or.inr ⟨by rfl, rfl⟩) hHeld ?_
      (try simp only [Act.put, List.setIfInBounds_toArray, List.set_cons_zero, List.set_cons_succ])
      refine wpAnyH_take (i := 12) (oi := { dst := some 168, op := Op.unOp UnOp.not 4 (Operand.tmp 167), type := 4, pos := _, after := _, guard := some (2, false) }) (v := undef) rfl (by kernel_rfl) (by kernel_rfl) (by kernel_rfl) (fun _ _ _ h => h) (Or.inr ⟨by rfl, rfl⟩) hHeld ?_
      (try simp only [Act.put, List.setIfInBounds_toArray, List.set_cons_zero, List.set_cons_succ])
      refine wpAnyH_take (i := 13) (oi := { dst := some 169, op := Op.pick (Operand.tmp 158) (Operand.const (Value.bool true)) (Operand.tmp 168), type := 4, pos := _, after := _, guard := none }) (v := ?_) rfl (by kernel_rfl) (by kernel_rfl) (by kernel_rfl) (fun _ _ _ h => h) (Or.inl ⟨by rfl, ?_⟩) hHeld ?_
      rotate_left
      · (intro w hSw; (try dsimp only at hSw); go_simp; (try with_reducible rfl))
      (try simp only [Act.put, List.setIfInBounds_toArray, List.set_cons_zero, List.set_cons_succ])
      refine wpAnyH_take (i := 14) (oi := { dst := some 170, op := Op.move (Operand.tmp 169), type := 4, pos := _, after := _, guard := none }) (v := ?_) rfl (by kernel_rfl) (by kernel_rfl) (by kernel_rfl) (fun _ _ _ h => h) (Or.inl ⟨by rfl, ?_⟩) hHeld ?_
      rotate_left
      · (intro w hSw; (try dsimp only at hSw); go_simp; (try with_reducible rfl))
      (try simp only [Act.put, List.setIfInBounds_toArray, List.set_cons_zero, List.set_cons_succ])
      refine wpAnyH_take (i := 15) (oi := { dst := some 171, op := Op.move (Operand.tmp 23), type := 3, pos := _, after := _, guard := some (14, true) }) (v := ?_) rfl (by kernel_rfl) (by kernel_rfl) (by kernel_rfl) (fun _ _ _ h => h) (Or.inl ⟨by rfl, ?_⟩) hHeld ?_
      rotate_left
      · (intro w hSw; (try dsimp only at hSw); go_simp; (try with_reducible rfl))
      (try simp only [Act.put, List.setIfInBounds_toArray, List.set_cons_zero, List.set_cons_succ])
      refine wpAnyH_take (i := 16) (oi := { dst := some 172, op := Op.binOp BinOp.lss 3 (Operand.tmp 171) (Operand.const (Value.int IntKind.i64 0)) 3, type := 4, pos := _, after := _, guard := some (14, true) }) (v := ?_) rfl (by kernel_rfl) (by kernel_rfl) (by kernel_rfl) (fun _ _ _ h => h) (Or.inl ⟨by rfl, ?_⟩) hHeld ?_
      rotate_left
      · (intro w hSw; (try dsimp only at hSw); go_simp; (try with_reducible rfl))
      (try simp only [Act.put, List.setIfInBounds_toArray, List.set_cons_zero, List.set_cons_succ])
      refine wpAnyH_take (i := 17) (oi := { dst := some 173, op := Op.move (Operand.tmp 172), type := 4, pos := _, after := _, guard := some (14, true) }) (v := ?_) rfl (by kernel_rfl) (by kernel_rfl) (by kernel_rfl) (fun _ _ _ h => h) (Or.inl ⟨by rfl, ?_⟩) hHeld ?_
      rotate_left
      · (intro w hSw; (try dsimp only at hSw); go_simp; (try with_reducible rfl))
      (try simp only [Act.put, List.setIfInBounds_toArray, List.set_cons_zero, List.set_cons_succ])
      refine wpAnyH_take (i := 18) (oi := { dst := some 174, op := Op.move (Operand.tmp 3), type := 24, pos := _, after := _, guard := some (17, false) }) (v := ?_) rfl (by kernel_rfl) (by kernel_rfl) (by kernel_rfl) (fun _ _ _ h => h) (Or.inl ⟨by rfl, ?_⟩) hHeld ?_
      rotate_left
      · (intro w hSw; (try dsimp only at hSw); go_simp; (try with_reducible rfl))
      (try simp only [Act.put, List.setIfInBounds_toArray, List.set_cons_zero, List.set_cons_succ])
      refine wpAnyH_take (i := 19) (oi := { dst := some 175, op := Op.move (Operand.tmp 23), type := 3, pos := _, after := _, guard := some (17, false) }) (v := ?_) rfl (by kernel_rfl) (by kernel_rfl) (by kernel_rfl) (fun _ _ _ h => h) (Or.inl ⟨by rfl, ?_⟩) hHeld ?_
      rotate_left
      · (intro w hSw; (try dsimp only at hSw); go_simp; (try with_reducible rfl))
      (try simp only [Act.put, List.setIfInBounds_toArray, List.set_cons_zero, List.set_cons_succ])
      refine wpAnyH_take (i := 20) (oi := { dst := some 176, op := Op.indexAddr 24 (Operand.tmp 174) (Operand.tmp 175), type := 0, pos := _, after := _, guard := some (17, false) }) (v := ?_) rfl (by kernel_rfl) (by kernel_rfl) (by kernel_rfl) (fun _ _ _ h => h) (Or.inl ⟨by rfl, ?_⟩) hHeld ?_
      rotate_left
      · (intro w hSw; (try dsimp only at hSw); go_simp; (try with_reducible rfl))
      (try simp only [Act.put, List.setIfInBounds_toArray, List.set_cons_zero, List.set_cons_succ])
      refine wpAnyH_take (i := 21) (oi := { dst := some 177, op := Op.load 41 (Operand.tmp 176), type := 41, pos := _, after := _, guard := some (17, false) }) (v := ?_) rfl (by kernel_rfl) (by kernel_rfl) (by kernel_rfl) (fun _ _ _ h => h) (Or.inl ⟨by rfl, ?_⟩) hHeld ?_
      rotate_left
      · (intro w hSw; (try dsimp only at hSw); go_simp; (try with_reducible rfl))
      (try simp only [Act.put, List.setIfInBounds_toArray, List.set_cons_zero, List.set_cons_succ])
      refine wpAnyH_take (i := 22) (oi := { dst := some 178, op := Op.move (Operand.tmp 13), type := 24, pos := _, after := _, guard := some (17, false) }) (v := ?_) rfl (by kernel_rfl) (by kernel_rfl) (by kernel_rfl) (fun _ _ _ h => h) (Or.inl ⟨by rfl, ?_⟩) hHeld ?_
      rotate_left
      · (intro w hSw; (try dsimp only at hSw); go_simp; (try with_reducible rfl))
      (try simp only [Act.put, List.setIfInBounds_toArray, List.set_cons_zero, List.set_cons_succ])
      refine wpAnyH_take (i := 23) (oi := { dst := some 179, op := Op.move (Operand.tmp 21), type := 3, pos := _, after := _, guard := some (17, false) }) (v := ?_) rfl (by kernel_rfl) (by kernel_rfl) (by kernel_rfl) (fun _ _ _ h => h) (Or.inl ⟨by rfl, ?_⟩) hHeld ?_
      rotate_left
      · (intro w hSw; (try dsimp only at hSw); go_simp; (try with_reducible rfl))
      (try simp only [Act.put, List.setIfInBounds_toArray, List.set_cons_zero, List.set_cons_succ])
      refine wpAnyH_take (i := 24) (oi := { dst := some 180, op := Op.indexAddr 24 (Operand.tmp 178) (Operand.tmp 179), type := 0, pos := _, after := _, guard := some (17, false) }) (v := ?_) rfl (by kernel_rfl) (by kernel_rfl) (by kernel_rfl) (fun _ _ _ h => h) (Or.inl ⟨by rfl, ?_⟩) hHeld ?_
      rotate_left
      · (intro w hSw; (try dsimp only at hSw); go_simp; (try with_reducible rfl))
      (try simp only [Act.put, List.setIfInBounds_toArray, List.set_cons_zero, List.set_cons_succ])
      refine wpAnyH_take (i := 25) (oi := { dst := some 181, op := Op.load 41 (Operand.tmp 180), type := 41, pos := _, after := _, guard := some (17, false) }) (v := ?_) rfl (by kernel_rfl) (by kernel_rfl) (by kernel_rfl) (fun _ _ _ h => h) (Or.inl ⟨by rfl, ?_⟩) hHeld ?_
      rotate_left
      · (intro w hSw; (try dsimp only at hSw); go_simp; (try with_reducible rfl))
      (try simp only [Act.put, List.setIfInBounds_toArray, List.set_cons_zero, List.set_cons_succ])
      refine wpAnyH_ready (rs := [26]) (by kernel_rfl) (by simp) ?_
      refine AllReadyH.cons (o := { dst := some 182, op := Op.call { callee := Callee.value (Operand.func 52), args := #[Operand.tmp 177, Operand.tmp 181], argTypes := #[41, 41] }, type := 4, pos := _, after := _, guard := some (17, false) }) rfl (fun K hK => ?_) AllReadyH.nil
      go_simp
      (go_at_call 52; (with_reducible refine (HS2.out _ (by (repeat (first | with_reducible assumption | with_reducible exact Below.refl _ _ | with_reducible exact below_self_drewN _ _ | with_reducible refine Below.drew ?_ | with_reducible refine below_drewN ?_ _ | (with_reducible refine Below.alloc ?_ ?_ _; rotate_left; focus (first | (simp; done) | omega | (simp; omega))))))).mono ?_); rintro e wz ⟨rfl, hbz⟩; have hbr : Below wn.heap.size wn wz := Below.trans (by (repeat (first | with_reducible assumption | with_reducible exact Below.refl _ _ | with_reducible exact below_self_drewN _ _ | with_reducible refine Below.drew ?_ | with_reducible refine below_drewN ?_ _ | (with_reducible refine Below.alloc ?_ ?_ _; rotate_left; focus (first | (simp; done) | omega | (simp; omega)))))) (hbz.mono (by first | exact Below.size (by assumption) | (first | (simp; done) | omega | (simp; omega)))); have hsz := hbr.size; have b0 := (hbr.cell (World.block_lt_of_cell? _ _ bH0.out)).trans bH0.out; have b1 := (hbr.cell (World.block_lt_of_cell? _ _ bH1.out)).trans bH1.out; have b2 := (hbr.cell (World.block_lt_of_cell? _ _ bH2.out)).trans bH2.out; have b3 := (hbr.cell (World.block_lt_of_cell? _ _ bH3.out)).trans bH3.out; have b4 := (hbr.cell (World.block_lt_of_cell? _ _ bH4.out)).trans bH4.out; have x0 := (hbr.cell (World.block_lt_of_cell? _ _ xH0.out)).trans xH0.out; have x1 := (hbr.cell (World.block_lt_of_cell? _ _ xH1.out)).trans xH1.out; have x2 := (hbr.cell (World.block_lt_of_cell? _ _ xH2.out)).trans xH2.out; have x3 := (hbr.cell (World.block_lt_of_cell? _ _ xH3.out)).trans xH3.out; have x4 := (hbr.cell (World.block_lt_of_cell? _ _ xH4.out)).trans xH4.out; skip)
      refine hK.out _ _ ?_ (fun hHeld => ?_)
      · exact ⟨by assumption, by assumption, by assumption, by assumption, by assumption, by assumption, by assumption, by assumption, by assumption, by assumption⟩
      clear hK K
      (try simp only [Act.put, List.setIfInBounds_toArray, List.set_cons_zero, List.set_cons_succ])
      refine wpAnyH_take (i := 27) (oi := { dst := some 183, op := Op.unOp UnOp.not 4 (Operand.tmp 182), type := 4, pos := _, after := _, guard := some (17, false) }) (v := ?_) rfl (by kernel_rfl) (by kernel_rfl) (by kernel_rfl) (fun _ _ _ h => h) (Or.inl ⟨by rfl, ?_⟩) hHeld ?_
      rotate_left
      · (intro w hSw; (try dsimp only at hSw); go_simp; (try with_reducible rfl))
      (try simp only [Act.put, List.setIfInBounds_toArray, List.set_cons_zero, List.set_cons_succ])
      refine wpAnyH_take (i := 28) (oi := { dst := some 184, op := Op.pick (Operand.tmp 173) (Operand.const (Value.bool true)) (Operand.tmp 183), type := 4, pos := _, after := _, guard := some (14, true) }) (v := ?_) rfl (by kernel_rfl) (by kernel_rfl) (by kernel_rfl) (fun _ _ _ h => h) (Or.inl ⟨by rfl, ?_⟩) hHeld ?_
      rotate_left
      · (intro w hSw; (try dsimp only at hSw); go_simp; (try with_reducible rfl))
      (try simp only [Act.put, List.setIfInBounds_toArray, List.set_cons_zero, List.set_cons_succ])
      refine wpAnyH_take (i := 29) (oi := { dst := some 185, op := Op.pick (Operand.tmp 170) (Operand.tmp 184) (Operand.const (Value.bool false)), type := 4, pos := _, after := _, guard := none }) (v := ?_) rfl (by kernel_rfl) (by kernel_rfl) (by kernel_rfl) (fun _ _ _ h => h) (Or.inl ⟨by rfl, ?_⟩) hHeld ?_
      rotate_left
      · (intro w hSw; (try dsimp only at hSw); go_simp; (try with_reducible rfl))
      (try simp only [Act.put, List.setIfInBounds_toArray, List.set_cons_zero, List.set_cons_succ])
      refine wpAnyH_done (by kernel_rfl) ?_ _
      have HBZ := hid hbr
      go_wp2
      go_roundw
      case rel => exact ⟨k + 1, by omega, by go_num, HBRN.out.trans (HBZ.out.mono HBRN.out.size)⟩
      case measure => simp [intOf]; omega

    case inr.inr =>
      obtain ⟨_, _, e', -, -, -, ZM⟩ := HARN.out.open
      cases e'
      obtain ⟨ab, ao, vS, vU, vP, rfl, a0, a1, a2, a3, a4, hea⟩ := ZM i hi
      clear ZM
      obtain ⟨y, hya⟩ : ∃ y, a[i] = y := ⟨_, rfl⟩
      rw [hya] at a0 a1 hea hc
      clear hya
      have HEa := hid hea
      obtain ⟨aa2, ak2, rfl, -⟩ := hea.s.open
      obtain ⟨aa3, ak3, rfl, -⟩ := hea.u.open
      obtain ⟨aa4, ak4, rfl, -⟩ := hea.p.open
      clear hea
      have aH0 := hid a0
      have aH1 := hid a1
      have aH2 := hid a2
      have aH3 := hid a3
      have aH4 := hid a4
      obtain ⟨_, _, e', -, -, -, ZM⟩ := HBLN.out.open
      cases e'
      obtain ⟨bb, bo, vS, vU, vP, rfl, b0, b1, b2, b3, b4, heb⟩ := ZM j hj
      clear ZM
      rw [hb] at b0 b1 heb
      have HEb := hid heb
      obtain ⟨ba2, bk2, rfl, -⟩ := heb.s.open
      obtain ⟨ba3, bk3, rfl, -⟩ := heb.u.open
      obtain ⟨ba4, bk4, rfl, -⟩ := heb.p.open
      clear heb
      have bH0 := hid b0
      have bH1 := hid b1
      have bH2 := hid b2
      have bH3 := hid b3
      have bH4 := hid b4
      have xH0 := hid x0
      have xH1 := hid x1
      have xH2 := hid x2
      have xH3 := hid x3
      have xH4 := hid x4
      have HS1 := hid (fun (X : World) (hX : Below wn.heap.size wn X) => same_not _ _ _ _ _ _ y x hc X (HEa.out.below hX) (HEXN.out.below hX))
      have HS2 := hid (fun (X : World) (hX : Below wn.heap.size wn X) => same_self _ _ _ _ _ _ x X (HEb.out.below hX) (HEXN.out.below hX))
      clear hb hc
      go_wp2
      go_region_held3 (fun w' => w'.cell? ⟨ab, ao + i * 5, none⟩ = some (.string y.name) ∧ w'.cell? ⟨ab, ao + i * 5 + 1, none⟩ = some (.string y.who) ∧ w'.cell? ⟨ab, ao + i * 5 + 2, none⟩ = some (.slice aa2 y.says.length ak2) ∧ w'.cell? ⟨ab, ao + i * 5 + 3, none⟩ = some (.slice aa3 y.uses.length ak3) ∧ w'.cell? ⟨ab, ao + i * 5 + 4, none⟩ = some (.slice aa4 y.proof.length ak4) ∧ w'.cell? ⟨bb, bo + j * 5, none⟩ = some (.string x.name) ∧ w'.cell? ⟨bb, bo + j * 5 + 1, none⟩ = some (.string x.who) ∧ w'.cell? ⟨bb, bo + j * 5 + 2, none⟩ = some (.slice ba2 x.says.length bk2) ∧ w'.cell? ⟨bb, bo + j * 5 + 3, none⟩ = some (.slice ba3 x.uses.length bk3) ∧ w'.cell? ⟨bb, bo + j * 5 + 4, none⟩ = some (.slice ba4 x.proof.length bk4) ∧ w'.cell? ⟨xb, xo + k * 5, none⟩ = some (.string x.name) ∧ w'.cell? ⟨xb, xo + k * 5 + 1, none⟩ = some (.string x.who) ∧ w'.cell? ⟨xb, xo + k * 5 + 2, none⟩ = some (.slice s1 x.says.length t1) ∧ w'.cell? ⟨xb, xo + k * 5 + 3, none⟩ = some (.slice s2 x.uses.length t2) ∧ w'.cell? ⟨xb, xo + k * 5 + 4, none⟩ = some (.slice s3 x.proof.length t3))
        (first | exact ⟨by assumption, by assumption, by assumption, by assumption, by assumption, by assumption, by assumption, by assumption, by assumption, by assumption, by assumption, by assumption, by assumption, by assumption, by assumption⟩ | go_keep)
        (first
          | (go_at_call 52; (with_reducible refine (HS1.out _ (by (repeat (first | with_reducible assumption | with_reducible exact Below.refl _ _ | with_reducible exact below_self_drewN _ _ | with_reducible refine Below.drew ?_ | with_reducible refine below_drewN ?_ _ | (with_reducible refine Below.alloc ?_ ?_ _; rotate_left; focus (first | (simp; done) | omega | (simp; omega))))))).mono ?_); rintro e wz ⟨rfl, hbz⟩; have hbr : Below wn.heap.size wn wz := Below.trans (by (repeat (first | with_reducible assumption | with_reducible exact Below.refl _ _ | with_reducible exact below_self_drewN _ _ | with_reducible refine Below.drew ?_ | with_reducible refine below_drewN ?_ _ | (with_reducible refine Below.alloc ?_ ?_ _; rotate_left; focus (first | (simp; done) | omega | (simp; omega)))))) (hbz.mono (by first | exact Below.size (by assumption) | (first | (simp; done) | omega | (simp; omega)))); have hsz := hbr.size; have a0 := (hbr.cell (World.block_lt_of_cell? _ _ aH0.out)).trans aH0.out; have a1 := (hbr.cell (World.block_lt_of_cell? _ _ aH1.out)).trans aH1.out; have a2 := (hbr.cell (World.block_lt_of_cell? _ _ aH2.out)).trans aH2.out; have a3 := (hbr.cell (World.block_lt_of_cell? _ _ aH3.out)).trans aH3.out; have a4 := (hbr.cell (World.block_lt_of_cell? _ _ aH4.out)).trans aH4.out; have b0 := (hbr.cell (World.block_lt_of_cell? _ _ bH0.out)).trans bH0.out; have b1 := (hbr.cell (World.block_lt_of_cell? _ _ bH1.out)).trans bH1.out; have b2 := (hbr.cell (World.block_lt_of_cell? _ _ bH2.out)).trans bH2.out; have b3 := (hbr.cell (World.block_lt_of_cell? _ _ bH3.out)).trans bH3.out; have b4 := (hbr.cell (World.block_lt_of_cell? _ _ bH4.out)).trans bH4.out; have x0 := (hbr.cell (World.block_lt_of_cell? _ _ xH0.out)).trans xH0.out; have x1 := (hbr.cell (World.block_lt_of_cell? _ _ xH1.out)).trans xH1.out; have x2 := (hbr.cell (World.block_lt_of_cell? _ _ xH2.out)).trans xH2.out; have x3 := (hbr.cell (World.block_lt_of_cell? _ _ xH3.out)).trans xH3.out; have x4 := (hbr.cell (World.block_lt_of_cell? _ _ xH4.out)).trans xH4.out; skip)
          | (go_at_call 52; (with_reducible refine (HS2.out _ (by (repeat (first | with_reducible assumption | with_reducible exact Below.refl _ _ | with_reducible exact below_self_drewN _ _ | with_reducible refine Below.drew ?_ | with_reducible refine below_drewN ?_ _ | (with_reducible refine Below.alloc ?_ ?_ _; rotate_left; focus (first | (simp; done) | omega | (simp; omega))))))).mono ?_); rintro e wz ⟨rfl, hbz⟩; have hbr : Below wn.heap.size wn wz := Below.trans (by (repeat (first | with_reducible assumption | with_reducible exact Below.refl _ _ | with_reducible exact below_self_drewN _ _ | with_reducible refine Below.drew ?_ | with_reducible refine below_drewN ?_ _ | (with_reducible refine Below.alloc ?_ ?_ _; rotate_left; focus (first | (simp; done) | omega | (simp; omega)))))) (hbz.mono (by first | exact Below.size (by assumption) | (first | (simp; done) | omega | (simp; omega)))); have hsz := hbr.size; have a0 := (hbr.cell (World.block_lt_of_cell? _ _ aH0.out)).trans aH0.out; have a1 := (hbr.cell (World.block_lt_of_cell? _ _ aH1.out)).trans aH1.out; have a2 := (hbr.cell (World.block_lt_of_cell? _ _ aH2.out)).trans aH2.out; have a3 := (hbr.cell (World.block_lt_of_cell? _ _ aH3.out)).trans aH3.out; have a4 := (hbr.cell (World.block_lt_of_cell? _ _ aH4.out)).trans aH4.out; have b0 := (hbr.cell (World.block_lt_of_cell? _ _ bH0.out)).trans bH0.out; have b1 := (hbr.cell (World.block_lt_of_cell? _ _ bH1.out)).trans bH1.out; have b2 := (hbr.cell (World.block_lt_of_cell? _ _ bH2.out)).trans bH2.out; have b3 := (hbr.cell (World.block_lt_of_cell? _ _ bH3.out)).trans bH3.out; have b4 := (hbr.cell (World.block_lt_of_cell? _ _ bH4.out)).trans bH4.out; have x0 := (hbr.cell (World.block_lt_of_cell? _ _ xH0.out)).trans xH0.out; have x1 := (hbr.cell (World.block_lt_of_cell? _ _ xH1.out)).trans xH1.out; have x2 := (hbr.cell (World.block_lt_of_cell? _ _ xH2.out)).trans xH2.out; have x3 := (hbr.cell (World.block_lt_of_cell? _ _ xH3.out)).trans xH3.out; have x4 := (hbr.cell (World.block_lt_of_cell? _ _ xH4.out)).trans xH4.out; skip)
          | fail)
      have HBZ := hid hbr
      go_wp2
      go_roundw
      case rel => exact ⟨k + 1, by omega, by go_num, HBRN.out.trans (HBZ.out.mono HBRN.out.size)⟩
      case measure => simp [intOf]; omega

end Go.Proofs.YtlbjbmpkaniojaaGreat
