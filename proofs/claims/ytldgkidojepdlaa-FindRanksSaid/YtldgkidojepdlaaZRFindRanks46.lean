/-
  WHAT IT HOLDS: contract of Ranked of the reference of layer 5. Conditions: the arguments read as data; a small sign.
-/
import Derived.Test.YtldgkidojepdlaaZRFindRanks42
import Derived.Test.YtldgkidojepdlaaZRFindRanks8
import Derived.Test.YtldgkidojepdlaaZRFindRanks45
namespace Go.Proofs.Ytldgkidojepdlaa
open Go Go.RowKit Go.Maps Go.Shelf
def nearL (s : Sg) (q : List Int) (l : List (List Int)) (k : Nat) : List Int := (l.take k).map fun x => (closN s x q : Int)
theorem nearL_len {s : Sg} {q : List Int} {l : List (List Int)} {k : Nat} (h : k ≤ l.length) : (nearL s q l k).length = k := by simp [nearL]; omega
theorem nearL_succ {s : Sg} {q : List Int} {l : List (List Int)} {k : Nat} (h : k < l.length) : nearL s q l (k + 1) = nearL s q l k ++ [(closN s l[k] q : Int)] := by
  unfold nearL
  rw [List.take_succ_eq_append_getElem h, List.map_append]; rfl
theorem nearL_get {s : Sg} {q : List Int} {l : List (List Int)} {k j : Nat} (hj : j < k) (h : k ≤ l.length) : (nearL s q l k)[j]? = some (closN s (l[j]'(by omega)) q : Int) := by
  unfold nearL
  rw [List.getElem?_map, List.getElem?_take, if_pos hj, List.getElem?_eq_getElem (by omega)]
  rfl
theorem rkL_at {s : Sg} {q : List Int} {l : List (List Int)} {j : Nat} (h : j < l.length) : rkL s q l (j : Int) = (l[j].length : Int) - 1000 * (closN s l[j] q : Int) := by
  unfold rkL rnkT
  simp [List.getD_eq_getElem?_getD, h]
def RkO (s : Sg) (q : List Int) (l : List (List Int)) (w : World) (uo un iv : Value) (wr : World) : Prop :=
  ∃ (i : Nat) (Z : List Int), i ≤ l.length ∧ iv = .int .i64 (i : Int) ∧ Z.Perm (seg 0 i) ∧ SoR (rkL s q l) Z ∧ wr.ownsRow w.heap.size 3 1 uo i (Z.map (Value.int .i64)) ∧ wr.ownsRow w.heap.size 3 1 un i ((nearL s q l i).map (Value.int .i64)) ∧
    (∀ k, uo.ownBlock = some k → un.ownBlock ≠ some k) ∧ Below w.heap.size w wr
def RkI (s : Sg) (q : List Int) (l : List (List Int)) (B g n cap : Nat) (Z : List Int) (x : Int) (W5 : World) (kv : Value) (wr : World) : Prop :=
  ∃ t : Nat, t ≤ Z.length ∧ kv = .int .i64 (t : Int) ∧ Dat B g n cap (Z.take t ++ x :: Z.drop t) wr ∧ Kb (fun k => k = g) W5 wr ∧ ∀ y ∈ Z.drop t, Lt (rkL s q l) x y
theorem owns_kb {w w' : World} {b g : Nat} {e : TypeId} {k : Nat} {v : Value} {n : Nat} {xs : List Value} (h : w.ownsRow b e k v n xs) (hk : Kb (fun q => q = g) w w') (hne : v.ownBlock ≠ some g) : w'.ownsRow b e k v n xs :=
  ownsRow_frm2 h fun q hq => hk.same q (h.lt q hq).2 fun e => hne (by rw [hq, e])
theorem own_ne {u v : Value} (h : ∀ k, u.ownBlock = some k → v.ownBlock ≠ some k) : u.ownBlock = none ∨ u.ownBlock ≠ v.ownBlock := by
  cases hu : u.ownBlock with
  | none => exact Or.inl rfl
  | some k => exact Or.inr fun e => h k hu e.symm
set_option maxHeartbeats 8000000 in
set_option maxRecDepth 100000 in
theorem ref5_Ranked (vs vl vq : Value) (s : Sg) (l : List (List Int)) (q : List Int) (w : World) (hs : SignAt w vs s) (hl : Terms w vl l) (hq : Ints w vq q) :
    Calls Try.prog 17 #[vs, vl, vq] w fun e w' => ∃ u x, RankQ s l q x ∧ e = .returned (.tuple #[u, .int .i64 x.2]) ∧ w'.ownsRow w.heap.size 3 1 u x.1.length (x.1.map (Value.int .i64)) ∧ Below w.heap.size w w' := by
  have HA := hid (ref5_asked vs vl vq s l q w hs hl hq)
  cases h1 : (shelfB s l && termB s q)
  · have HR : Hid (RankQ s l q ([], 1)) := hid (by unfold RankQ; rw [h1]; simp)
    rw [h1] at HA
    clear h1
    go_enter Try.func17, Try.ntmps17
    go_wp2_with fail
    refine HA.out.mono ?_
    rintro e w1 ⟨rfl, nq, rfl⟩
    go_wp2
    go_ret2
    exact ⟨_, ([], 1), HR.out, rfl, World.ownsRow_nil _ _ _ _, below_self_drewN w nq⟩
  · have h1' := h1
    rw [Bool.and_eq_true] at h1'
    obtain ⟨f1, f2, f3, f4, f5, f6⟩ := shf_facts h1'.1
    have tq := termB_T h1'.2
    have lq := (termB_facts h1'.2).2.2.2
    have HR : Hid (∀ Z, RankP s q l Z → RankQ s l q (Z, 0)) := hid (fun Z hZ => by unfold RankQ; rw [h1]; simpa using hZ)
    rw [h1] at HA
    have HC := hid (fun (X : World) (hX : Below w.heap.size w X) (i : Nat) (v : Value) (hi : i < l.length) (hv : Ints X v l[i]) => ref5_closeness vs v vq s l[i] q X (hs.below hX) hv (hq.below hX) (f6 _ (List.getElem_mem hi)).1 tq f3 (by omega) (f6 _ (List.getElem_mem hi)).2 lq)
    have HT6 := hid f6
    obtain ⟨la, lc, rfl, -, -, -, LC⟩ := hl.open
    have LC := hid LC
    clear h1 h1' f1 f6 tq hs hl hq
    go_enter Try.func17, Try.ntmps17
    go_wp2_with fail
    refine HA.out.mono ?_
    rintro e w1 ⟨rfl, nq, rfl⟩
    have H0 : Hid (RkO s q l w (.slice none 0 0) (.slice none 0 0) (.int .i64 0) (w.drewN nq)) := hid ⟨0, [], Nat.zero_le _, rfl, by simp [seg], List.Pairwise.nil, World.ownsRow_nil _ _ _ _, by simpa [nearL] using World.ownsRow_nil _ _ _ _, fun k h => by simp [Value.ownBlock] at h, below_self_drewN w nq⟩
    clear HA
    go_wp2
    go_loopw [8, 9, 10] (fun uo un iv wr => RkO s q l w uo un iv wr) (fun _ _ iv _ => l.length - (intOf iv).toNat)
    case atStart => exact H0.out
    case round =>
      clear H0
      obtain ⟨i, Z, hi, rfl, hZ, hsZ, ho, hn, hap, hb⟩ := hrel
      have hsz := hb.size
      have hZl : Z.length = i := by rw [hZ.length_eq, seg_len]
      by_cases hlt : i < l.length
      · obtain ⟨bl, ol, v, rfl, cl0, rv0⟩ := LC.out i hlt
        have cl := (hb.cell (World.block_lt_of_cell? _ _ cl0)).trans cl0
        have rv := rv0.below hb
        obtain ⟨va, vc, rfl, -⟩ := rv.open
        have HCL := hid (HC.out wr hb i _ hlt rv)
        have hns := nearL_succ (s := s) (q := q) hlt
        obtain ⟨cn, hcn⟩ : ∃ cn, closN s l[i] q = cn := ⟨_, rfl⟩
        obtain ⟨ni, hni⟩ : ∃ ni, l[i].length = ni := ⟨_, rfl⟩
        rw [hcn] at HCL hns
        rw [hni] at HCL cl
        have HNS := hid hns
        have HB := hid hb
        have HO := hid ho
        have HN := hid hn
        have HAP := hid hap
        have HZ := hid hZ
        have HSZ := hid hsZ
        have HNL := hid (nearL_len (s := s) (q := q) (l := l) (k := i) hi)
        have p1 : (0 : Int) ≤ (i : Int) := by omega
        have p2 : (i : Int) < (l.length : Int) := by omega
        clear hb ho hn hap hZ hsZ cl0 rv0 rv hns hcn hni
        go_wp2_with fail
        refine HCL.out.mono ?_
        rintro e w2 ⟨rfl, hb2⟩
        have hs2 := hb2.size
        have HB2 := hid hb2
        have HN2 := hid (owns_below HN.out (hb2.alloc hb2.size (.cells #[.int .i64 cn] 3)))
        have HO2 := hid (owns_below HO.out (hb2.alloc hb2.size (.cells #[.int .i64 cn] 3)))
        clear hb2 cl
        have HB2n := hid (Below.refl w2.heap.size w2)
        go_wp2_with (first
          | (at_builtin; refine wpList_append_lie rfl _ _ 34 rfl w.heap.size 3 el_int Try.underlying34 rfl (by decide) _ _ _ rfl HN2.out _ 1 [.int .i64 cn] rfl (row_one_new _ _ _) (oneCell_one rfl) (by omega) (by omega) (by omega) (by simp; omega) _ rfl ?_; intro g2 c2 w3 hown3 hgrow3 hat3 hlt3
             have ho3 := HO2.out.kept hgrow3 (own_ne HAP.out)
             have hs3 := hgrow3.size
             have HO4 := hid (ho3.alloc (.cells #[.int .i64 i] 3)))
          | (at_builtin; refine wpList_append_lie rfl _ _ 34 rfl w.heap.size 3 el_int Try.underlying34 rfl (by decide) _ _ _ rfl HO4.out _ 1 [.int .i64 i] rfl (row_one_new _ _ _) (oneCell_one rfl) (by omega) (by omega) (by simp at hs3; omega) (by simp at hs3 ⊢; omega) _ rfl ?_; intro g1 c1 w5 hown5 hgrow5 hat5 hlt5))
        have hg12 : g2 ≠ g1 := by
          have hso : ∀ k, u8.ownBlock = some k → k < w2.heap.size := fun k hk => by have := (HO2.out.lt k hk).2; have := (HO.out.lt k hk).2; omega
          simp at hs3 hat5 hat3
          rcases hat5 with h5 | h5 <;> rcases hat3 with h3 | h3
          · exact fun e => HAP.out g1 h5 (by rw [← e]; exact h3)
          · have := hso g1 h5; omega
          · omega
          · omega
        have hn5 : w5.ownsRow w.heap.size 3 1 (.slice (some ⟨g2, 0, none⟩) (i + 1) c2) (i + 1) ((nearL s q l (i + 1)).map (Value.int .i64)) := by
          have h9 := (hown3.alloc (.cells #[.int .i64 i] 3)).kept hgrow5 (Or.inr (by
            simp only [Value.ownBlock]
            intro e
            have hk := HO.out.lt g2 e.symm
            rcases hat3 with h3 | h3
            · exact HAP.out g2 e.symm h3
            · simp at h3; omega))
          rw [HNS.out, List.map_append]
          exact h9
        have hd5 : Dat w.heap.size g1 (i + 1) c1 (Z.take Z.length ++ (i : Int) :: Z.drop Z.length) w5 := by
          refine ⟨by simp; omega, ?_⟩
          rw [List.take_of_length_le (Nat.le_refl _), List.drop_eq_nil_of_le (Nat.le_refl _), List.map_append]
          exact hown5
        have hb5 : Below w.heap.size w w5 := by
          have h3 := ((HB.out.trans (HB2.out.mono hsz)).alloc (by omega) (.cells #[.int .i64 cn] 3)).grown hgrow3 (by simp; omega) (fun k hk => (HN.out.lt k hk).1)
          exact (h3.alloc h3.size (.cells #[.int .i64 i] 3)).grown hgrow5 (by simp at hs3 ⊢; omega) (fun k hk => (HO.out.lt k hk).1)
        have hg1w : w.heap.size ≤ g1 := (hown5.lt g1 rfl).1
        have HN5 := hid hn5
        have HB5 := hid hb5
        have HI0 := hid (show RkI s q l w.heap.size g1 (i + 1) c1 Z (i : Int) w5 (.int .i64 (i : Int)) w5 from ⟨Z.length, Nat.le_refl _, by rw [hZl], hd5, Kb.refl _ _, by simp⟩)
        have HG12 := hid hg12
        have hZx : ∀ y ∈ Z, ∃ a : Nat, y = (a : Int) ∧ a < i := fun y hy => by
          have := seg_mem.1 (HZ.out.mem_iff.1 hy)
          exact ⟨y.toNat, by omega, by omega⟩
        have HZX := hid hZx
        have hfin : ∀ t, t ≤ Z.length → (∀ y ∈ Z.drop t, Lt (rkL s q l) (i : Int) y) → (t = 0 ∨ ∃ h : t - 1 < Z.length, Lt (rkL s q l) Z[t - 1] (i : Int)) → (Z.take t ++ (i : Int) :: Z.drop t).Perm (seg 0 (i + 1)) ∧ SoR (rkL s q l) (Z.take t ++ (i : Int) :: Z.drop t) := fun t ht h1 h2 => by
          have hp := put_left (r := rkL s q l) (x := (i : Int)) (Q1 := Z.take t) (Q2 := Z.drop t) (by rw [List.take_append_drop]; exact HSZ.out) (fun y hy => by
            obtain ⟨k, hk, rfl⟩ := List.getElem_of_mem hy
            simp only [List.length_take] at hk
            rw [List.getElem_take]
            rcases h2 with h2 | ⟨h, h2⟩
            · omega
            · rcases HSZ.out.le (i := k) (j := t - 1) (by omega) h with h4 | h4
              · exact h4.trans h2
              · rw [h4]; exact h2) h1
          rw [List.take_append_drop] at hp
          refine ⟨hp.1.trans ?_, hp.2⟩
          rw [seg_add]
          have e9 : seg (0 + i) 1 = [(i : Int)] := by simp [seg]
          rw [e9]
          exact (List.Perm.cons _ HZ.out).trans (List.perm_append_comm (l₁ := [(i : Int)]))
        have HFIN := hid hfin
        have HZL := hid hZl
        clear hn5 hd5 hb5 hg12 hown3 hown5 hgrow3 hgrow5 hat3 hat5 hlt3 hlt5 hs3 ho3 HO4 HO2 HN2 HN HO HCL hZx hfin hZl HB2n
        go_wp2
        go_loopw [11, 12, 13] (fun kv a9 b9 w6 => RkI s q l w.heap.size g1 (i + 1) c1 Z (i : Int) w5 kv w6) (fun kv _ _ _ => (intOf kv).toNat)
        case atStart => exact HI0.out
        case round =>
          clear HI0
          obtain ⟨t, ht, rfl, hd, hkb, hgt⟩ := hrel
          have hbw : Below w.heap.size w wr := HB5.out.trans (hkb.below HB5.out.size (fun k hk => by omega))
          have hnr := owns_kb HN5.out hkb (by simp only [Value.ownBlock]; exact fun e => HG12.out (Option.some.inj e))
          have HOUT : Hid (∀ t, (Z.take t ++ (i : Int) :: Z.drop t).Perm (seg 0 (i + 1)) ∧ SoR (rkL s q l) (Z.take t ++ (i : Int) :: Z.drop t) → Dat w.heap.size g1 (i + 1) c1 (Z.take t ++ (i : Int) :: Z.drop t) wr → ∀ wr', Below wr.heap.size wr wr' → RkO s q l w (.slice (some ⟨g1, 0, none⟩) (i + 1) c1) (.slice (some ⟨g2, 0, none⟩) (i + 1) c2) (.int .i64 ((i : Int) + 1)) wr') := hid (fun t h1 h2 wr' hb9 =>
            ⟨i + 1, _, hlt, rfl, h1.1, h1.2, (h2.below hb9).2, owns_below hnr hb9, fun k h => by simp only [Value.ownBlock] at h ⊢; exact fun e => HG12.out ((Option.some.inj e).trans (Option.some.inj h).symm), hbw.trans (hb9.mono hbw.size)⟩)
          cases t with
          | zero =>
            have HNX := hid (fun wr' hb9 => HOUT.out 0 (HFIN.out 0 (Nat.zero_le _) hgt (Or.inl rfl)) hd wr' hb9)
            clear hd hkb hgt hnr hbw
            go_wp2
            go_roundw
            case rel => exact HNX.out _ (Below.refl _ _)
            case measure => simp [intOf]; omega
          | succ t =>
            have htl : t < Z.length := by omega
            have g3 := getD_mid [] Z [] (i : Int) (t + 1) ht
            have g4 := getD_pre [] Z [] (i : Int) t htl
            have hsd := swap_down [] Z [] (i : Int) t htl
            simp only [List.nil_append, List.append_nil, List.length_nil, Nat.zero_add] at g3 g4 hsd
            obtain ⟨a, haZ, hai⟩ := HZX.out Z[t] (List.getElem_mem htl)
            have hil := HZL.out
            obtain ⟨e1, f1⟩ := hd.cell (i := t + 1) (by omega)
            obtain ⟨e2, f2⟩ := hd.cell (i := t) (by omega)
            have hsw := fun (X : World) (hX : Below wr.heap.size wr X) => (hd.below hX).swap t (t + 1)
            rw [g3] at e1 hsw
            rw [g4, haZ] at e2 hsw
            rw [hsd] at hsw
            have hal : a < l.length := by omega
            have e3 := hnr.cellAt a (by omega)
            have e4 := hnr.cellAt i (by omega)
            rw [List.getElem?_map, nearL_get (by omega) hlt] at e3
            rw [List.getElem?_map, nearL_get (by omega) hlt] at e4
            simp only [Option.map_some] at e3 e4
            obtain ⟨b1, o1, va1, he1, ca0, ra0⟩ := LC.out a hal
            cases he1
            have ca := (hbw.cell (World.block_lt_of_cell? _ _ ca0)).trans ca0
            obtain ⟨b2, o2, va2, he2, cb0, rb0⟩ := LC.out i hlt
            cases he2
            have cb := (hbw.cell (World.block_lt_of_cell? _ _ cb0)).trans cb0
            obtain ⟨aa, ac, rfl, -⟩ := ra0.open
            obtain ⟨ba, bc, rfl, -⟩ := rb0.open
            have r1 := rkL_at (s := s) (q := q) hal
            have r2 := rkL_at (s := s) (q := q) hlt
            have la1 := (HT6.out _ (List.getElem_mem hal)).2
            have la2 := (HT6.out _ (List.getElem_mem hlt)).2
            obtain ⟨na, hna⟩ : ∃ na, closN s l[a] q = na := ⟨_, rfl⟩
            obtain ⟨nb, hnb⟩ : ∃ nb, closN s l[i] q = nb := ⟨_, rfl⟩
            obtain ⟨ll, hll⟩ : ∃ ll, l[a].length = ll := ⟨_, rfl⟩
            obtain ⟨lb, hlb⟩ : ∃ lb, l[i].length = lb := ⟨_, rfl⟩
            rw [hna] at e3 r1
            rw [hnb] at e4 r2
            rw [hll] at ca r1 la1
            rw [hlb] at cb r2 la2
            have hLt : Lt (rkL s q l) (a : Int) (i : Int) ↔ (nb < na ∨ (na = nb ∧ ll ≤ lb)) := by
              unfold Lt
              rw [r1, r2]
              omega
            have hLt2 : Lt (rkL s q l) (i : Int) (a : Int) ↔ ¬ (nb < na ∨ (na = nb ∧ ll ≤ lb)) := by
              unfold Lt
              rw [r1, r2]
              omega
            have HB9 : Hid (Lt (rkL s q l) (a : Int) (i : Int) → ∀ wr', Below wr.heap.size wr wr' → RkO s q l w (.slice (some ⟨g1, 0, none⟩) (i + 1) c1) (.slice (some ⟨g2, 0, none⟩) (i + 1) c2) (.int .i64 ((i : Int) + 1)) wr') := hid (fun h => HOUT.out (t + 1) (HFIN.out (t + 1) ht hgt (Or.inr ⟨by omega, by simpa [haZ] using h⟩)) hd)
            have HS9 : Hid (Lt (rkL s q l) (i : Int) (a : Int) → ∀ wr', Below wr.heap.size wr wr' → RkI s q l w.heap.size g1 (i + 1) c1 Z (i : Int) w5 (.int .i64 (t : Int)) ((wr'.setCell ⟨g1, t, none⟩ (.int .i64 i)).setCell ⟨g1, t + 1, none⟩ (.int .i64 a))) := hid (fun h wr' hb9 => ⟨t, by omega, rfl, hsw wr' hb9, hkb.chain ((Kb.of_below hb9).chain kb_set2), fun z hz => by
              rw [List.drop_eq_getElem_cons htl] at hz
              rcases List.mem_cons.1 hz with rfl | hz
              · rw [haZ]; exact h
              · exact hgt z hz⟩)
            obtain ⟨kk, hkk⟩ : ∃ kk, t + 1 = kk := ⟨_, rfl⟩
            rw [hkk] at e1 f1 HS9
            rw [hkk]
            have hk2 : t + 1 ≤ kk ∧ kk ≤ t + 1 ∧ kk ≤ i := by omega
            have w1 : IntKind.i64.wrap ((kk : Int) - 1) = (t : Int) := by rw [IntWalk.i64_in _ (by omega)]; omega
            have w2 : (kk : Int) - 1 = (t : Int) := by omega
            have w3 : IntKind.i64.wrap (t : Int) = (t : Int) := by rw [IntWalk.i64_in _ (by omega)]
            have d0 : decide (0 < kk) = true := by simp; omega
            have p1 : (0 : Int) ≤ (kk : Int) := by omega
            have p2 : (kk : Int) < ((i + 1 : Nat) : Int) := by omega
            have p2' : (kk : Int) < (i : Int) + 1 := by omega
            have p3 : (0 : Int) ≤ (t : Int) := by omega
            have p4 : (t : Int) < (i : Int) + 1 := by omega
            have p5 : (0 : Int) ≤ (a : Int) := by omega
            have p6 : (a : Int) < (i : Int) + 1 := by omega
            have p7 : (0 : Int) ≤ (i : Int) := by omega
            have p8 : (i : Int) < (i : Int) + 1 := by omega
            have p9 : (a : Int) < (l.length : Int) := by omega
            have p10 : (i : Int) < (l.length : Int) := by omega
            clear hd hkb hgt hnr hbw g3 g4 hsd hsw ca0 cb0 ra0 rb0 r1 r2 haZ hna hnb hll hlb hkk hil htl HOUT
            by_cases c1' : nb < na
            · have q1 : decide (nb < na) = true := by simpa using c1'
              have HNX := hid (HB9.out (hLt.2 (Or.inl c1')))
              clear hLt hLt2 HB9 HS9 c1'
              go_wp2
              go_quiet (fail)
              go_wp2
              go_quiet (fail)
              go_wp2
              go_roundw
              case rel => exact HNX.out _ (by first | exact below_self_drewN _ _ | exact below_drewN (below_self_drewN _ _) _)
              case measure => simp [intOf]; omega
            · have q1 : decide (nb < na) = false := by simpa using c1'
              by_cases c2' : na = nb
              · have q2 : ((na : Int) == (nb : Int)) = true := by simp; omega
                by_cases c3' : ll ≤ lb
                · have q3 : decide (ll ≤ lb) = true := by simpa using c3'
                  have HNX := hid (HB9.out (hLt.2 (Or.inr ⟨c2', c3'⟩)))
                  clear hLt hLt2 HB9 HS9 c1' c3'
                  go_wp2
                  go_quiet (fail)
                  go_wp2
                  go_quiet (fail)
                  go_wp2
                  go_roundw
                  case rel => exact HNX.out _ (by first | exact below_self_drewN _ _ | exact below_drewN (below_self_drewN _ _) _)
                  case measure => simp [intOf]; omega
                · have q3 : decide (ll ≤ lb) = false := by simpa using c3'
                  have HSW := hid (HS9.out (hLt2.2 (by omega)))
                  clear hLt hLt2 HB9 HS9 c1' c3'
                  go_wp2
                  go_quiet (fail)
                  go_wp2
                  go_quiet (fail)
                  go_wp2
                  go_roundw
                  case rel => exact HSW.out _ (by first | exact below_self_drewN _ _ | exact below_drewN (below_self_drewN _ _) _)
                  case measure => simp [intOf]; omega
              · have q2 : ((na : Int) == (nb : Int)) = false := by simp; omega
                have HSW := hid (HS9.out (hLt2.2 (by omega)))
                clear hLt hLt2 HB9 HS9 c1' c2'
                go_wp2
                go_quiet (fail)
                go_wp2
                go_quiet (fail)
                go_wp2
                go_roundw
                case rel => exact HSW.out _ (by first | exact below_self_drewN _ _ | exact below_drewN (below_self_drewN _ _) _)
                case measure => simp [intOf]; omega
      · have hil : i = l.length := by omega
        subst hil
        have HQ := hid (HR.out Z ⟨hZ, hsZ⟩)
        have HO := hid (show wr.ownsRow w.heap.size 3 1 u8 Z.length (Z.map (Value.int .i64)) by rw [hZl]; exact ho)
        have HB := hid hb
        clear hZ hsZ ho hn hap hb
        go_wp2
        go_ret2
        exact ⟨_, (Z, 0), HQ.out, rfl, HO.out, HB.out⟩
end Go.Proofs.Ytldgkidojepdlaa
