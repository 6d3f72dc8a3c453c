/-
  WHAT IT HOLDS: contract of First of package blame. Conditions: the arguments read as data; small signs.
  WHAT IT HOLDS: the walk of the law BlameMarks: it returns true. Conditions: the arguments read as data. Printed by wip/gen_bmk.py.
-/
import Derived.Laws.StructEq
import Derived.BigQuiet
import Derived.Test.YtlbjbmpkaniojaaGreatZRBlameMarks46
import Derived.Test.YtlbjbmpkaniojaaGreatZRBlameMarks16
import Derived.Test.YtlbjbmpkaniojaaGreatZRBlameMarks38
import Derived.Test.YtlbjbmpkaniojaaGreatZRBlameMarks42
import Derived.Test.YtlbjbmpkaniojaaGreatZRBlameMarks44
import Derived.Test.YtlbjbmpkaniojaaGreatZRBlameMarks18
namespace Go.Proofs.YtlbjbmpkaniojaaGreat
open Go Go.RowKit Go.Maps Go.Shelf
attribute [local go_sem] Oper.semAt_some
set_option maxHeartbeats 1000000 in
theorem blame_First1 (p q : Nat) (vs vt : Value) (s : Sg) (t : List Int) (y : En) (vS vU vP : Value) (w : World) (hy : EntAt w vS vU vP y) (hs : SignAt w vs s) (ht : Ints w vt t) (hp : w.cell? ⟨p, 0, none⟩ = some vs) (hq : w.cell? ⟨q, 0, none⟩ = some vt) (hs1 : s.length ≤ 1000) :
    Calls Tryz.prog 98 #[.agg #[.string y.name, .string y.who, vS, vU, vP], .pointer (some ⟨p, 0, none⟩), .pointer (some ⟨q, 0, none⟩)] w fun e w' => e = .returned (.bool (instB s y.says t)) ∧ Below w.heap.size w w' := by
  have hbW : Below w.heap.size w (w.alloc (.cells #[.string y.name, .string y.who, vS, vU, vP] 41)) := (Below.refl _ _).alloc (Nat.le_refl _) _
  have EB0 := EB.new w y vS vU vP 41
  obtain ⟨W, hW⟩ : ∃ W, w.alloc (.cells #[.string y.name, .string y.who, vS, vU, vP] 41) = W := ⟨_, rfl⟩
  rw [hW] at hbW EB0
  have HI := hid (unify_Instance vs vS vt s y.says t W (hs.below hbW) ((hy.below hbW).s) (ht.below hbW) hs1)
  have hp' := cellB hp hbW
  have hq' := cellB hq hbW
  obtain ⟨sa, sk, rfl, -⟩ := hs.open
  obtain ⟨ta, tk, rfl, -⟩ := ht.open
  obtain ⟨ya, yk, rfl, -⟩ := hy.s.open
  have HW := hid hW
  have HB := hid hbW
  obtain ⟨c0, c1, c2, c3, c4⟩ := EB0
  clear hW hbW hp hq hs ht hy
  go_enter Tryz.func98, Tryz.ntmps98
  go_wp2_with (rw [HW.out])
  refine HI.out.mono ?_
  rintro e w1 ⟨rfl, hb1⟩
  go_wp2
  go_ret
  exact ⟨rfl, HB.out.trans (hb1.mono HB.out.size)⟩
theorem hit_range (s : Sg) (t : List Int) (l : List En) : (List.range l.length).any (fun i => instB s (l.getD i en0).says t) = hitL s t l := by
  have e1 : ∀ j (hj : j < l.length), l.getD j en0 = l[j] := fun j hj => by rw [List.getD_eq_getElem?_getD, List.getElem?_eq_getElem hj]; rfl
  unfold hitL
  rw [Bool.eq_iff_iff, List.any_eq_true, List.any_eq_true]
  constructor
  · rintro ⟨i, hi, h⟩
    have hi := List.mem_range.1 hi
    rw [e1 i hi] at h
    exact ⟨_, List.getElem_mem hi, h⟩
  · rintro ⟨x, hx, h⟩
    obtain ⟨i, hi, rfl⟩ := List.getElem_of_mem hx
    exact ⟨i, List.mem_range.2 hi, by rw [e1 i hi]; exact h⟩
theorem first_any (p q : Nat) (vs vt u : Value) (s : Sg) (t : List Int) (l : List En) (w X : World) (hb : Below w.heap.size w X) (hl : EntsAt X u l) (hs : SignAt w vs s) (ht : Ints w vt t) (hp : X.cell? ⟨p, 0, none⟩ = some vs) (hq : X.cell? ⟨q, 0, none⟩ = some vt) (hs1 : s.length ≤ 1000) :
    Calls Tryz.prog 84 #[u, .func (.func 98) #[] #[.pointer (some ⟨p, 0, none⟩), .pointer (some ⟨q, 0, none⟩)]] X fun e w' => e = .returned (.bool (hitL s t l)) ∧ Below X.heap.size X w' := by
  have := sl_ContainsFunc_ents 98 #[.pointer (some ⟨p, 0, none⟩), .pointer (some ⟨q, 0, none⟩)] (enters_of Tryz.func98 (by kernel_rfl) rfl) u l X hl (fun i => instB s (l.getD i en0).says t) (by
    intro i hi vs' vu vp Y hY he
    have e1 : l.getD i en0 = l[i] := by rw [List.getD_eq_getElem?_getD, List.getElem?_eq_getElem hi]; rfl
    simp only [e1]
    have hb2 := hb.trans (hY.mono hb.size)
    exact blame_First1 p q vs vt s t l[i] vs' vu vp Y he (hs.below hb2) (ht.below hb2) (cellB hp hY) (cellB hq hY) hs1)
  rw [hit_range] at this
  exact this
/-- what stands between two rounds: b .. b + 3 the boxes of the sign, the term and the results, nb that of the number. -/
structure FsI (w : World) (s : Sg) (cs : List Chg) (t : List Int) (vs vt : Value) (b nb : Nat) (pre : List EdE) (M O : Nat → Prop) (W : World) : Prop where
  z : ∀ y ∈ pre, y.2.2 = 0
  len : pre.length ≤ cs.length
  no : ∀ j, j < pre.length → hitL s t (stL [] (cs.take (j + 1))) = false
  bel : Below w.heap.size w W
  mm : M b ∧ M (b + 1) ∧ M (b + 2) ∧ M (b + 3) ∧ M nb
  mw : ∀ k, M k → w.heap.size ≤ k
  c3 : W.cell? ⟨b, 0, none⟩ = some vs
  c5 : W.cell? ⟨b + 1, 0, none⟩ = some vt
  c6 : ∃ v, W.cell? ⟨b + 2, 0, none⟩ = some v ∧ W.frozen? ⟨b + 2, 0, none⟩ = false
  c7 : ∃ v, W.cell? ⟨b + 3, 0, none⟩ = some v ∧ W.frozen? ⟨b + 3, 0, none⟩ = false
  cn : W.cell? ⟨nb, 0, none⟩ = some (.int .i64 pre.length) ∧ W.frozen? ⟨nb, 0, none⟩ = false
theorem FsI.kb {w : World} {s : Sg} {cs : List Chg} {t : List Int} {vs vt : Value} {B b nb : Nat} {F : Nat → Prop} {pre : List EdE} {M O O' R : Nat → Prop} {W W' : World} (h : FsI w s cs t vs vt b nb pre M O W) (hB : w.heap.size ≤ B) (hF : ∀ k, F k → w.heap.size ≤ k)
    (hk : Kb R W W') (hR : ∀ k, R k → ((B + 2 ≤ k ∨ F k) ∧ ¬ M k) ∨ (k = B + 1 ∧ ¬ M k)) : FsI w s cs t vs vt b nb pre M O' W' := by
  obtain ⟨a1, a2, a3, a4, a5, a6, c3, c5, ⟨v6, c6, f6⟩, ⟨v7, c7, f7⟩, cn, fn⟩ := h
  have keep : ∀ q, q < W.heap.size → M q → W'.heap[q]? = W.heap[q]? := fun q h1 h2 => hk.same q h1 (fun h => by rcases hR q h with h | h; exact h.2 h2; exact h.2 h2)
  have e3 := keep b (World.block_lt_of_cell? _ _ c3) a5.1
  have e5 := keep (b + 1) (World.block_lt_of_cell? _ _ c5) a5.2.1
  have e6 := keep (b + 2) (World.block_lt_of_cell? _ _ c6) a5.2.2.1
  have e7 := keep (b + 3) (World.block_lt_of_cell? _ _ c7) a5.2.2.2.1
  have en := keep nb (World.block_lt_of_cell? _ _ cn) a5.2.2.2.2
  refine ⟨a1, a2, a3, a4.trans (hk.below a4.size (fun k h => ?_)), a5, a6, cellHp c3 e3, cellHp c5 e5, ⟨v6, cellHp c6 e6, (World.frozen?_of_block e6).trans f6⟩, ⟨v7, cellHp c7 e7, (World.frozen?_of_block e7).trans f7⟩, cellHp cn en, (World.frozen?_of_block en).trans fn⟩
  rcases hR k h with ⟨h | h, -⟩ | h
  · omega
  · exact hF k h
  · omega
theorem FsI.grw {w : World} {s : Sg} {cs : List Chg} {t : List Int} {vs vt : Value} {B b nb : Nat} {F : Nat → Prop} (hB : w.heap.size ≤ B) (hF : ∀ k, F k → w.heap.size ≤ k) (pre : List EdE) : GrwF B F (FsI w s cs t vs vt b nb pre) :=
  ⟨fun M O O' W W' h hk hO' hO => h.kb hB hF hk (fun k hk => Or.inl (hO k hk)),
   fun M O W o o' ho hc h hm => h.kb hB hF (R := fun k => k = B + 1) (Kb.put (M := fun k => k = B + 1) _ rfl) (fun k hk => Or.inr ⟨hk, by rw [hk]; exact hm⟩)⟩
/-- how it ends early. -/
structure FsX (w : World) (s : Sg) (cs : List Chg) (t : List Int) (b : Nat) (c : Code) (pre : List EdE) (M O : Nat → Prop) (W : World) : Prop where
  ret : c = .ret
  bel : Below w.heap.size w W
  mm : M (b + 2) ∧ M (b + 3)
  mw : ∀ k, M k → w.heap.size ≤ k
  ans : ∃ n, W.cell? ⟨b + 2, 0, none⟩ = some (.int .i64 n) ∧ W.cell? ⟨b + 3, 0, none⟩ = some (.int .i64 0) ∧ firL s cs t = (n, 0)
theorem FsX.kb {w : World} {s : Sg} {cs : List Chg} {t : List Int} {B b : Nat} {F : Nat → Prop} {c : Code} {pre : List EdE} {M O O' R : Nat → Prop} {W W' : World} (h : FsX w s cs t b c pre M O W) (hB : w.heap.size ≤ B) (hF : ∀ k, F k → w.heap.size ≤ k)
    (hk : Kb R W W') (hR : ∀ k, R k → ((B + 2 ≤ k ∨ F k) ∧ ¬ M k) ∨ (k = B + 1 ∧ ¬ M k)) : FsX w s cs t b c pre M O' W' := by
  obtain ⟨a1, a4, a5, a6, n, c4, c5, hp⟩ := h
  have keep : ∀ q, q < W.heap.size → M q → W'.heap[q]? = W.heap[q]? := fun q h1 h2 => hk.same q h1 (fun h => by rcases hR q h with h | h; exact h.2 h2; exact h.2 h2)
  refine ⟨a1, a4.trans (hk.below a4.size (fun k h => ?_)), a5, a6, n, cellHp c4 (keep _ (World.block_lt_of_cell? _ _ c4) a5.1), cellHp c5 (keep _ (World.block_lt_of_cell? _ _ c5) a5.2), hp⟩
  rcases hR k h with ⟨h | h, -⟩ | h
  · omega
  · exact hF k h
  · omega
theorem FsX.grw {w : World} {s : Sg} {cs : List Chg} {t : List Int} {B b : Nat} {F : Nat → Prop} (hB : w.heap.size ≤ B) (hF : ∀ k, F k → w.heap.size ≤ k) (c : Code) (pre : List EdE) : GrwF B F (FsX w s cs t b c pre) :=
  ⟨fun M O O' W W' h hk hO' hO => h.kb hB hF hk (fun k hk => Or.inl (hO k hk)),
   fun M O W o o' ho hc h hm => h.kb hB hF (R := fun k => k = B + 1) (Kb.put (M := fun k => k = B + 1) _ rfl) (fun k hk => Or.inr ⟨hk, by rw [hk]; exact hm⟩)⟩
theorem box4p (w : World) (x1 x2 x3 x4 : Value) (t1 t2 t3 t4 : TypeId) {W : World} (hW : ((((w.alloc (.cells #[x1] t1)).alloc (.cells #[x2] t2)).alloc (.cells #[x3] t3)).alloc (.cells #[x4] t4)) = W) :
    BX W w.heap.size [x1] ∧ BX W (w.heap.size + 1) [x2] ∧ BX W (w.heap.size + 2) [x3] ∧ BX W (w.heap.size + 3) [x4] ∧ W.heap.size = w.heap.size + 4 ∧ Below w.heap.size w W := by
  obtain ⟨X, hX⟩ : ∃ X, W.alloc (.cells #[x4] t4) = X := ⟨_, rfl⟩
  obtain ⟨a1, a2, a3, a4, -, a5, a6⟩ := box5p w x1 x2 x3 x4 x4 t1 t2 t3 t4 t4 (W := X) (by rw [hW]; exact hX)
  have hz : W.heap.size = w.heap.size + 4 := by rw [← hW]; simp
  have hh : ∀ q, q < W.heap.size → X.heap[q]? = W.heap[q]? := fun q hq => by rw [← hX]; exact Below.heap_alloc _ _ _ hq
  have hb : Below w.heap.size w W := by rw [← hW]; exact ((((Below.refl _ _).alloc (Nat.le_refl _) _).alloc (by simp) _).alloc (by simp; omega) _).alloc (by simp; omega) _
  exact ⟨a1.block (hh _ (by omega)).symm, a2.block (hh _ (by omega)).symm, a3.block (hh _ (by omega)).symm, a4.block (hh _ (by omega)).symm, hz, hb⟩
theorem two_set (W : World) (b : Nat) (x y v6 v7 : Value) (c6 : W.cell? ⟨b + 2, 0, none⟩ = some v6) (c7 : W.cell? ⟨b + 3, 0, none⟩ = some v7) :
    ((W.setCell ⟨b + 2, 0, none⟩ x).setCell ⟨b + 3, 0, none⟩ y).cell? ⟨b + 2, 0, none⟩ = some x ∧ ((W.setCell ⟨b + 2, 0, none⟩ x).setCell ⟨b + 3, 0, none⟩ y).cell? ⟨b + 3, 0, none⟩ = some y := by
  have h1 : (W.setCell ⟨b + 2, 0, none⟩ x).cell? ⟨b + 2, 0, none⟩ = some x := World.cell?_setCell_same' _ _ _ (by rw [c6]; rfl)
  have h2 : (W.setCell ⟨b + 2, 0, none⟩ x).cell? ⟨b + 3, 0, none⟩ = some v7 := (World.cell?_of_block (Below.heap_setCell _ _ _ _ (by show b + 3 ≠ b + 2; omega))).trans c7
  exact ⟨(World.cell?_of_block (Below.heap_setCell _ _ _ _ (by show b + 2 ≠ b + 3; omega))).trans h1, World.cell?_setCell_same' _ _ _ (by rw [h2]; rfl)⟩
set_option maxHeartbeats 8000000 in
set_option maxRecDepth 100000 in
theorem blame_First (vs vc vt : Value) (s : Sg) (cs : List Chg) (t : List Int) (w : World) (hs : SignAt w vs s) (hc : ChsAt w vc cs) (ht : Ints w vt t) (hs1 : s.length ≤ 1000) :
    Calls Tryz.prog 45 #[vs, vc, vt] w fun e w' => e = .returned (.tuple #[.int .i64 (firL s cs t).1, .int .i64 (firL s cs t).2]) ∧ Below w.heap.size w w' := by
  have HSS := hid hs
  have HTT := hid ht
  obtain ⟨sa, sk, rfl, -⟩ := hs.open
  obtain ⟨ca, cc, rfl, -, hcl, -⟩ := hc.open
  obtain ⟨ta, tk, rfl, -⟩ := ht.open
  obtain ⟨V, hV⟩ : ∃ V, ((((w.alloc (.cells #[.slice sa s.length sk] 23)).alloc (.cells #[.slice ta t.length tk] 37)).alloc (.cells #[.int .i64 0] 3)).alloc (.cells #[.int .i64 0] 29)) = V := ⟨_, rfl⟩
  obtain ⟨v3, v5, v6, v7, hsz, hbV⟩ := box4p _ _ _ _ _ _ _ _ _ hV
  have HVD := hid (blame_valid _ _ s cs V (hs.below hbV) (hc.below hbV) hs1)
  have HTV := hid (fun (X : World) (hX : Below w.heap.size w X) => term_Valid _ _ s t X (hs.below hX) (ht.below hX) hs1 end_need)
  have HWH := hid (fun (X : World) (hX : Below w.heap.size w X) => blame_whole _ _ s cs X (hs.below hX) (hc.below hX) hs1)
  have HV := hid hV
  have HBV := hid hbV
  have HVZ := hid hsz
  have HCS := hid hc
  have HBOX := hid (fun (X : World) (hX : Below V.heap.size V X) => And.intro (v3.below (by simp) hX) (And.intro (v5.below (by simp) hX) (And.intro (v6.below (by simp) hX) (v7.below (by simp) hX))))
  have x3 : V.cell? ⟨w.heap.size, 0, none⟩ = some (.slice sa s.length sk) := v3.c 0 (by simp)
  have x5 : V.cell? ⟨w.heap.size + 1, 0, none⟩ = some (.slice ta t.length tk) := v5.c 0 (by simp)
  clear hV v3 v5 v6 v7 hsz hbV hc hs ht
  cases hva : (signB s && cs.all (chgB s)) with
  | false =>
    have HF := hid (firL_1 (s := s) (cs := cs) (t := t) (Or.inr hva))
    rw [hva] at HVD
    clear hva
    refine calls_marks Tryz.func45 rfl ?_
    simp only [Tryz.ntmps45, List.size_toArray, List.length_cons, List.length_nil, Nat.reduceAdd, Nat.reduceSub, Array.replicate_succ, Array.replicate_zero, List.push_toArray, List.append_toArray, List.nil_append, List.cons_append]
    go_wp2_with fail
    rw [HV.out]
    simp only [Nat.add_assoc, Nat.reduceAdd]
    refine HVD.out.mono ?_
    rintro e w1 ⟨rfl, hb1⟩
    clear x3 x5
    obtain ⟨-, -, b6, b7⟩ := HBOX.out w1 hb1
    have y6 : w1.cell? ⟨w.heap.size + 2, 0, none⟩ = some (.int .i64 0) := b6.c 0 (by simp)
    have y7 : w1.cell? ⟨w.heap.size + 3, 0, none⟩ = some (.int .i64 0) := b7.c 0 (by simp)
    have z6 : w1.frozen? ⟨w.heap.size + 2, 0, none⟩ = false := b6.z 0
    have z7 : w1.frozen? ⟨w.heap.size + 3, 0, none⟩ = false := b7.z 0
    obtain ⟨r6, r7⟩ := two_set w1 w.heap.size (.int .i64 0) (.int .i64 1) _ _ y6 y7
    obtain ⟨W9, hW9⟩ : ∃ W9, (w1.setCell ⟨w.heap.size + 2, 0, none⟩ (.int .i64 0)).setCell ⟨w.heap.size + 3, 0, none⟩ (.int .i64 1) = W9 := ⟨_, rfl⟩
    have HB9 : Hid (Below w.heap.size w W9) := hid (hW9 ▸ (Below.setCell (HBV.out.trans (hb1.mono HBV.out.size)) (p := ⟨w.heap.size + 2, 0, none⟩) (Nat.le_add_right _ _) _).setCell (p := ⟨w.heap.size + 3, 0, none⟩) (Nat.le_add_right _ _) _)
    rw [hW9] at r6 r7
    have HW9 := hid hW9
    clear b6 b7 hW9
    go_wp2
    rw [HW9.out]
    refine leave_none (v := .tuple #[.int .i64 0, .int .i64 1]) (by simp [results, Tryz.results45, go_sem, r6, r7]) ?_
    exact ⟨by rw [HF.out], HB9.out⟩
  | true =>
    rw [hva] at HVD
    clear hva
    cases htm : termB s t with
    | false =>
      have HF := hid (firL_1 (s := s) (cs := cs) (t := t) (Or.inl htm))
      simp only [htm] at HTV
      clear htm
      refine calls_marks Tryz.func45 rfl ?_
      simp only [Tryz.ntmps45, List.size_toArray, List.length_cons, List.length_nil, Nat.reduceAdd, Nat.reduceSub, Array.replicate_succ, Array.replicate_zero, List.push_toArray, List.append_toArray, List.nil_append, List.cons_append]
      go_wp2_with fail
      rw [HV.out]
      simp only [Nat.add_assoc, Nat.reduceAdd]
      refine HVD.out.mono ?_
      rintro e w1 ⟨rfl, hb1⟩
      have HB1 := hid (HBV.out.trans (hb1.mono HBV.out.size))
      have HBV1 := hid hb1
      have HT1 := hid (HTV.out w1 HB1.out)
      have y3 := cellB x3 hb1
      have y5 := cellB x5 hb1
      clear x3 x5 hb1
      go_wp2_with fail
      refine HT1.out.mono ?_
      rintro e w2 ⟨rfl, hb2⟩
      have HBV2 := hid (HBV1.out.trans (hb2.mono HBV1.out.size))
      have HB2 := hid (HB1.out.trans (hb2.mono HB1.out.size))
      clear y3 y5 hb2
      obtain ⟨-, -, b6, b7⟩ := HBOX.out w2 HBV2.out
      have y6 : w2.cell? ⟨w.heap.size + 2, 0, none⟩ = some (.int .i64 0) := b6.c 0 (by simp)
      have y7 : w2.cell? ⟨w.heap.size + 3, 0, none⟩ = some (.int .i64 0) := b7.c 0 (by simp)
      have z6 : w2.frozen? ⟨w.heap.size + 2, 0, none⟩ = false := b6.z 0
      have z7 : w2.frozen? ⟨w.heap.size + 3, 0, none⟩ = false := b7.z 0
      obtain ⟨r6, r7⟩ := two_set w2 w.heap.size (.int .i64 0) (.int .i64 1) _ _ y6 y7
      obtain ⟨W9, hW9⟩ : ∃ W9, (w2.setCell ⟨w.heap.size + 2, 0, none⟩ (.int .i64 0)).setCell ⟨w.heap.size + 3, 0, none⟩ (.int .i64 1) = W9 := ⟨_, rfl⟩
      have HB9 : Hid (Below w.heap.size w W9) := hid (hW9 ▸ (Below.setCell HB2.out (p := ⟨w.heap.size + 2, 0, none⟩) (Nat.le_add_right _ _) _).setCell (p := ⟨w.heap.size + 3, 0, none⟩) (Nat.le_add_right _ _) _)
      rw [hW9] at r6 r7
      have HW9 := hid hW9
      clear b6 b7 hW9
      go_wp2
      rw [HW9.out]
      refine leave_none (v := .tuple #[.int .i64 0, .int .i64 1]) (by simp [results, Tryz.results45, go_sem, r6, r7]) ?_
      exact ⟨by rw [HF.out], HB9.out⟩
    | true =>
      simp only [htm] at HTV
      have HTM := hid htm
      clear htm
      by_cases h0 : (wholeL s cs).2 = 0
      case neg =>
        have HF := hid (firL_2 h0 HTM.out)
        have n0 : ((wholeL s cs).2 != 0) = true := by simpa using h0
        obtain ⟨er, her⟩ : ∃ er, (wholeL s cs).2 = er := ⟨_, rfl⟩
        simp only [her] at HF n0 HWH
        clear h0 her
        refine calls_marks Tryz.func45 rfl ?_
        simp only [Tryz.ntmps45, List.size_toArray, List.length_cons, List.length_nil, Nat.reduceAdd, Nat.reduceSub, Array.replicate_succ, Array.replicate_zero, List.push_toArray, List.append_toArray, List.nil_append, List.cons_append]
        go_wp2_with fail
        rw [HV.out]
        simp only [Nat.add_assoc, Nat.reduceAdd]
        refine HVD.out.mono ?_
        rintro e w1 ⟨rfl, hb1⟩
        have HB1 := hid (HBV.out.trans (hb1.mono HBV.out.size))
        have HBV1 := hid hb1
        have HT1 := hid (HTV.out w1 HB1.out)
        have y3 := cellB x3 hb1
        have y5 := cellB x5 hb1
        clear hb1 x3 x5
        go_wp2_with fail
        refine HT1.out.mono ?_
        rintro e w2 ⟨rfl, hb2⟩
        have HBV2 := hid (HBV1.out.trans (hb2.mono HBV1.out.size))
        have HB2 := hid (HB1.out.trans (hb2.mono HB1.out.size))
        have x3 := cellB y3 hb2
        have HW2 := hid (HWH.out w2 HB2.out)
        clear y3 y5 hb2
        go_wp2_with fail
        refine HW2.out.mono ?_
        rintro e w3 ⟨u3, rfl, hu3, hb3⟩
        obtain ⟨ua, uc, rfl, -⟩ := hu3.open
        have HBV3 := hid (HBV2.out.trans (hb3.mono HBV2.out.size))
        have HB3 := hid (HB2.out.trans (hb3.mono HB2.out.size))
        clear hb3 hu3 x3
        obtain ⟨-, -, b6, b7⟩ := HBOX.out w3 HBV3.out
        have y6 : w3.cell? ⟨w.heap.size + 2, 0, none⟩ = some (.int .i64 0) := b6.c 0 (by simp)
        have y7 : w3.cell? ⟨w.heap.size + 3, 0, none⟩ = some (.int .i64 0) := b7.c 0 (by simp)
        have z6 : w3.frozen? ⟨w.heap.size + 2, 0, none⟩ = false := b6.z 0
        have z7 : w3.frozen? ⟨w.heap.size + 3, 0, none⟩ = false := b7.z 0
        obtain ⟨r6, r7⟩ := two_set w3 w.heap.size (.int .i64 0) (.int .i64 er) _ _ y6 y7
        obtain ⟨W9, hW9⟩ : ∃ W9, (w3.setCell ⟨w.heap.size + 2, 0, none⟩ (.int .i64 0)).setCell ⟨w.heap.size + 3, 0, none⟩ (.int .i64 er) = W9 := ⟨_, rfl⟩
        have HB9 : Hid (Below w.heap.size w W9) := hid (hW9 ▸ (Below.setCell HB3.out (p := ⟨w.heap.size + 2, 0, none⟩) (Nat.le_add_right _ _) _).setCell (p := ⟨w.heap.size + 3, 0, none⟩) (Nat.le_add_right _ _) _)
        rw [hW9] at r6 r7
        have HW9 := hid hW9
        clear b6 b7 hW9
        go_wp2
        rw [HW9.out]
        refine leave_none (v := .tuple #[.int .i64 0, .int .i64 er]) (by simp [results, Tryz.results45, go_sem, r6, r7]) ?_
        exact ⟨by rw [HF.out], HB9.out⟩
      have HHIT := hid (fun (k : Nat) (hk : k < cs.length) (hh : hitL s t (stL [] (cs.take (k + 1))) = true) (hn : ∀ j, j < k → hitL s t (stL [] (cs.take (j + 1))) = false) => firL_hit h0 HTM.out hk hh hn)
      have HNO := hid (fun (hn : ∀ j, j < cs.length → hitL s t (stL [] (cs.take (j + 1))) = false) => firL_no h0 HTM.out hn)
      have HOK := hid (whole_ok h0)
      have HLS := hid (lstL_ok.1 HOK.out.1)
      have HPA := hid ((play_all cs [] 0 HOK.out.2.1).1)
      simp only [h0] at HWH
      clear h0
      refine calls_marks Tryz.func45 rfl ?_
      simp only [Tryz.ntmps45, List.size_toArray, List.length_cons, List.length_nil, Nat.reduceAdd, Nat.reduceSub, Array.replicate_succ, Array.replicate_zero, List.push_toArray, List.append_toArray, List.nil_append, List.cons_append]
      go_wp2_with fail
      rw [HV.out]
      simp only [Nat.add_assoc, Nat.reduceAdd]
      refine HVD.out.mono ?_
      rintro e w1 ⟨rfl, hb1⟩
      have HB1 := hid (HBV.out.trans (hb1.mono HBV.out.size))
      have HBV1 := hid hb1
      have HT1 := hid (HTV.out w1 HB1.out)
      have y3 := cellB x3 hb1
      have y5 := cellB x5 hb1
      clear hb1 x3 x5
      go_wp2_with fail
      refine HT1.out.mono ?_
      rintro e w2 ⟨rfl, hb2⟩
      have HBV2 := hid (HBV1.out.trans (hb2.mono HBV1.out.size))
      have HB2 := hid (HB1.out.trans (hb2.mono HB1.out.size))
      have x3 := cellB y3 hb2
      have HW2 := hid (HWH.out w2 HB2.out)
      clear y3 y5 hb2 HVD HTV HWH HT1
      go_wp2_with fail
      refine HW2.out.mono ?_
      rintro e w3 ⟨u3, rfl, hu3, hb3⟩
      obtain ⟨ua, uc, rfl, -⟩ := hu3.open
      have HBV3 := hid (HBV2.out.trans (hb3.mono HBV2.out.size))
      have HB3 := hid (HB2.out.trans (hb3.mono HB2.out.size))
      clear hb3 hu3 x3 HW2
      obtain ⟨X4, hX4⟩ : ∃ X4, w3.alloc (.cells #[.int .i64 0] 3) = X4 := ⟨_, rfl⟩
      have hN4 : BX X4 w3.heap.size [.int .i64 0] := by rw [← hX4]; exact BX.new w3 [.int .i64 0] 3
      have hb4 : Below w3.heap.size w3 X4 := hX4 ▸ (Below.refl _ _).alloc (Nat.le_refl _) _
      have hz4 : X4.heap.size = w3.heap.size + 1 := by rw [← hX4]; simp
      have HX4 := hid hX4
      have HN4 := hid hN4
      have HB4 := hid hb4
      have HZ4 := hid hz4
      clear hX4 hN4 hb4 hz4
      go_wp2_with (go_at_call 97; rw [HX4.out]; refine (blame_editions _ _ _ _ _ _ _).mono ?_; rintro e w8 ⟨rfl, hw8⟩)
      have hz4 := HZ4.out
      have hz8 : w8.heap.size = X4.heap.size + 2 := by rw [← hw8]; simp
      have hb8 : Below X4.heap.size X4 w8 := by rw [← hw8]; exact ((Below.refl _ _).alloc (Nat.le_refl _) _).alloc (by simp) _
      have hL8 : BX w8 X4.heap.size [.slice none 0 0] := by
        rw [← hw8]
        exact (BX.new X4 [.slice none 0 0] 24).below (by simp) ((Below.refl _ _).alloc (Nat.le_refl _) _)
      have hC8 : BX w8 (X4.heap.size + 1) [.slice ca cs.length cc] := by
        have := BX.new (X4.alloc (.cells #[.slice none 0 0] 24)) [.slice ca cs.length cc] 25
        rw [World.size_alloc] at this
        rw [← hw8]
        exact this
      have hvz := HVZ.out
      have hv3 := HBV3.out.size
      have hbV8 := HBV3.out.trans ((HB4.out.trans (hb8.mono HB4.out.size)).mono hv3)
      have hbw8 := HB3.out.trans ((HB4.out.trans (hb8.mono HB4.out.size)).mono HB3.out.size)
      obtain ⟨k3, k5, k6, k7⟩ := HBOX.out w8 hbV8
      have kn := HN4.out.below (by simp) hb8
      have HSQ := hid (editions_seq (fun k => k < w.heap.size) X4.heap.size (X4.heap.size + 1) (.slice none 0 0) (.slice ca cs.length cc) s [] cs w8 (edB_nil HLS.out.1) HLS.out.2.1
        (fun W' hW' => ⟨HCS.out.heap fun q hq => (hW' q hq (by omega)).trans (hbw8.block q hq), EntsAt.nil _⟩)
        (fun q hq => by omega) (fun h => by omega) (hL8.c 0 (by simp)) (hL8.z 0) (hC8.c 0 (by simp)))
      have HST : Hid (FsI w s cs t (.slice sa s.length sk) (.slice ta t.length tk) w.heap.size w3.heap.size [] (fun k => (w.heap.size ≤ k ∧ k < w.heap.size + 4) ∨ k = w3.heap.size) (fun k => k = X4.heap.size) w8) :=
        hid ⟨by simp, by simp, fun j hj => by simp at hj, hbw8, ⟨by omega, by omega, by omega, by omega, by omega⟩, fun k hk => by omega, k3.c 0 (by simp), k5.c 0 (by simp), ⟨_, k6.c 0 (by simp), k6.z 0⟩, ⟨_, k7.c 0 (by simp), k7.z 0⟩, kn.c 0 (by simp), kn.z 0⟩
      have HZ := hid (show w8.heap.size = X4.heap.size + 2 ∧ X4.heap.size = w3.heap.size + 1 ∧ V.heap.size ≤ w3.heap.size ∧ V.heap.size = w.heap.size + 4 from ⟨hz8, hz4, hv3, hvz⟩)
      clear k3 k5 k6 k7 kn hL8 hC8 hb8 hw8 hbw8 hbV8
      obtain ⟨z8, z4, zv, z5⟩ := HZ.out
      refine wpIn_wide.1 (wpIn_rangeF (F := fun k => k = X4.heap.size) (gf := 142) (lb := #[.pointer (some ⟨X4.heap.size + 1, 0, none⟩), .pointer (some ⟨X4.heap.size, 0, none⟩)]) rfl (enters_of Tryz.func142 rfl rfl) (encs := edX) (E := edE cs []) (S := edS cs)
        (N := fun k => (k < w.heap.size) ∨ k = X4.heap.size ∨ k = X4.heap.size + 1) (w0 := w8) HSQ.out (Below.refl _ _) (fun _ => rfl) ?_ ?_ ?_
        (fun pre => FsI w s cs t (.slice sa s.length sk) (.slice ta t.length tk) w.heap.size w3.heap.size pre) (fun c pre => FsX w s cs t w.heap.size c pre)
        (fun k => (w.heap.size ≤ k ∧ k < w.heap.size + 4) ∨ k = w3.heap.size) ?_ (fun pre => FsI.grw (by omega) (fun k hk => by omega) pre) (fun c pre => FsX.grw (by omega) (fun k hk => by omega) c pre) HST.out (fun k hk => Or.inr (Or.inl hk)) ?_ ?_ ?_)
      case refine_1 =>
        rintro pre x M O W k o o' ⟨h1, h2, h3, h4⟩ hk ho hc
        exact ⟨h1, h2, h3, h4.turn (Kb.put (M := fun k => M k ∨ O k) _ (Or.inl hk)) (fun k h => Or.inl h)⟩
      case refine_2 =>
        rintro pre x M O A B ⟨h1, h2, h3, h4⟩ hb
        exact ⟨h1, h2, h3, h4.grow hb⟩
      case refine_3 => rintro k (h | rfl | rfl) <;> omega
      case refine_4 => rintro k hk; exact ⟨by rintro (h | h | h) <;> omega, by omega⟩
      case refine_5 =>
        clear HST HSQ
        rintro l' pre ⟨xv, xr, xe⟩ M O W hsW hM hO hturn
        simp only [edX]
        obtain ⟨xa, xn, xc, rfl⟩ : ∃ xa xn xc, xv = .slice xa xn xc := by
          obtain ⟨-, ⟨-, -, h, -⟩, -⟩ := hturn W (W.putObj (w8.heap.size + 1) (.deferred none)) (Below.refl _ _) ⟨_, rfl⟩
          exact h
        gi_wp2
        refine ⟨Below.refl _ _, fun W2 hT2 => ?_⟩
        obtain ⟨hI2, ⟨e1, ⟨hlt, e2⟩, -, e4⟩, hs2⟩ := hturn _ W2 (Below.refl _ _) hT2
        dsimp only at e2 e4
        obtain ⟨a1, a2, a3, a4, a5, a6, c3, c5, ⟨v6, c6, f6⟩, ⟨v7, c7, f7⟩, cn, fn⟩ := hI2
        have hlt : pre.length < cs.length := hlt
        have hx0 : xe = 0 := by
          have h1 := HPA.out pre.length hlt
          rw [← e2] at h1; exact h1
        have hst : stL [] (cs.take (pre.length + 1)) = xr := by rw [stL_take hlt, ← e2]
        subst hx0
        have hsz2 : W2.heap.size = W.heap.size := hs2
        have hne2 : w3.heap.size ≠ w.heap.size ∧ w3.heap.size ≠ w.heap.size + 1 ∧ w3.heap.size ≠ w.heap.size + 2 ∧ w3.heap.size ≠ w.heap.size + 3 := by omega
        have y7 : (pre.length : Int) ≤ 140737488355328 := by omega
        obtain ⟨W3, hW3⟩ : ∃ W3, W2.setCell ⟨w3.heap.size, 0, none⟩ (.int .i64 ((pre.length : Int) + 1)) = W3 := ⟨_, rfl⟩
        have oth : ∀ q, q ≠ w3.heap.size → W3.heap[q]? = W2.heap[q]? := fun q h1 => by rw [← hW3]; exact Below.heap_setCell _ _ _ _ h1
        have k23 : Kb M W2 W3 := hW3 ▸ Kb.setCell (M := M) _ a5.2.2.2.2
        have d3 : W3.cell? ⟨w.heap.size, 0, none⟩ = some (.slice sa s.length sk) := cellHp c3 (oth w.heap.size (by omega))
        have d5 : W3.cell? ⟨w.heap.size + 1, 0, none⟩ = some (.slice ta t.length tk) := cellHp c5 (oth (w.heap.size + 1) (by omega))
        have d6 := cellHp c6 (oth (w.heap.size + 2) (by omega))
        have d7 := cellHp c7 (oth (w.heap.size + 3) (by omega))
        have g6 := (World.frozen?_of_block (oth (w.heap.size + 2) (by omega))).trans f6
        have g7 := (World.frozen?_of_block (oth (w.heap.size + 3) (by omega))).trans f7
        have dn : W3.cell? ⟨w3.heap.size, 0, none⟩ = some (.int .i64 ((pre.length : Int) + 1)) := by rw [← hW3]; exact World.cell?_setCell_same' _ _ _ (by rw [cn]; rfl)
        have gn : W3.frozen? ⟨w3.heap.size, 0, none⟩ = false := by rw [← hW3]; exact (World.frozen?_setCell _ _ _ _).trans fn
        have hb3 : Below w.heap.size w W3 := a4.trans (k23.below a4.size a6)
        have hE3 : EntsAt W3 (.slice xa xn xc) xr := e4 W3 (k23.mono (M' := fun k => (M k ∨ k = w8.heap.size + 1) ∨ O k) (fun k _ h => Or.inl (Or.inl h)))
        have HFA := hid (first_any w.heap.size (w.heap.size + 1) _ _ _ s t xr w W3 hb3 hE3 HSS.out HTT.out d3 d5 hs1)
        obtain ⟨zz, hzz⟩ : ∃ zz, hitL s t xr = zz := ⟨_, rfl⟩
        rw [hzz] at HFA
        have A1 := hid a1
        have A3 := hid a3
        have A5 := hid a5
        have A6 := hid a6
        have HM := hid hM
        have HS2 := hid hsz2
        have HST := hid hst
        have HZZ := hid hzz
        have HW3 := hid hW3
        have K23 := hid k23
        have HB3' := hid hb3
        have HBX3 := hid (fun (X : World) (hX : Below W3.heap.size W3 X) => And.intro (cellB d3 hX) (And.intro (cellB d5 hX) (And.intro (cellB d6 hX) (And.intro (cellB d7 hX) (And.intro ((hX.frozen (p := ⟨w.heap.size + 2, 0, none⟩) (World.block_lt_of_cell? _ _ d6)).trans g6) (And.intro ((hX.frozen (p := ⟨w.heap.size + 3, 0, none⟩) (World.block_lt_of_cell? _ _ d7)).trans g7) (And.intro (cellB dn hX) ((hX.frozen (p := ⟨w3.heap.size, 0, none⟩) (World.block_lt_of_cell? _ _ dn)).trans gn))))))))
        clear e1 e2 e4 a1 a3 a4 a5 a6 hturn hT2 hs2 hO hM hsz2 hst hzz hW3 oth k23 hb3 hE3 d6 d7 g6 g7 gn c6 c7 f6 f7
        gi_wp2_with (first | rw [HW3.out])
        refine ⟨trivial, (callsIn_wide.2 HFA.out).mono ?_⟩
        rintro e W4 ⟨rfl, hb4⟩
        obtain ⟨d3', d5', d6, d7, g6, g7, dn', gn⟩ := HBX3.out W4 hb4
        have K24 : Hid (Kb M W2 W4) := hid ((K23.out.trans (Kb.of_below hb4) (fun k hk => Or.inl hk)))
        have HB4' := hid (HB3'.out.trans (hb4.mono HB3'.out.size))
        clear hb4 d3 d5 dn c3 c5 cn fn
        cases zz
        case false =>
          have HP : Hid (FsI w s cs t (.slice sa s.length sk) (.slice ta t.length tk) w.heap.size w3.heap.size (pre ++ [((.slice xa xn xc, xr, 0) : EdE)]) M O W4) := hid (by
            refine ⟨fun y hy => ?_, by rw [List.length_append, List.length_singleton]; omega, fun j hj => ?_, HB4'.out, A5.out, A6.out, d3', d5', ⟨_, d6, g6⟩, ⟨_, d7, g7⟩, by rw [List.length_append, List.length_singleton]; exact dn', gn⟩
            · rcases List.mem_append.1 hy with h | h
              · exact A1.out y h
              · simp at h; rw [h]
            · rw [List.length_append, List.length_singleton] at hj
              by_cases e : j = pre.length
              · subst e; rw [HST.out]; exact HZZ.out
              · exact A3.out j (by omega))
          clear d6 d7 g6 g7 gn
          gi_wp2
          exact ⟨M, fun k hk => ⟨Or.inl hk, by have := (HM.out k hk).2.2.1; have := HS2.out; have := K24.out.size; omega⟩, K24.out.mono (fun k _ hk => Or.inl hk), HP.out⟩
        case true =>
          obtain ⟨r6, r7⟩ := two_set W4 w.heap.size (.int .i64 ((pre.length : Int) + 1)) (.int .i64 0) _ _ d6 d7
          obtain ⟨W5, hW5⟩ : ∃ W5, (W4.setCell ⟨w.heap.size + 2, 0, none⟩ (.int .i64 ((pre.length : Int) + 1))).setCell ⟨w.heap.size + 3, 0, none⟩ (.int .i64 0) = W5 := ⟨_, rfl⟩
          have K25 : Hid (Kb M W2 W5) := hid (hW5 ▸ ((K24.out.trans (Kb.setCell (M := M) _ A5.out.2.2.1) (fun k hk => Or.inl hk)).trans (Kb.setCell (M := M) _ A5.out.2.2.2.1) (fun k hk => Or.inl hk)))
          rw [hW5] at r6 r7
          have hbw5 : Below w.heap.size w W5 := hW5 ▸ (HB4'.out.setCell (p := ⟨w.heap.size + 2, 0, none⟩) (Nat.le_add_right _ _) _).setCell (p := ⟨w.heap.size + 3, 0, none⟩) (Nat.le_add_right _ _) _
          have HX : Hid (FsX w s cs t w.heap.size .ret (pre ++ [((.slice xa xn xc, xr, 0) : EdE)]) M O W5) := hid ⟨rfl, hbw5, ⟨A5.out.2.2.1, A5.out.2.2.2.1⟩, A6.out, _, r6, r7, by
            have := HHIT.out pre.length hlt (by rw [HST.out]; exact HZZ.out) A3.out
            rw [this]; rfl⟩
          have HW5 := hid hW5
          clear hW5 hbw5 r6 r7
          gi_wp2
          (try rw [HW5.out])
          exact ⟨M, fun k hk => ⟨Or.inl hk, by have := (HM.out k hk).2.2.1; have := HS2.out; have := K25.out.size; omega⟩, K25.out.mono (fun k _ hk => Or.inl hk), HX.out⟩
      case refine_6 =>
        rintro xs M O W hxs hI hD hMD
        obtain ⟨a1, a2, a3, a4, a5, a6, c3, c5, ⟨v6, c6, f6⟩, ⟨v7, c7, f7⟩, cn, fn⟩ := hI
        have hlen : xs.length = cs.length := by
          rcases hxs with h | ⟨y, hy, h⟩
          · exact h
          · exact absurd (a1 y hy) h
        have HF := hid (HNO.out fun j hj => a3 j (by omega))
        obtain ⟨r6, r7⟩ := two_set W w.heap.size (.int .i64 0) (.int .i64 8) _ _ c6 c7
        obtain ⟨W5, hW5⟩ : ∃ W5, (W.setCell ⟨w.heap.size + 2, 0, none⟩ (.int .i64 0)).setCell ⟨w.heap.size + 3, 0, none⟩ (.int .i64 8) = W5 := ⟨_, rfl⟩
        have hbw5 : Below w.heap.size w W5 := hW5 ▸ (a4.setCell (p := ⟨w.heap.size + 2, 0, none⟩) (Nat.le_add_right _ _) _).setCell (p := ⟨w.heap.size + 3, 0, none⟩) (Nat.le_add_right _ _) _
        rw [hW5] at r6 r7
        have hD' : W5.heap[w8.heap.size]? = some (.deferred (some [])) := by
          rw [← hW5]
          exact ((Below.heap_setCell _ _ _ _ (by show w8.heap.size ≠ w.heap.size + 3; omega)).trans (Below.heap_setCell _ _ _ _ (by show w8.heap.size ≠ w.heap.size + 2; omega))).trans hD
        have HB := hid (putObj_below (.deferred none) hbw5 (by omega : w.heap.size ≤ w8.heap.size))
        have HDD := hid hD'
        have e1 := putObj_cell (o' := .deferred none) hD' rfl r6
        have e2 := putObj_cell (o' := .deferred none) hD' rfl r7
        have HW5 := hid hW5
        clear hD' hD a1 a2 a3 a4 a5 a6 c3 c5 cn fn r6 r7 hW5 hbw5
        go_wp2
        rw [HW5.out]
        refine leave_mark (v := .tuple #[.int .i64 0, .int .i64 8]) HDD.out (by simp [results, Tryz.results45, go_sem, e1, e2]) ?_
        exact ⟨by rw [HF.out], HB.out⟩
      case refine_7 =>
        rintro c pre M O W hX hD hMD
        obtain ⟨rfl, a4, a5, a6, n, c4, c5, hfir⟩ := hX
        have HB := hid (putObj_below (.deferred none) a4 (by omega : w.heap.size ≤ w8.heap.size))
        have HF := hid hfir
        have e1 := putObj_cell (o' := .deferred none) hD rfl c4
        have e2 := putObj_cell (o' := .deferred none) hD rfl c5
        clear c4 c5 hfir a4
        gi_wp2
        refine leave_mark (v := .tuple #[.int .i64 n, .int .i64 0]) hD (by simp [results, Tryz.results45, go_sem, e1, e2]) ?_
        exact ⟨by rw [HF.out], HB.out⟩
end Go.Proofs.YtlbjbmpkaniojaaGreat
namespace Go.Proofs.YtlbjbmpkaniojaaGreat
open Go Go.RowKit Go.Maps
theorem at_all {s : Sg} {cs : List Chg} (h : (wholeL s cs).2 = 0) : atL s cs cs.length = ((playL [] cs 0).1, 0) := by
  obtain ⟨h1, h2, -⟩ := whole_ok h
  unfold atL
  rw [if_pos h1, if_neg (by omega), Int.toNat_natCast, List.take_length, h2]
theorem blameL_ok {s : Sg} {cs : List Chg} (h : (blameL s cs).2 = 0) : (wholeL s cs).2 = 0 ∧ (blameL s cs).1 = srMk (mkAll cs) := by
  rw [blameL_w] at h ⊢
  by_cases e : (wholeL s cs).2 = 0
  · rw [if_pos e]; exact ⟨e, rfl⟩
  · rw [if_neg e] at h; exact absurd h e
set_option maxHeartbeats 4000000 in
set_option maxRecDepth 100000 in
theorem walk_BlameMarks (vs vl vc vt : Value) (s : Sg) (l : List En) (cs : List Chg) (nm by_ : Nm) (t : List Int) (w : World) (hs : SignAt w vs s) (hl : EntsAt w vl l) (hc : ChsAt w vc cs) (hnm : nm.size ≤ 140737488355328) (hby : by_.size ≤ 140737488355328) (ht : Ints w vt t) :
    Calls Tryz.prog 7 #[vs, vl, vc, .string nm, .string by_, vt] w fun e w' => e = .returned (.bool true) ∧ Below w.heap.size w w' := by
  have HAW := hid (law9_awake w)
  have HS := hid hs
  have HL := hid hl
  have HC := hid hc
  have HT := hid ht
  have HHV := hid (fun (X : World) (hX : Below w.heap.size w X) => law9_heavy _ _ s l X (hs.below hX) (hl.below hX))
  have HMN := hid (fun (X : World) (hX : Below w.heap.size w X) => law9_many _ cs X (hc.below hX))
  obtain ⟨sp, sc, rfl, -, hsl, -⟩ := hs.open
  obtain ⟨lp, lc, rfl, -, hll, -⟩ := hl.open
  obtain ⟨ca, cc, rfl, hcap, hcl, hcz, -⟩ := hc.open
  obtain ⟨tp, tc, rfl, -⟩ := ht.open
  clear hs hl hc ht
  go_enter Tryz.func7, Tryz.ntmps7
  go_wp2_with fail
  refine HAW.out.mono ?_
  rintro e w1 ⟨rfl, hb1⟩
  have HB1 := hid hb1
  have HH1 := hid (HHV.out w1 hb1)
  clear hb1 HAW HHV
  go_wp2_with fail
  refine HH1.out.mono ?_
  rintro e w2 ⟨z, rfl, hz, hb2⟩
  have HB2 := hid (HB1.out.trans (hb2.mono HB1.out.size))
  clear hb2 HH1
  cases z
  case true =>
    go_wp2
    go_ret
    exact ⟨rfl, HB2.out⟩
  obtain ⟨hs20, hl70⟩ := hz rfl
  have HM2 := hid (HMN.out w2 HB2.out)
  clear HMN hz
  go_wp2_with fail
  refine HM2.out.mono ?_
  rintro e w3 ⟨z2, rfl, -, hb3⟩
  have HB3 := hid (HB2.out.trans (hb3.mono HB2.out.size))
  clear hb3 HM2
  cases z2
  case true =>
    go_wp2
    go_ret
    exact ⟨rfl, HB3.out⟩
  by_cases hw1 : 100 < nm.size
  case pos =>
    go_wp2
    go_ret
    exact ⟨rfl, HB3.out⟩
  by_cases hw2 : 100 < by_.size
  case pos =>
    go_wp2
    go_ret
    exact ⟨rfl, HB3.out⟩
  by_cases hw3 : 100 < t.length
  case pos =>
    go_wp2
    go_ret
    exact ⟨rfl, HB3.out⟩
  have F1 := hid (fun (X : World) (hX : Below w.heap.size w X) => blame_Blame _ _ s cs X (HS.out.below hX) (HC.out.below hX) (by omega))
  have F2 := hid (fun (X : World) (hX : Below w.heap.size w X) => ref9_Blame _ _ s cs X (HS.out.below hX) (HC.out.below hX) (by omega))
  have F3 := hid (fun (X : World) (hX : Below w.heap.size w X) => blame_By _ _ s l by_ X (HS.out.below hX) (HL.out.below hX) hby (by omega) (by omega))
  have F4 := hid (fun (X : World) (hX : Below w.heap.size w X) => ref9_By _ _ s l by_ X (HS.out.below hX) (HL.out.below hX) hby (by omega) (by omega))
  have F5 := hid (fun (X : World) (hX : Below w.heap.size w X) => blame_History _ _ s cs nm X (HS.out.below hX) (HC.out.below hX) (by omega) hnm)
  have F6 := hid (fun (X : World) (hX : Below w.heap.size w X) => ref9_History _ _ s cs nm X (HS.out.below hX) (HC.out.below hX) (by omega) hnm)
  have F7 := hid (fun (X : World) (hX : Below w.heap.size w X) => blame_First _ _ _ s cs t X (HS.out.below hX) (HC.out.below hX) (HT.out.below hX) (by omega))
  have F8 := hid (fun (X : World) (hX : Below w.heap.size w X) => ref9_First _ _ _ s cs t X (HS.out.below hX) (HC.out.below hX) (HT.out.below hX) (by omega))
  have F9 := hid (fun (X : World) (hX : Below w.heap.size w X) => blame_At _ _ s cs cs.length X (HS.out.below hX) (HC.out.below hX) (by omega))
  have HOK := hid (fun (h : (blameL s cs).2 = 0) => (show (blameL s cs).1.map Prod.fst = (atL s cs cs.length).1.map En.name ∧ (atL s cs cs.length).2 = 0 from by
    obtain ⟨g1, g2⟩ := blameL_ok h
    obtain ⟨k1, k2, k3⟩ := whole_ok g1
    rw [at_all g1, g2]
    exact ⟨blame_names (lstL_ok.1 k1).1 (lstL_ok.1 k1).2.1 k2, rfl⟩))
  obtain ⟨A, e1, hA⟩ : ∃ A e1, blameL s cs = (A, e1) := ⟨_, _, rfl⟩
  obtain ⟨T, e2, hT⟩ : ∃ T e2, byL s l by_ = (T, e2) := ⟨_, _, rfl⟩
  obtain ⟨H, e3, hH⟩ : ∃ H e3, histL s cs nm = (H, e3) := ⟨_, _, rfl⟩
  obtain ⟨n4, e4, hN⟩ : ∃ n4 e4, firL s cs t = (n4, e4) := ⟨_, _, rfl⟩
  obtain ⟨P, e5, hP⟩ : ∃ P e5, atL s cs cs.length = (P, e5) := ⟨_, _, rfl⟩
  simp only [hA] at F1 F2 HOK
  simp only [hT] at F3 F4
  simp only [hH] at F5 F6
  simp only [hN] at F7 F8
  simp only [hP] at F9 HOK
  clear hA hT hH hN hP
  have G3 := hid (F1.out w3 HB3.out)
  go_wp2_with fail
  refine G3.out.mono ?_
  rintro e w4 ⟨u4, rfl, hu4, hb4⟩
  have HB4 := hid (HB3.out.trans (hb4.mono HB3.out.size))
  have HU4 := hid hu4
  obtain ⟨a4, c4, rfl, -, hA4, -⟩ := hu4.open
  have G4 := hid (F2.out w4 HB4.out)
  clear hb4 hu4 G3 F1
  go_wp2_with fail
  refine G4.out.mono ?_
  rintro e w5 ⟨u5, rfl, hu5, hb5⟩
  have HB5 := hid (HB4.out.trans (hb5.mono HB4.out.size))
  have HU4 := hid (HU4.out.below hb5)
  have HU5 := hid hu5
  obtain ⟨a5, c5, rfl, -⟩ := hu5.open
  clear hb5 hu5 G4 F2
  have hne : (((A.length : Nat) : Int) != (A.length : Int)) = false := by simp
  have hne1 : (e1 != e1) = false := by simp
  go_wp2
  go_loopw [17] (fun kv wr => ∃ (k q : Nat), k ≤ A.length ∧ kv = .int .i64 k ∧ wr = w5.drewN q) (fun kv _ => A.length - (intOf kv).toNat)
  case atStart => exact ⟨0, 0, by omega, rfl, rfl⟩
  case round =>
    obtain ⟨k, q, hk, rfl, hwq⟩ := hrel
    have hbq : Below w5.heap.size w5 wr := hwq ▸ below_self_drewN _ _
    have HWQ := hid hwq
    clear hwq
    by_cases hlt : k < A.length
    · obtain ⟨a4', c4', e', -, -, ZA⟩ := (HU4.out.below hbq).open
      cases e'
      obtain ⟨a5', c5', e', -, -, ZB⟩ := (HU5.out.below hbq).open
      cases e'
      obtain ⟨b, o, rfl, x0, x1, x2⟩ := ZA k hlt
      obtain ⟨b', o', rfl, y0, y1, y2⟩ := ZB k hlt
      obtain ⟨⟨m1, m2, m3⟩, hm⟩ : ∃ x, A[k] = x := ⟨_, rfl⟩
      rw [hm] at x0 x1 x2 y0 y1 y2
      dsimp only at x0 x1 x2 y0 y1 y2
      clear ZA ZB hm
      go_wp2
      go_quiet (fail)
      go_wp2
      go_roundw
      case rel => exact ⟨k + 1, _, by omega, by go_num, by rw [HWQ.out, World.drewN_drewN]⟩
      case measure => simp [intOf]; omega
    · have HBQ := hid hbq
      clear hbq
      have HB6 := hid (HB5.out.trans (HBQ.out.mono HB5.out.size))
      have HU6 := hid (HU4.out.below HBQ.out)
      have G6 := hid (F3.out wr HB6.out)
      clear HU4 HU5 F3
      go_wp2_with fail
      refine G6.out.mono ?_
      rintro e w7 ⟨u7, rfl, hu7, hb7⟩
      have HB7 := hid (HB6.out.trans (hb7.mono HB6.out.size))
      have HU6 := hid (HU6.out.below hb7)
      have HU7 := hid hu7
      obtain ⟨a7, c7, rfl, -⟩ := hu7.open
      have G7 := hid (F4.out w7 HB7.out)
      clear hb7 hu7 G6 F4
      go_wp2_with fail
      refine G7.out.mono ?_
      rintro e w8 ⟨u8, rfl, hu8, hb8⟩
      have HB8 := hid (HB7.out.trans (hb8.mono HB7.out.size))
      have HU6 := hid (HU6.out.below hb8)
      have G8 := hid (ref6_SameTexts _ _ T T w8 (HU7.out.below hb8) hu8)
      obtain ⟨a8, c8, rfl, -⟩ := hu8.open
      clear hb8 hu8 G7 HU7
      rw [show decide (T = T) = true from by simp] at G8
      go_wp2_with fail
      refine G8.out.mono ?_
      rintro e w9 ⟨rfl, q9, hw9⟩
      have hb9 : Below w8.heap.size w8 w9 := hw9 ▸ below_self_drewN _ _
      have HB9 := hid (HB8.out.trans (hb9.mono HB8.out.size))
      have HU6 := hid (HU6.out.below hb9)
      clear hw9 hb9 G8
      have G9 := hid (F5.out w9 HB9.out)
      clear F5
      go_wp2_with fail
      refine G9.out.mono ?_
      rintro e w10 ⟨u10, rfl, hu10, hb10⟩
      have HB10 := hid (HB9.out.trans (hb10.mono HB9.out.size))
      have HU6 := hid (HU6.out.below hb10)
      have HU10 := hid hu10
      obtain ⟨a10, c10, rfl, -⟩ := hu10.open
      have G10 := hid (F6.out w10 HB10.out)
      clear hb10 hu10 G9 F6
      go_wp2_with fail
      refine G10.out.mono ?_
      rintro e w11 ⟨u11, rfl, hu11, hb11⟩
      have HB11 := hid (HB10.out.trans (hb11.mono HB10.out.size))
      have HU6 := hid (HU6.out.below hb11)
      have G11 := hid (ref6_SameInts _ _ H H w11 (HU10.out.below hb11) hu11)
      obtain ⟨a11, c11, rfl, -⟩ := hu11.open
      clear hb11 hu11 G10 HU10
      rw [show decide (H = H) = true from by simp] at G11
      go_wp2_with fail
      refine G11.out.mono ?_
      rintro e w12 ⟨rfl, q9, hw9⟩
      have hb9 : Below w11.heap.size w11 w12 := hw9 ▸ below_self_drewN _ _
      have HB12 := hid (HB11.out.trans (hb9.mono HB11.out.size))
      have HU6 := hid (HU6.out.below hb9)
      clear hw9 hb9 G11
      have G12 := hid (F7.out w12 HB12.out)
      clear F7
      go_wp2_with fail
      refine G12.out.mono ?_
      rintro e w13 ⟨rfl, hb13⟩
      have HB13 := hid (HB12.out.trans (hb13.mono HB12.out.size))
      have HU6 := hid (HU6.out.below hb13)
      have G13 := hid (F8.out w13 HB13.out)
      clear hb13 G12 F8
      go_wp2_with fail
      refine G13.out.mono ?_
      rintro e w14 ⟨rfl, hb14⟩
      have HB14 := hid (HB13.out.trans (hb14.mono HB13.out.size))
      have HU6 := hid (HU6.out.below hb14)
      clear hb14 G13
      have hq1 : (n4 != n4) = false := by simp
      have hq2 : (e4 != e4) = false := by simp
      by_cases h0 : e1 = 0
      case neg =>
        have n1 : (e1 != 0) = true := by simpa using h0
        clear h0
        go_wp2
        go_ret
        exact ⟨rfl, HB14.out⟩
      subst h0
      obtain ⟨g1, g2⟩ := HOK.out rfl
      subst g2
      have hlen : A.length = P.length := by simpa using congrArg List.length g1
      have HNM := hid (fun (k : Nat) (h1 : k < A.length) (h2 : k < P.length) => (show A[k].1 = P[k].name from by
        have h3 : (A.map Prod.fst)[k]? = (P.map En.name)[k]? := by rw [g1]
        rw [List.getElem?_map, List.getElem?_map, List.getElem?_eq_getElem h1, List.getElem?_eq_getElem h2] at h3
        simpa using h3))
      have HLN := hid hlen
      have G14 := hid (F9.out w14 HB14.out)
      clear g1 hlen F9 HOK
      go_wp2_with fail
      refine G14.out.mono ?_
      rintro e w15 ⟨u15, rfl, hu15, hb15⟩
      have HB15 := hid (HB14.out.trans (hb15.mono HB14.out.size))
      have HU6 := hid (HU6.out.below hb15)
      have HP15 := hid hu15
      obtain ⟨a15, c15, rfl⟩ : ∃ a c, u15 = .slice a A.length c := by
        obtain ⟨a, c, h, -⟩ := hu15.open
        exact ⟨a, c, by rw [h, HLN.out]⟩
      clear hu15 hb15 G14
      go_wp2
      go_loopw [32] (fun kv wr => ∃ (k q : Nat), k ≤ A.length ∧ kv = .int .i64 k ∧ wr = w15.drewN q) (fun kv _ => A.length - (intOf kv).toNat)
      case atStart => exact ⟨0, 0, by omega, rfl, rfl⟩
      case round =>
        obtain ⟨k, q, hk, rfl, hwq⟩ := hrel
        have hbq : Below w15.heap.size w15 wr := hwq ▸ below_self_drewN _ _
        have HWQ := hid hwq
        clear hwq
        by_cases hlt : k < A.length
        · have hlp : k < P.length := by have := HLN.out; omega
          obtain ⟨a4', c4', e', -, -, ZA⟩ := (HU6.out.below hbq).open
          cases e'
          obtain ⟨a15', c15', e', -, -, -, ZB⟩ := (HP15.out.below hbq).open
          simp only [Value.slice.injEq] at e'
          obtain ⟨rfl, -, rfl⟩ := e'
          obtain ⟨b, o, rfl, x0, x1, x2⟩ := ZA k hlt
          obtain ⟨b', o', _, _, _, rfl, y0, y1, y2, y3, y4, -⟩ := ZB k hlp
          rw [← HNM.out k hlt hlp] at y0
          obtain ⟨m1, hm⟩ : ∃ x, A[k].1 = x := ⟨_, rfl⟩
          rw [hm] at x0 y0
          clear ZA ZB hm x1 x2 y1 y2 y3 y4
          go_wp2
          go_quiet (fail)
          go_wp2
          go_roundw
          case rel => exact ⟨k + 1, _, by omega, by go_num, by rw [HWQ.out, World.drewN_drewN]⟩
          case measure => simp [intOf]; omega
        · have HBF := hid (HB15.out.trans (hbq.mono HB15.out.size))
          go_wp2
          go_ret
          exact ⟨rfl, HBF.out⟩
end Go.Proofs.YtlbjbmpkaniojaaGreat
