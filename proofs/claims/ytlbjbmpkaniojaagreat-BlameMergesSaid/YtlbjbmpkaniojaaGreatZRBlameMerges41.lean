/-
  WHAT IT HOLDS: contract of the iterator that editions of package blame hands back. Conditions: the arguments read as data; an edition, valid changes.
  WHAT IT HOLDS: contracts of editions and played of package blame. Conditions: the arguments read as data; an edition, valid changes.
  WHAT IT HOLDS: plain words on marks and histories: what changes mark, how the marks are those of a map from names, that they name the entries of the edition; the history of a name. No program in sight.
-/
import Derived.Test.YtlbjbmpkaniojaaGreatZRBlameMerges40
import Derived.Test.YtlbjbmpkaniojaaGreatZRBlameMerges17
import Derived.Test.YtlbjbmpkaniojaaGreatZRBlameMerges23
import Derived.Test.YtlbjbmpkaniojaaGreatZRBlameMerges34
import Derived.Test.YtlbjbmpkaniojaaGreatZRBlameMerges31
namespace Go.Proofs.YtlbjbmpkaniojaaGreat
open Go Go.RowKit Go.Maps Go.Shelf
attribute [local go_sem] Oper.semAt_some
/-- the edition behind some changes. -/
def stL (l : List En) (cs : List Chg) : List En := cs.foldl (fun l c => (doL l c).1) l
theorem stL_take {l : List En} {cs : List Chg} {k : Nat} (h : k < cs.length) : stL l (cs.take (k + 1)) = (doL (stL l (cs.take k)) cs[k]).1 := by
  unfold stL
  rw [List.take_succ_eq_append_getElem h, List.foldl_append]; rfl
/-- what the iterator yields: the value, the edition that it reads as, and the error. -/
abbrev EdE := Value × List En × Int
def edX (x : EdE) : Array Value := #[x.1, .int .i64 x.2.2]
def edE (cs : List Chg) (l0 : List En) (pre : List EdE) (x : EdE) (M O : Nat → Prop) (W : World) : Prop :=
  (∀ y ∈ pre, y.2.2 = 0) ∧ (∃ h : pre.length < cs.length, (x.2.1, x.2.2) = doL (stL l0 (cs.take pre.length)) cs[pre.length]) ∧ (∃ a n c, x.1 = .slice a n c) ∧ Safe (fun k => M k ∨ O k) (fun W => EntsAt W x.1 x.2.1) W
def edS (cs : List Chg) (xs : List EdE) : Prop := xs.length = cs.length ∨ ∃ y ∈ xs, y.2.2 ≠ 0
/-- what the iterator holds between its rounds; D: the blocks of its data. -/
structure EdI (D : Nat → Prop) (w0 : World) (s : Sg) (l0 : List En) (cs : List Chg) (bl : Nat) (k : Nat) (M : Nat → Prop) (W : World) : Prop where
  mb : ∀ q, M q → q < W.heap.size ∧ ¬ D q ∧ q ≠ bl
  sz : w0.heap.size ≤ W.heap.size
  dd : ∀ q, D q → q < w0.heap.size → W.heap[q]? = w0.heap[q]?
  ed : edB s (stL l0 (cs.take k)) = true
  cl : ∃ a n c, W.cell? ⟨bl, 0, none⟩ = some (.slice a n c) ∧ W.frozen? ⟨bl, 0, none⟩ = false ∧ Safe M (fun W => EntsAt W (.slice a n c) (stL l0 (cs.take k))) W
theorem EdI.turn {D : Nat → Prop} {w0 : World} {s : Sg} {l0 : List En} {cs : List Chg} {bl k : Nat} {M M' : Nat → Prop} {W W' : World} (h : EdI D w0 s l0 cs bl k M W) (hD : ∀ q, D q → q < w0.heap.size) (hbl : bl < w0.heap.size) (hk : Kb M W W') (hM : ∀ q, M' q → M q ∨ W.heap.size ≤ q) (hMs : ∀ q, M' q → q < W'.heap.size) : EdI D w0 s l0 cs bl k M' W' := by
  obtain ⟨a1, a2, a3, a4, a, n, c, c1, c2, c3⟩ := h
  have e : W'.heap[bl]? = W.heap[bl]? := hk.same _ (by omega) fun h => (a1 _ h).2.2 rfl
  refine ⟨fun q hq => ?_, Nat.le_trans a2 hk.size, fun q hq hlt => (hk.same q (by omega) fun h => (a1 q h).2.1 hq).trans (a3 q hq hlt), a4, a, n, c, (World.cell?_of_block e).trans c1, (World.frozen?_of_block e).trans c2, c3.turn hk hM⟩
  rcases hM q hq with h | h
  · exact ⟨hMs q hq, (a1 q h).2.1, (a1 q h).2.2⟩
  · exact ⟨hMs q hq, fun hd => by have := hD q hd; omega, by omega⟩
set_option maxHeartbeats 4000000 in
set_option maxRecDepth 100000 in
theorem editions_seq (D : Nat → Prop) (bl bc : Nat) (vl vc : Value) (s : Sg) (l0 : List En) (cs : List Chg) (w0 : World) (hed : edB s l0 = true) (hcs : ∀ c ∈ cs, chgB s c = true)
    (hD : ∀ W', (∀ q, D q → q < w0.heap.size → W'.heap[q]? = w0.heap[q]?) → ChsAt W' vc cs ∧ EntsAt W' vl l0) (hDl : ∀ q, D q → q < w0.heap.size) (hDb : ¬ D bl) (c1 : w0.cell? ⟨bl, 0, none⟩ = some vl) (f1 : w0.frozen? ⟨bl, 0, none⟩ = false) (c2 : w0.cell? ⟨bc, 0, none⟩ = some vc) :
    SeqF (fun k => k = bl) Tryz.prog 142 #[.pointer (some ⟨bc, 0, none⟩), .pointer (some ⟨bl, 0, none⟩)] edX (edE cs l0) (edS cs) (fun k => D k ∨ k = bl ∨ k = bc) w0 := fun l J Jx M0 W hW hM0 hJ hJx hY h0 => by
  have e1 := (hW.cell (World.block_lt_of_cell? _ _ c1)).trans c1
  have g1 := (hW.frozen (World.block_lt_of_cell? _ _ c1)).trans f1
  have e2 := (hW.cell (World.block_lt_of_cell? _ _ c2)).trans c2
  have hbl : bl < w0.heap.size := World.block_lt_of_cell? _ _ c1
  have hDW := hD w0 fun _ _ _ => rfl
  obtain ⟨pa, pc, rfl, -, hcl, -⟩ := hDW.1.open
  obtain ⟨qa, qc, rfl, -⟩ := hDW.2.open
  have hI0 : EdI D w0 s l0 cs bl 0 M0 W := ⟨fun q hq => ⟨(hM0 q hq).2, fun h => (hM0 q hq).1 (Or.inl h), fun h => (hM0 q hq).1 (Or.inr (Or.inl h))⟩, hW.size, fun q hq hlt => hW.block q hlt, by simpa [stL] using hed, _, _, _, e1, g1, fun W' hk => (hD W' fun q hq hlt => (hk.same q (Nat.lt_of_lt_of_le hlt hW.size) fun hm => (hM0 q hm).1 (Or.inl hq)).trans (hW.block q hlt)).2⟩
  refine callsIn_of_wp Tryz.func142 rfl trivial ?_ rfl
  simp only [Tryz.ntmps142, List.size_toArray, List.length_cons, List.length_nil, Nat.reduceAdd, Nat.reduceSub, Array.replicate_succ, Array.replicate_zero, List.push_toArray, List.append_toArray, List.nil_append, List.cons_append]
  have HJ := hid hJ
  have HY := hid hY
  have HD := hid hD
  have HDL := hid hDl
  have HI0 := hid hI0
  have H0 := hid h0
  have HBL := hid hbl
  have HED := hid hed
  have HCS := hid hcs
  clear hJ hJx hY hI0 h0 hbl hed hcs hD hDl hM0 hDW c1 c2 f1 e1 g1
  gi_wp2_with fail
  clear e2
  gi_loopw [9] (fun kv wr => ∃ (k : Nat) (pre : List EdE) (M : Nat → Prop), k ≤ cs.length ∧ kv = .int .i64 k ∧ pre.length = k ∧ (∀ y ∈ pre, y.2.2 = 0) ∧ J pre M (fun k => k = bl) wr ∧ EdI D w0 s l0 cs bl k M wr) (fun kv _ => cs.length - (intOf kv).toNat)
  case atStart => exact ⟨0, [], M0, by omega, rfl, rfl, by simp, H0.out, HI0.out⟩
  case round =>
    clear HI0 H0
    obtain ⟨k, pre, M, hk, rfl, hpl, hp0, hj, hI⟩ := hrel
    have HPL := hid hpl
    have HP0 := hid hp0
    have HJJ := hid hj
    have HI := hid hI
    clear hpl hp0 hj hI
    by_cases hlt : k < cs.length
    · have hCH := (HD.out wr HI.out.dd).1
      obtain ⟨pa', pc', e', -, -, -, HC⟩ := hCH.open
      cases e'
      obtain ⟨cb, co, vS, vU, vP, rfl, k0, k1, k2, k3, k4, k5, k6, k7, k8, he⟩ := HC k hlt
      obtain ⟨sa, sc, rfl, -⟩ := he.e.s.open
      obtain ⟨ua, uc, rfl, -⟩ := he.e.u.open
      obtain ⟨xa, xc, rfl, -⟩ := he.e.p.open
      have HGK := hid (show cs[k] = cs[k] from rfl)
      have hcc := HCS.out _ (List.getElem_mem hlt)
      have hST := stL_take (l := l0) hlt
      obtain ⟨c, hce⟩ : ∃ c, cs[k] = c := ⟨_, rfl⟩
      have HCE := hid hce
      rw [hce] at k0 k1 k2 k3 k4 k5 k6 k7 k8 he hcc hST
      obtain ⟨la, ln, lc, b1, b2, b3⟩ := HI.out.cl
      obtain ⟨L, hL⟩ : ∃ L, stL l0 (cs.take k) = L := ⟨_, rfl⟩
      have hed := HI.out.ed
      rw [hL] at b3 hST hed
      have HLL := hid hL
      have hCB := CB.new wr c (.slice sa c.ent.says.length sc) (.slice ua c.ent.uses.length uc) (.slice xa c.ent.proof.length xc) 43
      obtain ⟨V, hV⟩ : ∃ V, wr.alloc (.cells #[.int .i64 c.kind, .string c.who, .string c.name, .string c.new, .string c.ent.name, .string c.ent.who, .slice sa c.ent.says.length sc, .slice ua c.ent.uses.length uc, .slice xa c.ent.proof.length xc] 43) = V := ⟨_, rfl⟩
      have hbV : Below wr.heap.size wr V := hV ▸ (Below.refl _ _).alloc (Nat.le_refl _) _
      rw [hV] at hCB
      have hMD := blame_made (.slice la ln lc) s L c (.slice sa c.ent.says.length sc) (.slice ua c.ent.uses.length uc) (.slice xa c.ent.proof.length xc) V (b3.here.below hbV) (he.below hbV) hed hcc
      unfold chV at hMD
      have HMD := hid hMD
      obtain ⟨d0, d1, d2, d3, d4, d5, d6, d7, d8⟩ := hCB
      have b1' := (hbV.cell (World.block_lt_of_cell? _ _ b1)).trans b1
      have HV := hid hV
      have HBV := hid hbV
      have HST := hid hST
      have HB1 := hid b1
      have HB2 := hid b2
      have HEDL := hid hed
      have HCC := hid hcc
      have y0 : (0 : Int) ≤ (k : Int) := by omega
      have y1 : (k : Int) < (cs.length : Int) := by omega
      clear hST hL he hcc hce hed hV hbV hMD hCH HC b3
      gi_wp2_with (rw [HV.out])
      refine ⟨trivial, (callsIn_wide.2 HMD.out).mono ?_⟩
      rintro e w2 ⟨u, rfl, hF, hb2⟩
      have hbr2 : Below wr.heap.size wr w2 := HBV.out.trans (hb2.mono HBV.out.size)
      have hvz := HBV.out.size
      obtain ⟨r, er, hr⟩ : ∃ r er, doL L c = (r, er) := ⟨_, _, rfl⟩
      rw [hr] at hF HST
      simp only [hr]
      have HF := hid hF
      obtain ⟨vs2, hS2, -, -⟩ := hF
      obtain ⟨ra, rc, rfl⟩ := hS2.slice
      have hblw : bl < wr.heap.size := World.block_lt_of_cell? _ _ HB1.out
      have c97 := (hbr2.cell (World.block_lt_of_cell? _ _ HB1.out)).trans HB1.out
      have f97 := (hbr2.frozen (World.block_lt_of_cell? _ _ HB1.out)).trans HB2.out
      have hKO : Kb (fun k => k = bl) wr (w2.setCell ⟨bl, 0, none⟩ (.slice ra r.length rc)) := (Kb.of_below hbr2).trans (Kb.setCell (M := fun k => k = bl) _ rfl) (fun q hq => Or.inl hq)
      have hSf : Safe (fun k => M k ∨ k = bl) (fun W => EntsAt W (.slice ra r.length rc) r) (w2.setCell ⟨bl, 0, none⟩ (.slice ra r.length rc)) := fun W' hk => HF.out.keep fun q hq hlt => by
        have h1 : (w2.setCell ⟨bl, 0, none⟩ (.slice ra r.length rc)).heap[q]? = w2.heap[q]? := Below.heap_setCell _ _ _ _ (by show q ≠ bl; omega)
        rw [← h1]
        refine hk.same q (by simpa using hlt) fun hm => ?_
        rcases hm with hm | hm
        · have := (HI.out.mb q hm).1; omega
        · omega
      have hI3 : er = 0 → EdI D w0 s l0 cs bl (k + 1) M (w2.setCell ⟨bl, 0, none⟩ (.slice ra r.length rc)) := fun h0 => by
        subst h0
        refine ⟨fun q hq => ⟨Nat.lt_of_lt_of_le (HI.out.mb q hq).1 hKO.size, (HI.out.mb q hq).2⟩, Nat.le_trans HI.out.sz hKO.size, fun q hq hlt => (hKO.same q (by have := HI.out.sz; omega) fun e => hDb (e ▸ hq)).trans (HI.out.dd q hq hlt), ?_, ra, r.length, rc, World.cell?_setCell_same' _ _ _ (by rw [c97]; rfl), (World.frozen?_setCell _ _ _ _).trans f97, ?_⟩
        · rw [HST.out]; exact doL_ed HEDL.out HCC.out hr
        · rw [HST.out]
          exact fun W' hk => hSf W' (hk.mono fun q _ hq => Or.inl hq)
      obtain ⟨fn, tmps, assign, body, hy, hR⟩ := HY.out pre ((.slice ra r.length rc, r, er) : EdE) M (fun k => k = bl) (w2.setCell ⟨bl, 0, none⟩ (.slice ra r.length rc)) (HJ.out _ _ _ _ _ _ HJJ.out hKO (fun q hq => ⟨Or.inl hq, by have := hKO.size; have hq : q = bl := hq; omega⟩)) ⟨HP0.out, ⟨by rw [HPL.out]; exact hlt, by
        have e1 : cs[pre.length]'(by rw [HPL.out]; exact hlt) = c := by rw [← HCE.out]; congr 1 <;> exact HPL.out
        rw [e1, HPL.out, HLL.out, hr]⟩, ⟨_, _, _, rfl⟩, hSf⟩
      dsimp only [edX] at hy
      have HRR := hid (roundIn_any2 (m := 1) hR)
      have HI3 := hid hI3
      clear hR hI3 hSf hKO hS2 hbr2 hb2 hr d0 d1 d2 d3 d4 d5 d6 d7 d8 b1 b2 b1' k0 k1 k2 k3 k4 k5 k6 k7 k8 HMD HB1 HB2
      gi_wp2
      refine HRR.out.mono ?_
      rintro e W3 ⟨M', m1, m2, m3, ⟨rfl, hJ3⟩ | ⟨rfl, hJx3⟩⟩
      · have HJ3 := hid hJ3
        by_cases hx0 : er = 0
        · have hI4 := (HI3.out hx0).turn HDL.out HBL.out m3 m1 m2
          have HI4 := hid hI4
          subst hx0
          clear hJ3 hI4 m1 m2 m3
          gi_wp2
          go_roundw
          case rel =>
            refine ⟨k + 1, pre ++ [((.slice ra r.length rc, r, 0) : EdE)], M', by omega, by go_num, by simp [HPL.out], fun y hy => ?_, HJ3.out, HI4.out⟩
            rcases List.mem_append.1 hy with h | h
            · exact HP0.out y h
            · simp at h; rw [h]
          case measure => simp [intOf]; omega
        · have n0 : (er != 0) = true := by simpa using hx0
          clear hJ3 m1 m2 m3
          gi_wp2
          refine bodyPost_ret (results_none rfl _ _ _) rfl ?_
          exact ⟨⟨_, rfl⟩, .inl ⟨_, M', _, Or.inr ⟨_, List.mem_append_right _ (List.mem_singleton.2 rfl), hx0⟩, HJ3.out⟩⟩
      · gi_wp2
        refine bodyPost_ret (results_none rfl _ _ _) rfl ?_
        exact ⟨⟨_, rfl⟩, .inr ⟨_, M', _, hJx3⟩⟩
    · obtain rfl : k = cs.length := by omega
      gi_wp2
      go_end0
      exact ⟨⟨_, rfl⟩, .inl ⟨pre, M, _, Or.inl HPL.out, HJJ.out⟩⟩
end Go.Proofs.YtlbjbmpkaniojaaGreat
namespace Go.Proofs.YtlbjbmpkaniojaaGreat
open Go Go.RowKit Go.Maps Go.Shelf
attribute [local go_sem] Oper.semAt_some
theorem play_step {l : List En} {cs : List Chg} {k : Nat} (hk : k < cs.length) {i : Int} (h0 : (doL (stL l (cs.take k)) cs[k]).2 = 0) : playL (stL l (cs.take k)) (cs.drop k) i = playL (stL l (cs.take (k + 1))) (cs.drop (k + 1)) (i + 1) := by
  rw [List.drop_eq_getElem_cons hk, playL, if_pos h0, stL_take hk]
theorem play_stop {l : List En} {cs : List Chg} {k : Nat} (hk : k < cs.length) {i : Int} (h0 : (doL (stL l (cs.take k)) cs[k]).2 ≠ 0) : playL (stL l (cs.take k)) (cs.drop k) i = ([], i, (doL (stL l (cs.take k)) cs[k]).2) := by
  rw [List.drop_eq_getElem_cons hk, playL, if_neg h0]
theorem ChsAt.heap {w W' : World} {v : Value} {l : List Chg} (h : ChsAt w v l) (hs : ∀ q, q < w.heap.size → W'.heap[q]? = w.heap[q]?) : ChsAt W' v l := by
  obtain ⟨vs, h1, h2, h3⟩ := h
  exact ⟨vs, rowK_block h1 fun q _ hq => hs q hq, h2, fun j hj hj' => ⟨(h3 j hj hj').e.blocks fun q _ hq => hs q hq, (h3 j hj hj').n1, (h3 j hj hj').n2, (h3 j hj hj').n3⟩⟩
structure PlI (w : World) (l0 : List En) (cs : List Chg) (B b : Nat) (pre : List EdE) (M O : Nat → Prop) (W : World) : Prop where
  z : ∀ y ∈ pre, y.2.2 = 0
  len : pre.length ≤ cs.length
  pl : playL l0 cs 0 = playL (stL l0 (cs.take pre.length)) (cs.drop pre.length) pre.length
  bel : Below w.heap.size w W
  mm : M b ∧ M (b + 1) ∧ M (b + 2) ∧ M (b + 3) ∧ M (b + 4)
  mw : ∀ k, M k → w.heap.size ≤ k
  c4 : ∃ v, W.cell? ⟨b + 1, 0, none⟩ = some v ∧ W.frozen? ⟨b + 1, 0, none⟩ = false
  c5 : ∃ v, W.cell? ⟨b + 2, 0, none⟩ = some v ∧ W.frozen? ⟨b + 2, 0, none⟩ = false
  c6 : ∃ v, W.cell? ⟨b + 3, 0, none⟩ = some v ∧ W.frozen? ⟨b + 3, 0, none⟩ = false
  c7 : W.cell? ⟨b + 4, 0, none⟩ = some (.int .i64 pre.length) ∧ W.frozen? ⟨b + 4, 0, none⟩ = false
  out : ∃ a n c, W.cell? ⟨b, 0, none⟩ = some (.slice a n c) ∧ W.frozen? ⟨b, 0, none⟩ = false ∧ Safe (fun k => (M k ∨ k = B + 1) ∨ O k) (fun W => EntsAt W (.slice a n c) (stL l0 (cs.take pre.length))) W
theorem PlI.kb {w : World} {l0 : List En} {cs : List Chg} {B b : Nat} {F : Nat → Prop} {pre : List EdE} {M O O' R : Nat → Prop} {W W' : World} (h : PlI w l0 cs B b pre M O W) (hB : w.heap.size ≤ B) (hF : ∀ k, F k → w.heap.size ≤ k)
    (hk : Kb R W W') (hR : ∀ k, R k → (O k ∧ (B + 2 ≤ k ∨ F k) ∧ ¬ M k) ∨ (k = B + 1 ∧ ¬ M k)) (hO : ∀ k, O' k → O k ∨ W.heap.size ≤ k) : PlI w l0 cs B b pre M O' W' := by
  obtain ⟨a1, a2, a3, a4, a5, a6, ⟨v4, c4, f4⟩, ⟨v5, c5, f5⟩, ⟨v6, c6, f6⟩, ⟨c7, f7⟩, ⟨a, n, c, c2, f2, hs⟩⟩ := h
  have keep : ∀ q, q < W.heap.size → M q → W'.heap[q]? = W.heap[q]? := fun q h1 h2 => hk.same q h1 (fun h => by rcases hR q h with h | h; exact h.2.2 h2; exact h.2 h2)
  have e2 := keep b (World.block_lt_of_cell? _ _ c2) a5.1
  have e4 := keep (b + 1) (World.block_lt_of_cell? _ _ c4) a5.2.1
  have e5 := keep (b + 2) (World.block_lt_of_cell? _ _ c5) a5.2.2.1
  have e6 := keep (b + 3) (World.block_lt_of_cell? _ _ c6) a5.2.2.2.1
  have e7 := keep (b + 4) (World.block_lt_of_cell? _ _ c7) a5.2.2.2.2
  refine ⟨a1, a2, a3, a4.trans (hk.below a4.size (fun k h => ?_)), a5, a6, ⟨v4, cellHp c4 e4, (World.frozen?_of_block e4).trans f4⟩, ⟨v5, cellHp c5 e5, (World.frozen?_of_block e5).trans f5⟩, ⟨v6, cellHp c6 e6, (World.frozen?_of_block e6).trans f6⟩, ⟨cellHp c7 e7, (World.frozen?_of_block e7).trans f7⟩,
    a, n, c, cellHp c2 e2, (World.frozen?_of_block e2).trans f2, hs.turn (hk.mono (M' := fun k => (M k ∨ k = B + 1) ∨ O k) (fun k _ h => ?_)) (fun k h => ?_)⟩
  · rcases hR k h with ⟨-, h | h, -⟩ | h
    · omega
    · exact hF k h
    · omega
  · rcases hR k h with h | h
    · exact Or.inr h.1
    · exact Or.inl (Or.inr h.1)
  · rcases h with h | h
    · exact Or.inl (Or.inl h)
    · exact (hO k h).imp Or.inr id
theorem PlI.grw {w : World} {l0 : List En} {cs : List Chg} {B b : Nat} {F : Nat → Prop} (hB : w.heap.size ≤ B) (hF : ∀ k, F k → w.heap.size ≤ k) (pre : List EdE) : GrwF B F (PlI w l0 cs B b pre) :=
  ⟨fun M O O' W W' h hk hO' hO => h.kb hB hF hk (fun k hk => Or.inl ⟨hk, (hO k hk).1, (hO k hk).2⟩) hO',
   fun M O W o o' ho hc h hm => h.kb hB hF (R := fun k => k = B + 1) (Kb.put (M := fun k => k = B + 1) _ rfl) (fun k hk => Or.inr ⟨hk, by rw [hk]; exact hm⟩) (fun k hk => Or.inl hk)⟩
/-- how it ends early. -/
structure PlX (w : World) (l0 : List En) (cs : List Chg) (b : Nat) (c : Code) (pre : List EdE) (M O : Nat → Prop) (W : World) : Prop where
  ret : c = .ret
  bel : Below w.heap.size w W
  mm : M (b + 1) ∧ M (b + 2) ∧ M (b + 3)
  mw : ∀ k, M k → w.heap.size ≤ k
  ans : ∃ n er, W.cell? ⟨b + 1, 0, none⟩ = some (.slice none 0 0) ∧ W.cell? ⟨b + 2, 0, none⟩ = some (.int .i64 n) ∧ W.cell? ⟨b + 3, 0, none⟩ = some (.int .i64 er) ∧ playL l0 cs 0 = ([], n, er)
theorem PlX.kb {w : World} {l0 : List En} {cs : List Chg} {B b : Nat} {F : Nat → Prop} {c : Code} {pre : List EdE} {M O O' R : Nat → Prop} {W W' : World} (h : PlX w l0 cs b c pre M O W) (hB : w.heap.size ≤ B) (hF : ∀ k, F k → w.heap.size ≤ k)
    (hk : Kb R W W') (hR : ∀ k, R k → (O k ∧ (B + 2 ≤ k ∨ F k) ∧ ¬ M k) ∨ (k = B + 1 ∧ ¬ M k)) : PlX w l0 cs b c pre M O' W' := by
  obtain ⟨a1, a4, a5, a6, n, er, c4, c5, c6, hp⟩ := h
  have keep : ∀ q, q < W.heap.size → M q → W'.heap[q]? = W.heap[q]? := fun q h1 h2 => hk.same q h1 (fun h => by rcases hR q h with h | h; exact h.2.2 h2; exact h.2 h2)
  refine ⟨a1, a4.trans (hk.below a4.size (fun k h => ?_)), a5, a6, n, er, cellHp c4 (keep _ (World.block_lt_of_cell? _ _ c4) a5.1), cellHp c5 (keep _ (World.block_lt_of_cell? _ _ c5) a5.2.1), cellHp c6 (keep _ (World.block_lt_of_cell? _ _ c6) a5.2.2), hp⟩
  rcases hR k h with ⟨-, h | h, -⟩ | h
  · omega
  · exact hF k h
  · omega
theorem PlX.grw {w : World} {l0 : List En} {cs : List Chg} {B b : Nat} {F : Nat → Prop} (hB : w.heap.size ≤ B) (hF : ∀ k, F k → w.heap.size ≤ k) (c : Code) (pre : List EdE) : GrwF B F (PlX w l0 cs b c pre) :=
  ⟨fun M O O' W W' h hk hO' hO => h.kb hB hF hk (fun k hk => Or.inl ⟨hk, (hO k hk).1, (hO k hk).2⟩),
   fun M O W o o' ho hc h hm => h.kb hB hF (R := fun k => k = B + 1) (Kb.put (M := fun k => k = B + 1) _ rfl) (fun k hk => Or.inr ⟨hk, by rw [hk]; exact hm⟩)⟩
theorem blame_editions (la ca : Option Addr) (ln lc cn cc : Nat) (w : World) :
    Calls Tryz.prog 97 #[.slice la ln lc, .slice ca cn cc] w fun e w' => e = .returned (.func (.func 142) #[] #[.pointer (some ⟨w.heap.size + 1, 0, none⟩), .pointer (some ⟨w.heap.size, 0, none⟩)]) ∧ (w.alloc (.cells #[.slice la ln lc] 24)).alloc (.cells #[.slice ca cn cc] 25) = w' := by
  go_enter Tryz.func97, Tryz.ntmps97
  go_wp2
  go_ret
  exact ⟨rfl, rfl⟩
theorem box5p (w : World) (x1 x2 x3 x4 x5 : Value) (t1 t2 t3 t4 t5 : TypeId) {W : World} (hW : (((((w.alloc (.cells #[x1] t1)).alloc (.cells #[x2] t2)).alloc (.cells #[x3] t3)).alloc (.cells #[x4] t4)).alloc (.cells #[x5] t5)) = W) :
    BX W w.heap.size [x1] ∧ BX W (w.heap.size + 1) [x2] ∧ BX W (w.heap.size + 2) [x3] ∧ BX W (w.heap.size + 3) [x4] ∧ BX W (w.heap.size + 4) [x5] ∧ W.heap.size = w.heap.size + 5 ∧ Below w.heap.size w W := by
  obtain ⟨w1, h1⟩ : ∃ w1, w.alloc (.cells #[x1] t1) = w1 := ⟨_, rfl⟩
  obtain ⟨w2, h2⟩ : ∃ w2, w1.alloc (.cells #[x2] t2) = w2 := ⟨_, rfl⟩
  obtain ⟨w3, h3⟩ : ∃ w3, w2.alloc (.cells #[x3] t3) = w3 := ⟨_, rfl⟩
  obtain ⟨w4, h4⟩ : ∃ w4, w3.alloc (.cells #[x4] t4) = w4 := ⟨_, rfl⟩
  rw [h1, h2, h3, h4] at hW
  have s1 : w1.heap.size = w.heap.size + 1 := by rw [← h1]; simp
  have s2 : w2.heap.size = w.heap.size + 2 := by rw [← h2]; simp [s1]
  have s3 : w3.heap.size = w.heap.size + 3 := by rw [← h3]; simp [s2]
  have s4 : w4.heap.size = w.heap.size + 4 := by rw [← h4]; simp [s3]
  have s5 : W.heap.size = w.heap.size + 5 := by rw [← hW]; simp [s4]
  have c1 : BX w1 w.heap.size [x1] := h1 ▸ BX.new w [x1] t1
  have c2 : BX w2 (w.heap.size + 1) [x2] := s1 ▸ (h2 ▸ BX.new w1 [x2] t2)
  have c3 : BX w3 (w.heap.size + 2) [x3] := s2 ▸ (h3 ▸ BX.new w2 [x3] t3)
  have c4 : BX w4 (w.heap.size + 3) [x4] := s3 ▸ (h4 ▸ BX.new w3 [x4] t4)
  have c5 : BX W (w.heap.size + 4) [x5] := s4 ▸ (hW ▸ BX.new w4 [x5] t5)
  have b1 : Below w.heap.size w w1 := by rw [← h1]; exact (Below.refl _ _).alloc (Nat.le_refl _) _
  have b2 : Below w1.heap.size w1 w2 := by rw [← h2]; exact (Below.refl _ _).alloc (Nat.le_refl _) _
  have b3 : Below w2.heap.size w2 w3 := by rw [← h3]; exact (Below.refl _ _).alloc (Nat.le_refl _) _
  have b4 : Below w3.heap.size w3 w4 := by rw [← h4]; exact (Below.refl _ _).alloc (Nat.le_refl _) _
  have b5 : Below w4.heap.size w4 W := by rw [← hW]; exact (Below.refl _ _).alloc (Nat.le_refl _) _
  have b35 := b4.trans (b5.mono b4.size)
  have b25 := b3.trans (b35.mono b3.size)
  have b15 := b2.trans (b25.mono b2.size)
  exact ⟨c1.below (by simp) b15, c2.below (by simp) b25, c3.below (by simp) b35, c4.below (by simp) b5, c5, s5, b1.trans (b15.mono b1.size)⟩
set_option maxHeartbeats 4000000 in
set_option maxRecDepth 100000 in
theorem blame_played (vl vc : Value) (s : Sg) (l : List En) (cs : List Chg) (w : World) (hl : EntsAt w vl l) (hc : ChsAt w vc cs) (hed : edB s l = true) (hcs : ∀ c ∈ cs, chgB s c = true) :
    Calls Tryz.prog 57 #[vl, vc] w fun e w' => ∃ u, e = .returned (.tuple #[u, .int .i64 (playL l cs 0).2.1, .int .i64 (playL l cs 0).2.2]) ∧ EntsAt w' u (playL l cs 0).1 ∧ Below w.heap.size w w' := by
  obtain ⟨la, lc, rfl, -⟩ := hl.open
  obtain ⟨ca, cc, rfl, -, hcl, -⟩ := hc.open
  obtain ⟨hLib, -⟩ := edB_iff.1 hed
  refine calls_marks Tryz.func57 rfl ?_
  simp only [Tryz.ntmps57, List.size_toArray, List.length_cons, List.length_nil, Nat.reduceAdd, Nat.reduceSub, Array.replicate_succ, Array.replicate_zero, List.push_toArray, List.append_toArray, List.nil_append, List.cons_append]
  obtain ⟨V, hV⟩ : ∃ V, (((((w.alloc (.cells #[.slice la l.length lc] 24)).alloc (.cells #[.slice none 0 0] 24)).alloc (.cells #[.int .i64 0] 3)).alloc (.cells #[.int .i64 0] 29)).alloc (.cells #[.int .i64 0] 3)) = V := ⟨_, rfl⟩
  obtain ⟨v2, v4, v5, v6, v7, hsz, hbV⟩ := box5p _ _ _ _ _ _ _ _ _ _ _ hV
  have HCO := hid (blame_copies (.slice la l.length lc) l V (hl.below hbV) (by have := hLib.len; omega) (fun y hy => ent_sm (entryB_iff.2 (hLib.ents y hy))))
  have HV := hid hV
  have HBV := hid hbV
  have HVZ := hid hsz
  have HV2 := hid v2
  have HV4 := hid v4
  have HV5 := hid v5
  have HV6 := hid v6
  have HV7 := hid v7
  have HCS := hid hc
  have HLL := hid hLib.len
  clear hV v2 v4 v5 v6 v7 hsz hbV hl hc hLib
  go_wp2_with fail
  rw [HV.out]
  simp only [Nat.add_assoc, Nat.reduceAdd]
  refine HCO.out.mono ?_
  rintro e w6 ⟨u0, vs0, rfl, hE0, hb6⟩
  obtain ⟨ua, uc, rfl⟩ := hE0.slice
  have g2 := HV2.out.below (by simp) hb6
  have HG2 := hid g2
  have x2 : w6.cell? ⟨w.heap.size, 0, none⟩ = some (.slice la l.length lc) := g2.c 0 (by simp)
  have y2 := g2.z 0
  have h2s := g2.set (k := 0) (by simp) (.slice ua l.length uc)
  have HB6 := hid (HBV.out.trans (hb6.mono HBV.out.size))
  have h6k : ∀ q, q ≠ w.heap.size → (w6.setCell ⟨w.heap.size, 0, none⟩ (.slice ua l.length uc)).heap[q]? = w6.heap[q]? := fun q hq => Below.heap_setCell _ _ _ _ hq
  obtain ⟨w7, hw7⟩ : ∃ w7, w6.setCell ⟨w.heap.size, 0, none⟩ (.slice ua l.length uc) = w7 := ⟨_, rfl⟩
  have hz7 : w7.heap.size = w6.heap.size := by rw [← hw7]; simp
  have hb7 : Below w.heap.size w w7 := by rw [← hw7]; exact HB6.out.setCell (p := ⟨w.heap.size, 0, none⟩) (Nat.le_refl _) _
  rw [hw7] at h2s h6k
  have x2' : w7.cell? ⟨w.heap.size, 0, none⟩ = some (.slice ua l.length uc) := h2s.c 0 (by simp)
  have hvz := HVZ.out
  have hv6 := hb6.size
  have g4 := (HV4.out.below (by simp) hb6).block (h6k _ (by omega))
  have g5 := (HV5.out.below (by simp) hb6).block (h6k _ (by omega))
  have g6 := (HV6.out.below (by simp) hb6).block (h6k _ (by omega))
  have g7 := (HV7.out.below (by simp) hb6).block (h6k _ (by omega))
  have HW7 := hid hw7
  have HZ7 := hid hz7
  clear hw7 hb6 hz7
  go_wp2_with (first | rw [HW7.out] | (go_at_call 97; refine (blame_editions _ _ _ _ _ _ _).mono ?_; rintro e w8 ⟨rfl, hw8⟩))
  have hz7 := HZ7.out
  have hF6 : EntsF w6 V.heap.size (.slice ua l.length uc) l := ⟨vs0, hE0.toS, hE0.fr, by have := HLL.out; omega⟩
  have hz8 : w8.heap.size = w6.heap.size + 2 := by rw [← hw8]; simp [hz7]
  have hb8 : Below w7.heap.size w7 w8 := by rw [← hw8]; exact ((Below.refl _ _).alloc (Nat.le_refl _) _).alloc (by simp) _
  have hL8 : BX w8 w7.heap.size [.slice ua l.length uc] := by
    rw [← hw8]
    exact (BX.new w7 [.slice ua l.length uc] 24).below (by simp) ((Below.refl _ _).alloc (Nat.le_refl _) _)
  have hC8 : BX w8 (w7.heap.size + 1) [.slice ca cs.length cc] := by
    have := BX.new (w7.alloc (.cells #[.slice ua l.length uc] 24)) [.slice ca cs.length cc] 25
    rw [World.size_alloc] at this
    rw [← hw8]
    exact this
  have hbw8 := hb7.trans (hb8.mono hb7.size)
  have hold : ∀ q, V.heap.size ≤ q → q < w6.heap.size → w8.heap[q]? = w6.heap[q]? := fun q h1 h2 => (hb8.block q (by omega)).trans (h6k q (by omega))
  have k2 := h2s.below (by simp) hb8
  have k4 := g4.below (by simp) hb8
  have k5 := g5.below (by simp) hb8
  have k6 := g6.below (by simp) hb8
  have k7 := g7.below (by simp) hb8
  have HSQ := hid (editions_seq (fun k => k < w.heap.size ∨ (V.heap.size ≤ k ∧ k < w6.heap.size)) w7.heap.size (w7.heap.size + 1) (.slice ua l.length uc) (.slice ca cs.length cc) s l cs w8 hed hcs
    (fun W' hW' => ⟨HCS.out.heap fun q hq => (hW' q (Or.inl hq) (by omega)).trans (hbw8.block q hq), hF6.keep fun q h1 h2 => (hW' q (Or.inr ⟨h1, h2⟩) (by omega)).trans (hold q h1 h2)⟩)
    (fun q hq => by omega) (fun h => by omega) (hL8.c 0 (by simp)) (hL8.z 0) (hC8.c 0 (by simp)))
  have HST : Hid (PlI w l cs w8.heap.size w.heap.size [] (fun k => w.heap.size ≤ k ∧ k < V.heap.size) (fun k => k = w7.heap.size) w8) :=
    hid ⟨by simp, by simp, by simp [stL], hbw8, ⟨by omega, by omega, by omega, by omega, by omega⟩, fun k hk => hk.1, ⟨_, k4.c 0 (by simp), k4.z 0⟩, ⟨_, k5.c 0 (by simp), k5.z 0⟩, ⟨_, k6.c 0 (by simp), k6.z 0⟩, ⟨k7.c 0 (by simp), k7.z 0⟩,
      ua, l.length, uc, k2.c 0 (by simp), k2.z 0, fun W' hk => hF6.keep fun q h1 h2 => (hk.same q (by omega) (fun h => by omega)).trans (hold q h1 h2)⟩
  have HZ := hid (show w8.heap.size = w6.heap.size + 2 ∧ w7.heap.size = w6.heap.size ∧ V.heap.size ≤ w6.heap.size ∧ V.heap.size = w.heap.size + 5 from ⟨hz8, hz7, hv6, hvz⟩)
  clear k2 k4 k5 k6 k7 hold hF6 hL8 hC8 hb8 h2s h6k g4 g5 g6 g7 g2 hE0 x2 x2' y2 hw8 hb7 hbw8
  obtain ⟨z8, z7, zv, z5⟩ := HZ.out
  refine wpIn_wide.1 (wpIn_rangeF (F := fun k => k = w7.heap.size) (gf := 142) (lb := #[.pointer (some ⟨w7.heap.size + 1, 0, none⟩), .pointer (some ⟨w7.heap.size, 0, none⟩)]) rfl (enters_of Tryz.func142 rfl rfl) (encs := edX) (E := edE cs l) (S := edS cs)
    (N := fun k => (k < w.heap.size ∨ (V.heap.size ≤ k ∧ k < w6.heap.size)) ∨ k = w7.heap.size ∨ k = w7.heap.size + 1) (w0 := w8) HSQ.out (Below.refl _ _) (fun _ => rfl) ?_ ?_ ?_
    (fun pre => PlI w l cs w8.heap.size w.heap.size pre) (fun c pre => PlX w l cs w.heap.size c pre)
    (fun k => w.heap.size ≤ k ∧ k < V.heap.size) ?_ (fun pre => PlI.grw (by omega) (fun k hk => by omega) pre) (fun c pre => PlX.grw (by omega) (fun k hk => by omega) c pre) HST.out (fun k hk => Or.inr (Or.inl hk)) ?_ ?_ ?_)
  case refine_1 =>
    rintro pre x M O W k o o' ⟨h1, h2, h3, h4⟩ hk ho hc
    exact ⟨h1, h2, h3, h4.turn (Kb.put (M := fun k => M k ∨ O k) _ (Or.inl hk)) (fun k h => Or.inl h)⟩
  case refine_2 =>
    rintro pre x M O A B ⟨h1, h2, h3, h4⟩ hb
    exact ⟨h1, h2, h3, h4.grow hb⟩
  case refine_3 => rintro k (h | rfl | rfl) <;> omega
  case refine_4 => rintro k hk; exact ⟨by rintro (h | h | h) <;> omega, by omega⟩
  case refine_5 =>
    clear HST HSQ
    rintro l' pre ⟨xv, xr, xe⟩ M O W hsW hM hO hturn
    simp only [edX]
    obtain ⟨xa, xn, xc, rfl⟩ : ∃ xa xn xc, xv = .slice xa xn xc := by
      obtain ⟨-, ⟨-, -, h, -⟩, -⟩ := hturn W (W.putObj (w8.heap.size + 1) (.deferred none)) (Below.refl _ _) ⟨_, rfl⟩
      exact h
    gi_wp2
    refine ⟨Below.refl _ _, fun W2 hT2 => ?_⟩
    obtain ⟨hI2, ⟨e1, ⟨hlt, e2⟩, -, e4⟩, hs2⟩ := hturn _ W2 (Below.refl _ _) hT2
    dsimp only at e2 e4
    obtain ⟨a1, a2, a3, a4, a5, a6, ⟨v4, c4, f4⟩, ⟨v5, c5, f5⟩, ⟨v6, c6, f6⟩, ⟨c7, f7⟩, ⟨a, n, c, c2, f2, hs⟩⟩ := hI2
    have E2 := hid e2
    have E4 := hid e4
    have A1 := hid a1
    have A3 := hid a3
    have A4 := hid a4
    have A5 := hid a5
    have A6 := hid a6
    have HM := hid hM
    have HLT := hid hlt
    have hsz2 : W2.heap.size = W.heap.size := hs2
    have hkl : pre.length < cs.length := hlt
    have y7 : (pre.length : Int) ≤ 140737488355328 := by omega
    have HS2 := hid hsz2
    clear e1 e2 e4 a1 a2 a3 a4 a5 a6 hs hturn hT2 hs2 hO hM hsz2
    by_cases hx0 : xe = 0
    · subst hx0
      have q9 : ((0 : Int) != 0) = false := rfl
      have hne : w.heap.size ≠ w.heap.size + 4 := by omega
      have HKB : Hid (Kb M W2 ((W2.setCell ⟨w.heap.size, 0, none⟩ (.slice xa xn xc)).setCell ⟨w.heap.size + 4, 0, none⟩ (.int .i64 ((pre.length : Int) + 1)))) :=
        hid ((Kb.setCell (M := M) _ A5.out.1).trans (Kb.setCell (M := M) _ A5.out.2.2.2.2) (fun k hk => Or.inl hk))
      have oth : ∀ q, q ≠ w.heap.size → q ≠ w.heap.size + 4 → ((W2.setCell ⟨w.heap.size, 0, none⟩ (.slice xa xn xc)).setCell ⟨w.heap.size + 4, 0, none⟩ (.int .i64 ((pre.length : Int) + 1))).heap[q]? = W2.heap[q]? := fun q h1 h2 => (Below.heap_setCell _ _ _ _ h2).trans (Below.heap_setCell _ _ _ _ h1)
      have d7 : (W2.setCell ⟨w.heap.size, 0, none⟩ (.slice xa xn xc)).cell? ⟨w.heap.size + 4, 0, none⟩ = some (.int .i64 pre.length) := (World.cell?_of_block (Below.heap_setCell _ _ _ _ (fun e => hne e.symm))).trans c7
      have d7f : (W2.setCell ⟨w.heap.size, 0, none⟩ (.slice xa xn xc)).frozen? ⟨w.heap.size + 4, 0, none⟩ = false := (World.frozen?_setCell _ _ _ _).trans f7
      have hx2 : ((W2.setCell ⟨w.heap.size, 0, none⟩ (.slice xa xn xc)).setCell ⟨w.heap.size + 4, 0, none⟩ (.int .i64 ((pre.length : Int) + 1))).cell? ⟨w.heap.size, 0, none⟩ = some (.slice xa xn xc) := (World.cell?_of_block (Below.heap_setCell _ _ _ _ hne)).trans (World.cell?_setCell_same' _ _ _ (by rw [c2]; rfl))
      have hst : stL l (cs.take (pre.length + 1)) = xr := by rw [stL_take hlt, ← E2.out]
      have o1 := oth (w.heap.size + 1) (by omega) (by omega)
      have o2 := oth (w.heap.size + 2) (by omega) (by omega)
      have o3 := oth (w.heap.size + 3) (by omega) (by omega)
      have HP : Hid (PlI w l cs w8.heap.size w.heap.size (pre ++ [((.slice xa xn xc, xr, 0) : EdE)]) M O ((W2.setCell ⟨w.heap.size, 0, none⟩ (.slice xa xn xc)).setCell ⟨w.heap.size + 4, 0, none⟩ (.int .i64 ((pre.length : Int) + 1)))) := hid (by
        refine ⟨fun y hy => ?_, by rw [List.length_append, List.length_singleton]; omega, ?_, A4.out.trans (HKB.out.below A4.out.size A6.out), A5.out, A6.out, ⟨v4, (World.cell?_of_block o1).trans c4, (World.frozen?_of_block o1).trans f4⟩, ⟨v5, (World.cell?_of_block o2).trans c5, (World.frozen?_of_block o2).trans f5⟩, ⟨v6, (World.cell?_of_block o3).trans c6, (World.frozen?_of_block o3).trans f6⟩, ⟨?_, (World.frozen?_setCell _ _ _ _).trans d7f⟩, xa, xn, xc, hx2, (World.frozen?_setCell _ _ _ _).trans ((World.frozen?_setCell _ _ _ _).trans f2), ?_⟩
        · rcases List.mem_append.1 hy with h | h
          · exact A1.out y h
          · simp at h; rw [h]
        · rw [List.length_append, List.length_singleton, A3.out, play_step hlt (by rw [← E2.out])]
          congr 1
        · rw [World.cell?_setCell_same' _ _ _ (by rw [d7]; rfl), List.length_append, List.length_singleton]
          rfl
        · rw [List.length_append, List.length_singleton, hst]
          exact E4.out.turn (HKB.out.mono (M' := fun k => (M k ∨ k = w8.heap.size + 1) ∨ O k) (fun k _ h => Or.inl (Or.inl h))) (fun k h => Or.inl h))
      clear oth o1 o2 o3 hx2 hst
      gi_wp2
      exact ⟨M, fun k hk => ⟨Or.inl hk, by have := (HM.out k hk).2.2.1; have := HS2.out; have := HKB.out.size; omega⟩, HKB.out.mono (fun k _ hk => Or.inl hk), HP.out⟩
    · have n0 : (xe != 0) = true := by simpa using hx0
      have hpl : playL l cs 0 = ([], (pre.length : Int), xe) := by
        rw [A3.out, play_stop hlt (by rw [← E2.out]; exact hx0), ← E2.out]
      have HPL := hid hpl
      have HKB : Hid (Kb M W2 (((W2.setCell ⟨w.heap.size + 1, 0, none⟩ (.slice none 0 0)).setCell ⟨w.heap.size + 2, 0, none⟩ (.int .i64 pre.length)).setCell ⟨w.heap.size + 3, 0, none⟩ (.int .i64 xe)).drew) :=
        hid ((((Kb.setCell (M := M) _ A5.out.2.1).trans (Kb.setCell (M := M) _ A5.out.2.2.1) (fun k hk => Or.inl hk)).trans (Kb.setCell (M := M) _ A5.out.2.2.2.1) (fun k hk => Or.inl hk)).trans (Kb.drewN (M := M) 1) (fun k hk => Or.inl hk))
      have HX : Hid (PlX w l cs w.heap.size .ret (pre ++ [((.slice xa xn xc, xr, xe) : EdE)]) M O (((W2.setCell ⟨w.heap.size + 1, 0, none⟩ (.slice none 0 0)).setCell ⟨w.heap.size + 2, 0, none⟩ (.int .i64 pre.length)).setCell ⟨w.heap.size + 3, 0, none⟩ (.int .i64 xe)).drew) := hid (by
        have h1 : (W2.setCell ⟨w.heap.size + 1, 0, none⟩ (.slice none 0 0)).cell? ⟨w.heap.size + 1, 0, none⟩ = some (.slice none 0 0) := World.cell?_setCell_same' _ _ _ (by rw [c4]; rfl)
        have h2 : (W2.setCell ⟨w.heap.size + 1, 0, none⟩ (.slice none 0 0)).cell? ⟨w.heap.size + 2, 0, none⟩ = some v5 := (World.cell?_of_block (Below.heap_setCell _ _ _ _ (by show w.heap.size + 2 ≠ w.heap.size + 1; omega))).trans c5
        have h3 : ((W2.setCell ⟨w.heap.size + 1, 0, none⟩ (.slice none 0 0)).setCell ⟨w.heap.size + 2, 0, none⟩ (.int .i64 pre.length)).cell? ⟨w.heap.size + 3, 0, none⟩ = some v6 := (World.cell?_of_block ((Below.heap_setCell _ _ _ _ (by show w.heap.size + 3 ≠ w.heap.size + 2; omega)).trans (Below.heap_setCell _ _ _ _ (by show w.heap.size + 3 ≠ w.heap.size + 1; omega)))).trans c6
        refine ⟨rfl, A4.out.trans (HKB.out.below A4.out.size A6.out), ⟨A5.out.2.1, A5.out.2.2.1, A5.out.2.2.2.1⟩, A6.out, pre.length, xe, ?_, ?_, ?_, HPL.out⟩
        · exact (World.cell?_of_block ((Below.heap_setCell _ _ _ _ (by show w.heap.size + 1 ≠ w.heap.size + 3; omega)).trans (Below.heap_setCell _ _ _ _ (by show w.heap.size + 1 ≠ w.heap.size + 2; omega)))).trans h1
        · exact (World.cell?_of_block (Below.heap_setCell _ _ _ _ (by show w.heap.size + 2 ≠ w.heap.size + 3; omega))).trans (World.cell?_setCell_same' _ _ _ (by rw [h2]; rfl))
        · exact World.cell?_setCell_same' _ _ _ (by rw [h3]; rfl))
      clear hpl hx0
      gi_wp2
      gi_region
      all_goals
        gi_wp2
        exact ⟨M, fun k hk => ⟨Or.inl hk, by have := (HM.out k hk).2.2.1; have := HS2.out; have := HKB.out.size; omega⟩, HKB.out.mono (fun k _ hk => Or.inl hk), HX.out⟩
  case refine_6 =>
    rintro xs M O W hxs hI hD hMD
    obtain ⟨a1, a2, a3, a4, a5, a6, ⟨v4, c4, f4⟩, ⟨v5, c5, f5⟩, ⟨v6, c6, f6⟩, ⟨c7, f7⟩, ⟨a, n, c, c2, f2, hs⟩⟩ := hI
    have hlen : xs.length = cs.length := by
      rcases hxs with h | ⟨y, hy, h⟩
      · exact h
      · exact absurd (a1 y hy) h
    have hpl : playL l cs 0 = (stL l (cs.take xs.length), -1, 0) := by
      rw [a3, hlen, List.drop_length, playL]
    have HPL := hid hpl
    obtain ⟨W', hW'⟩ : ∃ W', ((W.setCell ⟨w.heap.size + 1, 0, none⟩ (.slice a n c)).setCell ⟨w.heap.size + 2, 0, none⟩ (.int .i64 (-1))).setCell ⟨w.heap.size + 3, 0, none⟩ (.int .i64 0) = W' := ⟨_, rfl⟩
    have hkb : Kb (fun k => k = w.heap.size + 1 ∨ k = w.heap.size + 2 ∨ k = w.heap.size + 3) W W' := by
      rw [← hW']
      exact ((Kb.setCell (M := fun k => k = w.heap.size + 1 ∨ k = w.heap.size + 2 ∨ k = w.heap.size + 3) _ (Or.inl rfl)).trans (Kb.setCell (M := fun k => k = w.heap.size + 1 ∨ k = w.heap.size + 2 ∨ k = w.heap.size + 3) _ (Or.inr (Or.inl rfl))) (fun k hk => Or.inl hk)).trans (Kb.setCell (M := fun k => k = w.heap.size + 1 ∨ k = w.heap.size + 2 ∨ k = w.heap.size + 3) _ (Or.inr (Or.inr rfl))) (fun k hk => Or.inl hk)
    have h1 : (W.setCell ⟨w.heap.size + 1, 0, none⟩ (.slice a n c)).cell? ⟨w.heap.size + 1, 0, none⟩ = some (.slice a n c) := World.cell?_setCell_same' _ _ _ (by rw [c4]; rfl)
    have h2 : (W.setCell ⟨w.heap.size + 1, 0, none⟩ (.slice a n c)).cell? ⟨w.heap.size + 2, 0, none⟩ = some v5 := (World.cell?_of_block (Below.heap_setCell _ _ _ _ (by show w.heap.size + 2 ≠ w.heap.size + 1; omega))).trans c5
    have h3 : ((W.setCell ⟨w.heap.size + 1, 0, none⟩ (.slice a n c)).setCell ⟨w.heap.size + 2, 0, none⟩ (.int .i64 (-1))).cell? ⟨w.heap.size + 3, 0, none⟩ = some v6 := (World.cell?_of_block ((Below.heap_setCell _ _ _ _ (by show w.heap.size + 3 ≠ w.heap.size + 2; omega)).trans (Below.heap_setCell _ _ _ _ (by show w.heap.size + 3 ≠ w.heap.size + 1; omega)))).trans c6
    have d1 : W'.cell? ⟨w.heap.size + 1, 0, none⟩ = some (.slice a n c) := by
      rw [← hW']; exact (World.cell?_of_block ((Below.heap_setCell _ _ _ _ (by show w.heap.size + 1 ≠ w.heap.size + 3; omega)).trans (Below.heap_setCell _ _ _ _ (by show w.heap.size + 1 ≠ w.heap.size + 2; omega)))).trans h1
    have d2 : W'.cell? ⟨w.heap.size + 2, 0, none⟩ = some (.int .i64 (-1)) := by
      rw [← hW']; exact (World.cell?_of_block (Below.heap_setCell _ _ _ _ (by show w.heap.size + 2 ≠ w.heap.size + 3; omega))).trans (World.cell?_setCell_same' _ _ _ (by rw [h2]; rfl))
    have d3 : W'.cell? ⟨w.heap.size + 3, 0, none⟩ = some (.int .i64 0) := by
      rw [← hW']; exact World.cell?_setCell_same' _ _ _ (by rw [h3]; rfl)
    have f5' : (W.setCell ⟨w.heap.size + 1, 0, none⟩ (.slice a n c)).frozen? ⟨w.heap.size + 2, 0, none⟩ = false := (World.frozen?_setCell _ _ _ _).trans f5
    have f6' : ((W.setCell ⟨w.heap.size + 1, 0, none⟩ (.slice a n c)).setCell ⟨w.heap.size + 2, 0, none⟩ (.int .i64 (-1))).frozen? ⟨w.heap.size + 3, 0, none⟩ = false := (World.frozen?_setCell _ _ _ _).trans ((World.frozen?_setCell _ _ _ _).trans f6)
    have hD' : W'.heap[w8.heap.size]? = some (.deferred (some [])) := (hkb.same _ (Array.getElem?_eq_some_iff.1 hD).1 (fun h => by omega)).trans hD
    have hEW : EntsAt W' (.slice a n c) (stL l (cs.take xs.length)) := hs W' (hkb.mono (M' := fun k => (M k ∨ k = w8.heap.size + 1) ∨ O k) (fun k _ h => by
      rcases h with rfl | rfl | rfl
      · exact Or.inl (Or.inl a5.2.1)
      · exact Or.inl (Or.inl a5.2.2.1)
      · exact Or.inl (Or.inl a5.2.2.2.1)))
    have HEP : Hid (EntsAt (W'.putObj w8.heap.size (.deferred none)) (.slice a n c) (stL l (cs.take xs.length))) := hid (by
      obtain ⟨vs, q1, q2, q3⟩ := hEW
      have hsame : ∀ q, q ≠ w8.heap.size → (W'.putObj w8.heap.size (.deferred none)).heap[q]? = W'.heap[q]? := fun q hq => World.putObj_heap_other hq
      exact ⟨vs, putObj_rowK hD' rfl q1, q2, fun j hj hj' => ⟨putObj_rowK hD' rfl (q3 j hj hj').s, ⟨putObj_rowK hD' rfl (q3 j hj hj').u.1, (q3 j hj hj').u.2⟩, putObj_rowK hD' rfl (q3 j hj hj').p, (q3 j hj hj').n1, (q3 j hj hj').n2⟩⟩)
    have HB := hid (putObj_below (.deferred none) (a4.trans (hkb.below a4.size (fun k hk => by omega))) (by omega : w.heap.size ≤ w8.heap.size))
    have HDD := hid hD'
    have e1 := putObj_cell (o' := .deferred none) hD' rfl d1
    have e2 := putObj_cell (o' := .deferred none) hD' rfl d2
    have e3 := putObj_cell (o' := .deferred none) hD' rfl d3
    clear hD' hkb d1 d2 d3 hD hEW hs a1 a2 a3 a4 hpl h1
    go_wp2
    try rw [hW']
    refine leave_mark (v := .tuple #[.slice a n c, .int .i64 (-1), .int .i64 0]) HDD.out (by simp [results, Tryz.results57, go_sem, e1, e2, e3]) ?_
    exact ⟨_, by rw [HPL.out], by rw [HPL.out]; exact HEP.out, HB.out⟩
  case refine_7 =>
    rintro c pre M O W hX hD hMD
    obtain ⟨rfl, a4, a5, a6, n, er, c4, c5, c6, hpl⟩ := hX
    have HB := hid (putObj_below (.deferred none) a4 (by omega : w.heap.size ≤ w8.heap.size))
    have HPL := hid hpl
    have e1 := putObj_cell (o' := .deferred none) hD rfl c4
    have e2 := putObj_cell (o' := .deferred none) hD rfl c5
    have e3 := putObj_cell (o' := .deferred none) hD rfl c6
    clear c4 c5 c6 hpl a4
    gi_wp2
    refine leave_mark (v := .tuple #[.slice none 0 0, .int .i64 n, .int .i64 er]) hD (by simp [results, Tryz.results57, go_sem, e1, e2, e3]) ?_
    exact ⟨_, by rw [HPL.out], by rw [HPL.out]; exact EntsAt.nil _, HB.out⟩
end Go.Proofs.YtlbjbmpkaniojaaGreat
namespace Go.Proofs.YtlbjbmpkaniojaaGreat
open Go Go.RowKit
/-- a mark: the name, who was first, who was last. -/
abbrev Mk := Nm × (Nm × Nm)
def mk1 (c : Chg) (m : Mk) : Option Mk :=
  if c.kind = 4 ∧ m.1 = c.name then none
  else if c.kind = 3 ∧ m.1 = c.name then some (c.new, m.2)
  else if c.kind = 2 ∧ m.1 = c.ent.name then some (m.1, m.2.1, c.who)
  else some m
def mkAdd (c : Chg) : List Mk := if c.kind = 1 then [(c.ent.name, c.who, c.who)] else []
def mkStep (o : List Mk) (c : Chg) : List Mk := o.filterMap (mk1 c) ++ mkAdd c
def mkAll (cs : List Chg) : List Mk := cs.foldl mkStep []
theorem mkAll_take {cs : List Chg} {k : Nat} (h : k < cs.length) : mkAll (cs.take (k + 1)) = mkStep (mkAll (cs.take k)) cs[k] := by
  unfold mkAll
  rw [List.take_succ_eq_append_getElem h, List.foldl_append]; rfl
/-- the marks stand for the entries of an edition. -/
structure MkInv (o : List Mk) (L : List En) : Prop where
  nd : (o.map Prod.fst).Nodup
  eq : ∀ n, (∃ v, (n, v) ∈ o) ↔ ∃ x ∈ L, x.name = n
theorem MkInv.nil : MkInv [] [] := ⟨by simp, fun n => by simp⟩
theorem mk_fst {o : List Mk} (h : (o.map Prod.fst).Nodup) {n : Nm} {v w : Nm × Nm} (h1 : (n, v) ∈ o) (h2 : (n, w) ∈ o) : v = w := by
  obtain ⟨i, hi, e1⟩ := List.getElem_of_mem h1
  obtain ⟨j, hj, e2⟩ := List.getElem_of_mem h2
  rw [List.Nodup, List.pairwise_map] at h
  have hij : i = j := by
    rcases Nat.lt_trichotomy i j with hl | hl | hl
    · have := List.pairwise_iff_getElem.1 h i j hi hj hl
      rw [e1, e2] at this; exact absurd rfl this
    · exact hl
    · have := List.pairwise_iff_getElem.1 h j i hj hi hl
      rw [e1, e2] at this; exact absurd rfl this
  subst hij
  rw [e1] at e2; exact congrArg Prod.snd e2
theorem mem_filterMap1 {o : List Mk} {c : Chg} {m : Mk} : m ∈ o.filterMap (mk1 c) ↔ ∃ a ∈ o, mk1 c a = some m := List.mem_filterMap
/-- what becomes of a name. -/
theorem mk1_name {c : Chg} {a m : Mk} (h : mk1 c a = some m) : m.1 = if c.kind = 3 then renN c.name c.new a.1 else a.1 := by
  unfold mk1 at h
  unfold renN
  split at h
  · cases h
  split at h
  · rename_i h1 h2
    cases h
    rw [if_pos h2.1, if_pos h2.2]
  rename_i h1 h2
  split at h
  · rename_i h3
    cases h
    rw [if_neg (by omega)]
  · cases h
    by_cases h4 : c.kind = 3
    · rw [if_pos h4, if_neg fun e => h2 ⟨h4, e⟩]
    · rw [if_neg h4]
theorem mk1_some {c : Chg} {a : Mk} (h : ¬ (c.kind = 4 ∧ a.1 = c.name)) : ∃ m, mk1 c a = some m := by
  unfold mk1
  rw [if_neg h]
  split
  · exact ⟨_, rfl⟩
  split
  · exact ⟨_, rfl⟩
  · exact ⟨_, rfl⟩
theorem mk1_none {c : Chg} {a : Mk} (h : c.kind = 4 ∧ a.1 = c.name) : mk1 c a = none := by unfold mk1; rw [if_pos h]
theorem trC_nm (c : Chg) (y : En) : (trC c y).name = if c.kind = 3 then renN c.name c.new y.name else y.name := by
  unfold trC
  by_cases h2 : c.kind = 2
  · rw [if_pos h2, if_neg (by omega)]
    unfold subE
    split
    · rename_i h; exact h.symm
    · rfl
  · rw [if_neg h2]
    by_cases h3 : c.kind = 3
    · rw [if_pos h3, if_pos h3]; rfl
    · rw [if_neg h3, if_neg h3]
theorem nd_filterMap {c : Chg} : ∀ {o : List Mk}, (o.map Prod.fst).Nodup → (∀ a ∈ o, ∀ b ∈ o, ∀ m p, mk1 c a = some m → mk1 c b = some p → m.1 = p.1 → a.1 = b.1) → ((o.filterMap (mk1 c)).map Prod.fst).Nodup
  | [], _, _ => by simp
  | a :: o, h, hf => by
    rw [List.map_cons, List.nodup_cons] at h
    have ih := nd_filterMap h.2 fun x hx y hy => hf x (by simp [hx]) y (by simp [hy])
    cases hm : mk1 c a with
    | none => rw [List.filterMap_cons_none hm]; exact ih
    | some m =>
      rw [List.filterMap_cons_some hm, List.map_cons, List.nodup_cons]
      refine ⟨fun hin => ?_, ih⟩
      obtain ⟨p, hp, e⟩ := List.mem_map.1 hin
      obtain ⟨b, hb, hbp⟩ := mem_filterMap1.1 hp
      have := hf a (by simp) b (by simp [hb]) m p hm hbp e.symm
      exact h.1 (List.mem_map.2 ⟨b, hb, this.symm⟩)
theorem MkInv.step {s : Sg} {o : List Mk} {L : List En} {c : Chg} (h : MkInv o L) (hl : LibOK s L) (hc : ChgOK s c) (hk : OkC L c) : MkInv (mkStep o c) (doL L c).1 := by
  have hmem := doL_mem hl hc hk
  have key : ∀ n, (∃ v, (n, v) ∈ o.filterMap (mk1 c)) ↔ ∃ y ∈ L, ¬ goneC c y.name ∧ n = (trC c y).name := by
    intro n
    constructor
    · rintro ⟨v, hv⟩
      obtain ⟨⟨a1, a2⟩, ha, hm⟩ := mem_filterMap1.1 hv
      obtain ⟨y, hy, e⟩ := (h.eq a1).1 ⟨a2, ha⟩
      refine ⟨y, hy, fun hg => ?_, ?_⟩
      · rw [mk1_none ⟨hg.1, by show a1 = _; rw [← e]; exact hg.2⟩] at hm; cases hm
      · rw [trC_nm, e]; exact mk1_name hm
    · rintro ⟨y, hy, hg, e⟩
      obtain ⟨v, hv⟩ := (h.eq y.name).2 ⟨y, hy, rfl⟩
      obtain ⟨⟨m1, m2⟩, hm⟩ := mk1_some (c := c) (a := (y.name, v)) hg
      have := mk1_name hm
      rw [trC_nm] at e
      simp only at this
      exact ⟨m2, mem_filterMap1.2 ⟨_, hv, by rw [hm, e, ← this]⟩⟩
  have hnd1 : ((o.filterMap (mk1 c)).map Prod.fst).Nodup := by
    refine nd_filterMap h.nd fun a ha b hb m p hm hp e => ?_
    have e1 := mk1_name hm
    have e2 := mk1_name hp
    rw [e1, e2] at e
    by_cases h3 : c.kind = 3
    · rw [if_pos h3, if_pos h3] at e
      cases hk with
      | ren hk' h1 h2 h4 =>
        refine renN_inj (l := o.map Prod.fst) (fun hin => ?_) (List.mem_map.2 ⟨a, ha, rfl⟩) (List.mem_map.2 ⟨b, hb, rfl⟩) e
        obtain ⟨⟨q1, q2⟩, hq, e3⟩ := List.mem_map.1 hin
        obtain ⟨x, hx, e4⟩ := (h.eq q1).1 ⟨q2, hq⟩
        exact h2 x hx (e4.trans e3)
      | add hk' => omega
      | set hk' => omega
      | drop hk' => omega
    · rw [if_neg h3, if_neg h3] at e; exact e
  constructor
  · unfold mkStep mkAdd
    split
    · rename_i h1
      rw [List.map_append, List.nodup_append]
      refine ⟨hnd1, by simp, fun a ha b hb e => ?_⟩
      simp at hb
      subst hb
      obtain ⟨⟨q1, q2⟩, hq, e3⟩ := List.mem_map.1 ha
      obtain ⟨y, hy, -, e4⟩ := (key q1).1 ⟨q2, hq⟩
      rw [trC_nm, if_neg (by omega)] at e4
      cases hk with
      | add hk' h5 h6 => exact h5 y hy (by rw [← e4, ← e]; exact e3)
      | set hk' => omega
      | ren hk' => omega
      | drop hk' => omega
    · simpa using hnd1
  · intro n
    have hS : (∃ v, (n, v) ∈ mkStep o c) ↔ (∃ v, (n, v) ∈ o.filterMap (mk1 c)) ∨ (c.kind = 1 ∧ n = c.ent.name) := by
      unfold mkStep mkAdd
      constructor
      · rintro ⟨v, hv⟩
        rcases List.mem_append.1 hv with hv | hv
        · exact Or.inl ⟨v, hv⟩
        · split at hv
          · rename_i h1
            simp at hv
            exact Or.inr ⟨h1, hv.1⟩
          · cases hv
      · rintro (⟨v, hv⟩ | ⟨h1, h2⟩)
        · exact ⟨v, List.mem_append.2 (Or.inl hv)⟩
        · exact ⟨(c.who, c.who), List.mem_append.2 (Or.inr (by rw [if_pos h1, h2]; simp))⟩
    rw [hS, key]
    constructor
    · rintro (⟨y, hy, hg, e⟩ | ⟨h1, h2⟩)
      · exact ⟨trC c y, (hmem _).2 (Or.inl ⟨y, hy, hg, rfl⟩), e.symm⟩
      · exact ⟨c.ent, (hmem _).2 (Or.inr ⟨h1, rfl⟩), h2.symm⟩
    · rintro ⟨z, hz, e⟩
      rcases (hmem z).1 hz with ⟨y, hy, hg, rfl⟩ | ⟨h1, rfl⟩
      · exact Or.inl ⟨y, hy, hg, e.symm⟩
      · exact Or.inr ⟨h1, e.symm⟩
/-- each change of a list that can be played can be made where it stands. -/
theorem play_all : ∀ (cs : List Chg) (l : List En) (i : Int), (playL l cs i).2.2 = 0 → (∀ (k : Nat) (h : k < cs.length), (doL (stL l (cs.take k)) cs[k]).2 = 0) ∧ (playL l cs i).1 = stL l cs
  | [], l, i, _ => ⟨fun k h => by simp at h, rfl⟩
  | c :: cs, l, i, h => by
    unfold playL at h ⊢
    split at h
    · rename_i h0
      rw [if_pos h0]
      obtain ⟨h1, h2⟩ := play_all cs _ _ h
      refine ⟨fun k hk => ?_, h2⟩
      cases k with
      | zero => exact h0
      | succ k => exact h1 k (by simpa using hk)
    · rename_i h0; exact absurd h h0
theorem st_ed {s : Sg} {cs : List Chg} (hs : signB s = true) (hc : ∀ c ∈ cs, chgB s c = true) (h : (playL [] cs 0).2.2 = 0) : ∀ k, k ≤ cs.length → edB s (stL [] (cs.take k)) = true
  | 0, _ => edB_nil hs
  | k + 1, hk => by
    rw [stL_take (by omega)]
    exact doL_ed (st_ed hs hc h k (by omega)) (hc _ (List.getElem_mem _)) (Prod.ext rfl ((play_all cs [] 0 h).1 k (by omega)))
theorem mk_inv {s : Sg} {cs : List Chg} (hs : signB s = true) (hc : ∀ c ∈ cs, chgB s c = true) (h : (playL [] cs 0).2.2 = 0) : ∀ k, k ≤ cs.length → MkInv (mkAll (cs.take k)) (stL [] (cs.take k))
  | 0, _ => MkInv.nil
  | k + 1, hk => by
    have hk' : k < cs.length := by omega
    rw [stL_take hk', mkAll_take hk']
    have hed := edB_iff.1 (st_ed hs hc h k (by omega))
    have hch := chgB_iff.1 (hc _ (List.getElem_mem hk'))
    exact (mk_inv hs hc h k (by omega)).step hed.1 hch ((okC_iff hed.1 hch).1 ((play_all cs [] 0 h).1 k hk'))
/-- the map from names that marks are. -/
def mkF (o : List Mk) (n : Nm) : Option (Nm × Nm) := (o.find? fun m => decide (m.1 = n)).map Prod.snd
theorem mkF_iff {o : List Mk} (h : (o.map Prod.fst).Nodup) {n : Nm} {v : Nm × Nm} : mkF o n = some v ↔ (n, v) ∈ o := by
  unfold mkF
  constructor
  · intro e
    obtain ⟨⟨a, b⟩, hf, e2⟩ := Option.map_eq_some_iff.1 e
    have h1 := List.mem_of_find?_eq_some hf
    have h2 := List.find?_some hf
    simp at h2 e2
    rw [← h2, ← e2]; exact h1
  · intro hin
    cases hf : o.find? fun m => decide (m.1 = n) with
    | none =>
      rw [List.find?_eq_none] at hf
      exact absurd (by simp) (hf _ hin)
    | some m =>
      have h1 := List.mem_of_find?_eq_some hf
      have h2 := List.find?_some hf
      obtain ⟨a, b⟩ := m
      simp at h2
      subst h2
      rw [mk_fst h h1 hin]; rfl
theorem mkF_ext {o : List Mk} (h : (o.map Prod.fst).Nodup) {f : Nm → Option (Nm × Nm)} (e : ∀ n v, f n = some v ↔ (n, v) ∈ o) : f = mkF o := by
  funext n
  apply Option.ext
  intro v
  rw [mkF_iff h, e]
theorem mem_step {o : List Mk} {c : Chg} {n : Nm} {v : Nm × Nm} : (n, v) ∈ mkStep o c ↔ (∃ a ∈ o, mk1 c a = some (n, v)) ∨ (c.kind = 1 ∧ n = c.ent.name ∧ v = (c.who, c.who)) := by
  unfold mkStep mkAdd
  rw [List.mem_append, mem_filterMap1]
  refine or_congr Iff.rfl ?_
  split
  · rename_i h; simp [h]
  · rename_i h; simp [h]
theorem mkF_add {o : List Mk} {c : Chg} (hk : c.kind = 1) (hn : ((mkStep o c).map Prod.fst).Nodup) (ho : (o.map Prod.fst).Nodup) (hne : ∀ v, (c.ent.name, v) ∉ o) : (fun y => if y = c.ent.name then some (c.who, c.who) else mkF o y) = mkF (mkStep o c) := by
  refine mkF_ext hn fun n v => ?_
  have hm : ∀ a : Mk, mk1 c a = some a := fun a => by unfold mk1; rw [if_neg (by omega), if_neg (by omega), if_neg (by omega)]
  rw [mem_step]
  by_cases e : n = c.ent.name
  · rw [if_pos e]
    constructor
    · intro h; exact Or.inr ⟨hk, e, by cases h; rfl⟩
    · rintro (⟨a, ha, h⟩ | ⟨-, -, h⟩)
      · rw [hm] at h; cases h; exact absurd ha (e ▸ hne v)
      · rw [h]
  · rw [if_neg e, mkF_iff ho]
    constructor
    · intro h; exact Or.inl ⟨_, h, hm _⟩
    · rintro (⟨a, ha, h⟩ | ⟨-, h, -⟩)
      · rw [hm] at h; cases h; exact ha
      · exact absurd h e
theorem mkF_set {o : List Mk} {c : Chg} (hk : c.kind = 2) (hn : ((mkStep o c).map Prod.fst).Nodup) (ho : (o.map Prod.fst).Nodup) {f g : Nm} (hin : mkF o c.ent.name = some (f, g)) : (fun y => if y = c.ent.name then some (f, c.who) else mkF o y) = mkF (mkStep o c) := by
  refine mkF_ext hn fun n v => ?_
  have hin' := (mkF_iff ho).1 hin
  have hm1 : mk1 c (c.ent.name, (f, g)) = some (c.ent.name, (f, c.who)) := by unfold mk1; rw [if_neg (by omega), if_neg (by omega), if_pos ⟨hk, rfl⟩]
  have hm2 : ∀ a : Mk, a.1 ≠ c.ent.name → mk1 c a = some a := fun a h => by unfold mk1; rw [if_neg (by omega), if_neg (by omega), if_neg fun h' => h h'.2]
  rw [mem_step]
  by_cases e : n = c.ent.name
  · rw [if_pos e]
    constructor
    · intro h; exact Or.inl ⟨_, hin', by rw [hm1, e]; cases h; rfl⟩
    · rintro (⟨⟨a1, a2⟩, ha, h⟩ | ⟨h, -⟩)
      · have h1 := mk1_name h
        rw [if_neg (by omega)] at h1
        have h1 : n = a1 := h1
        subst h1
        rw [e] at ha h
        have := mk_fst ho ha hin'
        subst this
        rw [hm1] at h; cases h; rfl
      · omega
  · rw [if_neg e, mkF_iff ho]
    constructor
    · intro h; exact Or.inl ⟨_, h, hm2 _ e⟩
    · rintro (⟨⟨a1, a2⟩, ha, h⟩ | ⟨h, -⟩)
      · have h1 := mk1_name h
        rw [if_neg (by omega)] at h1
        have h1 : n = a1 := h1
        subst h1
        rw [hm2 _ e] at h; cases h; exact ha
      · omega
theorem mkF_ren {o : List Mk} {c : Chg} (hk : c.kind = 3) (hn : ((mkStep o c).map Prod.fst).Nodup) (ho : (o.map Prod.fst).Nodup) {f : Nm × Nm} (hin : mkF o c.name = some f) (hne : c.name ≠ c.new) (hnew : ∀ v, (c.new, v) ∉ o) :
    (fun y => if y = c.name then none else (fun y => if y = c.new then some f else mkF o y) y) = mkF (mkStep o c) := by
  refine mkF_ext hn fun n v => ?_
  have hin' := (mkF_iff ho).1 hin
  have hm1 : mk1 c (c.name, f) = some (c.new, f) := by unfold mk1; rw [if_neg (by omega), if_pos ⟨hk, rfl⟩]
  have hm2 : ∀ a : Mk, a.1 ≠ c.name → mk1 c a = some a := fun a h => by unfold mk1; rw [if_neg (by omega), if_neg fun h' => h h'.2, if_neg (by omega)]
  have hback : ∀ (a : Mk), a ∈ o → mk1 c a = some (n, v) → (a.1 = c.name ∧ n = c.new ∧ v = f) ∨ (a.1 ≠ c.name ∧ a = (n, v)) := by
    intro a ha h
    by_cases e1 : a.1 = c.name
    · left
      obtain ⟨a1, a2⟩ := a
      have e1 : a1 = c.name := e1
      subst e1
      have := mk_fst ho ha hin'
      subst this
      rw [hm1] at h; cases h
      exact ⟨rfl, rfl, rfl⟩
    · right
      rw [hm2 _ e1] at h; cases h
      exact ⟨e1, rfl⟩
  rw [mem_step]
  by_cases e : n = c.name
  · rw [if_pos e]
    constructor
    · intro h; cases h
    · rintro (⟨a, ha, h⟩ | ⟨h, -⟩)
      · rcases hback a ha h with ⟨-, h2, -⟩ | ⟨h1, h2⟩
        · exact absurd (e.symm.trans h2) hne
        · rw [h2] at h1; exact absurd e h1
      · omega
  · rw [if_neg e]
    show (if n = c.new then some f else mkF o n) = some v ↔ _
    by_cases e2 : n = c.new
    · rw [if_pos e2]
      constructor
      · intro h; exact Or.inl ⟨_, hin', by rw [hm1, e2]; cases h; rfl⟩
      · rintro (⟨a, ha, h⟩ | ⟨h, -⟩)
        · rcases hback a ha h with ⟨-, -, h3⟩ | ⟨-, h2⟩
          · rw [h3]
          · rw [h2, e2] at ha; exact absurd ha (hnew v)
        · omega
    · rw [if_neg e2, mkF_iff ho]
      constructor
      · intro h; exact Or.inl ⟨_, h, hm2 _ e⟩
      · rintro (⟨a, ha, h⟩ | ⟨h, -⟩)
        · rcases hback a ha h with ⟨-, h2, -⟩ | ⟨-, h2⟩
          · exact absurd h2 e2
          · rw [h2] at ha; exact ha
        · omega
theorem mkF_drop {o : List Mk} {c : Chg} (hk : c.kind = 4) (hn : ((mkStep o c).map Prod.fst).Nodup) (ho : (o.map Prod.fst).Nodup) : (fun y => if y = c.name then none else mkF o y) = mkF (mkStep o c) := by
  refine mkF_ext hn fun n v => ?_
  have hm2 : ∀ a : Mk, a.1 ≠ c.name → mk1 c a = some a := fun a h => by unfold mk1; rw [if_neg fun h' => h h'.2, if_neg (by omega), if_neg (by omega)]
  rw [mem_step]
  by_cases e : n = c.name
  · rw [if_pos e]
    constructor
    · intro h; cases h
    · rintro (⟨a, ha, h⟩ | ⟨h, -⟩)
      · have h1 := mk1_name h
        rw [if_neg (by omega)] at h1
        have h1 : n = a.1 := h1
        rw [mk1_none ⟨hk, h1.symm.trans e⟩] at h; cases h
      · omega
  · rw [if_neg e, mkF_iff ho]
    constructor
    · intro h; exact Or.inl ⟨_, h, hm2 _ e⟩
    · rintro (⟨a, ha, h⟩ | ⟨h, -⟩)
      · have h1 := mk1_name h
        rw [if_neg (by omega)] at h1
        have h1 : n = a.1 := h1
        rw [hm2 a (by rw [← h1]; exact e)] at h; cases h; exact ha
      · omega
def AsMk (o : List Mk) : Prop := o.Pairwise fun a b => ltN a.1 b.1
theorem AsMk.unique {l m : List Mk} (h : AsMk l) (k : AsMk m) (e : ∀ x, x ∈ l ↔ x ∈ m) : l = m :=
  asc_unique (R := fun a b : Mk => ltN a.1 b.1) (fun a => ltN.irr a.1) (fun h k => ltN.trans h k) h k e
def inMk (x : Mk) : List Mk → List Mk
  | [] => [x]
  | y :: l => if ltN y.1 x.1 then y :: inMk x l else x :: y :: l
theorem inMk_mem {x z : Mk} : ∀ {l : List Mk}, z ∈ inMk x l ↔ z = x ∨ z ∈ l
  | [] => by simp [inMk]
  | y :: l => by
    unfold inMk
    split
    · rw [List.mem_cons, inMk_mem, List.mem_cons]; constructor <;> (intro h; rcases h with h | h | h <;> simp [h])
    · simp
theorem inMk_asc {x : Mk} : ∀ {l : List Mk}, AsMk l → (∀ y ∈ l, y.1 ≠ x.1) → AsMk (inMk x l)
  | [], _, _ => by simp [inMk, AsMk]
  | y :: l, h, hn => by
    obtain ⟨h1, h2⟩ := List.pairwise_cons.1 h
    unfold inMk
    split
    · rename_i hy
      refine List.pairwise_cons.2 ⟨fun z hz => ?_, inMk_asc h2 fun z hz => hn z (by simp [hz])⟩
      rcases inMk_mem.1 hz with rfl | hz
      · exact hy
      · exact h1 z hz
    · rename_i hy
      have hyx : ltN x.1 y.1 := by
        rcases ltN.tri y.1 x.1 with k | k | k
        · exact (hy k).elim
        · exact (hn y (by simp) k).elim
        · exact k
      refine List.pairwise_cons.2 ⟨fun z hz => ?_, h⟩
      rcases List.mem_cons.1 hz with rfl | hz
      · exact hyx
      · exact hyx.trans (h1 z hz)
def srMk (l : List Mk) : List Mk := l.foldl (fun o x => inMk x o) []
theorem srMk_mem {z : Mk} (l : List Mk) : z ∈ srMk l ↔ z ∈ l := by
  have key : ∀ (l o : List Mk), z ∈ l.foldl (fun o x => inMk x o) o ↔ z ∈ o ∨ z ∈ l := by
    intro l
    induction l with
    | nil => intro o; simp
    | cons x l ih =>
      intro o
      rw [List.foldl_cons, ih, inMk_mem, List.mem_cons]
      constructor
      · rintro ((h | h) | h) <;> simp [h]
      · rintro (h | h | h) <;> simp [h]
  rw [srMk, key]; simp
theorem srMk_asc {l : List Mk} (h : (l.map Prod.fst).Nodup) : AsMk (srMk l) := by
  have key : ∀ (l o : List Mk), AsMk o → (l.map Prod.fst).Nodup → (∀ x ∈ l, ∀ y ∈ o, y.1 ≠ x.1) → AsMk (l.foldl (fun o x => inMk x o) o) := by
    intro l
    induction l with
    | nil => intro o h _ _; exact h
    | cons x l ih =>
      intro o h hn hd
      rw [List.foldl_cons]
      rw [List.map_cons, List.nodup_cons] at hn
      refine ih _ (inMk_asc h (hd x (by simp))) hn.2 fun z hz y hy => ?_
      rcases inMk_mem.1 hy with rfl | hy
      · intro e; exact hn.1 (List.mem_map.2 ⟨z, hz, e.symm⟩)
      · exact hd z (by simp [hz]) y hy
  exact key l [] (by simp [AsMk]) h (by simp)
def blameL (s : Sg) (cs : List Chg) : List Mk × Int := if lstL s cs = 0 then (if (playL [] cs 0).2.2 = 0 then (srMk (mkAll cs), 0) else ([], (playL [] cs 0).2.2)) else ([], lstL s cs)
/-- the places of the changes of a name, the last first. -/
def hisL (cs : List Chg) : Nat → Nm → List Int
  | 0, _ => []
  | k + 1, n =>
    let c := cs.getD k chg0
    if c.kind = 3 ∧ c.new = n then (k : Int) :: hisL cs k c.name
    else if (c.kind = 1 ∨ c.kind = 2) ∧ c.ent.name = n then (k : Int) :: (if c.kind = 1 then [] else hisL cs k n)
    else hisL cs k n
def histL (s : Sg) (cs : List Chg) (n : Nm) : List Int × Int := if lstL s cs = 0 then (if (playL [] cs 0).2.2 = 0 then (if hasN ((playL [] cs 0).1.map En.name) n = true then ((hisL cs cs.length n).reverse, 0) else ([], 5)) else ([], (playL [] cs 0).2.2)) else ([], lstL s cs)
theorem hisL_len (cs : List Chg) : ∀ (k : Nat) (n : Nm), (hisL cs k n).length ≤ k
  | 0, _ => by simp [hisL]
  | k + 1, n => by
    unfold hisL
    dsimp only
    split
    · have := hisL_len cs k (cs.getD k chg0).name; simp; exact this
    split
    · split
      · simp
      · have := hisL_len cs k n; simp; exact this
    · have := hisL_len cs k n; omega
end Go.Proofs.YtlbjbmpkaniojaaGreat
