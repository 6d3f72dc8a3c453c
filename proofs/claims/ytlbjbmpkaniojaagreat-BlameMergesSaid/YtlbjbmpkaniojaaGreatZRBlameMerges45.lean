/-
  WHAT IT HOLDS: contract of History of package blame. Conditions: the arguments read as data; small signs.
  WHAT IT HOLDS: contracts of the helpers great, heavy, many and awake of the laws of layer 9, and of SameInts of the reference of layer 6. Conditions: the arguments read as data.
-/
import Derived.Shelf.SlicesE.Reverse
import Derived.Laws.StructEq
import Derived.BigQuiet
import Derived.Test.YtlbjbmpkaniojaaGreatZRBlameMerges33
import Derived.Test.YtlbjbmpkaniojaaGreatZRBlameMerges42
import Derived.Test.YtlbjbmpkaniojaaGreatZRBlameMerges36
namespace Go.Proofs.YtlbjbmpkaniojaaGreat
open Go Go.RowKit Go.Maps Go.Shelf
attribute [local go_sem] Oper.semAt_some
theorem grow_none (w : World) : Go.Sort.grow w #[] = w := by
  unfold Go.Sort.grow; simp
theorem rev_ints (base : Nat) (u : Value) (zs : List Int) (w : World) (hn : zs.length ≤ 100000) (hown : w.ownsRow base 3 1 u zs.length (zs.map (Value.int .i64))) :
    Calls Tryz.prog 94 #[u] w fun e w' => e = .returned (.tuple #[]) ∧ w'.ownsRow base 3 1 u zs.length (zs.reverse.map (Value.int .i64)) ∧ Kb (fun k => u.ownBlock = some k) w w' := by
  have h' := hown
  rcases hown.2 with ⟨hu, h0⟩ | ⟨g, c, cur, rfl, -⟩
  · obtain ⟨a, cc, rfl⟩ := owns_slice h'
    have hz : zs = [] := List.length_eq_zero_iff.1 h0
    subst hz
    refine Calls.mono (AnyE.slices_Reverse_empty Tryz.rev94 a cc w) ?_
    rintro e w' ⟨rfl, rfl⟩
    exact ⟨rfl, h', Kb.refl _ _⟩
  · have hH : Go.Sort.Holds (Value.int .i64) w g 0 zs.toArray := fun j hj => by
      have hj : j < zs.length := by simpa using hj
      rw [Nat.zero_add]
      have hc := h'.cellAt j (by omega)
      refine ⟨?_, h'.frozenAt j⟩
      rw [hc, getElem!_pos _ j (by simpa using hj)]
      simp [hj]
    refine Calls.mono (AnyE.slices_Reverse Tryz.rev94 (Value.int .i64) (fun _ => rfl) g 0 c zs w hH (by omega)) ?_
    rintro e w' ⟨rfl, n, rfl⟩
    have e1 : Go.Sort.putRow (Value.int .i64) (Go.Sort.ahead w n) g 0 zs.reverse.toArray = sortWorld (Value.int .i64) w g 0 n zs.reverse.toArray #[] := (grow_none _).symm
    rw [e1]
    refine ⟨rfl, ?_, (kb_sort (Value.int .i64) w g n zs.reverse.toArray #[]).mono fun k _ h => by rw [h]; rfl⟩
    have := own_sort (Value.int .i64) h' n zs.reverse.toArray (by simp) #[]
    simpa using this
structure HsI (cs : List Chg) (n0 : Nm) (wb : World) (B nb ob : Nat) (pre : List BkE) (M : Nat → Prop) (W : World) : Prop where
  bel : Below wb.heap.size wb W
  mb : M nb ∧ M ob
  lo : ∀ k, M k → wb.heap.size ≤ k
  ex : ∃ (n : Nm) (Out : List Int) (uo : Value), W.cell? ⟨nb, 0, none⟩ = some (.string n) ∧ W.frozen? ⟨nb, 0, none⟩ = false ∧ W.cell? ⟨ob, 0, none⟩ = some uo ∧ W.frozen? ⟨ob, 0, none⟩ = false ∧ W.ownsRow B 3 1 uo Out.length (Out.map (Value.int .i64)) ∧
    (∀ k, uo.ownBlock = some k → M k) ∧ hisL cs cs.length n0 = Out ++ hisL cs (cs.length - pre.length) n ∧ Out.length ≤ pre.length
theorem own_frm {w w' : World} {b : Nat} {e : TypeId} {k : Nat} {v : Value} {n : Nat} {xs : List Value} (h : w.ownsRow b e k v n xs) (hs : ∀ q, v.ownBlock = some q → w'.heap[q]? = w.heap[q]?) : w'.ownsRow b e k v n xs := owns_blocks h fun q _ _ hq => hs q hq
theorem HsI.frm {cs : List Chg} {n0 : Nm} {wb : World} {B nb ob : Nat} (hB : wb.heap.size ≤ B) (h1 : nb < B) (h2 : ob < B) (pre : List BkE) : Frm B (HsI cs n0 wb B nb ob pre) := by
  rintro M W W' ⟨a1, a2, a3, n, Out, uo, c1, f1, c2, f2, ho, hm, hp, hl⟩ hk
  have e1 := hk.same nb (World.block_lt_of_cell? _ _ c1) (fun h => by omega)
  have e2 := hk.same ob (World.block_lt_of_cell? _ _ c2) (fun h => by omega)
  exact ⟨a1.trans (hk.below a1.size fun k h => by omega), a2, a3, n, Out, uo, (World.cell?_of_block e1).trans c1, (World.frozen?_of_block e1).trans f1, (World.cell?_of_block e2).trans c2, (World.frozen?_of_block e2).trans f2,
    own_frm ho fun q hq => hk.same q (ho.lt q hq).2 fun h => h.2 (hm q hq), hm, hp, hl⟩
theorem HsI.next {cs : List Chg} {n0 : Nm} {wb : World} {B nb ob : Nat} {pre : List BkE} {x : BkE} {M : Nat → Prop} {W WF : World} (h : HsI cs n0 wb B nb ob pre M W) (hB : wb.heap.size ≤ B) (hBW : B ≤ W.heap.size) (hk : Kb (fun k => M k ∨ W.heap.size ≤ k) W WF) {n : Nm} {Out : List Int} {uo : Value}
    (c1 : WF.cell? ⟨nb, 0, none⟩ = some (.string n)) (f1 : WF.frozen? ⟨nb, 0, none⟩ = false) (c2 : WF.cell? ⟨ob, 0, none⟩ = some uo) (f2 : WF.frozen? ⟨ob, 0, none⟩ = false) (ho : WF.ownsRow B 3 1 uo Out.length (Out.map (Value.int .i64))) (hu : ∀ k, uo.ownBlock = some k → M k ∨ W.heap.size ≤ k)
    (hp : hisL cs cs.length n0 = Out ++ hisL cs (cs.length - (pre.length + 1)) n) (hl : Out.length ≤ pre.length + 1) : HsI cs n0 wb B nb ob (pre ++ [x]) (fun k => M k ∨ (W.heap.size ≤ k ∧ k < WF.heap.size)) WF := by
  obtain ⟨a1, a2, a3, -⟩ := h
  refine ⟨a1.trans (hk.below a1.size fun k h => ?_), ⟨Or.inl a2.1, Or.inl a2.2⟩, fun k h => ?_, n, Out, uo, c1, f1, c2, f2, ho, fun k hq => ?_, by simpa using hp, by simpa using hl⟩
  · rcases h with h | h
    · exact a3 k h
    · omega
  · rcases h with h | h
    · exact a3 k h
    · omega
  · rcases hu k hq with h | h
    · exact Or.inl h
    · exact Or.inr ⟨h, (ho.lt k hq).2⟩
def HsX (cs : List Chg) (n0 : Nm) (wb : World) (B ob e0 : Nat) (c : Code) (_ : List BkE) (M : Nat → Prop) (W : World) : Prop :=
  c = .exit e0 ∧ Below wb.heap.size wb W ∧ ∃ uo, W.cell? ⟨ob, 0, none⟩ = some uo ∧ W.frozen? ⟨ob, 0, none⟩ = false ∧ W.ownsRow B 3 1 uo (hisL cs cs.length n0).length ((hisL cs cs.length n0).map (Value.int .i64)) ∧ (∀ k, uo.ownBlock = some k → M k)
theorem HsX.frm {cs : List Chg} {n0 : Nm} {wb : World} {B ob e0 : Nat} (hB : wb.heap.size ≤ B) (h2 : ob < B) (c : Code) (pre : List BkE) : Frm B (HsX cs n0 wb B ob e0 c pre) := by
  rintro M W W' ⟨a0, a1, uo, c2, f2, ho, hm⟩ hk
  have e2 := hk.same ob (World.block_lt_of_cell? _ _ c2) (fun h => by omega)
  exact ⟨a0, a1.trans (hk.below a1.size fun k h => by omega), uo, (World.cell?_of_block e2).trans c2, (World.frozen?_of_block e2).trans f2, own_frm ho fun q hq => hk.same q (ho.lt q hq).2 fun h => h.2 (hm q hq), hm⟩
theorem hs_app {W2 WA w7 : World} {M : Nat → Prop} {B ob nb : Nat} {uo : Value} {Out : List Int} {i : Int} {g cap : Nat} {m : Nm} (hbL : Below W2.heap.size W2 WA) (hz : B ≤ W2.heap.size) (hob : ob < B) (hnb : nb < B) (hne : nb ≠ ob)
    (c1 : W2.cell? ⟨nb, 0, none⟩ = some (.string m)) (f1 : W2.frozen? ⟨nb, 0, none⟩ = false) (c2 : W2.cell? ⟨ob, 0, none⟩ = some uo) (f2 : W2.frozen? ⟨ob, 0, none⟩ = false) (hmo : M ob) (hrow : ∀ k, uo.ownBlock = some k → M k ∧ B ≤ k)
    (hown7 : w7.ownsRow B 3 1 (.slice (some ⟨g, 0, none⟩) (Out.length + 1) cap) (Out.length + 1) (Out.map (Value.int .i64) ++ [.int .i64 i])) (hgrow : WA.grownBy w7 uo.ownBlock) (hat : uo.ownBlock = some g ∨ g = WA.heap.size) :
    Kb (fun k => M k ∨ W2.heap.size ≤ k) W2 (w7.setCell ⟨ob, 0, none⟩ (.slice (some ⟨g, 0, none⟩) (Out.length + 1) cap)) ∧
    (w7.setCell ⟨ob, 0, none⟩ (.slice (some ⟨g, 0, none⟩) (Out.length + 1) cap)).cell? ⟨nb, 0, none⟩ = some (.string m) ∧ (w7.setCell ⟨ob, 0, none⟩ (.slice (some ⟨g, 0, none⟩) (Out.length + 1) cap)).frozen? ⟨nb, 0, none⟩ = false ∧
    (w7.setCell ⟨ob, 0, none⟩ (.slice (some ⟨g, 0, none⟩) (Out.length + 1) cap)).cell? ⟨ob, 0, none⟩ = some (.slice (some ⟨g, 0, none⟩) (Out.length + 1) cap) ∧ (w7.setCell ⟨ob, 0, none⟩ (.slice (some ⟨g, 0, none⟩) (Out.length + 1) cap)).frozen? ⟨ob, 0, none⟩ = false ∧
    (w7.setCell ⟨ob, 0, none⟩ (.slice (some ⟨g, 0, none⟩) (Out.length + 1) cap)).ownsRow B 3 1 (.slice (some ⟨g, 0, none⟩) (Out.length + 1) cap) (Out ++ [i]).length ((Out ++ [i]).map (Value.int .i64)) ∧
    (∀ k, (Value.slice (some ⟨g, 0, none⟩) (Out.length + 1) cap).ownBlock = some k → M k ∨ W2.heap.size ≤ k) := by
  have hs1 := hbL.size
  have hs2 := hgrow.size
  have e1 : w7.heap[nb]? = W2.heap[nb]? := (hgrow.block nb (by omega) (fun e => by have := (hrow _ e.symm).2; omega)).trans (hbL.block nb (by omega))
  have e2 : w7.heap[ob]? = W2.heap[ob]? := (hgrow.block ob (by omega) (fun e => by have := (hrow _ e.symm).2; omega)).trans (hbL.block ob (by omega))
  have k7 : Kb (fun k => M k ∨ W2.heap.size ≤ k) W2 w7 := (Kb.of_below hbL).trans (Kb.grown (M := fun k => M k ∨ W2.heap.size ≤ k) hgrow (fun k hk => Or.inl (Or.inl (hrow k hk).1))) (fun k hk => hk.imp Or.inl id |>.elim (fun h => Or.inl h) (fun h => Or.inl (Or.inr h)))
  have hg := (hown7.lt g rfl).1
  refine ⟨k7.trans (Kb.setCell (M := fun k => M k ∨ W2.heap.size ≤ k) _ (Or.inl hmo)) (fun k hk => Or.inl hk), (World.cell?_of_block ((Below.heap_setCell _ _ _ _ hne).trans e1)).trans c1, (World.frozen?_setCell _ _ _ _).trans ((World.frozen?_of_block e1).trans f1),
    World.cell?_setCell_same' _ _ _ (by rw [World.cell?_of_block (a := ⟨ob, 0, none⟩) e2, c2]; rfl), (World.frozen?_setCell _ _ _ _).trans ((World.frozen?_of_block e2).trans f2), ?_, fun k hk => ?_⟩
  · refine own_frm (by simpa using hown7) fun q hq => Below.heap_setCell _ _ _ _ fun e => ?_
    have h1 : g = q := Option.some.inj hq
    have h2 : q = ob := e
    omega
  · have h1 : g = k := Option.some.inj hk
    subst h1
    rcases hat with h | h
    · exact Or.inl (hrow _ h).1
    · exact Or.inr (by omega)
theorem histL_1 {s : Sg} {cs : List Chg} {n : Nm} (h : (wholeL s cs).2 ≠ 0) : histL s cs n = ([], (wholeL s cs).2) := by
  unfold wholeL histL at *
  split
  · rename_i h1
    rw [if_pos h1] at h
    rw [if_neg h]
  · rfl
theorem whole_ok {s : Sg} {cs : List Chg} (h : (wholeL s cs).2 = 0) : lstL s cs = 0 ∧ (playL [] cs 0).2.2 = 0 ∧ (wholeL s cs).1 = (playL [] cs 0).1 := by
  unfold wholeL at h ⊢
  split at h
  · rename_i h1; rw [if_pos h1]; exact ⟨h1, h, rfl⟩
  · rename_i h1; exact absurd h h1
theorem histL_2 {s : Sg} {cs : List Chg} {n : Nm} (h : (wholeL s cs).2 = 0) : histL s cs n = if hasN ((wholeL s cs).1.map En.name) n = true then ((hisL cs cs.length n).reverse, 0) else ([], 5) := by
  obtain ⟨h1, h2, h3⟩ := whole_ok h
  unfold histL
  rw [if_pos h1, if_pos h2, h3]
theorem his_step {cs : List Chg} {k : Nat} {c : Chg} (h : cs[k]? = some c) (n : Nm) : hisL cs (k + 1) n = if c.kind = 3 ∧ c.new = n then (k : Int) :: hisL cs k c.name else if (c.kind = 1 ∨ c.kind = 2) ∧ c.ent.name = n then (k : Int) :: (if c.kind = 1 then [] else hisL cs k n) else hisL cs k n := by
  conv => lhs; unfold hisL
  rw [List.getD_eq_getElem?_getD, h]
  rfl
set_option maxHeartbeats 8000000 in
set_option maxRecDepth 100000 in
theorem blame_History (vs vc : Value) (s : Sg) (cs : List Chg) (n : Nm) (w : World) (hs : SignAt w vs s) (hc : ChsAt w vc cs) (hs1 : s.length ≤ 1000) (hn : n.size ≤ 140737488355328) :
    Calls Tryz.prog 42 #[vs, vc, .string n] w fun e w' => ∃ u, e = .returned (.tuple #[u, .int .i64 (histL s cs n).2]) ∧ Ints w' u (histL s cs n).1 ∧ Below w.heap.size w w' := by
  have hBX := BX.new w [.string n] 9
  obtain ⟨V, hV⟩ : ∃ V, w.alloc (.cells #[.string n] 9) = V := ⟨_, rfl⟩
  have hV' : w.alloc (.cells ([.string n] : List Value).toArray 9) = V := hV
  rw [hV'] at hBX
  have hbV : Below w.heap.size w V := hV ▸ (Below.refl _ _).alloc (Nat.le_refl _) _
  have HW := hid (blame_whole vs vc s cs V (hs.below hbV) (hc.below hbV) hs1)
  have HC := hid hc
  obtain ⟨ca, cc, rfl, -, hcl, -⟩ := hc.open
  have HV := hid hV
  have HBV := hid hbV
  have HBX := hid hBX
  clear hV hV' hbV hs hc hBX
  by_cases h0 : (wholeL s cs).2 = 0
  case neg =>
    have HF := hid (histL_1 (n := n) h0)
    have n0 : ((wholeL s cs).2 != 0) = true := by simpa using h0
    obtain ⟨er, her⟩ : ∃ er, (wholeL s cs).2 = er := ⟨_, rfl⟩
    rw [her] at HF n0 HW
    clear h0 her
    refine calls_marks Tryz.func42 rfl ?_
    simp only [Tryz.ntmps42, List.size_toArray, List.length_cons, List.length_nil, Nat.reduceAdd, Nat.reduceSub, Array.replicate_succ, Array.replicate_zero, List.push_toArray, List.append_toArray, List.nil_append, List.cons_append]
    go_wp2_with (rw [HV.out])
    refine HW.out.mono ?_
    rintro e w1 ⟨u, rfl, -, hb1⟩
    have HB1 := hid (HBV.out.trans (hb1.mono HBV.out.size))
    clear hb1
    go_wp2
    refine leave_none (v := .tuple #[.slice none 0 0, .int .i64 er]) (by simp [results, Tryz.results42, go_sem]) ?_
    exact ⟨_, by rw [HF.out], by rw [HF.out]; exact Ints.nil _, HB1.out⟩
  have HOK := hid (whole_ok h0)
  have HF := hid (histL_2 (n := n) h0)
  rw [h0] at HW
  clear h0
  obtain ⟨EL, hEL⟩ : ∃ EL, (wholeL s cs).1 = EL := ⟨_, rfl⟩
  rw [hEL] at HW HF
  clear hEL
  refine calls_marks Tryz.func42 rfl ?_
  simp only [Tryz.ntmps42, List.size_toArray, List.length_cons, List.length_nil, Nat.reduceAdd, Nat.reduceSub, Array.replicate_succ, Array.replicate_zero, List.push_toArray, List.append_toArray, List.nil_append, List.cons_append]
  go_wp2_with (rw [HV.out])
  refine HW.out.mono ?_
  rintro e w1 ⟨u, rfl, hu, hb1⟩
  obtain ⟨ua, uc, rfl, -⟩ := hu.open
  have hx1 := HBX.out.below (by simp) hb1
  have g0 : w1.cell? ⟨w.heap.size, 0, none⟩ = some (.string n) := hx1.c 0 (by simp)
  have HFI := hid (blame_find _ EL n w1 hu)
  have HX1 := hid hx1
  have HB1 := hid (HBV.out.trans (hb1.mono HBV.out.size))
  clear hu hb1 hx1 HW
  cases hi : idxN EL n with
  | none =>
    have HF2 : Hid (histL s cs n = ([], 5)) := hid (by rw [HF.out, ← idxN_has, hi]; rfl)
    rw [idxI_no hi] at HFI
    clear hi HF
    go_wp2_with fail
    refine HFI.out.mono ?_
    rintro e w2 ⟨rfl, hb2⟩
    have HB2 := hid (HB1.out.trans (hb2.mono HB1.out.size))
    clear hb2
    go_wp2
    refine leave_none (v := .tuple #[.slice none 0 0, .int .i64 5]) (by simp [results, Tryz.results42, go_sem]) ?_
    exact ⟨_, by rw [HF2.out], by rw [HF2.out]; exact Ints.nil _, HB2.out⟩
  | some i =>
    have HF2 : Hid (histL s cs n = ((hisL cs cs.length n).reverse, 0)) := hid (by rw [HF.out, ← idxN_has, hi]; rfl)
    rw [idxI_some hi] at HFI
    have b0 : ¬ (i : Int) < 0 := by omega
    clear hi HF
    go_wp2_with fail
    refine HFI.out.mono ?_
    rintro e w2 ⟨rfl, hb2⟩
    have HB2 := hid (HB1.out.trans (hb2.mono HB1.out.size))
    have HX2 := hid (HX1.out.below (by simp) hb2)
    clear hb2 g0
    go_wp2_with (go_at_call 93; refine (sl_Backward _ _ _ _).mono ?_; rintro e w4 ⟨rfl, hw4⟩)
    have hw24a : w4.heap.size ≤ w2.heap.size + 2 := by rw [← hw4]; simp
    have hw24b : w2.heap.size + 2 ≤ w4.heap.size := by rw [← hw4]; simp
    have hwlt : w.heap.size < w2.heap.size := World.block_lt_of_cell? _ _ (HX2.out.c 0 (by simp))
    have hb24 : Below w2.heap.size w2 w4 := by rw [← hw4]; exact ((Below.refl _ _).alloc (Nat.le_refl _) _).alloc (by simp) _
    have hOB : BX w4 w2.heap.size [.slice none 0 0] := by
      rw [← hw4]
      exact (BX.new w2 [.slice none 0 0] 36).below (by simp) ((Below.refl _ _).alloc (Nat.le_refl _) _)
    have hCB : w4.cell? ⟨w2.heap.size + 1, 0, none⟩ = some (.slice ca cs.length cc) := by
      have := (BX.new (w2.alloc (.cells #[.slice none 0 0] 36)) [.slice ca cs.length cc] 25).c 0 (by simp)
      rw [World.size_alloc] at this
      rw [← hw4]
      exact this
    have hNB := HX2.out.below (by simp) hb24
    have hbw4 := HB2.out.trans (hb24.mono HB2.out.size)
    have HSQ := hid (back_seq (w2.heap.size + 1) ca cc cs w w4 HC.out hbw4 hCB)
    have HST : Hid (HsI cs n w w4.heap.size w.heap.size w2.heap.size [] (fun k => k = w.heap.size ∨ k = w2.heap.size) w4) :=
      hid ⟨hbw4, ⟨Or.inl rfl, Or.inr rfl⟩, fun k hk => by rcases hk with h | h <;> omega, n, [], _, hNB.c 0 (by simp), hNB.z 0, hOB.c 0 (by simp), hOB.z 0, World.ownsRow_nil _ _ _ _, (fun k h => by cases h), by simp, by simp⟩
    have HKI := hid (fun c hc => (chgB_iff.1 ((lstL_ok.1 HOK.out.1).2.1 c hc)).kinds)
    have HCL := hid (lstL_ok.1 HOK.out.1).2.2
    clear hb24 hOB hCB hNB hw4 hbw4 HX2 HX1 HBX
    refine wpIn_wide.1 (wpIn_range (gf := 138) (lb := #[.pointer (some ⟨w2.heap.size + 1, 0, none⟩)]) rfl (enters_of Tryz.func138 rfl rfl) (encs := bkX) (E := bkE cs) (S := fun xs => xs.length = cs.length)
      (N := fun k => k < w.heap.size ∨ k = w2.heap.size + 1) (w0 := w4) HSQ.out (Below.refl _ _) (fun _ => rfl) ?_ ?_ ?_
      (fun pre => HsI cs n w w4.heap.size w.heap.size w2.heap.size pre) (fun c pre => HsX cs n w w4.heap.size w2.heap.size 0 c pre)
      (fun k => k = w.heap.size ∨ k = w2.heap.size) ?_ (fun pre => HsI.frm (by omega) (by omega) (by omega) pre) (fun c pre => HsX.frm (by omega) (by omega) c pre) HST.out ?_ ?_ ?_)
    case refine_1 => intro pre x W k o o' h _ _; exact h
    case refine_2 => intro pre x A B h _; exact h
    case refine_3 => rintro k (h | rfl) <;> omega
    case refine_4 => rintro k (rfl | rfl) <;> exact ⟨by rintro (h | h) <;> omega, by omega⟩
    case refine_5 =>
      clear HST HSQ
      rintro l' pre ⟨i, c, v1, v2, v3⟩ M W hsW hM hturn
      obtain ⟨-, ⟨hi1, hi2, a1, k1, a2, k2, a3, k3, hv⟩, -⟩ := hturn W (W.putObj (w4.heap.size + 1) (.deferred none)) (Below.refl _ _) ⟨_, rfl⟩
      simp only [Prod.mk.injEq] at hv
      obtain ⟨rfl, rfl, rfl⟩ := hv
      dsimp only at hi1 hi2
      have hkk := HKI.out c (List.mem_of_getElem? hi2)
      have HHS := hid (fun m => his_step hi2 m)
      have hpl : cs.length - pre.length = i + 1 := by omega
      have hpl1 : cs.length - (pre.length + 1) = i := by omega
      have hcl2 := HCL.out
      have hpr : pre.length ≤ 200 := by omega
      obtain ⟨kd, hkd⟩ : ∃ kd, c.kind = kd := ⟨_, rfl⟩
      have HKD := hid hkd
      simp only [bkX, chV, hkd]
      rw [hkd] at hkk HHS
      have hbx := BX.new W [.int .i64 kd, .string c.who, .string c.name, .string c.new, .string c.ent.name, .string c.ent.who, .slice a1 c.ent.says.length k1, .slice a2 c.ent.uses.length k2, .slice a3 c.ent.proof.length k3] 43
      obtain ⟨X, hX⟩ : ∃ X, W.alloc (.cells #[.int .i64 kd, .string c.who, .string c.name, .string c.new, .string c.ent.name, .string c.ent.who, .slice a1 c.ent.says.length k1, .slice a2 c.ent.uses.length k2, .slice a3 c.ent.proof.length k3] 43) = X := ⟨_, rfl⟩
      have hX' : W.alloc (.cells ([.int .i64 kd, .string c.who, .string c.name, .string c.new, .string c.ent.name, .string c.ent.who, .slice a1 c.ent.says.length k1, .slice a2 c.ent.uses.length k2, .slice a3 c.ent.proof.length k3] : List Value).toArray 43) = X := hX
      rw [hX'] at hbx
      have hbX : Below W.heap.size W X := hX ▸ (Below.refl _ _).alloc (Nat.le_refl _) _
      have hzX : X.heap.size = W.heap.size + 1 := by rw [← hX]; simp
      have HX := hid hX
      have HBX := hid hbX
      have HBXX := hid hbx
      have HZX := hid hzX
      have HM := hid hM
      clear hX hX' hbX hkd hi2 hM hbx hzX
      gi_wp2_with (rw [HX.out])
      refine ⟨HBX.out, fun W2 hT2 => ?_⟩
      obtain ⟨hI2, -, hs2⟩ := hturn X W2 HBX.out hT2
      have hs2' : W2.heap.size = W.heap.size + 1 := hs2.trans HZX.out
      obtain ⟨o2, hW2⟩ := hT2
      have hx2 := HBXX.out.block (w' := W2) (by rw [hW2]; exact World.putObj_heap_other (by omega))
      have HI2 := hid hI2
      obtain ⟨b1, ⟨b2, b2'⟩, b3, m, Out, uo, q1, q2, q3, q4, q5, q6, q7, q8⟩ := hI2
      rw [hpl] at q7
      have HQ7 := hid q7
      have HQ8 := hid q8
      have HQ5 := hid q5
      have HQ6 := hid q6
      have HZ2 := hid hs2'
      have d0 := hx2.c 0 (by simp)
      have d1 := hx2.c 1 (by simp)
      have d2 := hx2.c 2 (by simp)
      have d3 := hx2.c 3 (by simp)
      have d4 := hx2.c 4 (by simp)
      simp only [List.getElem_cons_zero, List.getElem_cons_succ] at d0 d1 d2 d3 d4
      have HX2 := hid hx2
      clear hturn hs2 hW2 q5 q6 q7 b1 b2 b2' b3 hx2 hs2'
      have hsk : (¬ (kd = 3 ∧ c.new = m) ∧ ¬ ((kd = 1 ∨ kd = 2) ∧ c.ent.name = m)) → ∃ M' : Nat → Prop, (∀ k, M' k → (M k ∨ W.heap.size ≤ k) ∧ k < W2.heap.size) ∧ Kb (fun k => M k ∨ W.heap.size ≤ k) W2 W2 ∧ HsI cs n w w4.heap.size w.heap.size w2.heap.size (pre ++ [(i, c, .slice a1 c.ent.says.length k1, .slice a2 c.ent.uses.length k2, .slice a3 c.ent.proof.length k3)]) M' W2 := by
        rintro ⟨h1, h2⟩
        refine ⟨fun k => M k ∨ (W2.heap.size ≤ k ∧ k < W2.heap.size), fun k hk => ?_, Kb.refl _ _, HI2.out.next (by omega) (by have := HZ2.out; omega) (Kb.refl _ _) q1 q2 q3 q4 HQ5.out (fun k hk => Or.inl (HQ6.out k hk)) ?_ (by omega)⟩
        · rcases hk with hk | hk
          · exact ⟨Or.inl hk, by have := (HM.out k hk).2.2.1; have := HZ2.out; omega⟩
          · omega
        · rw [HQ7.out, HHS.out, if_neg h1, if_neg h2, hpl1]
      rcases hkk with rfl | rfl | rfl | rfl
      · by_cases he : c.ent.name = m
        · have t1 : (c.ent.name.toList == m.toList) = true := by rw [bytes_eq]; simpa using he
          have HP : Hid (hisL cs cs.length n = Out ++ [(i : Int)]) := hid (by rw [HQ7.out, HHS.out, if_neg (by omega), if_pos ⟨Or.inl rfl, he⟩, if_pos rfl])
          clear hsk he
          have hbL : Below W2.heap.size W2 (W2.alloc (.cells #[.int .i64 i] 3)) := (Below.refl _ _).alloc (Nat.le_refl _) _
          have HBL := hid hbL
          have HRA := hid (owns_below (HQ5.out) hbL)
          have HSRC := hid (row_one_new W2 (.int .i64 i) 3)
          have HXS := hid (show w4.heap.size ≤ (W2.alloc (.cells #[.int .i64 i] 3)).heap.size from Nat.le_trans (by have := HZ2.out; omega) hbL.size)
          have HRN := hid (fun k (hk : uo.ownBlock = some k) => (HQ5.out.lt k hk).1)
          have HRM := hid (fun k (hk : uo.ownBlock = some k) => (HM.out k (HQ6.out k hk)).2.2.1)
          have C96 := hid ((hbL.cell (World.block_lt_of_cell? _ _ q3)).trans q3)
          have F96 := hid ((hbL.frozen (p := ⟨w2.heap.size, 0, none⟩) (World.block_lt_of_cell? _ _ q3)).trans q4)
          have D96 := hid ((hbL.cell (World.block_lt_of_cell? _ _ d0)).trans d0)
          have hzA : W.heap.size + 1 ≤ (W2.alloc (.cells #[.int .i64 i] 3)).heap.size := Nat.le_trans (by have := HZ2.out; omega) hbL.size
          clear hbL
          gi_wp2_with (gi_at_builtin; go_loud (refine wpListIn_append_lie rfl _ _ 36 rfl w4.heap.size 3 el_int Tryz.underlying36 rfl (by decide) _ Out.length (Out.map (Value.int .i64)) rfl HRA.out _ 1 [.int .i64 i] rfl HSRC.out (fun u hu => by simp at hu; subst hu; rfl) (by decide) (by omega) (by omega) (by have := HXS.out; omega) _ rfl ?_; intro g1 cap1 w7 hown7 hgrow7 hat7 hlt7; have e97 := hgrow7.block w2.heap.size (World.block_lt_of_cell? _ _ C96.out) (fun e => by have := HRN.out _ e.symm; omega); have c97 := (World.cell?_of_block e97).trans C96.out; have f97 := (World.frozen?_of_block e97).trans F96.out; have e98 := hgrow7.block W.heap.size (World.block_lt_of_cell? _ _ D96.out) (fun e => by have := HRM.out _ e.symm; omega); have d97 := (World.cell?_of_block e98).trans D96.out; have d98 := (World.cell?_setCell_other w7 ⟨w2.heap.size, 0, none⟩ ⟨W.heap.size, 0, none⟩ (.slice (some ⟨g1, 0, none⟩) (Out.length + 1) cap1) (by first | (simp; done) | (simp; omega) | omega)).trans d97))
          obtain ⟨kF, c1F, f1F, c2F, f2F, oF, uF⟩ := hs_app (M := M) HBL.out (by have := HZ2.out; omega) (by omega) (by omega) (by omega) q1 q2 q3 q4 HI2.out.mb.2 (fun k hk => ⟨HQ6.out k hk, HRN.out k hk⟩) hown7 hgrow7 hat7
          refine ⟨fun k => M k ∨ (W2.heap.size ≤ k ∧ k < (w7.setCell ⟨w2.heap.size, 0, none⟩ (.slice (some ⟨g1, 0, none⟩) (Out.length + 1) cap1)).heap.size), fun k hk => ?_, kF.mono (fun k _ hk => hk.imp id (fun h => by have := HZ2.out; omega)), rfl, HI2.out.bel.trans (kF.below HI2.out.bel.size (fun k hk => ?_)), _, c2F, f2F, by rw [HP.out]; exact oF, fun k hk => ?_⟩
          · rcases hk with hk | hk
            · exact ⟨Or.inl hk, by have := (HM.out k hk).2.2.1; have := HZ2.out; have := kF.size; omega⟩
            · exact ⟨Or.inr (by have := HZ2.out; omega), hk.2⟩
          · rcases hk with hk | hk
            · exact HI2.out.lo k hk
            · have := HI2.out.bel.size; omega
          · exact (uF k hk).imp id (fun h => ⟨h, (oF.lt k hk).2⟩)
        · have HSK := hid (hsk ⟨by omega, fun h => he h.2⟩)
          have t1 : (c.ent.name.toList == m.toList) = false := by rw [bytes_eq]; simpa using he
          clear hsk he
          gi_wp2
          exact HSK.out
      · by_cases he : c.ent.name = m
        · have t1 : (c.ent.name.toList == m.toList) = true := by rw [bytes_eq]; simpa using he
          have HP : Hid (hisL cs cs.length n = (Out ++ [(i : Int)]) ++ hisL cs (cs.length - (pre.length + 1)) m) := hid (by rw [HQ7.out, HHS.out, if_neg (by omega), if_pos ⟨Or.inr rfl, he⟩, if_neg (by omega), hpl1, List.append_assoc]; rfl)
          clear hsk he
          have hbL : Below W2.heap.size W2 (W2.alloc (.cells #[.int .i64 i] 3)) := (Below.refl _ _).alloc (Nat.le_refl _) _
          have HBL := hid hbL
          have HRA := hid (owns_below (HQ5.out) hbL)
          have HSRC := hid (row_one_new W2 (.int .i64 i) 3)
          have HXS := hid (show w4.heap.size ≤ (W2.alloc (.cells #[.int .i64 i] 3)).heap.size from Nat.le_trans (by have := HZ2.out; omega) hbL.size)
          have HRN := hid (fun k (hk : uo.ownBlock = some k) => (HQ5.out.lt k hk).1)
          have HRM := hid (fun k (hk : uo.ownBlock = some k) => (HM.out k (HQ6.out k hk)).2.2.1)
          have C96 := hid ((hbL.cell (World.block_lt_of_cell? _ _ q3)).trans q3)
          have F96 := hid ((hbL.frozen (p := ⟨w2.heap.size, 0, none⟩) (World.block_lt_of_cell? _ _ q3)).trans q4)
          have D96 := hid ((hbL.cell (World.block_lt_of_cell? _ _ d0)).trans d0)
          have hzA : W.heap.size + 1 ≤ (W2.alloc (.cells #[.int .i64 i] 3)).heap.size := Nat.le_trans (by have := HZ2.out; omega) hbL.size
          clear hbL
          gi_wp2_with (gi_at_builtin; go_loud (refine wpListIn_append_lie rfl _ _ 36 rfl w4.heap.size 3 el_int Tryz.underlying36 rfl (by decide) _ Out.length (Out.map (Value.int .i64)) rfl HRA.out _ 1 [.int .i64 i] rfl HSRC.out (fun u hu => by simp at hu; subst hu; rfl) (by decide) (by omega) (by omega) (by have := HXS.out; omega) _ rfl ?_; intro g1 cap1 w7 hown7 hgrow7 hat7 hlt7; have e97 := hgrow7.block w2.heap.size (World.block_lt_of_cell? _ _ C96.out) (fun e => by have := HRN.out _ e.symm; omega); have c97 := (World.cell?_of_block e97).trans C96.out; have f97 := (World.frozen?_of_block e97).trans F96.out; have e98 := hgrow7.block W.heap.size (World.block_lt_of_cell? _ _ D96.out) (fun e => by have := HRM.out _ e.symm; omega); have d97 := (World.cell?_of_block e98).trans D96.out; have d98 := (World.cell?_setCell_other w7 ⟨w2.heap.size, 0, none⟩ ⟨W.heap.size, 0, none⟩ (.slice (some ⟨g1, 0, none⟩) (Out.length + 1) cap1) (by first | (simp; done) | (simp; omega) | omega)).trans d97))
          obtain ⟨kF, c1F, f1F, c2F, f2F, oF, uF⟩ := hs_app (M := M) HBL.out (by have := HZ2.out; omega) (by omega) (by omega) (by omega) q1 q2 q3 q4 HI2.out.mb.2 (fun k hk => ⟨HQ6.out k hk, HRN.out k hk⟩) hown7 hgrow7 hat7
          refine ⟨_, fun k hk => ?_, kF.mono (fun k _ hk => hk.imp id (fun h => by have := HZ2.out; omega)), HI2.out.next (by omega) (by have := HZ2.out; omega) kF c1F f1F c2F f2F oF uF HP.out (by rw [List.length_append]; simp; omega)⟩
          rcases hk with hk | hk
          · exact ⟨Or.inl hk, by have := (HM.out k hk).2.2.1; have := HZ2.out; have := kF.size; omega⟩
          · exact ⟨Or.inr (by have := HZ2.out; omega), hk.2⟩
        · have HSK := hid (hsk ⟨by omega, fun h => he h.2⟩)
          have t1 : (c.ent.name.toList == m.toList) = false := by rw [bytes_eq]; simpa using he
          clear hsk he
          gi_wp2
          exact HSK.out
      · by_cases he : c.new = m
        · have t1 : (c.new.toList == m.toList) = true := by rw [bytes_eq]; simpa using he
          have HP : Hid (hisL cs cs.length n = (Out ++ [(i : Int)]) ++ hisL cs (cs.length - (pre.length + 1)) c.name) := hid (by rw [HQ7.out, HHS.out, if_pos ⟨rfl, he⟩, hpl1, List.append_assoc]; rfl)
          clear hsk he
          obtain ⟨W3, hW3⟩ : ∃ W3, W2.setCell ⟨w.heap.size, 0, none⟩ (.string c.name) = W3 := ⟨_, rfl⟩
          have hz3 : W3.heap.size = W2.heap.size := by rw [← hW3]; simp
          have hk3 : ∀ q, q ≠ w.heap.size → W3.heap[q]? = W2.heap[q]? := fun q hq => by rw [← hW3]; exact Below.heap_setCell _ _ _ _ hq
          have p1 : W3.cell? ⟨w.heap.size, 0, none⟩ = some (.string c.name) := by rw [← hW3]; exact World.cell?_setCell_same' _ _ _ (by rw [q1]; rfl)
          have p2 : W3.frozen? ⟨w.heap.size, 0, none⟩ = false := by rw [← hW3]; exact (World.frozen?_setCell _ _ _ _).trans q2
          have p3 : W3.cell? ⟨w2.heap.size, 0, none⟩ = some uo := (World.cell?_of_block (hk3 _ (by show w2.heap.size ≠ w.heap.size; omega))).trans q3
          have p4 : W3.frozen? ⟨w2.heap.size, 0, none⟩ = false := (World.frozen?_of_block (hk3 _ (by show w2.heap.size ≠ w.heap.size; omega))).trans q4
          have p0 : W3.cell? ⟨W.heap.size, 0, none⟩ = some (.int .i64 3) := (World.cell?_of_block (hk3 _ (by show W.heap.size ≠ w.heap.size; omega))).trans d0
          have p9 : W3.cell? ⟨W.heap.size, 4, none⟩ = some (.string c.ent.name) := (World.cell?_of_block (hk3 _ (by show W.heap.size ≠ w.heap.size; omega))).trans d4
          have hr3 : W3.ownsRow w4.heap.size 3 1 uo Out.length (Out.map (Value.int .i64)) := own_frm HQ5.out fun q hq => hk3 q (by have := (HQ5.out.lt q hq).1; omega)
          have hkb3 : Kb (fun k => M k ∨ W2.heap.size ≤ k) W2 W3 := by rw [← hW3]; exact Kb.setCell (M := fun k => M k ∨ W2.heap.size ≤ k) _ (Or.inl HI2.out.mb.1)
          have HW3 := hid hW3
          have HZ3 := hid hz3
          have HR3 := hid hr3
          have HK3 := hid hkb3
          clear hW3 hz3 hk3 hr3 hkb3
          have hbL : Below W3.heap.size W3 (W3.alloc (.cells #[.int .i64 i] 3)) := (Below.refl _ _).alloc (Nat.le_refl _) _
          have HBL := hid hbL
          have HRA := hid (owns_below (HR3.out) hbL)
          have HSRC := hid (row_one_new W3 (.int .i64 i) 3)
          have HXS := hid (show w4.heap.size ≤ (W3.alloc (.cells #[.int .i64 i] 3)).heap.size from Nat.le_trans (by have := HZ2.out; have := HZ3.out; omega) hbL.size)
          have HRN := hid (fun k (hk : uo.ownBlock = some k) => (HQ5.out.lt k hk).1)
          have HRM := hid (fun k (hk : uo.ownBlock = some k) => (HM.out k (HQ6.out k hk)).2.2.1)
          have C96 := hid ((hbL.cell (World.block_lt_of_cell? _ _ p3)).trans p3)
          have F96 := hid ((hbL.frozen (p := ⟨w2.heap.size, 0, none⟩) (World.block_lt_of_cell? _ _ p3)).trans p4)
          have D96 := hid ((hbL.cell (World.block_lt_of_cell? _ _ p0)).trans p0)
          have hzA : W.heap.size + 1 ≤ (W3.alloc (.cells #[.int .i64 i] 3)).heap.size := Nat.le_trans (by have := HZ2.out; have := HZ3.out; omega) hbL.size
          clear hbL
          gi_wp2_with (first | rw [HW3.out] | (gi_at_builtin; go_loud (refine wpListIn_append_lie rfl _ _ 36 rfl w4.heap.size 3 el_int Tryz.underlying36 rfl (by decide) _ Out.length (Out.map (Value.int .i64)) rfl HRA.out _ 1 [.int .i64 i] rfl HSRC.out (fun u hu => by simp at hu; subst hu; rfl) (by decide) (by omega) (by omega) (by have := HXS.out; omega) _ rfl ?_; intro g1 cap1 w7 hown7 hgrow7 hat7 hlt7; have e97 := hgrow7.block w2.heap.size (World.block_lt_of_cell? _ _ C96.out) (fun e => by have := HRN.out _ e.symm; omega); have c97 := (World.cell?_of_block e97).trans C96.out; have f97 := (World.frozen?_of_block e97).trans F96.out; have e98 := hgrow7.block W.heap.size (World.block_lt_of_cell? _ _ D96.out) (fun e => by have := HRM.out _ e.symm; omega); have d97 := (World.cell?_of_block e98).trans D96.out; have d98 := (World.cell?_setCell_other w7 ⟨w2.heap.size, 0, none⟩ ⟨W.heap.size, 0, none⟩ (.slice (some ⟨g1, 0, none⟩) (Out.length + 1) cap1) (by first | (simp; done) | (simp; omega) | omega)).trans d97)))
          obtain ⟨kF, c1F, f1F, c2F, f2F, oF, uF⟩ := hs_app (M := M) HBL.out (by have := HZ2.out; have := HZ3.out; omega) (by omega) (by omega) (by omega) p1 p2 p3 p4 HI2.out.mb.2 (fun k hk => ⟨HQ6.out k hk, HRN.out k hk⟩) hown7 hgrow7 hat7
          have kG : Kb (fun k => M k ∨ W2.heap.size ≤ k) W2 (w7.setCell ⟨w2.heap.size, 0, none⟩ (.slice (some ⟨g1, 0, none⟩) (Out.length + 1) cap1)) := HK3.out.trans kF (fun q hq => hq.imp id (fun h => by have := HZ3.out; omega) |>.elim (fun h => Or.inl (Or.inl h)) (fun h => Or.inr h))
          refine ⟨_, fun k hk => ?_, kG.mono (fun k _ hk => hk.imp id (fun h => by have := HZ2.out; omega)), HI2.out.next (by omega) (by have := HZ2.out; omega) kG c1F f1F c2F f2F oF (fun k hk => (uF k hk).imp id (fun h => by have := HZ3.out; omega)) HP.out (by rw [List.length_append]; simp; omega)⟩
          rcases hk with hk | hk
          · exact ⟨Or.inl hk, by have := (HM.out k hk).2.2.1; have := HZ2.out; have := kG.size; omega⟩
          · exact ⟨Or.inr (by have := HZ2.out; omega), hk.2⟩
        · have HSK := hid (hsk ⟨fun h => he h.2, by omega⟩)
          have t1 : (c.new.toList == m.toList) = false := by rw [bytes_eq]; simpa using he
          clear hsk he
          gi_wp2
          exact HSK.out
      · have HSK := hid (hsk ⟨by omega, fun h => by omega⟩)
        clear hsk
        gi_wp2
        exact HSK.out
    case refine_6 =>
      rintro xs M W hxs hI hD hMD
      obtain ⟨a1, a2, a3, m, Out, uo, c1, f1, c2, f2, ho, hu, hp, hl⟩ := hI
      have hp1 : hisL cs cs.length n = Out := by
        rw [hp, hxs, Nat.sub_self]
        simp [hisL]
      rw [← hp1] at ho
      have hlo : (hisL cs cs.length n).length ≤ 200 := Nat.le_trans (hisL_len cs _ n) HCL.out
      have HRV := hid (rev_ints w4.heap.size uo (hisL cs cs.length n) W (by omega) ho)
      obtain ⟨oa, oc, rfl⟩ := owns_slice ho
      have HC2 := hid c2
      have HDD := hid hD
      have HLO := hid ho.lt
      have HA1 := hid a1
      have HLL := hid hlo
      have HMU := hid (fun k h => hMD k (hu k h))
      clear hp hp1 ho hl hu c1 f1 f2 a1 a2 a3
      go_wp2_with fail
      refine HRV.out.mono ?_
      rintro e w9 ⟨rfl, ho9, hk9⟩
      have c9 : w9.cell? ⟨w2.heap.size, 0, none⟩ = some (.slice oa (hisL cs cs.length n).length oc) := (World.cell?_of_block (hk9.same _ (World.block_lt_of_cell? _ _ HC2.out) (fun h => by have := (HLO.out _ h).1; simp at this; omega))).trans HC2.out
      have d9 : w9.heap[w4.heap.size]? = some (.deferred (some [])) := (hk9.same _ (Array.getElem?_eq_some_iff.1 HDD.out).1 (fun h => HMU.out _ h rfl)).trans HDD.out
      have HO9 := hid ho9
      have HD9 := hid d9
      have HB9 := hid (HA1.out.trans (hk9.below HA1.out.size (fun k h => by have := (HLO.out k h).1; omega)))
      have e9 := putObj_cell (o' := .deferred none) d9 rfl c9
      clear hk9 d9 ho9
      go_wp2
      refine leave_mark (v := .tuple #[.slice oa (hisL cs cs.length n).length oc, .int .i64 0]) HD9.out (by simp [results, Tryz.results42, go_sem]) ?_
      refine ⟨_, by rw [HF2.out], ?_, putObj_below (.deferred none) HB9.out (by omega)⟩
      rw [HF2.out]
      have ho : w9.ownsRow w4.heap.size 3 1 (.slice oa (hisL cs cs.length n).length oc) (hisL cs cs.length n).reverse.length ((hisL cs cs.length n).reverse.map (Value.int .i64)) := by
        rw [List.length_reverse]; exact HO9.out
      exact putObj_ints HD9.out rfl (Ints.of_owns ho (by have := HLL.out; simp; omega))
    case refine_7 =>
      rintro c pre M W ⟨rfl, a1, uo, c2, f2, ho, hu⟩ hD hMD
      have hlo : (hisL cs cs.length n).length ≤ 200 := Nat.le_trans (hisL_len cs _ n) HCL.out
      have HRV := hid (rev_ints w4.heap.size uo (hisL cs cs.length n) W (by omega) ho)
      obtain ⟨oa, oc, rfl⟩ := owns_slice ho
      have HC2 := hid c2
      have HDD := hid hD
      have HLO := hid ho.lt
      have HA1 := hid a1
      have HLL := hid hlo
      have HMU := hid (fun k h => hMD k (hu k h))
      clear ho hu f2 a1
      gi_wp2_with fail
      go_wp2_with fail
      refine HRV.out.mono ?_
      rintro e w9 ⟨rfl, ho9, hk9⟩
      have c9 : w9.cell? ⟨w2.heap.size, 0, none⟩ = some (.slice oa (hisL cs cs.length n).length oc) := (World.cell?_of_block (hk9.same _ (World.block_lt_of_cell? _ _ HC2.out) (fun h => by have := (HLO.out _ h).1; simp at this; omega))).trans HC2.out
      have d9 : w9.heap[w4.heap.size]? = some (.deferred (some [])) := (hk9.same _ (Array.getElem?_eq_some_iff.1 HDD.out).1 (fun h => HMU.out _ h rfl)).trans HDD.out
      have HO9 := hid ho9
      have HD9 := hid d9
      have HB9 := hid (HA1.out.trans (hk9.below HA1.out.size (fun k h => by have := (HLO.out k h).1; omega)))
      have e9 := putObj_cell (o' := .deferred none) d9 rfl c9
      clear hk9 d9 ho9
      go_wp2
      refine leave_mark (v := .tuple #[.slice oa (hisL cs cs.length n).length oc, .int .i64 0]) HD9.out (by simp [results, Tryz.results42, go_sem]) ?_
      refine ⟨_, by rw [HF2.out], ?_, putObj_below (.deferred none) HB9.out (by omega)⟩
      rw [HF2.out]
      have ho : w9.ownsRow w4.heap.size 3 1 (.slice oa (hisL cs cs.length n).length oc) (hisL cs cs.length n).reverse.length ((hisL cs cs.length n).reverse.map (Value.int .i64)) := by
        rw [List.length_reverse]; exact HO9.out
      exact putObj_ints HD9.out rfl (Ints.of_owns ho (by have := HLL.out; simp; omega))
end Go.Proofs.YtlbjbmpkaniojaaGreat
namespace Go.Proofs.YtlbjbmpkaniojaaGreat
open Go Go.RowKit Go.Maps
def GrQ (w : World) (e : Ending) (w' : World) : Prop := ∃ z : Bool, e = .returned (.bool z) ∧ Below w.heap.size w w'
theorem GrQ.mk {w w' : World} (z : Bool) (h : Below w.heap.size w w') : GrQ w (.returned (.bool z)) w' := ⟨z, rfl, h⟩
set_option maxHeartbeats 4000000 in
theorem law9_great (vS vU vP : Value) (x : En) (w : World) (he : EntAt w vS vU vP x) :
    Calls Tryz.prog 55 #[.agg #[.string x.name, .string x.who, vS, vU, vP]] w fun e w' => GrQ w e w' := by
  obtain ⟨sa, sc, rfl, -⟩ := he.s.open
  obtain ⟨ua, uc, rfl, -, ul, -, UC⟩ := he.u.open
  obtain ⟨pa, pc, rfl, -⟩ := he.p.open
  have UC' := hid UC
  obtain ⟨V, hV⟩ : ∃ V, w.alloc (.cells #[.string x.name, .string x.who, .slice sa x.says.length sc, .slice ua x.uses.length uc, .slice pa x.proof.length pc] 41) = V := ⟨_, rfl⟩
  have hbV : Below w.heap.size w V := hV ▸ (Below.refl _ _).alloc (Nat.le_refl _) _
  have EB0 := EB.new w x (.slice sa x.says.length sc) (.slice ua x.uses.length uc) (.slice pa x.proof.length pc) 41
  rw [hV] at EB0
  obtain ⟨c0, c1, c2, c3, c4⟩ := EB0
  have HV := hid hV
  have HBV := hid hbV
  clear hV hbV he UC
  go_enter Tryz.func55, Tryz.ntmps55
  go_wp2_with (rw [HV.out])
  go_loop [3] (fun jv => ∃ j : Nat, j ≤ x.uses.length ∧ jv = .int .i64 j) (fun jv => x.uses.length - (intOf jv).toNat)
  case atStart => exact ⟨0, by omega, rfl⟩
  case round =>
    obtain ⟨j, hj, rfl⟩ := hrel
    by_cases hjl : j < x.uses.length
    · obtain ⟨ub, uo, rfl, u0⟩ := UC'.out j hjl
      have u1 := (HBV.out.cell (World.block_lt_of_cell? _ _ u0)).trans u0
      obtain ⟨y, hy⟩ : ∃ y, x.uses[j] = y := ⟨_, rfl⟩
      rw [hy] at u0 u1
      by_cases f1 : (y.size : Int) > 100
      · go_wp2
        go_ret
        exact GrQ.mk _ HBV.out
      · go_wp2
        go_round
        case rel => exact ⟨j + 1, by omega, by go_num⟩
        case measure => simp [intOf]; omega
    · by_cases e1 : (x.name.size : Int) > 100
      · go_wp2
        go_ret
        exact GrQ.mk _ HBV.out
      by_cases e2 : (x.who.size : Int) > 100
      · go_wp2
        go_ret
        exact GrQ.mk _ HBV.out
      by_cases e3 : (x.says.length : Int) > 100
      · go_wp2
        go_ret
        exact GrQ.mk _ HBV.out
      by_cases e4 : (x.uses.length : Int) > 20
      · go_wp2
        go_ret
        exact GrQ.mk _ HBV.out
      go_wp2
      go_ret
      exact GrQ.mk _ HBV.out
def Hv9Q (s : Sg) (l : List En) (w : World) (e : Ending) (w' : World) : Prop := ∃ z : Bool, e = .returned (.bool z) ∧ (z = false → s.length ≤ 20 ∧ l.length ≤ 70) ∧ Below w.heap.size w w'
theorem Hv9Q.yes {s : Sg} {l : List En} {w : World} {w' : World} (h : Below w.heap.size w w') : Hv9Q s l w (.returned (.bool true)) w' := ⟨true, rfl, (fun h => by cases h), h⟩
theorem Hv9Q.no {s : Sg} {l : List En} {w : World} {w' : World} (h1 : s.length ≤ 20) (h2 : l.length ≤ 70) (h : Below w.heap.size w w') : Hv9Q s l w (.returned (.bool false)) w' := ⟨false, rfl, fun _ => ⟨h1, h2⟩, h⟩
set_option maxHeartbeats 4000000 in
theorem law9_heavy (vs vl : Value) (s : Sg) (l : List En) (w : World) (hs : SignAt w vs s) (hl : EntsAt w vl l) :
    Calls Tryz.prog 11 #[vs, vl] w fun e w' => Hv9Q s l w e w' := by
  obtain ⟨sa, sc, rfl, -, hsl, -⟩ := hs.open
  obtain ⟨la, lc, rfl, -, ll, -, HC⟩ := hl.open
  have HC' := hid HC
  clear HC hl hs
  go_enter Tryz.func11, Tryz.ntmps11
  go_wp2
  go_loopw [5] (fun kv wr => ∃ k : Nat, k ≤ l.length ∧ kv = .int .i64 k ∧ Below w.heap.size w wr) (fun kv _ => l.length - (intOf kv).toNat)
  case atStart => exact ⟨0, by omega, rfl, Below.refl _ _⟩
  case round =>
    obtain ⟨k, hk, rfl, hb⟩ := hrel
    have hsz := hb.size
    by_cases hlt : k < l.length
    · obtain ⟨b, o, vS, vu, vp, rfl, c0, c1, c2, c3, c4, he⟩ := HC'.out k hlt
      have he' := he.below hb
      have HG := hid (law9_great vS vu vp l[k] wr he')
      obtain ⟨xa, xc, rfl, -⟩ := he'.s.open
      obtain ⟨ua, uc, rfl, -⟩ := he'.u.open
      obtain ⟨pa, pc, rfl, -⟩ := he'.p.open
      have d0 := (hb.cell (World.block_lt_of_cell? _ _ c0)).trans c0
      have d1 := (hb.cell (World.block_lt_of_cell? _ _ c1)).trans c1
      have d2 := (hb.cell (World.block_lt_of_cell? _ _ c2)).trans c2
      have d3 := (hb.cell (World.block_lt_of_cell? _ _ c3)).trans c3
      have d4 := (hb.cell (World.block_lt_of_cell? _ _ c4)).trans c4
      obtain ⟨x, hx⟩ : ∃ x, l[k] = x := ⟨_, rfl⟩
      rw [hx] at d0 d1 d2 d3 d4 HG
      have HB := hid hb
      have y0 : (k : Int) < (l.length : Int) := by omega
      clear c0 c1 c2 c3 c4 he he' hx hb
      go_wp2_with fail
      refine HG.out.mono ?_
      rintro e w2 ⟨z, rfl, hb2⟩
      have HB2 := hid (HB.out.trans (hb2.mono hsz))
      clear hb2
      cases z
      · go_wp2
        go_roundw
        case rel => exact ⟨k + 1, by omega, by go_num, HB2.out⟩
        case measure => simp [intOf]; omega
      · go_wp2
        go_ret
        exact Hv9Q.yes HB2.out
    · by_cases e1 : (s.length : Int) > 20
      · go_wp2
        go_ret
        exact Hv9Q.yes hb
      by_cases e2 : (l.length : Int) > 20
      · by_cases e3 : (l.length : Int) ≤ 60
        · go_wp2
          go_ret
          exact Hv9Q.yes hb
        by_cases e4 : (l.length : Int) > 70
        · go_wp2
          go_ret
          exact Hv9Q.yes hb
        have HN := hid (Hv9Q.no (s := s) (l := l) (by omega) (by omega) hb)
        go_wp2
        go_ret
        exact HN.out
      have e4 : ¬ (l.length : Int) > 70 := by omega
      have HN := hid (Hv9Q.no (s := s) (l := l) (by omega) (by omega) hb)
      go_wp2
      go_ret
      exact HN.out
def Mn9Q (cs : List Chg) (w : World) (e : Ending) (w' : World) : Prop := ∃ z : Bool, e = .returned (.bool z) ∧ (z = false → cs.length ≤ 210) ∧ Below w.heap.size w w'
theorem Mn9Q.yes {cs : List Chg} {w : World} {w' : World} (h : Below w.heap.size w w') : Mn9Q cs w (.returned (.bool true)) w' := ⟨true, rfl, (fun h => by cases h), h⟩
theorem Mn9Q.no {cs : List Chg} {w : World} {w' : World} (h2 : cs.length ≤ 210) (h : Below w.heap.size w w') : Mn9Q cs w (.returned (.bool false)) w' := ⟨false, rfl, fun _ => h2, h⟩
def annN : Nm := ⟨#[97, 110, 110]⟩
def bobN : Nm := ⟨#[98, 111, 98]⟩
def enI : En := ⟨⟨#[105]⟩, annN, [0, -1, -1], [], []⟩
def enD : En := ⟨⟨#[105, 100]⟩, bobN, [0, -1, -1], [], []⟩
def cAw9 : List Chg := [⟨1, annN, em, em, enI⟩, ⟨3, annN, ⟨#[105]⟩, ⟨#[105, 100]⟩, en0⟩, ⟨2, bobN, em, em, enD⟩]
theorem sm9 : ∀ c ∈ cAw9, c.ent.name.size ≤ 140737488355328 ∧ c.ent.who.size ≤ 140737488355328 ∧ c.who.size ≤ 140737488355328 ∧ c.name.size ≤ 140737488355328 ∧ c.new.size ≤ 140737488355328 := by decide +kernel
theorem blame_aw9 : blameL sg1 cAw9 = ([(⟨#[105, 100]⟩, annN, bobN)], 0) := by decide +kernel
theorem hist_aw9 : histL sg1 cAw9 ⟨#[105, 100]⟩ = ([0, 1, 2], 0) := by decide +kernel
theorem intsA9 (w : World) (T : TypeId) : Ints (w.alloc (.cells #[.int .i64 0, .int .i64 (-1), .int .i64 (-1)] T)) (.slice (some ⟨w.heap.size, 0, none⟩) 3 3) [0, -1, -1] := by
  have r := World.ownsRow_lit (base := 0) (e := T) (size := 1) w #[.int .i64 0, .int .i64 (-1), .int .i64 (-1)] 3 (by omega) (by simp [maxLen]) (by simp)
  exact Ints.of_owns r (by simp)
theorem intsB9 (w : World) (T : TypeId) : Ints (w.alloc (.cells #[.int .i64 0, .int .i64 1, .int .i64 2] T)) (.slice (some ⟨w.heap.size, 0, none⟩) 3 3) [0, 1, 2] := by
  have r := World.ownsRow_lit (base := 0) (e := T) (size := 1) w #[.int .i64 0, .int .i64 1, .int .i64 2] 3 (by omega) (by simp [maxLen]) (by simp)
  exact Ints.of_owns r (by simp)
theorem chs_lit {w : World} {l : List Chg} {vs : List V3} {T : TypeId} {cs : Array Value} (hc : cs = (chsC l vs).toArray) (hl : vs.length = l.length) (hl1 : l.length ≤ 1000) (he : ∀ (j : Nat) (h : j < l.length) (h' : j < vs.length), ChgAt w vs[j].1 vs[j].2.1 vs[j].2.2 l[j]) : ChsAt (w.alloc (.cells cs T)) (.slice (some ⟨w.heap.size, 0, none⟩) l.length l.length) l := by
  subst hc
  have hb : Below w.heap.size w (w.alloc (.cells (chsC l vs).toArray T)) := (Below.refl _ _).alloc (Nat.le_refl _) _
  refine ⟨vs, ⟨chsC_len l vs hl, _, _, rfl, Nat.le_refl _, by omega, (fun h => by cases h), fun j u hj => ⟨_, _, rfl, ?_⟩⟩, hl, fun j h h' => (he j h h').below hb⟩
  rw [World.cell?_alloc_new, Nat.zero_add]
  exact List.getElem?_toArray.trans hj
set_option maxHeartbeats 4000000 in
set_option maxRecDepth 100000 in
theorem law9_awake (w : World) :
    Calls Tryz.prog 10 #[] w fun e w' => e = .returned (.bool true) ∧ Below w.heap.size w w' := by
  have q1 := sign9 w 81
  obtain ⟨W1, hW1⟩ : ∃ W1, w.alloc (.cells #[.string ⟨#[67]⟩, .int .i64 2] 81) = W1 := ⟨_, rfl⟩
  have b1 : Below w.heap.size w W1 := hW1 ▸ (Below.refl _ _).alloc (Nat.le_refl _) _
  rw [hW1] at q1
  have q2 := intsA9 W1 3
  obtain ⟨W2, hW2⟩ : ∃ W2, W1.alloc (.cells #[.int .i64 0, .int .i64 (-1), .int .i64 (-1)] 3) = W2 := ⟨_, rfl⟩
  have b2 : Below W1.heap.size W1 W2 := hW2 ▸ (Below.refl _ _).alloc (Nat.le_refl _) _
  rw [hW2] at q2
  have q3 := EB.new W2 enI (.slice (some ⟨W1.heap.size, 0, none⟩) 3 3) (.slice none 0 0) (.slice none 0 0) 41
  obtain ⟨W3, hW3⟩ : ∃ W3, W2.alloc (.cells #[.string ⟨#[105]⟩, .string ⟨#[97, 110, 110]⟩, .slice (some ⟨W1.heap.size, 0, none⟩) 3 3, .slice none 0 0, .slice none 0 0] 41) = W3 := ⟨_, rfl⟩
  have b3 : Below W2.heap.size W2 W3 := hW3 ▸ (Below.refl _ _).alloc (Nat.le_refl _) _
  have hW3' : W2.alloc (.cells #[.string enI.name, .string enI.who, .slice (some ⟨W1.heap.size, 0, none⟩) 3 3, .slice none 0 0, .slice none 0 0] 41) = W3 := hW3
  rw [hW3'] at q3
  have q4 := intsA9 W3 3
  obtain ⟨W4, hW4⟩ : ∃ W4, W3.alloc (.cells #[.int .i64 0, .int .i64 (-1), .int .i64 (-1)] 3) = W4 := ⟨_, rfl⟩
  have b4 : Below W3.heap.size W3 W4 := hW4 ▸ (Below.refl _ _).alloc (Nat.le_refl _) _
  rw [hW4] at q4
  have q5 := EB.new W4 enD (.slice (some ⟨W3.heap.size, 0, none⟩) 3 3) (.slice none 0 0) (.slice none 0 0) 41
  obtain ⟨W5, hW5⟩ : ∃ W5, W4.alloc (.cells #[.string ⟨#[105, 100]⟩, .string ⟨#[98, 111, 98]⟩, .slice (some ⟨W3.heap.size, 0, none⟩) 3 3, .slice none 0 0, .slice none 0 0] 41) = W5 := ⟨_, rfl⟩
  have b5 : Below W4.heap.size W4 W5 := hW5 ▸ (Below.refl _ _).alloc (Nat.le_refl _) _
  have hW5' : W4.alloc (.cells #[.string enD.name, .string enD.who, .slice (some ⟨W3.heap.size, 0, none⟩) 3 3, .slice none 0 0, .slice none 0 0] 41) = W5 := hW5
  rw [hW5'] at q5
  have b45 := b4.trans (b5.mono b4.size)
  have b35 := b3.trans (b45.mono b3.size)
  have r3 := q3.below b45
  have hch : ChsAt (W5.alloc (.cells #[.int .i64 1, .string ⟨#[97, 110, 110]⟩, .string ⟨#[]⟩, .string ⟨#[]⟩, .string ⟨#[105]⟩, .string ⟨#[97, 110, 110]⟩, .slice (some ⟨W1.heap.size, 0, none⟩) 3 3, .slice none 0 0, .slice none 0 0,
      .int .i64 3, .string ⟨#[97, 110, 110]⟩, .string ⟨#[105]⟩, .string ⟨#[105, 100]⟩, .string ⟨#[]⟩, .string ⟨#[]⟩, .slice none 0 0, .slice none 0 0, .slice none 0 0,
      .int .i64 2, .string ⟨#[98, 111, 98]⟩, .string ⟨#[]⟩, .string ⟨#[]⟩, .string ⟨#[105, 100]⟩, .string ⟨#[98, 111, 98]⟩, .slice (some ⟨W3.heap.size, 0, none⟩) 3 3, .slice none 0 0, .slice none 0 0] 43)) (.slice (some ⟨W5.heap.size, 0, none⟩) 3 3) cAw9 := by
    refine chs_lit (l := cAw9) (vs := [(.slice (some ⟨W1.heap.size, 0, none⟩) 3 3, .slice none 0 0, .slice none 0 0), (.slice none 0 0, .slice none 0 0, .slice none 0 0), (.slice (some ⟨W3.heap.size, 0, none⟩) 3 3, .slice none 0 0, .slice none 0 0)]) rfl rfl (by decide) fun j h1 h2 => ?_
    match j, h1 with
    | 0, _ => exact ⟨⟨q2.below b35, TxtsAt.nil _, StepsAt.nil _, (sm9 _ (List.getElem_mem _)).1, (sm9 _ (List.getElem_mem _)).2.1⟩, (sm9 _ (List.getElem_mem _)).2.2.1, (sm9 _ (List.getElem_mem _)).2.2.2.1, (sm9 _ (List.getElem_mem _)).2.2.2.2⟩
    | 1, _ => exact ⟨⟨Ints.nil _, TxtsAt.nil _, StepsAt.nil _, (sm9 _ (List.getElem_mem _)).1, (sm9 _ (List.getElem_mem _)).2.1⟩, (sm9 _ (List.getElem_mem _)).2.2.1, (sm9 _ (List.getElem_mem _)).2.2.2.1, (sm9 _ (List.getElem_mem _)).2.2.2.2⟩
    | 2, _ => exact ⟨⟨q4.below b5, TxtsAt.nil _, StepsAt.nil _, (sm9 _ (List.getElem_mem _)).1, (sm9 _ (List.getElem_mem _)).2.1⟩, (sm9 _ (List.getElem_mem _)).2.2.1, (sm9 _ (List.getElem_mem _)).2.2.2.1, (sm9 _ (List.getElem_mem _)).2.2.2.2⟩
  obtain ⟨W6, hW6⟩ : ∃ W6, W5.alloc (.cells #[.int .i64 1, .string ⟨#[97, 110, 110]⟩, .string ⟨#[]⟩, .string ⟨#[]⟩, .string ⟨#[105]⟩, .string ⟨#[97, 110, 110]⟩, .slice (some ⟨W1.heap.size, 0, none⟩) 3 3, .slice none 0 0, .slice none 0 0,
      .int .i64 3, .string ⟨#[97, 110, 110]⟩, .string ⟨#[105]⟩, .string ⟨#[105, 100]⟩, .string ⟨#[]⟩, .string ⟨#[]⟩, .slice none 0 0, .slice none 0 0, .slice none 0 0,
      .int .i64 2, .string ⟨#[98, 111, 98]⟩, .string ⟨#[]⟩, .string ⟨#[]⟩, .string ⟨#[105, 100]⟩, .string ⟨#[98, 111, 98]⟩, .slice (some ⟨W3.heap.size, 0, none⟩) 3 3, .slice none 0 0, .slice none 0 0] 43) = W6 := ⟨_, rfl⟩
  have b6 : Below W5.heap.size W5 W6 := hW6 ▸ (Below.refl _ _).alloc (Nat.le_refl _) _
  rw [hW6] at hch
  have b25 := b2.trans (b35.mono b2.size)
  have b26 := b25.trans (b6.mono b25.size)
  have hsg := hid (q1.below b26)
  have HCH := hid hch
  have HB := hid (b1.trans (b26.mono b1.size))
  have HBL := hid (blame_Blame _ _ sg1 cAw9 W6 hsg.out hch (by decide))
  rw [blame_aw9] at HBL
  have h1 := hid hW1
  have h2 := hid hW2
  have h3 := hid hW3
  have h4 := hid hW4
  have h5 := hid hW5
  have h6 := hid hW6
  obtain ⟨c0, c1, c2, c3, c4⟩ := r3
  obtain ⟨g0, g1, g2, g3, g4⟩ := q5
  clear q1 q2 q3 q4 b1 b2 b3 b4 b5 b6 b45 b35 b25 b26 hW1 hW2 hW3 hW4 hW5 hW6 hW3' hW5' hch
  simp only [enI, enD, annN, bobN] at c0 c1 g0 g1
  go_enter Tryz.func10, Tryz.ntmps10
  go_wp2_with (first | rw [h1.out] | rw [h2.out] | rw [h3.out] | rw [h4.out] | rw [h5.out] | rw [h6.out])
  refine HBL.out.mono ?_
  rintro e w7 ⟨u, rfl, hu, hb7⟩
  have HU := hid hu
  have HB7 := hid (HB.out.trans (hb7.mono HB.out.size))
  have HHI := hid (blame_History _ _ sg1 cAw9 ⟨#[105, 100]⟩ w7 (hsg.out.below hb7) (HCH.out.below hb7) (by decide) (by decide))
  rw [hist_aw9] at HHI
  obtain ⟨ua, uc, rfl, -⟩ := hu.open
  clear hu hb7 HBL c0 c1 c2 c3 c4 g0 g1 g2 g3 g4
  go_wp2_with fail
  refine HHI.out.mono ?_
  rintro e w8 ⟨v, rfl, hv, hb8⟩
  have HB8 := hid (HB7.out.trans (hb8.mono HB7.out.size))
  obtain ⟨ua', uc', eu, -, -, ZC⟩ := (HU.out.below hb8).open
  obtain ⟨b, o, rfl, z0, z1, z2⟩ := ZC 0 (by decide)
  simp only [Value.slice.injEq] at eu
  obtain ⟨rfl, -, rfl⟩ := eu
  simp only [List.getElem_cons_zero, annN, bobN, Nat.zero_mul, Nat.add_zero] at z0 z1 z2
  have hbA : Below w8.heap.size w8 (w8.alloc (.cells #[.int .i64 0, .int .i64 1, .int .i64 2] 3)) := (Below.refl _ _).alloc (Nat.le_refl _) _
  have HSI := hid (ref6_SameInts v _ [0, 1, 2] [0, 1, 2] (w8.alloc (.cells #[.int .i64 0, .int .i64 1, .int .i64 2] 3)) (hv.below hbA) (intsB9 w8 3))
  have HBA := hid (HB8.out.trans (hbA.mono HB8.out.size))
  obtain ⟨va, vc, rfl, -⟩ := hv.open
  clear hv hb8 hbA ZC HHI
  go_wp2_with fail
  refine HSI.out.mono ?_
  rintro e w9 ⟨rfl, nq, rfl⟩
  have HB9 := hid (HBA.out.trans ((below_self_drewN _ nq).mono HBA.out.size))
  go_wp2
  go_ret
  exact ⟨rfl, HB9.out⟩
end Go.Proofs.YtlbjbmpkaniojaaGreat
