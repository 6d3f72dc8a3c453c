/-
  WHAT IT HOLDS: contract of Equivalences of package carry. Conditions: the arguments read as data; small signs, small libraries.
  WHAT IT HOLDS: contract of Equivalences of the reference of layer 8. Conditions: the arguments read as data; small signs, small libraries.
-/
import Derived.Test.YtpflkjldapmgdaaGreatZRCarryConverse40
import Derived.Test.YtpflkjldapmgdaaGreatZRCarryConverse42
import Derived.Test.YtpflkjldapmgdaaGreatZRCarryConverse32
import Derived.Test.YtpflkjldapmgdaaGreatZRCarryConverse43
import Derived.Test.YtpflkjldapmgdaaGreatZRCarryConverse45
import Derived.Test.YtpflkjldapmgdaaGreatZRCarryConverse39
namespace Go.Proofs.YtpflkjldapmgdaaGreat
open Go Go.RowKit Go.Maps Go.Shelf
attribute [local go_sem] Oper.semAt_some
/-- the pairs of names that are put out behind some pairs of entries. -/
def eqL (s : Sg) (pre : List PE) : List N2 := ((pre.map pqN).filter (eqsB s)).map nm2
theorem eqL_snoc (s : Sg) (pre : List PE) (x : PE) : eqL s (pre ++ [x]) = eqL s pre ++ (if eqsB s (pqN x) then [nm2 (pqN x)] else []) := by
  unfold eqL
  rw [List.map_append, List.filter_append, List.map_append]
  congr 1
  cases h : eqsB s (pqN x) <;> simp [h]
theorem eqL_len (s : Sg) (pre : List PE) : (eqL s pre).length ≤ pre.length := by
  unfold eqL
  rw [List.length_map]
  exact Nat.le_trans (List.length_filter_le _ _) (by simp)
structure EqvI (s : Sg) (wb : World) (B bo bs : Nat) (vs : Value) (pre : List PE) (M : Nat → Prop) (W : World) : Prop where
  out : ∃ uo, W.cell? ⟨bo, 0, none⟩ = some uo ∧ W.ownsRow B 52 2 uo (eqL s pre).length (pC (eqL s pre)) ∧ ∀ q, uo.ownBlock = some q → M q
  free : W.frozen? ⟨bo, 0, none⟩ = false
  cs : W.cell? ⟨bs, 0, none⟩ = some vs
  bel : Below wb.heap.size wb W
  mem : M bo
theorem EqvI.kb {s : Sg} {wb : World} {B bo bs : Nat} {vs : Value} {pre : List PE} {M T : Nat → Prop} {W W' : World} (h : EqvI s wb B bo bs vs pre M W) (hk : Kb T W W') (ho : ¬ T bo) (hs : ¬ T bs) (hr : ∀ q, M q → B ≤ q → ¬ T q) (hw : ∀ q, q < wb.heap.size → ¬ T q) : EqvI s wb B bo bs vs pre M W' := by
  obtain ⟨⟨uo, a1, a2, a3⟩, a4, a5, a6, a7⟩ := h
  have e1 := hk.same _ (World.block_lt_of_cell? _ _ a1) ho
  have e2 := hk.same _ (World.block_lt_of_cell? _ _ a5) hs
  exact ⟨⟨uo, cell_same a1 e1, ownsRow_frm a2 (fun q hq => hk.same q (a2.lt q hq).2 (hr q (a3 q hq) (a2.lt q hq).1)), a3⟩, (World.frozen?_of_block e1).trans a4, cell_same a5 e2, a6.trans ⟨hk.os, hk.tape, hk.output, hk.size, fun q hq => hk.same q (Nat.lt_of_lt_of_le hq a6.size) (hw q hq)⟩, a7⟩
theorem EqvI.grw {s : Sg} {wb : World} {B bo bs : Nat} {vs : Value} (hB : wb.heap.size ≤ B) (h1 : bo < B) (h2 : bs < B) (pre : List PE) : Grw B (EqvI s wb B bo bs vs pre) where
  grow := fun M W W' h hb => h.kb (T := fun _ => False) (Kb.of_below hb) (fun h => h) (fun h => h) (fun _ _ _ h => h) (fun _ _ h => h)
  turn := fun M W o o' _ _ h hm => h.kb (T := fun q => q = B + 1) (Kb.put (M := fun q => q = B + 1) _ rfl) (fun h => by omega) (fun h => by omega) (fun q hq _ h => hm (h ▸ hq)) (fun q hq h => by omega)
theorem EqvI.skip {s : Sg} {wb : World} {B bo bs : Nat} {vs : Value} {pre : List PE} {M : Nat → Prop} {W : World} (h : EqvI s wb B bo bs vs pre M W) {x : PE} (hx : eqsB s (pqN x) = false) : EqvI s wb B bo bs vs (pre ++ [x]) M W := by
  obtain ⟨⟨uo, a1, a2, a3⟩, a4, a5, a6, a7⟩ := h
  have e : eqL s (pre ++ [x]) = eqL s pre := by rw [eqL_snoc, hx]; simp
  exact ⟨⟨uo, a1, by rw [e]; exact a2, a3⟩, a4, a5, a6, a7⟩
theorem EqvI.push {s : Sg} {wb : World} {B bo bs : Nat} {vs : Value} {pre : List PE} {M : Nat → Prop} {W W6 W7 : World} {uo : Value} (h : EqvI s wb B bo bs vs pre M W) {x : PE} (hx : eqsB s (pqN x) = true)
    (hB : wb.heap.size ≤ B) (h1 : bo < B) (h2 : bs < B) (hBW : B ≤ W.heap.size) (hne : bs ≠ bo) (hwo : wb.heap.size ≤ bo) (hMl : ∀ q, M q → q < W.heap.size)
    (c0 : W.cell? ⟨bo, 0, none⟩ = some uo) (hrow : W.ownsRow B 52 2 uo (eqL s pre).length (pC (eqL s pre))) (hM : ∀ q, uo.ownBlock = some q → M q) (hb : Below W.heap.size W W6)
    {g cap n : Nat} (hn : (eqL s pre).length = n) (hown : W7.ownsRow B 52 2 (.slice (some ⟨g, 0, none⟩) (n + 1) cap) (n + 1) (pC (eqL s pre) ++ [.string (pqN x).1.name, .string (pqN x).2.name])) (hg : W6.grownBy W7 uo.ownBlock) (hat : uo.ownBlock = some g ∨ g = W6.heap.size) (hlt : g < W7.heap.size) :
    ∃ M' : Nat → Prop, (∀ q, M' q → (M q ∨ W.heap.size ≤ q) ∧ q < (W7.setCell ⟨bo, 0, none⟩ (.slice (some ⟨g, 0, none⟩) (n + 1) cap)).heap.size) ∧
      Kb (fun q => M q ∨ W.heap.size ≤ q) W (W7.setCell ⟨bo, 0, none⟩ (.slice (some ⟨g, 0, none⟩) (n + 1) cap)) ∧
      EqvI s wb B bo bs vs (pre ++ [x]) M' (W7.setCell ⟨bo, 0, none⟩ (.slice (some ⟨g, 0, none⟩) (n + 1) cap)) := by
  have hs67 := hg.size
  have hs06 := hb.size
  have k7 : Kb (fun q => (M q ∧ B ≤ q) ∨ W.heap.size ≤ q) W W7 := (Kb.of_below hb).trans (Kb.grown (M := fun q => (M q ∧ B ≤ q) ∨ W.heap.size ≤ q) hg (fun q hq => Or.inl (Or.inl ⟨hM q hq, (hrow.lt q hq).1⟩))) (fun q hq => by rcases hq with hq | hq; exact Or.inl (Or.inl hq); exact Or.inl (Or.inr hq))
  have kf : Kb (fun q => q = bo ∨ (M q ∧ B ≤ q) ∨ W.heap.size ≤ q) W (W7.setCell ⟨bo, 0, none⟩ (.slice (some ⟨g, 0, none⟩) (n + 1) cap)) :=
    (k7.mono (M' := fun q => q = bo ∨ (M q ∧ B ≤ q) ∨ W.heap.size ≤ q) (fun q _ hq => Or.inr hq)).trans (Kb.setCell (M := fun q => q = bo) _ rfl) (fun q hq => Or.inl (Or.inl hq))
  have hbol : bo < W.heap.size := by omega
  have e0 : W7.heap[bo]? = W.heap[bo]? := k7.same _ hbol (fun h => by omega)
  have c7 : W7.cell? ⟨bo, 0, none⟩ = some uo := cell_same c0 e0
  obtain ⟨-, a4, a5, a6, a7⟩ := h
  have e2 := kf.same _ (World.block_lt_of_cell? _ _ a5) (fun h => by have h' : bs = bo ∨ (M bs ∧ B ≤ bs) ∨ W.heap.size ≤ bs := h; omega)
  have hsz : (W7.setCell ⟨bo, 0, none⟩ (.slice (some ⟨g, 0, none⟩) (n + 1) cap)).heap.size = W7.heap.size := by simp [World.setCell]
  have hel : eqL s (pre ++ [x]) = eqL s pre ++ [nm2 (pqN x)] := by rw [eqL_snoc, hx]; rfl
  have hlen : (eqL s (pre ++ [x])).length = n + 1 := by rw [hel, List.length_append, hn]; rfl
  have hgB := hown.lt g rfl
  refine ⟨fun q => M q ∨ (W.heap.size ≤ q ∧ q < W7.heap.size), fun q hq => ?_, kf.mono fun q _ hq => ?_, ⟨⟨_, World.cell?_setCell_same' _ _ _ (by rw [c7]; rfl), ?_, fun q hq => ?_⟩, (World.frozen?_setCell _ _ _ _).trans ((World.frozen?_of_block e0).trans a4), cell_same a5 e2,
    a6.trans ⟨kf.os, kf.tape, kf.output, kf.size, fun q hq => kf.same q (Nat.lt_of_lt_of_le hq a6.size) (fun h => by omega)⟩, Or.inl a7⟩⟩
  · rw [hsz]
    rcases hq with hq | hq
    · exact ⟨Or.inl hq, by have := hMl q hq; omega⟩
    · exact ⟨Or.inr hq.1, hq.2⟩
  · rcases hq with rfl | hq | hq
    · exact Or.inl a7
    · exact Or.inl hq.1
    · exact Or.inr hq
  · rw [hlen, hel, pC_append]
    refine ownsRow_frm hown fun q hq => Below.heap_setCell _ _ _ _ (fun e => ?_)
    have h8 : q = bo := e
    have := (hown.lt q hq).1
    omega
  · have h9 : g = q := by simpa [Value.ownBlock] using hq
    subst h9
    rcases hat with h | h
    · exact Or.inl (hM g h)
    · exact Or.inr ⟨by omega, hlt⟩
theorem prsL_len (l : List En) : (prsL l).length = l.length * l.length := by
  have h2 : ∀ m : List En, (m.flatMap fun x => l.map fun y => (x, y)).length = m.length * l.length := by
    intro m
    induction m with
    | nil => simp
    | cons y m ih => rw [List.flatMap_cons, List.length_append, ih, List.length_map, List.length_cons, Nat.add_mul]; omega
  exact h2 l
/-- a row of pairs of names. -/
def PrsAt (w : World) (v : Value) (L : List N2) : Prop := RowK w v 2 L.length (pC L)
theorem PrsAt.below {w w' : World} {v : Value} {L : List N2} (h : PrsAt w v L) (hb : Below w.heap.size w w') : PrsAt w' v L := RowK.below h hb
theorem PrsAt.nil (w : World) : PrsAt w (.slice none 0 0) [] := ⟨rfl, none, 0, rfl, Nat.le_refl _, by simp, fun _ => rfl, fun j u hj => by simp [pC] at hj⟩
theorem el_pair : ElemAt Tryz.prog 52 (.agg #[.string ⟨#[]⟩, .string ⟨#[]⟩]) 2 32 := by unfold ElemAt; kernel_rfl
theorem ent_slices {w : World} {vS vU vP : Value} {x : En} (h : EntAt w vS vU vP x) : ∃ a1 k1 a2 k2 a3 k3, vS = .slice a1 x.says.length k1 ∧ vU = .slice a2 x.uses.length k2 ∧ vP = .slice a3 x.proof.length k3 := by
  obtain ⟨a1, k1, h1, -⟩ := h.s.open
  obtain ⟨a2, k2, h2, -⟩ := h.u.open
  obtain ⟨a3, k3, h3, -⟩ := h.p.open
  exact ⟨a1, k1, a2, k2, a3, k3, h1, h2, h3⟩
/-- the box of a value that is handed to the body, behind the loop's record's turn. -/
theorem EB.turned {w w' : World} {b l : Nat} {x : En} {vS vU vP : Value} (h : EB w b x vS vU vP) (hr : RecT l w w') (hne : b ≠ l) : EB w' b x vS vU vP := by
  obtain ⟨o, rfl⟩ := hr
  exact h.block (World.putObj_heap_other (fun e => hne (by omega)))
theorem row_one_pr (w : World) (a b : Nm) (t : TypeId) : RowK (w.alloc (.cells #[.string a, .string b] t)) (.slice (some ⟨w.heap.size, 0, none⟩) 1 1) 2 1 [.string a, .string b] := by
  refine ⟨rfl, _, _, rfl, Nat.le_refl _, by omega, (fun h => by cases h), fun j u hj => ⟨_, _, rfl, ?_⟩⟩
  rw [World.cell?_alloc_new, Nat.zero_add]
  simpa using hj
theorem ble {x y : Nm} (h : ¬ ltN y x) : (Op.bytesLess x.toList y.toList || x.toList == y.toList) = true := by rw [bgtr, decide_eq_false h]; rfl
theorem ble' {x y : Nm} (h : ltN y x) : (Op.bytesLess x.toList y.toList || x.toList == y.toList) = false := by rw [bgtr, decide_eq_true h]; rfl
set_option maxHeartbeats 8000000 in
set_option maxRecDepth 100000 in
theorem carry_Equivalences (vs vl : Value) (s : Sg) (l : List En) (w : World) (hs : SignAt w vs s) (hl : EntsAt w vl l) (hs1 : s.length ≤ 1000) (hl1 : l.length ≤ 1000) :
    Calls Tryz.prog 27 #[vs, vl] w fun e w' => ∃ u L er, EqsA s l L er ∧ e = .returned (.tuple #[u, .int .i64 er]) ∧ PrsAt w' u L ∧ Below w.heap.size w w' := by
  have HLL := hid hl
  have HSG := hid hs
  obtain ⟨sa, sc, rfl, -⟩ := hs.open
  obtain ⟨la, lc, rfl, -⟩ := hl.open
  have hb0 : Below w.heap.size w (w.alloc (.cells #[.slice sa s.length sc] 23)) := (Below.refl _ _).alloc (Nat.le_refl _) _
  have HV := hid (deps_Valid _ _ s l _ (hs.below hb0) (hl.below hb0) hs1 hl1)
  have HB0 := hid hb0
  have c2 := cell_new1 w (.slice sa s.length sc) 23
  clear hs hl hb0
  refine calls_marks Tryz.func27 rfl ?_
  simp only [Tryz.ntmps27, List.size_toArray, List.length_cons, List.length_nil, Nat.reduceAdd, Nat.reduceSub, Array.replicate_succ, Array.replicate_zero, List.push_toArray, List.append_toArray, List.nil_append, List.cons_append]
  cases g : libB s l
  · have HR : Hid (EqsA s l [] 1) := hid (Or.inl ⟨g, rfl, rfl⟩)
    rw [g] at HV
    clear g
    go_wp2_with fail
    refine HV.out.mono ?_
    rintro e w1 ⟨rfl, hb1⟩
    have HB1 := hid (HB0.out.trans (hb1.mono HB0.out.size))
    clear hb1
    go_wp2
    refine leave_none (v := .tuple #[.slice none 0 0, .int .i64 1]) (by simp [results, Tryz.results27, go_sem]) ?_
    exact ⟨_, [], 1, HR.out, rfl, PrsAt.nil _, HB1.out⟩
  · rw [g] at HV
    have hOK := libB_iff.1 g
    have HNDN := hid hOK.nd
    have hl60 := hOK.len
    have HER : Hid (∀ L, EqsQ s l L → EqsA s l L 0) := hid fun L h => Or.inr ⟨g, h, rfl⟩
    have HTE := hid (fun x (hx : x ∈ l) => (hOK.ents x hx).says)
    clear g hOK
    go_wp2_with fail
    refine HV.out.mono ?_
    rintro e w1 ⟨rfl, hb1⟩
    have c2' := (hb1.cell (World.block_lt_of_cell? _ _ c2)).trans c2
    have hbw1 := HB0.out.trans (hb1.mono HB0.out.size)
    have hs1' := hb1.size
    simp only [World.size_alloc] at hs1'
    clear hb1 c2
    go_wp2_with (go_at_call 89; refine (carry_pairs _ _ _ _).mono ?_; rintro e w4 ⟨rfl, rfl⟩)
    obtain ⟨W0, hW0⟩ : ∃ W0, (w1.alloc (.cells #[.slice none 0 0] 49)).alloc (.cells #[.slice la l.length lc] 24) = W0 := ⟨_, rfl⟩
    rw [hW0]
    have hbC : Below w1.heap.size w1 W0 := hW0 ▸ ((Below.refl w1.heap.size w1).alloc (Nat.le_refl _) (.cells #[.slice none 0 0] 49)).alloc (by simp) (.cells #[.slice la l.length lc] 24)
    have hsz : w1.heap.size + 2 ≤ W0.heap.size := by rw [← hW0]; simp
    obtain ⟨⟨k6, f6⟩, kl, -⟩ := boxes2F w1 (.slice none 0 0) (.slice la l.length lc) 49 24 W0 (by rw [hW0]; exact Below.refl _ _)
    have kc := (hbC.cell (World.block_lt_of_cell? _ _ c2')).trans c2'
    have hbw := hbw1.trans (hbC.mono hbw1.size)
    clear hW0 hbC c2' hbw1
    have HBW := hid hbw
    have HST : Hid (EqvI s w W0.heap.size w1.heap.size w.heap.size (.slice sa s.length sc) [] (fun k => k = w1.heap.size) W0) :=
      hid ⟨⟨_, k6, World.ownsRow_nil _ _ _ _, fun q hq => by cases hq⟩, f6, kc, hbw, rfl⟩
    have HSQ := hid (pairs_seq (w1.heap.size + 1) (.slice la l.length lc) l w W0 HLL.out hbw kl)
    have hLL : l.length * l.length ≤ 3600 := Nat.mul_le_mul hl60 hl60
    clear hbw k6 f6 kc kl
    refine wpIn_wide.1 (wpIn_rangeG (gf := 148) (lb := #[.pointer (some ⟨w1.heap.size + 1, 0, none⟩)]) rfl (enters_of Tryz.func148 rfl rfl) (encs := pqX) (E := pqE w l) (S := fun xs => xs.map pqN = prsL l)
      (N := fun k => k < w.heap.size ∨ k = w1.heap.size + 1) (w0 := W0) HSQ.out (Below.refl _ _) (fun _ => rfl) ?_ ?_ ?_
      (fun pre => EqvI s w W0.heap.size w1.heap.size w.heap.size (.slice sa s.length sc) pre) (fun _ _ _ _ => False)
      (fun k => k = w1.heap.size) ?_ (fun pre => EqvI.grw (by omega) (by omega) (by omega) pre) (fun c pre => ⟨fun _ _ _ h _ => h, fun _ _ _ _ _ _ h _ => h⟩) HST.out ?_ ?_ ?_)
    case refine_1 => exact fun _ _ _ _ _ _ _ h _ _ _ => h
    case refine_2 => exact fun _ _ _ _ _ h _ => h
    case refine_3 => rintro k (h | rfl) <;> omega
    case refine_4 => rintro k rfl; exact ⟨by rintro (h | h) <;> omega, by omega⟩
    case refine_5 =>
      clear HST HSQ
      rintro l' pre ⟨⟨⟨xS, xU, xP⟩, x⟩, ⟨⟨yS, yU, yP⟩, y⟩⟩ M W hsW hM hturn
      have hE := (hturn W _ (Below.refl _ _) ⟨.deferred none, rfl⟩).2.1
      obtain ⟨hpl, hxm, hym, hx, hy⟩ := hE
      simp only [veAt] at hx hy
      obtain ⟨a1, k1, a2, k2, a3, k3, rfl, rfl, rfl⟩ := ent_slices hx
      obtain ⟨b1, j1, b2, j2, b3, j3, rfl, rfl, rfl⟩ := ent_slices hy
      simp only at hpl hxm hym
      simp only [pqX, veV]
      have HXS := hid hx.s
      have HYS := hid hy.s
      have HTX := hid (HTE.out x hxm)
      have HTY := hid (HTE.out y hym)
      have EX0 := EB.new W x (.slice a1 x.says.length k1) (.slice a2 x.uses.length k2) (.slice a3 x.proof.length k3) 35
      have hbX : Below W.heap.size W (W.alloc (.cells #[.string x.name, .string x.who, .slice a1 x.says.length k1, .slice a2 x.uses.length k2, .slice a3 x.proof.length k3] 35)) := (Below.refl _ _).alloc (Nat.le_refl _) _
      have EY0 := EB.new (W.alloc (.cells #[.string x.name, .string x.who, .slice a1 x.says.length k1, .slice a2 x.uses.length k2, .slice a3 x.proof.length k3] 35)) y (.slice b1 y.says.length j1) (.slice b2 y.uses.length j2) (.slice b3 y.proof.length j3) 35
      have hbXY := hbX.alloc (by simp) (.cells #[.string y.name, .string y.who, .slice b1 y.says.length j1, .slice b2 y.uses.length j2, .slice b3 y.proof.length j3] 35)
      have EX1 := EX0.below ((Below.refl _ _).alloc (Nat.le_refl _) (.cells #[.string y.name, .string y.who, .slice b1 y.says.length j1, .slice b2 y.uses.length j2, .slice b3 y.proof.length j3] 35))
      rw [World.size_alloc] at EY0
      obtain ⟨wc, hwc⟩ : ∃ wc, (W.alloc (.cells #[.string x.name, .string x.who, .slice a1 x.says.length k1, .slice a2 x.uses.length k2, .slice a3 x.proof.length k3] 35)).alloc (.cells #[.string y.name, .string y.who, .slice b1 y.says.length j1, .slice b2 y.uses.length j2, .slice b3 y.proof.length j3] 35) = wc := ⟨_, rfl⟩
      have hswc : wc.heap.size = W.heap.size + 1 + 1 := by rw [← hwc]; simp
      rw [hwc] at EX1 EY0 hbXY
      have HWC := hid hwc
      have HEX := hid EX1
      have HEY := hid EY0
      have HBXY := hid hbXY
      have HTURN := hid hturn
      have HM := hid hM
      clear hx hy hturn hM EX0 EX1 EY0 hbX hbXY hwc
      gi_wp2
      rw [HWC.out]
      refine ⟨HBXY.out, fun W2 hT2 => ?_⟩
      obtain ⟨hI2, -, hs2⟩ := HTURN.out wc W2 HBXY.out hT2
      have EX2 := HEX.out.turned hT2 (by omega)
      have EY2 := HEY.out.turned hT2 (by omega)
      have HI2 := hid hI2
      obtain ⟨⟨uo, o1, o2, o3⟩, o4, o5, o6, o7⟩ := hI2
      have HEQ := hid (carry_Equivalence (.slice sa s.length sc) (.slice a1 x.says.length k1) (.slice b1 y.says.length j1) s x.says y.says W2 (HSG.out.below o6) (HXS.out.below o6) (HYS.out.below o6) hs1)
      obtain ⟨zb, ze, hz⟩ : ∃ zb ze, eqvR s x.says y.says = (zb, ze) := ⟨_, _, rfl⟩
      rw [hz] at HEQ
      dsimp only at HEQ
      have HQ : Hid (eqsB s (x, y) = (zb && !decide (ltN y.name x.name))) := hid (by unfold eqsB; rw [hz])
      have HO1 := hid o1
      have HO2 := hid o2
      have HO3 := hid o3
      have HO4 := hid o4
      obtain ⟨x0, x1, x2, x3, x4⟩ := EX2
      obtain ⟨y0, y1, y2, y3, y4⟩ := EY2
      have hMs : ∀ k, M k → k < W2.heap.size := fun k hk => by have := (HM.out k hk).2.2.1; omega
      have HMS := hid hMs
      have HS2 := hid hs2
      have hW02 : W0.heap.size ≤ W2.heap.size := by omega
      have hWW2 : W.heap.size ≤ W2.heap.size := by omega
      clear hz hT2 o1 o2 o3 o4 o6 o7 x1 x3 x4 y1 y3 y4 hMs hs2
      gi_wp2_with fail
      refine ⟨trivial, (callsIn_wide.2 HEQ.out).mono ?_⟩
      rintro e W3 ⟨rfl, hb3⟩
      have z0 := (hb3.cell (World.block_lt_of_cell? _ _ x0)).trans x0
      have z1 := (hb3.cell (World.block_lt_of_cell? _ _ y0)).trans y0
      have HB3 := hid hb3
      have hs3 := hb3.size
      clear x0 x2 y0 y2 o5 hb3
      cases zb
      · gi_wp2
        refine ⟨M, fun k hk => ⟨Or.inl hk, by have := HMS.out k hk; omega⟩, Kb.of_below HB3.out, ?_⟩
        exact ((EqvI.grw (by omega) (by omega) (by omega) _).below HI2.out HB3.out).skip (by rw [show pqN _ = (x, y) from rfl, HQ.out]; rfl)
      · by_cases hle : ltN y.name x.name
        · have qle := ble' hle
          have HLE := hid hle
          clear hle
          gi_wp2
          refine ⟨M, fun k hk => ⟨Or.inl hk, by have := HMS.out k hk; omega⟩, Kb.of_below HB3.out, ?_⟩
          exact ((EqvI.grw (by omega) (by omega) (by omega) _).below HI2.out HB3.out).skip (by rw [show pqN _ = (x, y) from rfl, HQ.out, decide_eq_true HLE.out]; rfl)
        · have qle := ble hle
          have HLE := hid hle
          have hll := eqL_len s pre
          have hbx : Below W2.heap.size W2 (W3.alloc (.cells #[.string x.name, .string y.name] 52)) := HB3.out.alloc hs3 _
          have HBX := hid hbx
          have c7 := (HB3.out.cell (World.block_lt_of_cell? _ _ HO1.out)).trans HO1.out
          have HRA := hid (owns_below HO2.out hbx)
          have HSRC := hid (row_one_pr W3 x.name y.name 52)
          have HRN : Hid (∀ k, uo.ownBlock = some k → W0.heap.size ≤ k) := hid (fun k hk => (HO2.out.lt k hk).1)
          have C96 := hid ((hbx.cell (World.block_lt_of_cell? _ _ HO1.out)).trans HO1.out)
          have F96 := hid ((hbx.frozen (p := ⟨w1.heap.size, 0, none⟩) (World.block_lt_of_cell? _ _ HO1.out)).trans HO4.out)
          have HXZ := hid hbx.size
          clear hle hbx
          gi_wp2_with (gi_at_builtin; refine wpListIn_append_lie rfl _ _ 49 rfl W0.heap.size 52 el_pair Tryz.underlying49 rfl (by decide) _ _ _ rfl HRA.out _ 1 [.string x.name, .string y.name] rfl HSRC.out (by simp [Value.oneCell']) (by decide) (by omega) (by omega) (by have := HXZ.out; omega) _ rfl ?_; intro g1 c1 w7 hown7 hgrow7 hat7 hlt7; have e97 := hgrow7.block w1.heap.size (World.block_lt_of_cell? _ _ C96.out) (fun e => by have := HRN.out _ e.symm; omega); have c97 := cell_same C96.out e97; have f97 := (World.frozen?_of_block e97).trans F96.out)
          obtain ⟨M', h1, h2, h3⟩ := EqvI.push (x := (((.slice a1 x.says.length k1, .slice a2 x.uses.length k2, .slice a3 x.proof.length k3), x), ((.slice b1 y.says.length j1, .slice b2 y.uses.length j2, .slice b3 y.proof.length j3), y))) HI2.out (by rw [show pqN _ = (x, y) from rfl, HQ.out, decide_eq_false HLE.out]; rfl) (by omega) (by omega) (by omega) hW02 (by omega) (by omega) HMS.out
            HO1.out HO2.out HO3.out HBX.out rfl hown7 hgrow7 hat7 hlt7
          exact ⟨M', fun k hk => ⟨(h1 k hk).1.imp id (fun h => by omega), (h1 k hk).2⟩, h2.mono (fun k _ hk => hk.imp id (fun h => by omega)), h3⟩
    case refine_6 =>
      clear HST HSQ
      rintro xs M W hxs hI hD hMD
      obtain ⟨⟨uo, o1, o2, o3⟩, o4, o5, o6, o7⟩ := hI
      have hL : eqL s xs = ((prsL l).filter (eqsB s)).map nm2 := by unfold eqL; rw [hxs]
      have hlx := eqL_len s xs
      have hxl : xs.length = l.length * l.length := by
        have h1 := congrArg List.length hxs
        rw [List.length_map, prsL_len] at h1
        exact h1
      rw [hL] at hlx o2
      obtain ⟨L0, hL0⟩ : ∃ L0, ((prsL l).filter (eqsB s)).map nm2 = L0 := ⟨_, rfl⟩
      rw [hL0] at hlx o2
      have HL0 := hid hL0
      have HDD := hid hD
      clear hxs hL hL0 o4 o5 o7
      by_cases h0 : L0.length = 0
      · obtain ⟨ua, uc, rfl⟩ := owns_slice o2
        have HE : Hid (L0 = []) := hid (List.eq_nil_of_length_eq_zero h0)
        have HRW : Hid (PrsAt (W.putObj W0.heap.size (.deferred none)) (.slice ua L0.length uc) L0) := hid (putObj_rowK hD rfl (RowK.of_owns o2 (by omega)))
        have HB := hid (putObj_below (.deferred none) o6 (by omega : w.heap.size ≤ W0.heap.size))
        rw [h0] at o1 HRW
        clear o2 o6 hD o3
        go_wp2_with (go_at_call 90; refine (sort_pairs0 _ _ _ _).mono ?_; rintro e w2 ⟨rfl, rfl⟩)
        refine leave_mark (v := .tuple #[.slice ua 0 uc, .int .i64 0]) HDD.out (by simp [results, Tryz.results27, go_sem]) ?_
        exact ⟨_, L0, 0, HER.out _ (eqs_sorted HNDN.out (by rw [HL0.out]) (by rw [HE.out]; simp)), rfl, HRW.out, HB.out⟩
      · obtain ⟨g, cap, rfl, hg0, -⟩ := owns_some o2 (by omega)
        have HSO := hid (sort_pairs W0.heap.size g L0.length cap L0 W (by omega) rfl o2)
        have hgne : g ≠ w1.heap.size := by omega
        have HO6 := hid o6
        have HM3 := hid (o3 g rfl)
        have hgD : g ≠ W0.heap.size := hMD g (o3 g rfl)
        have hDl := (Array.getElem?_eq_some_iff.1 hD).1
        have hol := World.block_lt_of_cell? _ _ o1
        have HO1 := hid o1
        have HHG := hid (show g ≠ w1.heap.size ∧ g ≠ W0.heap.size ∧ W0.heap.size ≤ g from ⟨hgne, hgD, hg0⟩)
        have HDL := hid (show W0.heap.size < W.heap.size ∧ w1.heap.size < W.heap.size from ⟨hDl, hol⟩)
        clear o2 o3 o6 hD hgD hgne hMD hDl hol
        go_wp2_with (go_at_call 90; refine HSO.out.mono ?_; rintro e w2 ⟨L', rfl, hown2, hperm, hpw, hk2⟩; have o1' := (World.cell?_of_block (a := ⟨w1.heap.size, 0, none⟩) (hk2.same _ HDL.out.2 (fun h => HHG.out.1 h.symm))).trans HO1.out; have HOWN2 := hid hown2; have HPERM := hid hperm; have HPW := hid hpw; have HK2 := hid hk2; clear hown2 hperm hpw hk2)
        have hD2 : w2.heap[W0.heap.size]? = some (.deferred (some [])) := (HK2.out.same _ HDL.out.1 (fun h => HHG.out.2.1 h.symm)).trans HDD.out
        have hpl := HPERM.out.length_eq
        have HB := putObj_below (.deferred none) (HO6.out.trans (HK2.out.below (b := w.heap.size) HO6.out.size (fun k hk => by subst hk; have := HHG.out.2.2; omega))) (by omega : w.heap.size ≤ W0.heap.size)
        have HRW := putObj_rowK (o' := .deferred none) hD2 rfl (RowK.of_owns HOWN2.out (by omega))
        rw [← hpl] at HRW
        refine leave_mark (v := .tuple #[.slice (some ⟨g, 0, none⟩) L0.length cap, .int .i64 0]) hD2 (by simp [results, Tryz.results27, go_sem]) ?_
        exact ⟨_, L', 0, HER.out _ (eqs_sorted HNDN.out (by rw [HL0.out]; exact HPERM.out) HPW.out), rfl, by rw [← hpl]; exact HRW, HB⟩
    case refine_7 =>
      intro c pre M W h
      exact h.elim
end Go.Proofs.YtpflkjldapmgdaaGreat
namespace Go.Proofs.YtpflkjldapmgdaaGreat
open Go Go.RowKit Go.Maps
/-- what the reference asks of two places of the names. -/
def eqQ (s : Sg) (l : List En) (ns : List Nm) (a b : Nat) : Bool :=
  (eqvR s ((saysN l (ns.getD a ByteArray.empty)).getD []) ((saysN l (ns.getD b ByteArray.empty)).getD [])).1
theorem saysN_mem {l : List En} (hnd : (l.map En.name).Nodup) {x : En} (hx : x ∈ l) : saysN l x.name = some x.says := by
  obtain ⟨i, hi, rfl⟩ := List.getElem_of_mem hx
  exact (saysN_some (idxN_nd hnd hi)).2
theorem eqQ_says {s : Sg} {l : List En} (hnd : (l.map En.name).Nodup) {ns : List Nm} (a b : Nat) (ha : a < ns.length) (hb : b < ns.length) (x y : En) (hx : x ∈ l) (hy : y ∈ l) (ex : x.name = ns[a]) (ey : y.name = ns[b]) : eqQ s l ns a b = (eqvR s x.says y.says).1 := by
  unfold eqQ
  rw [List.getD_eq_getElem?_getD, List.getElem?_eq_getElem ha, List.getD_eq_getElem?_getD, List.getElem?_eq_getElem hb, Option.getD_some, Option.getD_some, ← ex, ← ey, saysN_mem hnd hx, saysN_mem hnd hy]
  rfl
theorem srt_facts {l : List En} (hnd : (l.map En.name).Nodup) : AscN (srtN (l.map En.name)) ∧ (∀ x, x ∈ srtN (l.map En.name) ↔ x ∈ l.map En.name) ∧ (srtN (l.map En.name)).length ≤ l.length :=
  ⟨(srtN_asc _).1, (srtN_asc _).2, by have := srtN_len (l.map En.name); simpa using this⟩
theorem idx_of_name {l : List En} (hnd : (l.map En.name).Nodup) {x : Nm} (hx : x ∈ l.map En.name) : ∃ p, ∃ hp : p < l.length, idxI l x = (p : Int) ∧ l[p].name = x ∧ saysN l x = some l[p].says := by
  obtain ⟨y, hy, rfl⟩ := List.mem_map.1 hx
  obtain ⟨p, hp, rfl⟩ := List.getElem_of_mem hy
  have h := idxN_nd hnd hp
  exact ⟨p, hp, by unfold idxI; rw [h], rfl, (saysN_some h).2⟩
set_option maxHeartbeats 8000000 in
set_option maxRecDepth 100000 in
theorem ref8_Equivalences (vs vl : Value) (s : Sg) (l : List En) (w : World) (hs : SignAt w vs s) (hl : EntsAt w vl l) (hs1 : s.length ≤ 1000) (hl1 : l.length ≤ 1000) :
    Calls Tryz.prog 28 #[vs, vl] w fun e w' => ∃ u L er, EqsA s l L er ∧ e = .returned (.tuple #[u, .int .i64 er]) ∧ PrsAt w' u L ∧ Below w.heap.size w w' := by
  have HV := hid (ref6_Valid vs vl s l w hs hl hs1 hl1)
  have HLL := hid hl
  have HSG := hid hs
  obtain ⟨la, lc, rfl, -, -, -, HC⟩ := hl.open
  have HC' := hid HC
  clear hl HC
  cases g : libB s l
  · have HR : Hid (EqsA s l [] 1) := hid (Or.inl ⟨g, rfl, rfl⟩)
    rw [g] at HV
    clear g
    go_enter Tryz.func28, Tryz.ntmps28
    go_wp2_with fail
    refine HV.out.mono ?_
    rintro e w1 ⟨rfl, hb1⟩
    go_wp2
    go_ret2
    exact ⟨_, [], 1, HR.out, rfl, PrsAt.nil _, hb1⟩
  · rw [g] at HV
    have hOK := libB_iff.1 g
    have hl60 := hOK.len
    have HER : Hid (∀ L, EqsQ s l L → EqsA s l L 0) := hid fun L h => Or.inr ⟨g, h, rfl⟩
    have HNDN := hid hOK.nd
    obtain ⟨sf1, sf2, sf3⟩ := srt_facts hOK.nd
    have HSA := hid sf1
    have HSM := hid sf2
    have HTE := hid (fun x (hx : x ∈ l) => (hOK.ents x hx).says)
    clear g hOK sf1 sf2
    have h00 := hid (fun W : World => World.ownsRow_nil W W.heap.size 9 1)
    go_enter Tryz.func28, Tryz.ntmps28
    go_wp2_with fail
    refine HV.out.mono ?_
    rintro e w1 ⟨rfl, hb1⟩
    have HB1 := hid hb1
    clear hb1
    go_wp2
    go_loopw [6, 7] (fun u kv wr => ∃ k : Nat, k ≤ l.length ∧ kv = .int .i64 k ∧ Below w1.heap.size w1 wr ∧ wr.ownsRow w1.heap.size 9 1 u k (((l.take k).map En.name).map Value.string)) (fun _ kv _ => l.length - (intOf kv).toNat)
    case atStart => exact ⟨0, by omega, rfl, Below.refl _ _, h00.out _⟩
    case round =>
      clear h00
      obtain ⟨k, hk, rfl, hb, hown⟩ := hrel
      have hsz := hb.size
      by_cases hlt : k < l.length
      · obtain ⟨b, o, vS, vu, vp, rfl, c0, -, -, -, -, he⟩ := HC'.out k hlt
        have c1 := ((HB1.out.trans (hb.mono HB1.out.size)).cell (World.block_lt_of_cell? _ _ c0)).trans c0
        have HTK : Hid (((l.take (k + 1)).map En.name).map Value.string = ((l.take k).map En.name).map Value.string ++ [.string l[k].name]) := hid (by rw [List.take_succ_eq_append_getElem hlt, List.map_append, List.map_append]; rfl)
        obtain ⟨x, hx⟩ : ∃ x, l[k].name = x := ⟨_, rfl⟩
        rw [hx] at c1 HTK
        have HOWN := hid hown
        have HB := hid hb
        clear c0 he hx hown hb
        go_wp2_with (at_builtin; refine wpList_append_row rfl _ _ 32 rfl w1.heap.size 9 el_str Tryz.underlying32 rfl (by decide) _ _ _ rfl (HOWN.out.alloc _) _ 1 [.string x] rfl (row_one_new _ _ _) (oneCell_one rfl) (by omega) (by omega) (by simp; omega) ?_; intro v' w4 hown4 hgrow4 _)
        go_roundw
        case rel => exact ⟨k + 1, by omega, by go_num, (HB.out.alloc hsz _).grown hgrow4 (by have := HB.out.size; simp; omega) (fun q hq => (HOWN.out.lt q hq).1), by rw [HTK.out]; exact hown4⟩
        case measure => simp [intOf]; omega
      · have hkl : k = l.length := by omega
        subst hkl
        rw [List.take_of_length_le (Nat.le_refl _)] at hown
        have hTX : TxtsAt wr u6 (l.map En.name) := TxtsAt.of_owns (by simpa using hown) (by simp; omega) (fun x hx => by
          obtain ⟨y, hy, rfl⟩ := List.mem_map.1 hx
          obtain ⟨i, hi, rfl⟩ := List.getElem_of_mem hy
          obtain ⟨_, _, _, _, _, -, -, -, -, -, -, he⟩ := HC'.out i hi
          exact he.n1)
        have HSO := hid (ref6_Sorted u6 (l.map En.name) wr hTX (by simp; omega))
        have HB2 := hid (HB1.out.trans (hb.mono HB1.out.size))
        have HNB := hid hTX.2
        clear hown hTX hb
        go_wp2_with fail
        refine HSO.out.mono ?_
        rintro e w3 ⟨un, rfl, hown3, hb3⟩
        have HB3 := hid (HB2.out.trans (hb3.mono HB2.out.size))
        obtain ⟨ns, hns⟩ : ∃ ns, srtN (l.map En.name) = ns := ⟨_, rfl⟩
        rw [hns] at hown3 sf3 HSA HSM
        have hTN : TxtsAt w3 un ns := TxtsAt.of_owns hown3 (by omega) (fun x hx => HNB.out x ((HSM.out x).1 hx))
        obtain ⟨na, nc, rfl, -, -, -, NC⟩ := hTN.open
        have NC' := hid NC
        clear hns hown3 hb3 hTN NC HSO
        have h01 := hid (World.ownsRow_nil w3 w3.heap.size 52 2)
        have hn60 : ns.length ≤ 60 := by omega
        go_wp2
        go_loopw [8, 9] (fun u iv wr => ∃ (i : Nat) (L : List N2), i ≤ ns.length ∧ iv = .int .i64 i ∧ EqI ns (eqQ s l ns) i i L ∧ L.length ≤ i * 60 ∧ wr.ownsRow w3.heap.size 52 2 u L.length (pC L) ∧ Below w3.heap.size w3 wr) (fun _ iv _ => ns.length - (intOf iv).toNat)
        case atStart => exact ⟨0, [], by omega, rfl, EqI.start _ _, by simp, h01.out, Below.refl _ _⟩
        case round =>
          clear h01
          rename World => wo
          obtain ⟨i, L, hi, rfl, hEI, hLL, hown, hb⟩ := hrel
          by_cases hlti : i < ns.length
          · obtain ⟨nb, no, rfl, d0⟩ := NC'.out i hlti
            obtain ⟨p, hp, hpi, hpn, -⟩ := idx_of_name HNDN.out ((HSM.out ns[i]).1 (List.getElem_mem hlti))
            obtain ⟨eb, eo, xS, xU, xP, rfl, -, -, e2, -, -, hx⟩ := HC'.out p hp
            obtain ⟨xa, xc, rfl, -⟩ := hx.s.open
            have HXS := hid hx.s
            have HPM := hid (List.getElem_mem hp)
            have HPN := hid hpn
            obtain ⟨x, hxe⟩ : ∃ x, l[p] = x := ⟨_, rfl⟩
            obtain ⟨a, hae⟩ : ∃ a, ns[i] = a := ⟨_, rfl⟩
            have HAE := hid hae
            rw [hxe] at e2 HXS HPM HPN
            rw [hae] at d0 hpi HPN
            have HST : Hid (EqI ns (eqQ s l ns) i i L ∧ L.length ≤ i * 60 + i ∧ wo.ownsRow w3.heap.size 52 2 u8 L.length (pC L) ∧ Below w3.heap.size w3 wo) := hid ⟨hEI, by omega, hown, hb⟩
            clear hx hxe hae hpn hEI hLL hown hb
            go_wp2
            go_loopw [8, 10] (fun u kv wr => ∃ (k : Nat) (L : List N2), i ≤ k ∧ k ≤ ns.length ∧ kv = .int .i64 k ∧ (EqI ns (eqQ s l ns) i k L ∧ L.length ≤ i * 60 + k ∧ wr.ownsRow w3.heap.size 52 2 u L.length (pC L) ∧ Below w3.heap.size w3 wr)) (fun _ kv _ => ns.length - (intOf kv).toNat)
            case atStart => exact ⟨i, L, by omega, by omega, rfl, HST.out⟩
            case round =>
              clear HST
              obtain ⟨k, L, hik, hk, rfl, hEI, hLL, hown, hb⟩ := hrel
              have hsz := hb.size
              have hbw := HB3.out.trans (hb.mono HB3.out.size)
              have hszw := hbw.size
              by_cases hltk : k < ns.length
              · obtain ⟨nb', no', hnn, f0⟩ := NC'.out k hltk
                obtain ⟨rfl, rfl⟩ : nb = nb' ∧ no = no' := by simpa using hnn
                obtain ⟨r, hr, hri, hrn, -⟩ := idx_of_name HNDN.out ((HSM.out ns[k]).1 (List.getElem_mem hltk))
                obtain ⟨eb', eo', yS, yU, yP, hee, -, -, g2, -, -, hy⟩ := HC'.out r hr
                obtain ⟨rfl, rfl⟩ : eb = eb' ∧ eo = eo' := by simpa using hee
                obtain ⟨ya, yc, rfl, -⟩ := hy.s.open
                have hq := eqQ_says (s := s) HNDN.out i k hlti hltk x l[r] HPM.out (List.getElem_mem hr) (by rw [HPN.out, HAE.out]) hrn
                have HYS := hid hy.s
                have hpu := fun h => hEI.push HSA.out hlti hltk hik h
                have hsk := fun h => hEI.skip h
                rw [HAE.out] at hpu
                obtain ⟨y, hye⟩ : ∃ y, l[r] = y := ⟨_, rfl⟩
                obtain ⟨b, hbe⟩ : ∃ b, ns[k] = b := ⟨_, rfl⟩
                rw [hye] at g2 HYS hq
                rw [hbe] at f0 hri hpu
                have hwo : Below w.heap.size w wr := hbw
                have da := (hb.cell (World.block_lt_of_cell? _ _ d0)).trans d0
                have db := (hb.cell (World.block_lt_of_cell? _ _ f0)).trans f0
                have ea := (hbw.cell (World.block_lt_of_cell? _ _ e2)).trans e2
                have ee := (hbw.cell (World.block_lt_of_cell? _ _ g2)).trans g2
                have HIA := hid (fun (X : World) (hX : Below wr.heap.size wr X) => ref6_Index (.slice (some ⟨eb, eo, none⟩) l.length lc) l a X ((HLL.out.below hbw).below hX))
                have HIB := hid (fun (X : World) (hX : Below wr.heap.size wr X) => ref6_Index (.slice (some ⟨eb, eo, none⟩) l.length lc) l b X ((HLL.out.below hbw).below hX))
                rw [hpi] at HIA
                rw [hri] at HIB
                have HEQ := hid (fun (X : World) (hX : Below wr.heap.size wr X) => ref8_Equivalence vs (.slice xa x.says.length xc) (.slice ya y.says.length yc) s x.says y.says X ((HSG.out.below hbw).below hX) ((HXS.out.below hbw).below hX) ((HYS.out.below hbw).below hX))
                obtain ⟨zb, ze, hz⟩ : ∃ zb ze, eqvR s x.says y.says = (zb, ze) := ⟨_, _, rfl⟩
                rw [hz] at HEQ hq
                dsimp only at HEQ hq
                rw [hq] at hpu hsk
                have HPU := hid hpu
                have HF0 := hid f0
                have HSK := hid hsk
                have HB := hid hb
                have HOWN := hid hown
                have p0 : (0 : Int) ≤ (p : Int) := by omega
                have p1 : (p : Int) < (l.length : Int) := by omega
                have r0 : (0 : Int) ≤ (r : Int) := by omega
                have r1 : (r : Int) < (l.length : Int) := by omega
                have i0 : (0 : Int) ≤ (i : Int) := by omega
                have i1 : (i : Int) < (ns.length : Int) := by omega
                have k0 : (0 : Int) ≤ (k : Int) := by omega
                have k1 : (k : Int) < (ns.length : Int) := by omega
                clear hEI hpu hsk hq hz hye hbe hy hee hnn f0 g2 hrn hb hbw hown hwo
                go_wp2
                go_region_held3 (fun w' => w'.cell? ⟨nb, no + i, none⟩ = some (.string a) ∧ w'.cell? ⟨nb, no + k, none⟩ = some (.string b) ∧ w'.cell? ⟨eb, eo + p * 5 + 2, none⟩ = some (.slice xa x.says.length xc) ∧ w'.cell? ⟨eb, eo + r * 5 + 2, none⟩ = some (.slice ya y.says.length yc))
                  (first | exact ⟨by assumption, by assumption, by assumption, by assumption⟩ | go_keep)
                  (first
                  | (go_at_call 53; (with_reducible refine (HIA.out _ (Below.refl _ _)).mono ?_); rintro e w5 ⟨rfl, rfl⟩)
                  | (go_at_call 53; (with_reducible refine (HIB.out _ (Below.refl _ _)).mono ?_); rintro e w5 ⟨rfl, rfl⟩)
                  | (go_at_call 53; (with_reducible refine (HIA.out _ (Below.drew (Below.refl _ _))).mono ?_); rintro e w5 ⟨rfl, rfl⟩)
                  | (go_at_call 53; (with_reducible refine (HIB.out _ (Below.drew (Below.refl _ _))).mono ?_); rintro e w5 ⟨rfl, rfl⟩)
                  | (go_at_call 26; (with_reducible refine (HEQ.out _ (Below.refl _ _)).mono ?_); rintro e w5 ⟨rfl, hb5⟩; have hbr5 : Below wr.heap.size wr w5 := hb5; have da' := (hbr5.cell (World.block_lt_of_cell? _ _ da)).trans da; have db' := (hbr5.cell (World.block_lt_of_cell? _ _ db)).trans db; have ea' := (hbr5.cell (World.block_lt_of_cell? _ _ ea)).trans ea; have ee' := (hbr5.cell (World.block_lt_of_cell? _ _ ee)).trans ee)
                  | (go_at_call 26; (with_reducible refine (HEQ.out _ (Below.drew (Below.refl _ _))).mono ?_); rintro e w5 ⟨rfl, hb5⟩; have hbr5 : Below wr.heap.size wr w5 := (below_self_drew _).trans hb5; have da' := (hbr5.cell (World.block_lt_of_cell? _ _ da)).trans da; have db' := (hbr5.cell (World.block_lt_of_cell? _ _ db)).trans db; have ea' := (hbr5.cell (World.block_lt_of_cell? _ _ ea)).trans ea; have ee' := (hbr5.cell (World.block_lt_of_cell? _ _ ee)).trans ee))
                have hbw5 := HB.out.trans (hbr5.mono hsz)
                have HB5 := hid hbw5
                have hsz5 := hbw5.size
                have HOW5 := hid (owns_below HOWN.out hbr5)
                clear hbr5 hb5 da' db' ea' ee' da ea ee hbw5
                cases zb
                · have HST3 := hid (HSK.out rfl)
                  go_wp2
                  go_roundw
                  case rel => exact ⟨k + 1, L, by omega, by omega, by go_num, HST3.out, by omega, HOW5.out, HB5.out⟩
                  case measure => simp [intOf]; omega
                · have HST3 := hid (HPU.out rfl)
                  have HROW : Hid (RowK (w5.alloc (.cells #[.string a, .string b] 52)).drew (.slice (some ⟨w5.heap.size, 0, none⟩) 1 1) 2 1 [.string a, .string b]) := hid (row_one_pr w5 a b 52)
                  have HOWA : Hid ((w5.alloc (.cells #[.string a, .string b] 52)).drew.ownsRow w3.heap.size 52 2 u8 L.length (pC L)) := hid ((HOW5.out.alloc _).drew)
                  have da := (HB5.out.cell (World.block_lt_of_cell? _ _ d0)).trans d0
                  have db := (HB5.out.cell (World.block_lt_of_cell? _ _ HF0.out)).trans HF0.out
                  have hLb : L.length ≤ 3720 := by omega
                  go_wp2
                  go_region_law (refine step_append_row rfl (.tmp 72) (.tmp 82) 49 rfl w3.heap.size 52 el_pair Tryz.underlying49 rfl (by decide) u8 _ _ rfl HOWA.out _ 1 [.string a, .string b] rfl HROW.out (by simp [Value.oneCell']) (by omega) (by omega) (by simp; omega) ?_; intro v6 w6 hown6 hg6)
                  all_goals
                    have HB6 := hid ((HB5.out.alloc hsz5 (.cells #[.string a, .string b] 52)).drew.grown hg6 (by show _ ≤ (w5.alloc _).heap.size; simp; omega) (fun q hq => (HOW5.out.lt q hq).1))
                    have HO6 : Hid (w6.ownsRow w3.heap.size 52 2 v6 (L ++ [(a, b)]).length (pC (L ++ [(a, b)]))) := hid (by
                      rw [pC_append, show (L ++ [(a, b)]).length = L.length + 1 from by simp]
                      exact hown6)
                    have HL6 : Hid ((L ++ [(a, b)]).length ≤ i * 60 + (k + 1)) := hid (by simp; omega)
                    clear hown6 hg6
                    go_wp2
                    go_roundw
                    case rel => exact ⟨k + 1, L ++ [(a, b)], by omega, by omega, by go_num, HST3.out, HL6.out, HO6.out, HB6.out⟩
                    case measure => simp [intOf]; omega
              · have hkn : k = ns.length := by omega
                have HST2 : Hid (EqI ns (eqQ s l ns) (i + 1) (i + 1) L ∧ L.length ≤ (i + 1) * 60 ∧ wr.ownsRow w3.heap.size 52 2 u8 L.length (pC L) ∧ Below w3.heap.size w3 wr) := hid ⟨hEI.next (by omega), by omega, hown, hb⟩
                clear hEI hLL hown hb hbw
                go_wp2
                go_roundw
                case rel => exact ⟨i + 1, L, by omega, by go_num, HST2.out⟩
                case measure => simp [intOf]; omega
          · have HEI := hid hEI
            have HRW : Hid (PrsAt wo u8 L) := hid (RowK.of_owns hown (by omega))
            have HBZ := hid (HB3.out.trans (hb.mono HB3.out.size))
            clear hEI hown hb
            go_wp2
            go_ret2
            exact ⟨_, L, 0, HER.out _ (HEI.out.fin HNDN.out (by omega) HSA.out HSM.out (fun a b ha hb x y hx hy ex ey => eqQ_says HNDN.out a b ha hb x y hx hy ex ey)), rfl, HRW.out, HBZ.out⟩
end Go.Proofs.YtpflkjldapmgdaaGreat
