/-
  WHAT IT HOLDS: contracts of Arguments (at any head), Ways and SamePaths of package lemmaryref01. Conditions: the arguments read as data; a term.
-/
import Derived.Deep.RegionHeld3
import Derived.Test.YtiacbdipagbblaaZRFindParts18
import Derived.Test.YtiacbdipagbblaaZRFindParts19
import Derived.Test.YtiacbdipagbblaaZRFindParts22
namespace Go.Proofs.Ytiacbdipagbblaa
open Go Go.RowKit Go.Maps
attribute [local go_sem] Oper.semAt_some
set_option maxHeartbeats 1000000 in
set_option maxRecDepth 100000 in
theorem ref1_Arguments0 (vs vt : Value) (s : Sg) (t : List Int) (i : Nat) (w : World) (hs : SignAt w vs s) (ht : Ints w vt t) (hi : i < t.length) (hx : t[i] < 0) :
    Calls Try.prog 155 #[vs, vt, .int .i64 i] w fun e w' => e = .returned (.slice none 0 0) ∧ w = w' := by
  obtain ⟨ta, tcap, rfl, ht1, ht2, -, TC⟩ := ht.open
  obtain ⟨sa, scap, rfl, -⟩ := hs.open
  obtain ⟨tb, to, rfl, hcell0⟩ := TC i hi
  obtain ⟨x, hx0⟩ : ∃ x, t[i] = x := ⟨_, rfl⟩
  rw [hx0] at hcell0 hx
  have HA := hid (ref1_Arity (.slice sa s.length scap) s x w hs (by omega))
  have HZ : Hid (arOf s x = 0) := hid (by unfold arOf; rw [if_pos hx])
  rw [HZ.out] at HA
  clear TC hs ht hx0
  go_enter Try.func155, Try.ntmps155
  go_wp2
  go_loop [7, 9] (fun u jv => u = .slice none 0 0 ∧ jv = .int .i64 0) (fun _ _ => 0)
  case atStart => exact ⟨rfl, rfl⟩
  case round =>
    obtain ⟨rfl, rfl⟩ := hrel
    go_wp2_with (first | (go_at_call 129; refine HA.out.mono ?_; rintro e w1 ⟨rfl, rfl⟩))
    go_ret
    exact ⟨rfl, rfl⟩
structure WStep (s : Sg) (t : List Int) (n : Nat) (zs : List (List Int)) (p : List Int) : Prop where
  way : (wayL s t)[n]? = some p
  arg : ∀ k, k < zs.length → (wayL s t)[n + 1 + (zs.take k).flatten.length]? = some (p ++ [(k : Int)])
  lt : ∀ k, k < zs.length → n + 1 + (zs.take k).flatten.length < t.length
  set : ∀ i, setAt s t (n + 1) i → setAt s t n i ∨ ∃ k, k < zs.length ∧ i = n + 1 + (zs.take k).flatten.length
  len : zs.length ≤ t.length
theorem wstep {vs vt : Value} {s : Sg} {t : List Int} {w : World} (hT : IsT s 12 t) (ht60 : t.length ≤ 60) (hsg : ∀ x ∈ t, x < s.length) {n : Nat} (hn : n < t.length) :
    ∃ zs p, WStep s t n zs p ∧ ∀ X : World, SignAt X vs s → Ints X vt t → Calls Try.prog 155 #[vs, vt, .int .i64 n] X fun e w' => ∃ u, e = .returned u ∧ w'.ownsRow X.heap.size 3 1 u zs.length ((startL n zs zs.length).map (Value.int .i64)) ∧ Below X.heap.size X w' := by
  obtain ⟨v, r, hv, hd⟩ := part_at hT n hn
  have hdc := List.drop_eq_getElem_cons hn
  rw [hd] at hdc
  cases hv with
  | var x h1 h2 =>
    have hx : t[n] = x := (List.cons.inj hdc).1.symm
    refine ⟨[], (wayL s t)[n]'(by rw [way_len hT]; exact hn), ⟨List.getElem?_eq_getElem _, (fun k h => by simp at h), (fun k h => by simp at h), fun i h => Or.inl (set_var hn (by omega) h), by simp⟩, fun X hs ht => ?_⟩
    refine (ref1_Arguments0 vs vt s t n X hs ht hn (by omega)).mono ?_
    rintro e w' ⟨rfl, rfl⟩
    exact ⟨_, rfl, World.ownsRow_nil _ _ _ _, Below.refl _ _⟩
  | app c zs h1 h2 h3 =>
    have hA : AppAt s 12 t n c zs r := ⟨hd, h1, h2, h3⟩
    obtain ⟨p, hp, hk⟩ := way_arg hT hA
    have hlt : ∀ k, k < zs.length → n + 1 + (zs.take k).flatten.length < t.length := fun k hk' => by
      have := (List.getElem?_eq_some_iff.1 (hk k hk')).1
      rwa [way_len hT] at this
    refine ⟨zs, p, ⟨hp, hk, hlt, fun i h => set_app hA h, ?_⟩, fun X hs ht => ?_⟩
    · have h9 := terms_len h3
      have := congrArg List.length hd
      rw [List.length_drop, List.length_append, List.length_cons] at this
      omega
    · refine (ref1_Arguments vs vt s 12 t r c zs n X hs ht h1 h2 h3 hd hsg (by omega)).mono ?_
      rintro e w' ⟨u, rfl, h, hb⟩
      exact ⟨u, rfl, by rw [startL_len] at h; exact h, hb⟩
theorem way_next {s : Sg} {t : List Int} {n k j g g7 c7 cu B P : Nat} {zs : List (List Int)} {p : List Int} (hP : p.length = P) {ws : List Value} {au : Option Addr} {wr w7 : World}
    (hown : wr.ownsRow B 25 1 (.slice (some ⟨g, 0, none⟩) t.length t.length) t.length ws) (hou : wr.ownsRow (g + 1) 3 1 (.slice au zs.length cu) zs.length ((startL n zs zs.length).map (Value.int .i64)))
    (hall : ∀ (i : Nat) (v : Value) (p : List Int), (setAt s t n i ∨ ∃ k', k' < k ∧ i = n + 1 + (zs.take k').flatten.length) → ws[i]? = some v → (wayL s t)[i]? = some p → wr.ownsRow (g + 1) 3 1 v p.length (p.map (Value.int .i64)))
    (hst : WStep s t n zs p) (hk : k < zs.length) (hj : n + 1 + (zs.take k).flatten.length = j) (hg : g < wr.heap.size) (hb : Below wr.heap.size wr w7) (hwl : ws.length = t.length) (hjl : j < t.length)
    (hown7 : w7.ownsRow wr.heap.size 3 1 (.slice (some ⟨g7, 0, none⟩) (0 + P + 1) c7) (0 + P + 1) ([] ++ p.map (Value.int .i64) ++ [.int .i64 k])) :
    (w7.setCell ⟨g, j, none⟩ (.slice (some ⟨g7, 0, none⟩) (P + 1) c7)).ownsRow B 25 1 (.slice (some ⟨g, 0, none⟩) t.length t.length) t.length (ws.set j (.slice (some ⟨g7, 0, none⟩) (P + 1) c7)) ∧
    (w7.setCell ⟨g, j, none⟩ (.slice (some ⟨g7, 0, none⟩) (P + 1) c7)).ownsRow (g + 1) 3 1 (.slice au zs.length cu) zs.length ((startL n zs zs.length).map (Value.int .i64)) ∧
    (∀ (i : Nat) (v : Value) (p : List Int), (setAt s t n i ∨ ∃ k', k' < k + 1 ∧ i = n + 1 + (zs.take k').flatten.length) → (ws.set j (.slice (some ⟨g7, 0, none⟩) (P + 1) c7))[i]? = some v → (wayL s t)[i]? = some p → (w7.setCell ⟨g, j, none⟩ (.slice (some ⟨g7, 0, none⟩) (P + 1) c7)).ownsRow (g + 1) 3 1 v p.length (p.map (Value.int .i64))) := by
  subst hP
  refine ⟨((owns_below hown hb).stored j _).1, owns_setCell (owns_below hou hb) (a := ⟨g, j, none⟩) (Nat.lt_succ_self _) _, fun i v q hi hv hq => ?_⟩
  by_cases hij : i = j
  · subst hij
    rw [List.getElem?_set_self (by omega)] at hv
    cases hv
    have h9 := hst.arg k hk
    rw [hj, hq] at h9
    cases h9
    refine owns_setCell (owns_base (b := wr.heap.size) ?_ (Nat.succ_le_of_lt hg)) (a := ⟨g, i, none⟩) (Nat.lt_succ_self _) _
    simpa using hown7
  · rw [List.getElem?_set_ne (by omega)] at hv
    refine owns_setCell (owns_below (hall i v q ?_ hv hq) hb) (a := ⟨g, j, none⟩) (Nat.lt_succ_self _) _
    rcases hi with hi | ⟨k', h1, h2⟩
    · exact Or.inl hi
    · rcases Nat.lt_succ_iff_lt_or_eq.1 h1 with h3 | rfl
      · exact Or.inr ⟨k', h3, h2⟩
      · omega
theorem row_one_far {W1 w5 : World} {H : Nat} {x : Value} {row : Option Nat} (h : RowK W1 (.slice (some ⟨H, 0, none⟩) 1 1) 1 1 [x]) (hg : W1.grownBy w5 row) (hne : row ≠ some H) : RowK w5 (.slice (some ⟨H, 0, none⟩) 1 1) 1 1 [x] := by
  obtain ⟨h1, a, cap, h2, h3, h4, h5, h6⟩ := h
  cases h2
  refine ⟨h1, _, _, rfl, h3, h4, h5, fun j u hj => ?_⟩
  obtain ⟨b, o, h7, h8⟩ := h6 j u hj
  cases h7
  exact ⟨_, _, rfl, (World.cell?_of_block (hg.block _ (World.block_lt_of_cell? _ _ h8) (fun e => hne e.symm))).trans h8⟩
set_option maxHeartbeats 4000000 in
set_option maxRecDepth 100000 in
theorem ref1_Ways (vs vt : Value) (s : Sg) (t : List Int) (w : World) (hs : SignAt w vs s) (ht : Ints w vt t) (hT : IsT s 12 t) (ht60 : t.length ≤ 60) (hsg : ∀ x ∈ t, x < s.length) :
    Calls Try.prog 123 #[vs, vt] w fun e w' => ∃ u, e = .returned u ∧ Terms w' u (wayL s t) ∧ Below w.heap.size w w' := by
  have HS := hid hs
  have HT := hid ht
  have HWL := hid (way_len hT)
  have hne := hT.ne
  obtain ⟨ta, tcap, rfl, -⟩ := ht.open
  clear hs ht
  go_enter Try.func123, Try.ntmps123
  go_wp2_with (at_make; refine wpList_make_row rfl _ _ 33 rfl w.heap.size 25 el_ints Try.underlying33 rfl t.length rfl rfl (by omega) (by omega) (by simp) ?_; intro g w1 hg0 hg1 hown1 hgrow1)
  have hb1 : Below w.heap.size w w1 := (Below.refl _ _).grown hgrow1 (by simp) (fun _ h => by cases h)
  have hgl : g < w1.heap.size := (hown1.lt g rfl).2
  have HO1 := hid hown1
  have HB1 := hid hb1
  clear hown1 hgrow1 hb1
  go_loopw [6] (fun nv wr => ∃ (n : Nat) (vvs : List Value), n ≤ t.length ∧ nv = .int .i64 n ∧ wr.ownsRow w.heap.size 25 1 (.slice (some ⟨g, 0, none⟩) t.length t.length) t.length vvs ∧
    (∀ (i : Nat) (v : Value) (p : List Int), setAt s t n i → vvs[i]? = some v → (wayL s t)[i]? = some p → wr.ownsRow (g + 1) 3 1 v p.length (p.map (Value.int .i64))) ∧ Below w.heap.size w wr ∧ g < wr.heap.size) (fun nv _ => t.length - (intOf nv).toNat)
  case atStart =>
    refine ⟨0, _, by omega, rfl, HO1.out, fun i v p hi hv hp => ?_, HB1.out, hgl⟩
    rcases hi with rfl | ⟨a, _, _, _, _, ha, _⟩
    · rw [way_zero hT] at hp
      cases hp
      rw [List.getElem?_replicate] at hv
      split at hv
      all_goals
        cases hv
        show w1.ownsRow (g + 1) 3 1 (.slice none 0 0) 0 []
        exact World.ownsRow_nil _ _ _ _
    · omega
  case round =>
    obtain ⟨n, vvs, hn, rfl, hown, hall, hb, hgr⟩ := hrel
    have hbs := hb.size
    obtain ⟨wo, rfl⟩ : ∃ wo : World, wo = wr := ⟨_, rfl⟩
    have HOWN := hid hown
    have HALL := hid hall
    have HB := hid hb
    have hvl : vvs.length = t.length := by have := hown.1; simpa using this
    by_cases hlt : n < t.length
    · obtain ⟨zs, p, hst, hARG⟩ := wstep (vs := vs) (vt := .slice ta t.length tcap) (w := w) hT ht60 hsg hlt
      have HARG := hid (hARG wo (HS.out.below hb) (HT.out.below hb))
      have HST := hid hst
      have hzl := hst.len
      clear hARG hst hown hall hb
      go_wp2_with fail
      refine HARG.out.mono ?_
      rintro e w2 ⟨u, rfl, hou, hb2⟩
      obtain ⟨au, cu, rfl, hau⟩ := owns_open hou
      have HAU := hid hau
      have HOU := hid hou
      have HB2 := hid (HB.out.trans (hb2.mono hbs))
      have HOWN2 := hid (owns_below HOWN.out hb2)
      have HALL2 := hid (fun (i : Nat) (v : Value) (q : List Int) h1 h2 h3 => owns_below (HALL.out i v q h1 h2 h3) hb2)
      have hs2 := hb2.size
      clear hau hou hb2
      go_wp2
      go_loopw [8] (fun kv wr => ∃ (k : Nat) (vvs : List Value), k ≤ zs.length ∧ kv = .int .i64 k ∧ wr.ownsRow w.heap.size 25 1 (.slice (some ⟨g, 0, none⟩) t.length t.length) t.length vvs ∧ wr.ownsRow (g + 1) 3 1 (.slice au zs.length cu) zs.length ((startL n zs zs.length).map (Value.int .i64)) ∧
        (∀ (i : Nat) (v : Value) (p : List Int), (setAt s t n i ∨ ∃ k', k' < k ∧ i = n + 1 + (zs.take k').flatten.length) → vvs[i]? = some v → (wayL s t)[i]? = some p → wr.ownsRow (g + 1) 3 1 v p.length (p.map (Value.int .i64))) ∧ Below w.heap.size w wr ∧ g < wr.heap.size) (fun kv _ => zs.length - (intOf kv).toNat)
      case atStart =>
        exact ⟨0, vvs, by omega, rfl, HOWN2.out, owns_base HOU.out (by omega), fun i v q hi hv hq => HALL2.out i v q (hi.elim id (fun ⟨k', h, _⟩ => by omega)) hv hq, HB2.out, by omega⟩
      case round =>
        obtain ⟨k, ws, hk, rfl, hown, hou, hall, hb, hgr2⟩ := hrel
        have hwl : ws.length = t.length := by have := hown.1; simpa using this
        have HOWN3 := hid hown
        have HOU3 := hid hou
        have HALL3 := hid hall
        have HB3 := hid hb
        by_cases hkz : k < zs.length
        · obtain ⟨gu, rfl, hgu⟩ := HAU.out (by omega)
          obtain ⟨v, hv⟩ : ∃ v, ws[n]? = some v := ⟨ws[n]'(by omega), List.getElem?_eq_getElem (by omega)⟩
          have hov := hall n v p (Or.inl (set_self hT hlt (Nat.le_refl _))) hv HST.out.way
          obtain ⟨av, cv, rfl, -⟩ := owns_open hov
          have hcu := hou.cellAt k (by omega)
          have hcn := hown.cellAt n (by omega)
          rw [hv] at hcn
          rw [List.getElem?_map, List.getElem?_eq_getElem (by rw [startL_len]; exact hkz), startL_get n zs hkz] at hcu
          simp only [Option.map_some] at hcu
          have hjl := HST.out.lt k hkz
          obtain ⟨j, hj⟩ : ∃ j, n + 1 + (zs.take k).flatten.length = j := ⟨_, rfl⟩
          rw [hj] at hcu hjl
          obtain ⟨xj, hxj⟩ : ∃ v, ws[j]? = some v := ⟨ws[j]'(by omega), List.getElem?_eq_getElem (by omega)⟩
          have hcj := hown.cellAt j (by omega)
          rw [hxj] at hcj
          have hfj := hown.frozenAt j
          have hpl := way_short HST.out.way
          have HV := hid (RowK.of_owns hov (by omega))
          have y0 : (0 : Int) ≤ (k : Int) := by omega
          have y1 : (k : Int) < (zs.length : Int) := by omega
          have y2 : (0 : Int) ≤ (n : Int) := by omega
          have y3 : (n : Int) < (t.length : Int) := by omega
          have y4 : (0 : Int) ≤ (j : Int) := by omega
          have y5 : (j : Int) < (t.length : Int) := by omega
          have HJ := hid hj
          clear hown hou hall hb hov hv hj
          go_wp2

          have hgne : gu ≠ g := fun e => by have := (HOU3.out.lt gu rfl).1; omega
          have hjn : n ≠ j := by have := HJ.out; omega
          have HL0 := hid (World.ownsRow_lit (base := wr.heap.size) (e := 3) (size := 1) wr #[] 0 (Nat.le_refl _) (by simp [maxLen]) rfl)
          have hl1 := World.ownsRow_lit (base := wr.heap.size) (e := 3) (size := 1) (wr.alloc (.cells #[.int .i64 k] 3)) #[] 0 (by simp) (by simp [maxLen]) rfl
          rw [World.size_alloc] at hl1
          have HL1 := hid hl1
          have HK0 := hid (row_one_new wr (.int .i64 k) 3)
          have hk1 := row_one_new (wr.alloc (.cells #[] 3)) (.int .i64 k) 3
          rw [World.size_alloc] at hk1
          have HK1 := hid hk1
          clear hl1 hk1
          have hgul : gu < wr.heap.size := (HOU3.out.lt gu rfl).2
          go_region_held3 (fun w' => w'.cell? ⟨gu, k, none⟩ = some (.int .i64 j) ∧ w'.cell? ⟨g, n, none⟩ = some (.slice av p.length cv)) (first | exact ⟨by assumption, by assumption⟩ | exact ⟨(hb7.cell (p := ⟨gu, k, none⟩) hgul).trans hcu, (hb7.cell (p := ⟨g, n, none⟩) hgr2).trans hcn⟩ | exact ⟨(hb5.cell (p := ⟨gu, k, none⟩) hgul).trans hcu, (hb5.cell (p := ⟨g, n, none⟩) hgr2).trans hcn⟩ | exact ⟨(World.cell?_setCell_other _ _ _ _ (fun e => by injection e; omega)).trans ((hb7.cell (p := ⟨gu, k, none⟩) hgul).trans hcu), (World.cell?_setCell_other _ _ _ _ (fun e => by injection e; omega)).trans ((hb7.cell (p := ⟨g, n, none⟩) hgr2).trans hcn)⟩ | go_keep) (first
            | (refine step_append_row (by rfl) (.tmp 33) (.tmp 37) 25 (by rfl) wr.heap.size 3 el_int Try.underlying25 (by rfl) (by decide) _ 0 [] (by rfl) ?_ _ p.length (p.map (Value.int .i64)) (by rfl) (HV.out.below ?_) (ints_one p) (by omega) (by omega) ?_ ?_
               focus (first | (refine owns_below HL0.out ?_; focus ((repeat (first | with_reducible assumption | with_reducible exact Below.refl _ _ | with_reducible exact below_self_drewN _ _ | with_reducible refine Below.drew ?_ | with_reducible refine below_drewN ?_ _ | (with_reducible refine Below.alloc ?_ ?_ _; rotate_left; focus (first | (simp; done) | omega | (simp; omega))))); done)) | (refine owns_below HL1.out ?_; focus ((repeat (first | with_reducible assumption | with_reducible exact Below.refl _ _ | with_reducible exact below_self_drewN _ _ | with_reducible refine Below.drew ?_ | with_reducible refine below_drewN ?_ _ | (with_reducible refine Below.alloc ?_ ?_ _; rotate_left; focus (first | (simp; done) | omega | (simp; omega))))); done)))
               focus ((repeat (first | with_reducible assumption | with_reducible exact Below.refl _ _ | with_reducible exact below_self_drewN _ _ | with_reducible refine Below.drew ?_ | with_reducible refine below_drewN ?_ _ | (with_reducible refine Below.alloc ?_ ?_ _; rotate_left; focus (first | (simp; done) | omega | (simp; omega))))); done)
               focus ((first | (simp; done) | omega | (simp; omega)); done)
               intro v5 w5 hown5 hgrow5
               have hb5 : Below wr.heap.size wr w5 := Below.grown (by (repeat (first | with_reducible assumption | with_reducible exact Below.refl _ _ | with_reducible exact below_self_drewN _ _ | with_reducible refine Below.drew ?_ | with_reducible refine below_drewN ?_ _ | (with_reducible refine Below.alloc ?_ ?_ _; rotate_left; focus (first | (simp; done) | omega | (simp; omega)))))) hgrow5 (by (first | (simp; done) | omega | (simp; omega))) (fun q hq => by cases hq; first | (simp; done) | (simp; omega))
               have hs5 := hb5.size)
            | (refine step_append_lie (by rfl) (.tmp 38) (.tmp 40) 25 (by rfl) wr.heap.size 3 el_int Try.underlying25 (by rfl) (by decide) _ (0 + p.length) ([] ++ p.map (Value.int .i64)) (by rfl) ?_ _ 1 [.int .i64 k] (by rfl) ?_ (oneCell_one rfl) (by decide) (by omega) (by omega) ?_ _ (by rfl) ?_
               focus (first | exact hown5 | (refine owns_below hown5 ?_; focus ((repeat (first | with_reducible assumption | with_reducible exact Below.refl _ _ | with_reducible exact below_self_drewN _ _ | with_reducible refine Below.drew ?_ | with_reducible refine below_drewN ?_ _ | (with_reducible refine Below.alloc ?_ ?_ _; rotate_left; focus (first | (simp; done) | omega | (simp; omega))))); done)))
               focus (first | exact row_one_new _ _ _ | (refine row_one_far (RowK.below HK0.out ?_) hgrow5 ?_; all_goals (first | ((repeat (first | with_reducible assumption | with_reducible exact Below.refl _ _ | with_reducible exact below_self_drewN _ _ | with_reducible refine Below.drew ?_ | with_reducible refine below_drewN ?_ _ | (with_reducible refine Below.alloc ?_ ?_ _; rotate_left; focus (first | (simp; done) | omega | (simp; omega))))); done) | (intro h; have h2 := Option.some.inj (show some (wr.heap.size + 1) = some wr.heap.size from h); omega))) | (refine row_one_far (RowK.below HK1.out ?_) hgrow5 ?_; all_goals (first | ((repeat (first | with_reducible assumption | with_reducible exact Below.refl _ _ | with_reducible exact below_self_drewN _ _ | with_reducible refine Below.drew ?_ | with_reducible refine below_drewN ?_ _ | (with_reducible refine Below.alloc ?_ ?_ _; rotate_left; focus (first | (simp; done) | omega | (simp; omega))))); done) | (intro h; have h2 := Option.some.inj (show some wr.heap.size = some (wr.heap.size + 1) from h); omega))))
               focus ((first | (simp; done) | omega | (simp; omega)); done)
               intro g7 c7 w7 hown7 hgrow7 hat7 hlt7
               have hb7 : Below wr.heap.size wr w7 := Below.grown (by (repeat (first | with_reducible assumption | with_reducible exact Below.refl _ _ | with_reducible exact below_self_drewN _ _ | with_reducible refine Below.drew ?_ | with_reducible refine below_drewN ?_ _ | (with_reducible refine Below.alloc ?_ ?_ _; rotate_left; focus (first | (simp; done) | omega | (simp; omega)))))) hgrow7 (by (first | (simp; done) | omega | (simp; omega))) (fun q hq => (hown5.lt q hq).1)
               have hc7 := (hb7.cell (p := ⟨g, j, none⟩) hgr2).trans hcj
               have hf7 := (hb7.frozen (p := ⟨g, j, none⟩) hgr2).trans hfj))
          all_goals
            have hwb : w.heap.size ≤ wr.heap.size := HB3.out.size
            have hb7s := hb7.size
            have HN := hid (way_next rfl HOWN3.out HOU3.out HALL3.out HST.out hkz HJ.out hgr2 hb7 hwl (by omega) hown7)
            have HB7 := hid ((HB3.out.trans (hb7.mono hwb)).setCell (p := ⟨g, j, none⟩) hg0 (.slice (some ⟨g7, 0, none⟩) (p.length + 1) c7))
            clear hb7 hb5 hown5 hown7 hgrow5 hgrow7 hat7 hc7 hf7 hcj hfj hcu hcn HL0 HL1 HK0 HK1
            go_wp2
            go_roundw
            case rel => exact ⟨k + 1, _, by omega, by go_num, HN.out.1, HN.out.2.1, HN.out.2.2, HB7.out, by simp [World.setCell]; omega⟩
            case measure => simp [intOf]; omega
        · have hkz' : k = zs.length := by omega
          subst hkz'
          have HALL4 := hid (fun (i : Nat) (v : Value) (q : List Int) (h : setAt s t (n + 1) i) h2 h3 => HALL3.out i v q (HST.out.set i h) h2 h3)
          clear hown hou hall hb
          go_wp2
          go_roundw
          case rel => exact ⟨n + 1, ws, by omega, by go_num, HOWN3.out, HALL4.out, HB3.out, hgr2⟩
          case measure => simp [intOf]; omega
    · have hnz : n = t.length := by omega
      have HT9 : Hid (Terms wo (.slice (some ⟨g, 0, none⟩) t.length t.length) (wayL s t)) := hid (by
        have h8 := RowK.of_owns HOWN.out (by omega)
        refine ⟨vvs, ?_, by rw [hvl, HWL.out], fun i v p hv hp => ?_⟩
        · unfold Vals; rw [hvl]; exact h8
        · have hi : i < t.length := by rw [← hvl]; exact (List.getElem?_eq_some_iff.1 hv).1
          exact Ints.of_owns (HALL.out i v p (set_self hT hi (by omega)) hv hp) (by have := way_short hp; omega))
      clear hown hall hb
      go_wp2
      go_ret
      exact ⟨_, rfl, HT9.out, HB.out⟩
end Go.Proofs.Ytiacbdipagbblaa
