/-
  WHAT IT HOLDS: contracts of Of, Applied, SameBinds of the reference of layer 2, of few of its law. Conditions: the arguments read as data.
-/
import Derived.Test.YtidigpfiagjeiaaZRUnifyBinds10
import Derived.Test.YtidigpfiagjeiaaZRUnifyBinds20
import Derived.Test.YtidigpfiagjeiaaZRUnifyBinds4
import Derived.Test.YtidigpfiagjeiaaZRUnifyBinds3
import Derived.Test.YtidigpfiagjeiaaZRUnifyBinds24
namespace Go.Proofs.Ytidigpfiagjeiaa
open Go Go.RowKit Go.Maps
theorem ref2_within (n lo hi : Int) (w : World) :
    Calls Try.prog 84 #[.int .i64 n, .int .i64 lo, .int .i64 hi] w fun e w' => e = .returned (.bool (inB n lo hi)) ∧ w = w' := by
  unfold inB
  by_cases h1 : lo ≤ n
  · by_cases h2 : n ≤ hi
    · go_enter Try.func84, Try.ntmps84
      go_wp2
      go_ret
      exact ⟨by simp [h1, h2], rfl⟩
    · go_enter Try.func84, Try.ntmps84
      go_wp2
      go_ret
      exact ⟨by simp [h1, h2], rfl⟩
  · go_enter Try.func84, Try.ntmps84
    go_wp2
    go_ret
    exact ⟨ret_bool (by simp; omega), rfl⟩
theorem ofN_hit : ∀ {l : BL} {k : Nat} (hk : k < l.length) {x : Int}, l[k].1 = x → (∀ j (h : j < l.length), j < k → l[j].1 ≠ x) → ofN l (-x - 1) = l[k].2
  | [], k, hk, _, _, _ => by simp at hk
  | b :: l, 0, _, x, h, _ => by
    have : b.1 = x := h
    simp [ofN, this]
  | b :: l, k + 1, hk, x, h, hn => by
    have h0 : b.1 ≠ x := hn 0 (by simp) (by omega)
    have ih := ofN_hit (l := l) (k := k) (by simpa using hk) (x := x) h (fun j hj hjk => hn (j + 1) (by simpa using hj) (by omega))
    unfold ofN at ih ⊢
    rw [List.find?_cons]
    have e : (-b.1 - 1 == -x - 1) = false := by simp; omega
    rw [e]
    simpa using ih
theorem ofN_miss {l : BL} {x : Int} (h : ∀ j (h : j < l.length), l[j].1 ≠ x) : ofN l (-x - 1) = [-x - 1] := by
  have : l.find? (fun b => -b.1 - 1 == -x - 1) = none := by
    rw [List.find?_eq_none]
    intro b hb
    obtain ⟨j, hj, rfl⟩ := List.getElem_of_mem hb
    have := h j hj
    simp; omega
  unfold ofN
  rw [this]
set_option maxHeartbeats 1000000 in
set_option maxRecDepth 100000 in
theorem ref2_Of (v : Value) (l : BL) (x : Int) (w : World) (hv : BindsAt w v l) (h0 : 0 ≤ x) (h1 : x ≤ 1000) :
    Calls Try.prog 86 #[v, .int .i64 x] w fun e w' => ∃ u, e = .returned u ∧ Ints w' u (ofN l (-x - 1)) ∧ Below w.heap.size w w' := by
  obtain ⟨a, cap, rfl, hl1, hl2, -, HC⟩ := hv.open
  have HC' := hid HC
  clear HC hv
  go_enter Try.func86, Try.ntmps86
  go_wp2
  go_loop [5] (fun i => ∃ k : Nat, k ≤ l.length ∧ i = .int .i64 k ∧ ∀ j (h : j < l.length), j < k → l[j].1 ≠ x) (fun i => l.length - (intOf i).toNat)
  case atStart => exact ⟨0, by omega, rfl, fun j h hj => by omega⟩
  case round =>
    obtain ⟨k, hk, rfl, hrel⟩ := hrel
    have HR := hid hrel
    clear hrel
    by_cases hlt : k < l.length
    · obtain ⟨cb, co, u, rfl, c1, c2, i0⟩ := HC'.out k hlt
      have HI0 := hid i0
      clear i0
      cases hx : (l[k].1 == x)
      · have HX := hid hx
        go_wp2
        go_round
        case rel =>
          refine ⟨k + 1, by omega, by go_num, fun j hj hjk => ?_⟩
          by_cases e : j = k
          · subst e
            have := HX.out
            simpa using this
          · exact HR.out j hj (by omega)
        case measure => simp [intOf]; omega
      · have HX : Hid (ofN l (-x - 1) = l[k].2) := hid (ofN_hit hlt (by simpa using hx) HR.out)
        go_wp2
        go_ret
        exact ⟨_, rfl, by rw [HX.out]; exact HI0.out, Below.refl _ _⟩
    · have HX : Hid (ofN l (-x - 1) = [-x - 1]) := hid (ofN_miss fun j hj => HR.out j hj (by omega))
      go_wp2_with fail
      refine (ref2_Variable x _ h0 h1).mono ?_
      rintro e w1 ⟨u, rfl, hu, hb⟩
      go_wp2
      go_ret
      exact ⟨_, rfl, by rw [HX.out]; exact Ints.of_owns hu (by simp), hb⟩
theorem subL_snoc (σ : Int → List Int) (t : List Int) (n : Int) : subL σ (t ++ [n]) = subL σ t ++ if n < 0 then σ n else [n] := by simp [subL]
set_option maxHeartbeats 1000000 in
set_option maxRecDepth 100000 in
theorem ref2_Applied (v vt : Value) (l : BL) (t : List Int) (w : World) (hv : BindsAt w v l) (ht : Ints w vt t) (hl : t.length ≤ 4000) (hr : ∀ x ∈ t, -1000 ≤ x ∧ x ≤ 1000000) (hm : ∀ x ∈ t, x < 0 → (ofN l x).length ≤ 60) :
    Calls Try.prog 80 #[v, vt] w fun e w' => ∃ u, e = .returned u ∧ w'.ownsRow w.heap.size 3 1 u (subL (ofN l) t).length ((subL (ofN l) t).map (Value.int .i64)) ∧ Below w.heap.size w w' := by
  obtain ⟨a, cap, rfl, h1, h2, -, HC⟩ := ht.open
  have HC' := hid HC
  have HRR := hid hr
  have HMM := hid hm
  have HV := hid hv
  have HPL := hid (fun k => subL_le (σ := ofN l) (B := 60) (by omega) (t.take k) (fun n hn h0 => hm n (List.mem_of_mem_take hn) h0))
  clear HC ht hr hm hv
  go_enter Try.func80, Try.ntmps80
  go_wp2
  go_loopw [5, 6] (fun u kv wr => ∃ k : Nat, k ≤ t.length ∧ kv = .int .i64 k ∧ wr.ownsRow w.heap.size 3 1 u (subL (ofN l) (t.take k)).length ((subL (ofN l) (t.take k)).map (Value.int .i64)) ∧ Below w.heap.size w wr) (fun _ kv _ => t.length - (intOf kv).toNat)
  case atStart => exact ⟨0, by omega, rfl, World.ownsRow_nil _ _ _ _, Below.refl _ _⟩
  case round =>
    obtain ⟨k, hk, rfl, hown, hb⟩ := hrel
    have hsz := hb.size
    have hpl := HPL.out k
    have htl : (t.take k).length ≤ k := List.length_take_le _ _
    by_cases hlt : k < t.length
    · obtain ⟨cb, co, rfl, hc0⟩ := HC'.out k hlt
      have hc := (hb.cell (World.block_lt_of_cell? _ _ hc0)).trans hc0
      have hx := HRR.out t[k] (List.getElem_mem hlt)
      have hsn : subL (ofN l) (t.take (k + 1)) = subL (ofN l) (t.take k) ++ if t[k] < 0 then ofN l t[k] else [t[k]] := by
        rw [List.take_succ_eq_append_getElem hlt, subL_snoc]
      have HOWN := hid hown
      have hpl2 : (subL (ofN l) (t.take k)).length ≤ 240000 := by omega
      have hm60 := HMM.out t[k] (List.getElem_mem hlt)
      clear hown hpl htl hc0
      generalize subL (ofN l) (t.take k) = outs at *
      by_cases hneg : t[k] < 0
      · rw [if_pos hneg] at hsn
        have HSN := hid hsn
        have hof := ref2_Of v l (-t[k] - 1) wr (HV.out.below hb) (by omega) (by omega)
        rw [show -(-t[k] - 1) - 1 = t[k] by omega] at hof
        have HOF := hid hof
        have h60 := hm60 hneg
        clear hsn hof hm60
        go_wp2_with fail
        refine HOF.out.mono ?_
        rintro e w1 ⟨u1, rfl, hiu, hb1⟩
        obtain ⟨ua, uc, rfl, -⟩ := hiu.open
        have HIU := hid hiu
        have hb01 := hb.trans (hb1.mono hsz)
        have hsz1 := hb01.size
        have HO1 := hid (owns_below HOWN.out hb1)
        clear hiu hb1
        generalize ofN l t[k] = p at *
        go_wp2_with (at_builtin; refine wpList_append_row rfl _ _ 25 rfl w.heap.size 3 el_int Try.underlying25 rfl (by decide) _ _ _ rfl HO1.out _ p.length (p.map (Value.int .i64)) rfl HIU.out (ints_one p) (by omega) (by omega) (by omega) ?_; intro v' w4 hown4 hgrow4 _)
        have hb4 := hid (hb01.grown hgrow4 hsz1 (fun q hq => (HO1.out.lt q hq).1))
        clear hgrow4
        have ho4 := hid hown4
        clear hown4
        go_wp2_with fail
        go_roundw
        case rel => exact ⟨k + 1, by omega, by go_num, by rw [HSN.out, List.map_append, List.length_append]; exact ho4.out, hb4.out⟩
        case measure => simp [intOf]; omega
      · rw [if_neg hneg] at hsn
        have HSN := hid hsn
        clear hsn hm60
        go_wp2_with (at_builtin; refine wpList_append_row rfl _ _ 25 rfl w.heap.size 3 el_int Try.underlying25 rfl (by decide) _ _ _ rfl (HOWN.out.alloc _) _ 1 [.int .i64 t[k]] rfl (row_one_new _ _ _) (oneCell_one rfl) (by omega) (by omega) (by simp; omega) ?_; intro v' w4 hown4 hgrow4 _)
        have hb4 := hid ((hb.alloc (by omega) (.cells #[.int .i64 t[k]] 3)).grown hgrow4 (by simp; omega) (fun q hq => (HOWN.out.lt q hq).1))
        clear hgrow4
        have ho4 := hid hown4
        clear hown4
        go_wp2_with fail
        go_roundw
        case rel => exact ⟨k + 1, by omega, by go_num, by rw [HSN.out, List.map_append, List.length_append]; exact ho4.out, hb4.out⟩
        case measure => simp [intOf]; omega
    · have hkt : k = t.length := by omega
      rw [hkt, List.take_of_length_le (Nat.le_refl _)] at hown
      have HOWN := hid hown
      clear hown hpl htl
      go_wp2
      go_ret
      exact ⟨_, rfl, HOWN.out, hb⟩
def fewB (l : BL) : Bool := l.all (fun b => decide (b.2.length ≤ 200)) && decide (l.length ≤ 30)
set_option maxRecDepth 100000 in
theorem law2_few (v : Value) (l : BL) (w : World) (hv : BindsAt w v l) :
    Calls Try.prog 31 #[v] w fun e w' => e = .returned (.bool (fewB l)) ∧ w = w' := by
  obtain ⟨a, cap, rfl, hl1, hl2, -, HC⟩ := hv.open
  have HC' := hid HC
  clear HC hv
  go_enter Try.func31, Try.ntmps31
  go_wp2
  go_loop [3] (fun i => ∃ k : Nat, k ≤ l.length ∧ i = .int .i64 k ∧ ∀ j (h : j < l.length), j < k → l[j].2.length ≤ 200) (fun i => l.length - (intOf i).toNat)
  case atStart => exact ⟨0, by omega, rfl, fun j h hj => by omega⟩
  case round =>
    obtain ⟨k, hk, rfl, hrel⟩ := hrel
    have HR := hid hrel
    clear hrel
    by_cases hlt : k < l.length
    · obtain ⟨cb, co, u, rfl, c1, c2, i0⟩ := HC'.out k hlt
      obtain ⟨ua, uc, rfl, hq1, hq2, -⟩ := i0.open
      clear i0
      obtain ⟨p, hp⟩ : ∃ p, l[k].2 = p := ⟨_, rfl⟩
      rw [hp] at c2 hq1 hq2
      have HP := hid hp
      clear hp
      by_cases h200 : p.length ≤ 200
      · go_wp2
        go_round
        case rel =>
          refine ⟨k + 1, by omega, by go_num, fun j hj hjk => ?_⟩
          by_cases e : j = k
          · subst e
            rw [HP.out]; exact h200
          · exact HR.out j hj (by omega)
        case measure => simp [intOf]; omega
      · have HF : Hid (fewB l = false) := hid (by
          unfold fewB
          rw [Bool.and_eq_false_iff]
          left
          rw [List.all_eq_false]
          exact ⟨l[k], List.getElem_mem hlt, by rw [HP.out]; simp; omega⟩)
        go_wp2
        go_ret
        exact ⟨ret_bool HF.out.symm, rfl⟩
    · have HF : Hid (fewB l = decide (l.length ≤ 30)) := hid (by
        unfold fewB
        have : l.all (fun b => decide (b.2.length ≤ 200)) = true := by
          rw [List.all_eq_true]
          intro b hb
          obtain ⟨j, hj, rfl⟩ := List.getElem_of_mem hb
          simpa using HR.out j hj (by omega)
        rw [this, Bool.true_and])
      go_wp2
      go_ret
      exact ⟨ret_bool (by rw [HF.out]; rw [decide_eq_decide]; omega), rfl⟩
set_option maxHeartbeats 1000000 in
set_option maxRecDepth 100000 in
theorem ref2_SameBinds (v u : Value) (l m : BL) (w : World) (hv : BindsAt w v l) (hu : BindsAt w u m) :
    Calls Try.prog 38 #[v, u] w fun e w' => e = .returned (.bool (decide (l = m))) ∧ ∃ n, w' = w.drewN n := by
  obtain ⟨a, cap, rfl, h1, hl, -, HC⟩ := hv.open
  obtain ⟨a', cap', rfl, h1', hl', -, HD⟩ := hu.open
  have HC' := hid HC
  have HD' := hid HD
  clear HC hv HD hu
  by_cases hlen : l.length = m.length
  · have hne : (((l.length : Nat) : Int) != (m.length : Int)) = false := by simp [hlen]
    have HL := hid hlen
    clear hlen
    go_enter Try.func38, Try.ntmps38
    go_wp2
    go_loopw [5] (fun i wr => ∃ k q : Nat, k ≤ l.length ∧ i = .int .i64 k ∧ wr = w.drewN q ∧ l.take k = m.take k) (fun i _ => l.length - (intOf i).toNat)
    case atStart => exact ⟨0, 0, by omega, rfl, rfl, by simp⟩
    case round =>
      obtain ⟨k, q, hk, rfl, hwr, hrel⟩ := hrel
      have HR := hid hrel
      have HWR := hid hwr
      have hbq : Below w.heap.size w wr := by rw [hwr]; exact below_self_drewN w q
      clear hrel hwr
      by_cases hlt : k < l.length
      · obtain ⟨b, o, x, rfl, hc1, hc2, hi1⟩ := HC'.out k hlt
        have hc1 := (hbq.cell (World.block_lt_of_cell? _ _ hc1)).trans hc1
        have hc2 := (hbq.cell (World.block_lt_of_cell? _ _ hc2)).trans hc2
        have hlt' : k < m.length := by have := HL.out; omega
        obtain ⟨b', o', y, rfl, hd1, hd2, hi2⟩ := HD'.out k hlt'
        have hd1 := (hbq.cell (World.block_lt_of_cell? _ _ hd1)).trans hd1
        have hd2 := (hbq.cell (World.block_lt_of_cell? _ _ hd2)).trans hd2
        have HSM := hid (fun (n : Nat) => ref1_Same x y l[k].2 m[k].2 (wr.drewN n) ((hi1.below hbq).drewN n) ((hi2.below hbq).drewN n))
        clear hi1 hi2
        cases e1 : (l[k].1 != m[k].1)
        · cases e2 : decide (l[k].2 = m[k].2)
          · have HM : Hid (l ≠ m) := hid (by intro e; subst e; simp at e2)
            rw [e2] at HSM
            clear e2
            go_wp2
            go_quiet ((go_at_call 24; exact Calls.quiet_of (HSM.out _)))
            go_wp2
            go_ret
            exact ⟨ret_bool (decide_eq_false HM.out).symm, _, by rw [HWR.out]; exact World.drewN_drewN _ _ _⟩
          · have HE : Hid (l[k] = m[k]) := hid (by simp at e1 e2; exact Prod.ext e1 e2)
            rw [e2] at HSM
            clear e2
            go_wp2
            go_quiet ((go_at_call 24; exact Calls.quiet_of (HSM.out _)))
            go_wp2
            go_roundw
            case rel =>
              refine ⟨k + 1, _, by omega, by go_num, by rw [HWR.out]; exact World.drewN_drewN _ _ _, ?_⟩
              rw [List.take_succ_eq_append_getElem hlt, List.take_succ_eq_append_getElem hlt', HR.out, HE.out]
            case measure => simp [intOf]; omega
        · have HM : Hid (l ≠ m) := hid (by intro e; subst e; simp at e1)
          go_wp2
          go_quiet (fail)
          go_wp2
          go_ret
          exact ⟨ret_bool (decide_eq_false HM.out).symm, _, by rw [HWR.out]; exact World.drewN_drewN _ _ _⟩
      · have HM : Hid (l = m) := hid (by have := HR.out; have h9 := HL.out; rw [List.take_of_length_le (by omega), List.take_of_length_le (by omega)] at this; exact this)
        go_wp2
        go_ret
        exact ⟨ret_bool (decide_eq_true HM.out).symm, q, HWR.out⟩
  · have hne : (((l.length : Nat) : Int) != (m.length : Int)) = true := by simp [bne]; omega
    have HM : Hid (l ≠ m) := hid (by intro e; subst e; exact hlen rfl)
    clear hlen
    go_enter Try.func38, Try.ntmps38
    go_wp2
    go_ret
    exact ⟨ret_bool (decide_eq_false HM.out).symm, 0, rfl⟩
end Go.Proofs.Ytidigpfiagjeiaa
