/-
  WHAT IT HOLDS: contract of slices.DeleteFunc at []int, of a slice of the call's own. Conditions: a function value that is handed in says what p says and leaves what was there.
-/
import Derived.Lib.SliceRun
import Derived.Test.YtldgkidojepdlaaGreatZRTopCarriedShelves7
import Derived.Test.YtldgkidojepdlaaGreatZRTopCarriedShelves15
namespace Go.Proofs.YtldgkidojepdlaaGreat
open Go Go.RowKit Go.Maps
set_option maxHeartbeats 400000 in
theorem sl_IndexFuncF (g : Nat) (lb : Array Value) (eg : ∀ args w, (callFunc g args).run Tryz.prog w = .ok (.enter g args) w) (v : Value) (n : Nat) (xs : List Value) (w : World) (hv : RowK w v 1 n xs) (p : Nat → Bool)
    (hp : ∀ (i : Nat) (x : Value) (W : World), xs[i]? = some x → Below w.heap.size w W → Calls Tryz.prog g (#[x] ++ lb) W fun e w' => e = .returned (.bool (p i)) ∧ Below W.heap.size W w') :
    Calls Tryz.prog 46 #[v, .func (.func g) #[] lb] w fun e w' => ∃ r : Int, e = .returned (.int .i64 r) ∧ ((r = -1 ∧ ∀ j, j < n → p j = false) ∨ ∃ k : Nat, r = k ∧ k < n ∧ p k = true ∧ ∀ j, j < k → p j = false) ∧ Below w.heap.size w w' := by
  obtain ⟨hlen, a, cap, rfl, h1, h2, h3, HC⟩ := hv
  have HC' := hid HC
  have HP := hid hp
  have HL := hid hlen
  clear HC hp hlen h3
  go_enter Tryz.func46, Tryz.ntmps46
  go_wp2
  go_loopw [8] (fun i wr => ∃ k : Nat, k ≤ n ∧ i = .int .i64 k ∧ Below w.heap.size w wr ∧ ∀ j, j < k → p j = false) (fun i _ => n - (intOf i).toNat)
  case atStart => exact ⟨0, by omega, rfl, Below.refl _ _, by simp⟩
  case round =>
    obtain ⟨k, hk, rfl, hb, hrel⟩ := hrel
    have HR := hid hrel
    clear hrel
    by_cases hlt : k < n
    · obtain ⟨x, hx⟩ : ∃ x, xs[k]? = some x := ⟨xs[k]'(by have := HL.out; omega), by simp [HL.out, hlt]⟩
      obtain ⟨b, o, rfl, hcell0⟩ := HC'.out k x hx
      have hcell : wr.cell? ⟨b, o + k, none⟩ = some x := (hb.cell (World.block_lt_of_cell? _ _ hcell0)).trans hcell0
      have hc := HP.out k x wr hx hb
      clear hcell0 hx
      cases h4 : p k
      · rw [h4] at hc
        have HCC := hid hc
        clear hc
        go_wp2_with (go_at_fn g; refine HCC.out.mono ?_; rintro e w' ⟨rfl, hb1⟩)
        go_roundw
        case rel =>
          refine ⟨k + 1, by omega, by go_num, hb.trans (hb1.mono hb.size), fun j hj => ?_⟩
          by_cases hjk : j = k
          · rw [hjk]; exact h4
          · exact HR.out j (by omega)
        case measure => simp [intOf]; omega
      · rw [h4] at hc
        have HCC := hid hc
        have H4 := hid h4
        clear hc h4
        go_wp2_with (go_at_fn g; refine HCC.out.mono ?_; rintro e w' ⟨rfl, hb1⟩)
        go_ret
        exact ⟨_, rfl, Or.inr ⟨k, rfl, hlt, H4.out, HR.out⟩, hb.trans (hb1.mono hb.size)⟩
    · obtain rfl : n = k := by omega
      go_wp2
      go_ret
      exact ⟨_, rfl, Or.inl ⟨rfl, HR.out⟩, hb⟩
theorem below_cellsD {B : Nat} {a : World} (b : Nat) (hb : B ≤ b) : ∀ (vs : List Value) (o : Nat) {w : World}, Below B a w → Below B a (w.setCells b o vs)
  | [], _, _, h => h
  | v :: r, o, _, h => below_cellsD b hb r (o + 1) (h.setCell (p := ⟨b, o, none⟩) hb v)
/-- what a slice of the call's own becomes. -/
def DelPost (base : Nat) (w0 : World) (l : List Int) (e : Ending) (w' : World) : Prop := ∃ u', e = .returned u' ∧ Ints w' u' l ∧ Below base w0 w'
theorem del_take {xs : List Int} {p : Int → Bool} {j : Nat} (h : j < xs.length) : (xs.take (j + 1)).filter (fun x => !p x) = (xs.take j).filter (fun x => !p x) ++ if p xs[j] then [] else [xs[j]] := by
  rw [List.take_succ_eq_append_getElem h, List.filter_append]
  cases hp : p xs[j] <;> simp [hp]
theorem del_none {xs : List Int} {p : Int → Bool} {j : Nat} (h : ∀ i (hi : i < xs.length), i < j → p xs[i] = false) : (xs.take j).filter (fun x => !p x) = xs.take j := by
  rw [List.filter_eq_self]
  intro x hx
  obtain ⟨i, hi, rfl⟩ := List.getElem_of_mem hx
  have hi' : i < j ∧ i < xs.length := by rw [List.length_take] at hi; omega
  rw [List.getElem_take, h i hi'.2 hi'.1]
  rfl
set_option maxHeartbeats 2000000 in
set_option maxRecDepth 100000 in
theorem sl_DeleteFunc (g : Nat) (lb : Array Value) (eg : ∀ args w, (callFunc g args).run Tryz.prog w = .ok (.enter g args) w) (base : Nat) (w0 : World) (u : Value) (xs : List Int) (p : Int → Bool) (w : World)
    (hown : w.ownsRow base 3 1 u xs.length (xs.map (Value.int .i64))) (hl : xs.length ≤ 1000) (hb0 : Below base w0 w) (hbs : base ≤ w.heap.size)
    (hp : ∀ x ∈ xs, ∀ (W : World), Below base w0 W → base ≤ W.heap.size → Calls Tryz.prog g (#[.int .i64 x] ++ lb) W fun e w' => e = .returned (.bool (p x)) ∧ Below W.heap.size W w') :
    Calls Tryz.prog 25 #[u, .func (.func g) #[] lb] w (DelPost base w0 (xs.filter fun x => !p x)) := by
  have HIF := hid (sl_IndexFuncF g lb eg u xs.length (xs.map (Value.int .i64)) w (RowK.of_owns hown (by omega)) (fun i => p (xs.getD i 0)) (fun i x W hx hbW => by
    rw [List.getElem?_map] at hx
    cases hxi : xs[i]? with
    | none => rw [hxi] at hx; simp at hx
    | some y =>
      rw [hxi] at hx
      simp only [Option.map_some, Option.some.injEq] at hx
      subst hx
      have : xs.getD i 0 = y := by simp [List.getD, hxi]
      rw [this]
      exact hp y (List.mem_of_getElem? hxi) W (hb0.trans (hbW.mono hbs)) (Nat.le_trans hbs hbW.size)))
  have hush : ∃ a c, u = .slice a xs.length c := by
    rcases hown.2 with ⟨z1, z2⟩ | ⟨g', c', cur, z1, _⟩
    · rw [z2]; exact ⟨none, 0, z1⟩
    · exact ⟨_, _, z1⟩
  obtain ⟨a, c, rfl⟩ := hush
  have HOWN := hid hown
  have HB0 := hid hb0
  have HP := hid hp
  clear hown hp hb0
  obtain ⟨n, hn⟩ : ∃ n, xs.length = n := ⟨_, rfl⟩
  have HN := hid hn
  simp only [hn] at HIF HOWN hl ⊢
  clear hn
  go_enter Tryz.func25, Tryz.ntmps25
  go_wp2_with fail
  refine HIF.out.mono ?_
  rintro e w1 ⟨r, rfl, hr, hb1⟩
  have HB1 := hid (HB0.out.trans (hb1.mono hbs))
  have hsz1 := Nat.le_trans hbs hb1.size
  have HOWN1 := hid (owns_below HOWN.out hb1)
  rcases hr with ⟨rfl, hr⟩ | ⟨k, rfl, hk, hpk, hrk⟩
  · have HE : Hid (xs.filter (fun x => !p x) = xs) := hid (by
      rw [List.filter_eq_self]
      intro x hx
      obtain ⟨i, hi, rfl⟩ := List.getElem_of_mem hx
      have := hr i (by have := HN.out; omega)
      simp only [List.getD, List.getElem?_eq_getElem hi, Option.getD_some] at this
      rw [this]; rfl)
    have HI : Hid (Ints w1 (.slice a n c) xs) := hid (by have := HOWN1.out; rw [← HN.out] at this; rw [← HN.out]; exact Ints.of_owns this (by have := HN.out; omega))
    clear hr hb1
    go_wp2
    go_ret
    exact ⟨_, rfl, by rw [HE.out]; exact HI.out, HB1.out⟩
  · obtain ⟨gU, c', he, hgb⟩ := owns_some HOWN1.out (by omega)
    simp only [Value.slice.injEq] at he
    obtain ⟨rfl, _, rfl⟩ := he
    have hnc : n ≤ c := by
      rcases HOWN1.out.2 with ⟨z1, z2⟩ | ⟨g', c'', cur, z1, z2, z3, z4, _⟩
      · simp at z1
      · simp only [Value.slice.injEq] at z1; omega
    have hgb : base ≤ gU := (HOWN1.out.lt gU rfl).1
    have hkx : ∀ i (hi : i < xs.length), i < k → p xs[i] = false := fun i hi hik => by
      have := hrk i hik
      simpa [List.getD, hi] using this
    have hpk' : p (xs[k]'(by have := HN.out; omega)) = true := by
      have hk' : k < xs.length := by have := HN.out; omega
      simpa [List.getD, hk'] using hpk
    have HSTART : Hid (xs.take k = (xs.take (k + 1)).filter (fun x => !p x)) := hid (by
      rw [del_take (by have := HN.out; omega), hpk', del_none hkx]; simp)
    have hz0 : ∀ w, (zeroValue 3).run Tryz.prog w = .ok (.int .i64 0) w := fun w => by kernel_rfl
    have HZ := hid hz0
    clear hkx hpk hpk' hrk hb1 hz0
    have hk1 : (k : Int) + 1 ≤ n := by omega
    have hk9 : ((k : Int) == -1) = false := by rw [beq_eq_false_iff_ne]; omega
    go_wp2
    go_loopw [5, 6] (fun iv jv wr => ∃ (i j : Nat) (ys : List Int), i < j ∧ j ≤ n ∧ iv = .int .i64 i ∧ jv = .int .i64 j ∧ ys.length = n ∧ wr.ownsRow base 3 1 (.slice (some ⟨gU, 0, none⟩) n c) n (ys.map (Value.int .i64)) ∧ ys.take i = (xs.take j).filter (fun x => !p x) ∧ ys.drop j = xs.drop j ∧ Below base w0 wr ∧ base ≤ wr.heap.size) (fun _ jv _ => n - (intOf jv).toNat)
    case atStart => exact ⟨k, k + 1, xs, by omega, by omega, rfl, by go_num, HN.out, HOWN1.out, HSTART.out, rfl, HB1.out, hsz1⟩
    case round =>
      obtain ⟨i, j, ys, hij, hjn, rfl, rfl, hyl, how, htk, hdr, hb, hsz⟩ := hrel
      have HOW := hid how
      have HTK := hid htk
      have HDR := hid hdr
      have HYL := hid hyl
      have HB := hid hb
      clear how htk hdr hyl hb
      by_cases hlt : j < n
      · have hjx : j < xs.length := by have := HN.out; omega
        have hjy : j < ys.length := by have := HYL.out; omega
        have hyx : ys[j] = xs[j] := by
          have := congrArg (fun l => l[0]?) HDR.out
          simpa [hjx, hjy] using this
        have hc0 := HOW.out.cellAt j (by omega)
        simp only [List.getElem?_map, List.getElem?_eq_getElem hjy, Option.map_some] at hc0
        obtain ⟨x, hx⟩ : ∃ x, xs[j] = x := ⟨_, rfl⟩
        rw [hyx, hx] at hc0
        have HX := hid hx
        have HYX := hid hyx
        have hcall := HP.out x (by rw [← hx]; exact List.getElem_mem _) wr HB.out hsz
        clear hx hyx
        have hdt := del_take (p := p) hjx
        rw [HX.out] at hdt
        cases hpx : p x
        · rw [hpx] at hcall hdt
          have HC := hid hcall
          have HDT := hid hdt
          clear hcall hdt hpx
          go_wp2_with (go_at_fn g; refine HC.out.mono ?_; rintro e w3 ⟨rfl, hb3⟩; have how3 := owns_below HOW.out hb3; have hci := how3.cellAt i (by omega); have hfi := how3.frozenAt i; simp only [List.getElem?_map, List.getElem?_eq_getElem (show i < ys.length by have := HYL.out; omega), Option.map_some] at hci)
          have hst := (how3.stored i (.int .i64 x)).1
          have hb4 : Below base w0 (w3.setCell ⟨gU, i, none⟩ (.int .i64 x)) := (HB.out.trans (hb3.mono hsz)).setCell (p := ⟨gU, i, none⟩) hgb _
          have hsz3 : base ≤ (w3.setCell ⟨gU, i, none⟩ (.int .i64 x)).heap.size := by simp; have := hb3.size; omega
          go_roundw
          case rel =>
            refine ⟨i + 1, j + 1, ys.set i x, by omega, by omega, by go_num, by go_num, by rw [List.length_set]; exact HYL.out, by rw [List.map_set]; exact hst, ?_, ?_, hb4, hsz3⟩
            · have hiy : i < (ys.set i x).length := by rw [List.length_set]; omega
              rw [List.take_succ_eq_append_getElem hiy, List.take_set_of_le (Nat.le_refl _), List.getElem_set_self, HDT.out, HTK.out]
              rfl
            · rw [List.drop_set_of_lt (by omega), ← List.drop_drop, ← List.drop_drop, HDR.out]
          case measure => simp [intOf]; omega
        · rw [hpx] at hcall hdt
          have HC := hid hcall
          have HDT := hid hdt
          clear hcall hdt hpx
          go_wp2_with (go_at_fn g; refine HC.out.mono ?_; rintro e w3 ⟨rfl, hb3⟩)
          have how3 := owns_below HOW.out hb3
          have hb4 : Below base w0 w3 := HB.out.trans (hb3.mono hsz)
          have hsz3 : base ≤ w3.heap.size := by have := hb3.size; omega
          go_roundw
          case rel =>
            refine ⟨i, j + 1, ys, by omega, by omega, rfl, by go_num, HYL.out, how3, ?_, ?_, hb4, hsz3⟩
            · rw [HDT.out, HTK.out]; simp
            · rw [← List.drop_drop, ← List.drop_drop, HDR.out]
          case measure => simp [intOf]; omega
      · obtain rfl : n = j := by omega
        have hin : i < n := hij
        have hic : i < c := by omega
        have hic0 : ¬ c = i := by omega
        have HCL : Hid (∀ ty, (Builtin.clear_ #[28] ty #[.slice (some ⟨gU, i, none⟩) (n - i) (c - i)]).run Tryz.prog wr = .ok (.tuple #[]) (wr.setCells gU i (List.replicate (n - i) (.int .i64 0)))) := hid (fun ty =>
          Lib.run_clear_slice wr _ _ ty _ Tryz.underlying28 HZ.out rfl rfl gU i _ _ (by omega) (fun t ht => by rw [HOW.out.cellAt (i + t) (by omega)]; simp; have := HYL.out; omega) (fun t ht => HOW.out.frozenAt _))
        have hcl := HCL.out
        have HI : Hid (Ints (wr.setCells gU i (List.replicate (n - i) (.int .i64 0))) (.slice (some ⟨gU, 0, none⟩) i c) (xs.filter fun x => !p x)) := hid (by
          have e1 : (xs.filter fun x => !p x) = ys.take i := by
            have := HTK.out
            rw [List.take_of_length_le (l := xs) (by have := HN.out; omega)] at this
            exact this.symm
          have e2 : (ys.take i).length = i := by rw [List.length_take]; have := HYL.out; omega
          rw [e1]
          unfold Ints
          rw [e2]
          refine ⟨by rw [List.length_map, e2]; omega, _, _, rfl, by omega, by omega, (fun h => by cases h), fun t v ht => ⟨gU, 0, rfl, ?_⟩⟩
          have hti : t < i := by
            have := (List.getElem?_eq_some_iff.1 ht).1
            rw [List.length_map, e2] at this
            exact this
          rw [World.cell?_setCells_out _ _ _ _ _ (fun _ _ => Or.inl (by show 0 + t < i; omega)), Nat.zero_add, HOW.out.cellAt t (by omega)]
          rw [List.getElem?_map, List.getElem?_take, if_pos hti] at ht
          rw [List.getElem?_map]
          exact ht)
        have hbz : Below base w0 (wr.setCells gU i (List.replicate (n - i) (.int .i64 0))) := below_cellsD gU hgb _ _ HB.out
        have HBZ := hid hbz
        have y0 : (0 : Int) ≤ (i : Int) := by omega
        have y1 : (i : Int) ≤ (n : Int) := by omega
        clear hbz
        go_wp2
        go_ret
        exact ⟨_, rfl, HI.out, HBZ.out⟩
end Go.Proofs.YtldgkidojepdlaaGreat
