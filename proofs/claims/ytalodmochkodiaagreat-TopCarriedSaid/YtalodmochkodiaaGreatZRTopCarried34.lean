/-
  WHAT IT HOLDS: contracts of Grow of the nil slice and Concat of package slices at terms, and of Built of package term. Conditions: the arguments read as data; small.
  WHAT IT HOLDS: contracts of sides, implies, Converse and Equivalence of package carry. Conditions: the arguments read as data; small signs.
-/
import Derived.Lib.AppendZeros
import Derived.Test.YtalodmochkodiaaGreatZRTopCarried14
import Derived.Test.YtalodmochkodiaaGreatZRTopCarried6
import Derived.Test.YtalodmochkodiaaGreatZRTopCarried22
namespace Go.Proofs.YtalodmochkodiaaGreat
open Go Go.RowKit Go.Maps
theorem zeros_own (w : World) (e : TypeId) (z : Value) (n c : Nat) (hz : z.cells.size = 1) (hnc : n ≤ c) (hc : c ≤ maxLen) : (w.drew.alloc (.cells (Builtin.zeroCells z.cells n ++ Builtin.zeroCells z.cells (c - n)) e)).ownsRow w.heap.size e 1 (.slice (some ⟨w.heap.size, 0, none⟩) 0 c) 0 [] := by
  refine ⟨rfl, Or.inr ⟨w.heap.size, c, Builtin.zeroCells z.cells n ++ Builtin.zeroCells z.cells (c - n), rfl, Nat.le_refl _, ?_, Nat.zero_le _, hc, ?_, by simp⟩⟩
  · exact (MapKept.heap_alloc w.drew _).1
  · have hs : ∀ k, (Builtin.zeroCells z.cells k).size = k := by
      intro k
      simp [Builtin.zeroCells, hz]
    rw [Array.size_append, hs, hs]; omega
set_option maxRecDepth 100000 in
theorem sl_Grow0 (n : Nat) (w : World) (hn : n ≤ 100000) :
    Calls Tryz.prog 366 #[.slice none 0 0, .int .i64 n] w fun e w' => ∃ u, e = .returned u ∧ w'.ownsRow w.heap.size 3 1 u 0 [] ∧ Below w.heap.size w w' := by
  by_cases h0 : n = 0
  · subst h0
    go_enter Tryz.func366, Tryz.ntmps366
    go_wp2
    go_ret
    exact ⟨_, rfl, World.ownsRow_nil _ _ _ _, Below.refl _ _⟩
  · obtain ⟨i, hi, hz0, hz1, hz2⟩ := info_parts el_int
    have hzr := Lib.run_append_nil_zeros (P := Tryz.prog) w 37 3 37 3 i (.int .i64 0) .i64 .i64 Tryz.underlying37 Tryz.underlying3 hi hz0 n (by omega) (by omega) (by omega) (by rw [hz2]; omega)
    have hcap := grownCap_ge w n 0 3
    have hcap2 := grownCap_le_maxLen w n 0 3 (by unfold maxLen; omega)
    obtain ⟨c, hc⟩ : ∃ c, grownCap w n 0 3 = c := ⟨_, rfl⟩
    rw [hc] at hzr hcap hcap2
    have HO := hid (zeros_own w 3 (.int .i64 0) n c rfl hcap hcap2)
    have HB := hid (show Below w.heap.size w (w.drew.alloc (.cells (Builtin.zeroCells (Value.int .i64 0).cells n ++ Builtin.zeroCells (Value.int .i64 0).cells (c - n)) 3)) from ((Below.refl _ _).drew).alloc (Nat.le_refl _) _)
    obtain ⟨W, hW⟩ : ∃ W, w.drew.alloc (.cells (Builtin.zeroCells (Value.int .i64 0).cells n ++ Builtin.zeroCells (Value.int .i64 0).cells (c - n)) 3) = W := ⟨_, rfl⟩
    rw [hW] at hzr HO HB
    have hw1 : IntKind.i64.wrap ((n : Int) - (0 - 0)) = n := by rw [IntWalk.i64_in _ (by omega)]; omega
    have q0 : decide ((0 : Int) < n) = true := by simp; omega
    clear hc hcap2 hW
    go_enter Tryz.func366, Tryz.ntmps366
    go_wp2_with (at_builtin; refine Lib.wpList_append_run _ rfl _ _ 37 3 rfl _ _ rfl rfl _ _ hzr ?_)
    go_ret
    exact ⟨_, rfl, HO.out, HB.out⟩
theorem Value.slice_of_owns {w : World} {b : Nat} {e : TypeId} {k : Nat} {v : Value} {n : Nat} {xs : List Value} (h : w.ownsRow b e k v n xs) : ∃ a c, v = .slice a n c := by
  rcases h.2 with ⟨h1, h2⟩ | ⟨g, cap, cur, h1, -⟩
  · exact ⟨none, 0, by rw [h1, h2]⟩
  · exact ⟨_, _, h1⟩
theorem flatC_len : ∀ (l : List (List Int)) (k : Nat), (l.take k).flatten.length ≤ l.flatten.length := by
  intro l k
  have : l.flatten = (l.take k).flatten ++ (l.drop k).flatten := by rw [← List.flatten_append, List.take_append_drop]
  rw [this, List.length_append]; omega
theorem flatC_next {l : List (List Int)} {k : Nat} (h : k < l.length) : (l.take (k + 1)).flatten = (l.take k).flatten ++ l[k] := by
  rw [List.take_succ_eq_append_getElem h, List.flatten_append]; simp
set_option maxHeartbeats 1000000 in
set_option maxRecDepth 100000 in
theorem sl_Concat (v : Value) (l : List (List Int)) (w : World) (hv : Terms w v l) (hl : l.flatten.length ≤ 100000) (hl1 : l.length ≤ 1000) :
    Calls Tryz.prog 334 #[v] w fun e w' => ∃ u, e = .returned u ∧ w'.ownsRow w.heap.size 3 1 u l.flatten.length (l.flatten.map (Value.int .i64)) ∧ Below w.heap.size w w' := by
  obtain ⟨a, cap, rfl, -, h2, -, HC⟩ := hv.open
  have HC' := hid HC
  have HFL := hid (flatC_len l)
  clear HC hv
  go_enter Tryz.func334, Tryz.ntmps334
  go_wp2
  go_loop [3, 11] (fun sv kv => ∃ k : Nat, k ≤ l.length ∧ kv = .int .i64 k ∧ sv = .int .i64 ((l.take k).flatten.length : Nat)) (fun _ kv => l.length - (intOf kv).toNat)
  case atStart => exact ⟨0, by omega, rfl, by simp⟩
  case round =>
    obtain ⟨k, hk, rfl, rfl⟩ := hrel
    by_cases hlt : k < l.length
    · obtain ⟨b, o, u, rfl, c0, hi⟩ := HC'.out k hlt
      obtain ⟨xa, xc, rfl, -⟩ := hi.open
      have hn := flatC_next hlt
      have hnl := congrArg List.length hn
      rw [List.length_append] at hnl
      have hbd := HFL.out (k + 1)
      rw [hnl] at hbd
      have HN := hid hnl
      obtain ⟨n, hn'⟩ : ∃ n, l[k].length = n := ⟨_, rfl⟩
      rw [hn'] at c0 hbd HN
      obtain ⟨m, hm'⟩ : ∃ m, (l.take k).flatten.length = m := ⟨_, rfl⟩
      rw [hm'] at hbd HN ⊢
      have hw1 : IntKind.i64.wrap ((m : Int) + (n : Int)) = ((m + n : Nat) : Int) := by rw [IntWalk.i64_in _ (by omega)]; omega
      have q0 : decide (((m + n : Nat) : Int) < 0) = false := by simp; omega
      clear hi hn hnl hn' hm'
      go_wp2
      go_round
      case rel => exact ⟨k + 1, by omega, by go_num, by rw [HN.out, Int.natCast_add]⟩
      case measure => simp [intOf]; omega
    · have hkl : k = l.length := by omega
      subst hkl
      rw [List.take_of_length_le (Nat.le_refl _)]
      obtain ⟨N, hN⟩ : ∃ N, l.flatten.length = N := ⟨_, rfl⟩
      rw [hN] at hl ⊢
      have HG := hid (sl_Grow0 N w hl)
      have HNN := hid hN
      clear hN
      go_wp2_with fail
      refine HG.out.mono ?_
      rintro e w1 ⟨u, rfl, hown, hb⟩
      have HOW := hid hown
      have HB := hid hb
      obtain ⟨ua, uc, rfl⟩ := Value.slice_of_owns hown
      clear hown hb HG
      go_wp2_with fail
      go_loopw [6, 27] (fun u kv wr => ∃ k : Nat, k ≤ l.length ∧ kv = .int .i64 k ∧ Below w.heap.size w wr ∧ wr.ownsRow w.heap.size 3 1 u (l.take k).flatten.length ((l.take k).flatten.map (Value.int .i64))) (fun _ kv _ => l.length - (intOf kv).toNat)
      case atStart => exact ⟨0, by omega, rfl, HB.out, by simpa using HOW.out⟩
      case round =>
        obtain ⟨k, hk, rfl, hb, hown⟩ := hrel
        have hsz := hb.size
        by_cases hlt : k < l.length
        · obtain ⟨b, o, x, rfl, c0, hi⟩ := HC'.out k hlt
          have hi' := hi.below hb
          obtain ⟨xa, xc, rfl, -⟩ := hi'.open
          have c1 := (hb.cell (World.block_lt_of_cell? _ _ c0)).trans c0
          have hn := flatC_next hlt
          have hnl := congrArg List.length hn
          rw [List.length_append] at hnl
          have hbd := HFL.out (k + 1)
          rw [hnl, HNN.out] at hbd
          have HN := hid hn
          obtain ⟨t, ht⟩ : ∃ t, l[k] = t := ⟨_, rfl⟩
          rw [ht] at hi' c1 hbd HN
          obtain ⟨T, hT⟩ : ∃ T, (l.take k).flatten = T := ⟨_, rfl⟩
          rw [hT] at hbd HN hown
          have HI := hid hi'
          have HB2 := hid hb
          have HOW2 := hid hown
          clear hi hi' c0 hn hnl ht hT hb hown
          go_wp2_with (at_builtin; refine wpList_append_row rfl _ _ 37 rfl w.heap.size 3 el_int Tryz.underlying37 rfl (by decide) _ _ _ rfl HOW2.out _ t.length (t.map (Value.int .i64)) rfl HI.out (ints_one _) (by omega) (by omega) (by omega) ?_; intro v' w4 hown4 hgrow4 _)
          go_roundw
          case rel => exact ⟨k + 1, by omega, by go_num, HB2.out.grown hgrow4 hsz (fun q hq => (HOW2.out.lt q hq).1), by rw [HN.out]; simpa using hown4⟩
          case measure => simp [intOf]; omega
        · have hkl : k = l.length := by omega
          subst hkl
          rw [List.take_of_length_le (Nat.le_refl _)] at hown
          have HOW2 := hid hown
          clear hown
          go_wp2
          go_ret
          exact ⟨_, rfl, HOW2.out, hb⟩
theorem term_Built1 (vs vt : Value) (ps : Nat) (s : Sg) (t : List Int) (w : World) (hs : SignAt w vs s) (ht : Ints w vt t) (hs1 : s.length ≤ 1000) (hc : w.cell? ⟨ps, 0, none⟩ = some vs) :
    Calls Tryz.prog 333 #[vt, .pointer (some ⟨ps, 0, none⟩)] w fun e w' => e = .returned (.bool (!termB s t)) ∧ Below w.heap.size w w' := by
  obtain ⟨sa, scap, hse, _⟩ := hs.open
  subst hse
  go_enter Tryz.func333, Tryz.ntmps333
  go_wp2_with (go_at_call 125; refine (term_Valid' _ _ _ _ _ hs ht hs1).mono ?_; rintro e w1 ⟨rfl, hb1⟩)
  go_ret
  exact ⟨rfl, hb1⟩
theorem allB_of {s : Sg} {zs : List (List Int)} (h : ∀ t ∈ zs, termB s t = true) : allB s zs = true := by
  unfold allB; rw [List.all_eq_true]; exact h
theorem zs_len : ∀ {zs : List (List Int)}, (∀ t ∈ zs, 0 < t.length) → zs.length ≤ zs.flatten.length
  | [], _ => Nat.le_refl _
  | t :: zs, h => by
    have h1 := h t (by simp)
    have h2 := zs_len fun u hu => h u (List.mem_cons_of_mem _ hu)
    rw [List.flatten_cons, List.length_append, List.length_cons]
    omega
set_option maxHeartbeats 2000000 in
set_option maxRecDepth 100000 in
theorem term_Built (v vl : Value) (s : Sg) (c : Nat) (zs : List (List Int)) (w : World) (hs : SignAt w v s) (hv : Terms w vl zs) (hs1 : s.length ≤ 1000) (f1 : signB s = true) (hz : ∀ t ∈ zs, termB s t = true) (hc : c < s.length) (har : s[c].2 = zs.length) (hlen : zs.flatten.length + 1 ≤ 60) :
    Calls Tryz.prog 281 #[v, .int .i64 c, vl] w fun e w' => ∃ u, e = .returned (.tuple #[u, .int .i64 0]) ∧ w'.ownsRow w.heap.size 3 1 u (((c : Int) :: zs.flatten).length) ((((c : Int) :: zs.flatten)).map (Value.int .i64)) ∧ Below w.heap.size w w' := by
  have hzl : zs.length ≤ 60 := by have := zs_len fun t ht => (termB_T (hz t ht)).ne; omega
  have HALL := hid (allB_of hz)
  have HVV := hid hv
  obtain ⟨sa, scap, hse, -, -, -, SC⟩ := hs.open
  subst hse
  obtain ⟨sb, so, rfl, -, s1, -⟩ := SC c hc
  obtain ⟨vs, hV, hlenv, hel⟩ := hv
  obtain ⟨la, lcap, hle, _⟩ := hV.open
  rw [hlenv] at hle
  subst hle
  have HEL := hid hel
  have HLEN := hid hlenv
  have hbx : Below w.heap.size w (w.alloc (.cells #[.slice (some ⟨sb, so, none⟩) s.length scap] 23)) := (Below.refl _ _).alloc (Nat.le_refl _) _
  have hcell := cell_new1 w (.slice (some ⟨sb, so, none⟩) s.length scap) 23
  obtain ⟨W, hW⟩ : ∃ W, w.alloc (.cells #[.slice (some ⟨sb, so, none⟩) s.length scap] 23) = W := ⟨_, rfl⟩
  rw [hW] at hbx hcell
  have HV1 := hid (fun (X : World) (hX : Below w.heap.size w X) => term_ValidSign (.slice (some ⟨sb, so, none⟩) s.length scap) s X (hs.below hX) hs1)
  rw [f1] at HV1
  have HKEY : Hid (∀ w1, Below W.heap.size W w1 → Calls Tryz.prog 332 #[.slice la zs.length lcap, .func (.func 333) #[] #[.pointer (some ⟨w.heap.size, 0, none⟩)]] w1 fun e w' => e = .returned (.bool (!allB s zs)) ∧ Below w1.heap.size w1 w') := hid fun w1 hb1 => by
    have := sl_ContainsFunc_terms 333 #[.pointer (some ⟨w.heap.size, 0, none⟩)] (enters_of Tryz.func333 (by kernel_rfl) rfl) (.slice la zs.length lcap) vs.length vs w1 ((hV.below hbx).below hb1) (fun i => !termB s (zs.getD i [])) (by
      intro i x X hx hbX
      have hil : i < zs.length := by rw [← HLEN.out]; exact (List.getElem?_eq_some_iff.1 hx).1
      have hI : Ints X x (zs.getD i []) := by
        rw [List.getD_eq_getElem?_getD, List.getElem?_eq_getElem hil]
        exact (((HEL.out i x _ hx (List.getElem?_eq_getElem hil)).below hbx).below hb1).below hbX
      exact term_Built1 _ _ _ _ _ _ (((hs.below hbx).below hb1).below hbX) hI hs1 ((hbX.cell (World.block_lt_of_cell? _ _ ((hb1.cell (World.block_lt_of_cell? _ _ hcell)).trans hcell))).trans ((hb1.cell (World.block_lt_of_cell? _ _ hcell)).trans hcell)))
    rw [HLEN.out, allB_any] at this
    exact this
  rw [HALL.out] at HKEY
  have HW := hid hW
  have HBX := hid hbx
  have HVR := hid hV
  have hw1 : IntKind.i64.wrap ((s.length : Int) - 1) = (s.length : Int) - 1 := by rw [IntWalk.i64_in _ (by omega)]
  have hin : inB (c : Int) 0 ((s.length : Int) - 1) = true := inB_true.2 ⟨by omega, by omega⟩
  rw [har] at s1
  have hne : (((zs.length : Nat) : Int) != (zs.length : Int)) = false := by simp
  have y1 : (c : Int) < (s.length : Int) := by omega
  clear hbx hW hel hlenv SC hV har hz hs f1
  go_enter Tryz.func281, Tryz.ntmps281
  go_wp2_with fail
  rw [HW.out]
  refine (HV1.out W HBX.out).mono ?_
  rintro e w1 ⟨rfl, hb1⟩
  have c1 := (hb1.cell (World.block_lt_of_cell? _ _ hcell)).trans hcell
  have HK1 := hid (HKEY.out w1 hb1)
  have hbw1 := HBX.out.trans (hb1.mono HBX.out.size)
  clear hcell
  go_wp2_with fail
  refine HK1.out.mono ?_
  rintro e w2 ⟨rfl, hb2⟩
  have c2 := (hb2.cell (World.block_lt_of_cell? _ _ c1)).trans c1
  have hbw2 := hbw1.trans (hb2.mono hbw1.size)
  have e1 := (hbw2.cell (World.block_lt_of_cell? _ _ s1)).trans s1
  have hbv2 := HBX.out
  clear c1 hb1 hb2 hbw1 HK1 s1
  have hbA : Below w2.heap.size w2 (w2.alloc (.cells #[.int .i64 c] 3)) := (Below.refl _ _).alloc (Nat.le_refl _) _
  have hiA : Ints (w2.alloc (.cells #[.int .i64 c] 3)) (.slice (some ⟨w2.heap.size, 0, none⟩) 1 1) [(c : Int)] := row_one_new w2 (.int .i64 c) 3
  obtain ⟨V, hV⟩ : ∃ V, w2.alloc (.cells #[.int .i64 c] 3) = V := ⟨_, rfl⟩
  have hVz : V.heap.size = w2.heap.size + 1 := by rw [← hV]; simp
  have hiA : Ints V (.slice (some ⟨w2.heap.size, 0, none⟩) 1 1) [(c : Int)] := hV ▸ hiA
  rw [hV] at hbA
  have hOL : (V.alloc (.cells #[.slice (some ⟨w2.heap.size, 0, none⟩) 1 1] 37)).ownsRow V.heap.size 37 1 (.slice (some ⟨V.heap.size, 0, none⟩) 1 1) 1 [.slice (some ⟨w2.heap.size, 0, none⟩) 1 1] := World.ownsRow_lit (base := V.heap.size) (e := 37) (size := 1) V #[.slice (some ⟨w2.heap.size, 0, none⟩) 1 1] 1 (Nat.le_refl _) (by simp [maxLen]) rfl
  have hbB : Below V.heap.size V (V.alloc (.cells #[.slice (some ⟨w2.heap.size, 0, none⟩) 1 1] 37)) := (Below.refl _ _).alloc (Nat.le_refl _) _
  rw [hVz] at hOL
  have hbw2B := hbw2.trans ((hbA.trans (hbB.mono hbA.size)).mono hbw2.size)
  have HROW := hid (show RowK (V.alloc (.cells #[.slice (some ⟨w2.heap.size, 0, none⟩) 1 1] 37)) (.slice la zs.length lcap) 1 zs.length vs from by have := HVR.out.below hbw2B; unfold Vals at this; rw [HLEN.out] at this; exact this)
  have HXB : Hid ((w2.alloc (.cells #[.int .i64 c] 3)).alloc (.cells #[.slice (some ⟨w2.heap.size, 0, none⟩) 1 1] 37) = V.alloc (.cells #[.slice (some ⟨w2.heap.size, 0, none⟩) 1 1] 37)) := hid (by rw [hV])
  have HOL := hid hOL
  have HBB := hid hbw2B
  have HBL := hid (hbA.trans (hbB.mono hbA.size))
  have HIA := hid hiA
  have HVB := hid hbB
  have HVZ := hid hVz
  have HBZ := hid (show (V.alloc (.cells #[.slice (some ⟨w2.heap.size, 0, none⟩) 1 1] 37)).heap.size = w2.heap.size + 2 from by rw [World.size_alloc, hVz])
  have HONE := hid (show ∀ u ∈ vs, u.oneCell' = true from by
    intro u hu
    obtain ⟨i, hi⟩ := List.getElem?_of_mem hu
    have hil : i < zs.length := by rw [← HLEN.out]; exact (List.getElem?_eq_some_iff.1 hi).1
    obtain ⟨a', c', rfl, -⟩ := (HEL.out i u _ hi (List.getElem?_eq_getElem hil)).open
    rfl)
  have HSZ2 := hid hbw2.size
  clear hV hVz hbA hbB hOL hbw2B hiA
  go_wp2_with (first
    | (go_at_call 199; refine (term_within _ _ _ _).mono ?_; rintro e w' ⟨rfl, rfl⟩; rw [hin])
    | (at_builtin; rw [HXB.out]; refine wpList_append_row rfl (.tmp 35) (.tmp 36) 160 rfl (w2.heap.size + 1) 37 el_term Tryz.underlying160 rfl (by decide) _ _ _ rfl HOL.out _ zs.length vs rfl HROW.out HONE.out (by omega) (by omega) (by rw [HBZ.out]; omega) ?_
       intro v' w4 hown4 hgrow4 _
       have HOW4 := hid hown4
       have HGR4 := hid hgrow4
       clear hown4 hgrow4)
    | fail)
  have HV4 := hid (HVB.out.grown HGR4.out (by rw [HBZ.out, HVZ.out]; omega) (fun q hq => by cases hq; show V.heap.size ≤ w2.heap.size + 1; rw [HVZ.out]; exact Nat.le_refl _))
  have HB4 := hid (HBB.out.grown HGR4.out (by rw [HBZ.out]; have := HSZ2.out; omega) (fun q hq => by cases hq; show w.heap.size ≤ w2.heap.size + 1; have := HSZ2.out; omega))
  have h1z : 1 + zs.length = zs.length + 1 := by omega
  have hT4 : Terms w4 v' ([(c : Int)] :: zs) := by
    refine ⟨.slice (some ⟨w2.heap.size, 0, none⟩) 1 1 :: vs, ?_, by simp [HLEN.out], fun i u t hu ht => ?_⟩
    · unfold Vals
      have h9 := HOW4.out
      have h8 : (Value.slice (some ⟨w2.heap.size, 0, none⟩) 1 1 :: vs).length = 1 + zs.length := by simp [HLEN.out]; omega
      rw [h8]
      exact RowK.of_owns h9 (by omega)
    · cases i with
      | zero => simp at hu ht; subst hu; subst ht; exact HIA.out.below HV4.out
      | succ i => simp at hu ht; exact (HEL.out i u t hu ht).below HB4.out
  have HCN := hid (sl_Concat v' ([(c : Int)] :: zs) w4 hT4 (by simp only [List.flatten_cons, List.length_append, List.length_cons, List.length_nil]; omega) (by simp; omega))
  rw [show ([(c : Int)] :: zs).flatten = (c : Int) :: zs.flatten from rfl] at HCN
  obtain ⟨R, hR⟩ : ∃ R, (c : Int) :: zs.flatten = R := ⟨_, rfl⟩
  have hRl : R.length ≤ 60 := by rw [← hR]; simp only [List.length_cons]; omega
  rw [hR] at HCN
  have HRR := hid hR
  clear hT4 hR
  refine HCN.out.mono ?_
  rintro e w5 ⟨u, rfl, hown, hb5⟩
  obtain ⟨ra, rc, rfl⟩ := Value.slice_of_owns hown
  have HO5 := hid (owns_base hown HB4.out.size)
  have HB5 := hid (HB4.out.trans (hb5.mono HB4.out.size))
  have q7 : ¬ ((R.length : Int) > 60) := by omega
  clear hown hb5
  go_wp2
  go_ret2
  have hR := HRR.out
  subst hR
  exact ⟨_, rfl, by simpa using HO5.out, HB5.out⟩
end Go.Proofs.YtalodmochkodiaaGreat
namespace Go.Proofs.YtalodmochkodiaaGreat
open Go Go.RowKit Go.Maps
set_option maxHeartbeats 1000000 in
theorem carry_sides0 (vs vm : Value) (s : Sg) (m : List Int) (w : World) (hm : 0 < m.length) (h0 : m.head? ≠ some 0) (rm : Ints w vm m) :
    Calls Tryz.prog 174 #[vs, vm] w fun e w' => e = .returned (.tuple #[.slice none 0 0, .slice none 0 0, .bool false]) ∧ Below w.heap.size w w' := by
  obtain ⟨ta, tcap, rfl, hcap, h2, -, TC⟩ := rm.open
  obtain ⟨b, o, rfl, hc0⟩ := TC 0 hm
  simp only [Nat.add_zero] at hc0
  have hn : m[0] ≠ 0 := fun h => h0 (by rw [List.head?_eq_getElem?, List.getElem?_eq_getElem hm, h])
  have hnd : (m[0] != 0) = true := by simpa using hn
  obtain ⟨x, hx⟩ : ∃ x, m[0] = x := ⟨_, rfl⟩
  rw [hx] at hc0 hnd
  clear TC rm h0 hx hn
  go_enter Tryz.func174, Tryz.ntmps174
  go_wp2
  go_ret3
  exact ⟨rfl, Below.refl _ _⟩
set_option maxHeartbeats 1000000 in
theorem carry_sides (vs vm : Value) (s : Sg) (m A B : List Int) (w : World) (hm : m = 0 :: (A ++ B)) (hv : termB s m = true) (hA : IsT s 12 A) (hB : IsT s 12 B) (hs : SignAt w vs s) (rm : Ints w vm m) (hs1 : s.length ≤ 1000) :
    Calls Tryz.prog 174 #[vs, vm] w fun e w' => ∃ ua ub, e = .returned (.tuple #[ua, ub, .bool true]) ∧ Ints w' ua A ∧ Ints w' ub B ∧ Below w.heap.size w w' := by
  have f1 := (termB_facts hv).1
  have HAR := hid (term_Args vs vm s m [A, B] w hv 0 (by simpa using hm) (by rw [halves_arP f1]; simp) (by intro a ha; simp at ha; rcases ha with rfl | rfl <;> assumption) hs rm hs1)
  obtain ⟨ta, tcap, hva, hcap, h2, -, TC⟩ := rm.open
  subst hva
  obtain ⟨b, o, rfl, hc0⟩ := TC 0 (by rw [hm]; simp)
  have hm0 : ∀ (h : 0 < m.length), m[0] = 0 := by intro h; subst hm; rfl
  have hmp : 0 < m.length := by rw [hm]; simp
  rw [hm0] at hc0
  simp only [Nat.add_zero] at hc0
  clear TC rm hv hA hB hm hm0
  go_enter Tryz.func174, Tryz.ntmps174
  go_wp2_with fail
  refine HAR.out.mono ?_
  rintro e w1 ⟨u, vvs, rfl, hl, hb1⟩
  have hv1 := hl.here
  clear hl
  have HB1 := hid hb1
  clear hb1 hc0
  obtain ⟨hrow, hvl, hrd⟩ := hv1
  obtain ⟨va, vb, rfl⟩ := len_two hvl
  have hIA := hrd 0 va A rfl rfl
  have hIB := hrd 1 vb B rfl rfl
  obtain ⟨a, cap, he, hc, hmx, hnone, hcell⟩ := hrow.open
  subst he
  obtain ⟨g, o, rfl, c0⟩ := hcell 0 (by simp)
  obtain ⟨g', o', he', c1⟩ := hcell 1 (by simp)
  obtain ⟨rfl, rfl⟩ : g = g' ∧ o = o' := by simpa using he'
  simp only [List.getElem_cons_zero, List.getElem_cons_succ, Nat.add_zero, List.length_cons, List.length_nil, Nat.zero_add, Nat.reduceAdd] at c0 c1 hc ⊢
  have HIA := hid hIA
  have HIB := hid hIB
  clear hIA hIB hrd hcell hrow he' hvl
  go_wp2
  go_quiet (fail)
  go_wp2
  go_ret3
  exact ⟨_, _, rfl, HIA.out.drewN _, HIB.out.drewN _, below_drewN HB1.out _⟩
theorem terms_lit2 (w : World) (x y : Value) (p q : List Int) (T : TypeId) (hx : Ints w x p) (hy : Ints w y q) : Terms (w.alloc (.cells #[x, y] T)) (.slice (some ⟨w.heap.size, 0, none⟩) 2 2) [p, q] := by
  have hb : Below w.heap.size w (w.alloc (.cells #[x, y] T)) := (Below.refl _ _).alloc (Nat.le_refl _) _
  refine ⟨[x, y], ⟨rfl, _, _, rfl, Nat.le_refl _, by simp, (fun h => by cases h), fun j u hj => ⟨_, _, rfl, ?_⟩⟩, rfl, fun i u t hu ht => ?_⟩
  · rw [World.cell?_alloc_new, Nat.zero_add]
    match j, hj with
    | 0, hj => simpa using hj
    | 1, hj => simpa using hj
    | j + 2, hj => simp at hj
  · match i, hu, ht with
    | 0, hu, ht => simp at hu ht; subst hu; subst ht; exact hx.below hb
    | 1, hu, ht => simp at hu ht; subst hu; subst ht; exact hy.below hb
    | i + 2, hu, _ => simp at hu
theorem sign_head {s : Sg} (h : signB s = true) : ∃ h0 : 0 < s.length, s[0].2 = 2 := by
  unfold signB at h
  simp only [Bool.and_eq_true] at h
  have h1 := inB_true.1 h.1.1
  have h0 : 0 < s.length := by omega
  have h2 := h.1.2
  rw [List.getElem?_eq_getElem h0] at h2
  exact ⟨h0, by simpa using h2⟩
theorem part_term {s : Sg} {A : List Int} (f1 : signB s = true) (hA : IsT s 12 A) (hl : A.length ≤ 60) : termB s A = true := T_termB f1 hA hl
set_option maxHeartbeats 1000000 in
set_option maxRecDepth 100000 in
theorem carry_implies (vs vp vq : Value) (s : Sg) (A B : List Int) (w : World) (hs : SignAt w vs s) (ra : Ints w vp A) (rb : Ints w vq B) (hs1 : s.length ≤ 1000) (tA : IsT s 12 A) (tB : IsT s 12 B) (h : termB s (0 :: (A ++ B)) = true) :
    Calls Tryz.prog 225 #[vs, vp, vq] w fun e w' => ∃ u, e = .returned u ∧ w'.ownsRow w.heap.size 3 1 u (canonL (0 :: (A ++ B))).length ((canonL (0 :: (A ++ B))).map (Value.int .i64)) ∧ Below w.heap.size w w' := by
  obtain ⟨f1, -, -, f4⟩ := termB_facts h
  simp only [List.length_cons, List.length_append] at f4
  obtain ⟨h0, har⟩ := sign_head f1
  obtain ⟨pa, pc, rfl, -⟩ := ra.open
  obtain ⟨qa, qc, rfl, -⟩ := rb.open
  have hlit := terms_lit2 w _ _ A B 37 ra rb
  have hb0 : Below w.heap.size w (w.alloc (.cells #[.slice pa A.length pc, .slice qa B.length qc] 37)) := (Below.refl _ _).alloc (Nat.le_refl _) _
  have HBT := hid (term_Built vs _ s 0 [A, B] _ (hs.below hb0) hlit hs1 f1 (by intro t ht; simp at ht; rcases ht with rfl | rfl <;> first | exact part_term f1 tA (by omega) | exact part_term f1 tB (by omega)) h0 (by rw [har]; rfl) (by simp; omega))
  have e1 : ((0 : Nat) : Int) :: [A, B].flatten = 0 :: (A ++ B) := by simp
  rw [e1] at HBT
  have HB0 := hid hb0
  have HSG := hid hs
  have HT := hid h
  have hRl : (0 :: (A ++ B) : List Int).length ≤ 60 := by simp; omega
  obtain ⟨R, hR⟩ : ∃ R, (0 :: (A ++ B) : List Int) = R := ⟨_, rfl⟩
  rw [hR] at HBT HT hRl ⊢
  clear hlit hb0 hs h e1 hR
  go_enter Tryz.func225, Tryz.ntmps225
  go_wp2_with fail
  refine HBT.out.mono ?_
  rintro e w1 ⟨u, rfl, hown, hb1⟩
  have hI := Ints.of_owns hown (by omega)
  have hb := HB0.out.trans (hb1.mono HB0.out.size)
  have HC := hid (term_Canonical vs u s R w1 (HSG.out.below hb) hI hs1)
  clear hown hI hb1
  go_wp2_with fail
  refine HC.out.mono ?_
  rintro e w2 ⟨hb2, ⟨hf, -⟩ | ⟨-, u2, rfl, hown2⟩⟩
  · rw [HT.out] at hf; cases hf
  · have HO2 := hid (owns_base hown2 hb.size)
    have HB2 := hid (hb.trans (hb2.mono hb.size))
    clear hown2 hb2 hb
    go_wp2
    go_ret
    exact ⟨_, rfl, HO2.out, HB2.out⟩
theorem convR_1 {s : Sg} {t : List Int} (h : termB s t = false) : convR s t = ([], 1) := by unfold convR; rw [h]; rfl
theorem convR_10 {s : Sg} {t : List Int} (h : termB s t = true) (h0 : t.head? ≠ some 0) : convR s t = ([], 10) := by unfold convR; rw [h, if_pos rfl, if_neg h0]
theorem convR_0 {s : Sg} {t : List Int} (h : termB s t = true) (h0 : t.head? = some 0) : convR s t = (convL s t, 0) := by unfold convR; rw [h, if_pos rfl, if_pos h0]
set_option maxHeartbeats 1000000 in
theorem carry_Converse (vs vt : Value) (s : Sg) (t : List Int) (w : World) (hs : SignAt w vs s) (rt : Ints w vt t) (hs1 : s.length ≤ 1000) :
    Calls Tryz.prog 131 #[vs, vt] w fun e w' => ∃ u, e = .returned (.tuple #[u, .int .i64 (convR s t).2]) ∧ Ints w' u (convR s t).1 ∧ Below w.heap.size w w' := by
  have HV := hid (term_Valid' vs vt s t w hs rt hs1)
  cases g : termB s t
  · have HF := hid (convR_1 g)
    rw [g] at HV
    clear g
    go_enter Tryz.func131, Tryz.ntmps131
    go_wp2_with fail
    refine HV.out.mono ?_
    rintro e w1 ⟨rfl, hb1⟩
    go_wp2
    go_ret2
    exact ⟨_, by rw [HF.out]; rfl, by rw [HF.out]; exact Ints.of_owns (World.ownsRow_nil _ 0 3 1) (by simp), hb1⟩
  rw [g] at HV
  have ht0 := (termB_T g).ne
  by_cases h0 : t.head? = some 0
  · obtain ⟨A, B, ht, tA, tB, lA, lB⟩ := halves_T g h0
    have HF := hid (convR_0 g h0)
    have HSW := hid (swap_term tA tB (ht ▸ g))
    have HCE := hid (show convL s t = canonL (0 :: (B ++ A)) from by rw [ht]; exact convL_eq tA)
    have HSD := hid (fun (X : World) (hX : Below w.heap.size w X) => carry_sides vs vt s t A B X ht g tA tB (hs.below hX) (rt.below hX) hs1)
    have HSG := hid hs
    have hl60 : (canonL (0 :: (B ++ A))).length ≤ 60 := by
      have := (termB_facts g).2.2.2
      rw [canonL_len, ht] at *
      simp at this ⊢; omega
    clear hs rt g h0 ht
    go_enter Tryz.func131, Tryz.ntmps131
    go_wp2_with fail
    refine HV.out.mono ?_
    rintro e w1 ⟨rfl, hb1⟩
    have HS1 := hid (HSD.out w1 hb1)
    go_wp2_with fail
    refine HS1.out.mono ?_
    rintro e w2 ⟨ua, ub, rfl, ia, ib, hb2⟩
    have hbw2 := hb1.trans (hb2.mono hb1.size)
    have HIM := hid (carry_implies vs ub ua s B A w2 (HSG.out.below hbw2) ib ia hs1 tB tA HSW.out)
    have HB2 := hid hbw2
    clear ia ib hb1 hb2 hbw2
    go_wp2_with fail
    refine HIM.out.mono ?_
    rintro e w3 ⟨u, rfl, hown, hb3⟩
    have HI := hid (Ints.of_owns hown (by omega))
    have HB3 := hid (HB2.out.trans (hb3.mono HB2.out.size))
    clear hown hb3
    go_wp2
    go_ret2
    exact ⟨_, by rw [HF.out]; rfl, by rw [HF.out, HCE.out]; exact HI.out, HB3.out⟩
  · have HF := hid (convR_10 g h0)
    have HSD := hid (fun (X : World) (hX : Below w.heap.size w X) => carry_sides0 vs vt s t X ht0 h0 (rt.below hX))
    clear g h0
    go_enter Tryz.func131, Tryz.ntmps131
    go_wp2_with fail
    refine HV.out.mono ?_
    rintro e w1 ⟨rfl, hb1⟩
    have HS1 := hid (HSD.out w1 hb1)
    go_wp2_with fail
    refine HS1.out.mono ?_
    rintro e w2 ⟨rfl, hb2⟩
    go_wp2
    go_ret2
    exact ⟨_, by rw [HF.out]; rfl, by rw [HF.out]; exact Ints.of_owns (World.ownsRow_nil _ 0 3 1) (by simp), hb1.trans (hb2.mono hb1.size)⟩
end Go.Proofs.YtalodmochkodiaaGreat
