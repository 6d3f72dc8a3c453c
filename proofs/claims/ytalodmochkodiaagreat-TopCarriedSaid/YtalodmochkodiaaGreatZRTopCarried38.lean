/-
  WHAT IT HOLDS: contracts of slices.Clone at strings and at steps, of proof, cite, detach, used, fresh of package carry. Conditions: the arguments read as data; small signs, small libraries.
  WHAT IT HOLDS: the contract of Moved of package carry. Conditions: the arguments read as data; small signs, small libraries.
  WHAT IT HOLDS: the contract of Moved of the reference of layer 8. Conditions: the arguments read as data; small signs, small libraries.
-/
import Derived.Lib.SliceRun
import Derived.Deep.RegionHeld3
import Derived.Test.YtalodmochkodiaaGreatZRTopCarried36
namespace Go.Proofs.YtalodmochkodiaaGreat
open Go Go.RowKit Go.Maps
set_option maxRecDepth 100000 in
theorem sl_Clone_strs (v : Value) (n : Nat) (xs : List Value) (w : World) (hv : RowK w v 1 n xs) (h1 : ∀ u ∈ xs, u.oneCell' = true) (hn : n ≤ 1000) :
    Calls Tryz.prog 159 #[v] w fun e w' => ∃ u, e = .returned u ∧ w'.ownsRow w.heap.size 9 1 u n xs ∧ Below w.heap.size w w' := by
  have HV := hid hv
  obtain ⟨hl, a, cap, rfl, hc, hm, hnone, -⟩ := hv
  have q37 := fun (w : World) (a : Option Addr) (n c n' c' : Nat) => Lib.run_eql_slice_nil (P := Tryz.prog) w _ _ a n c n' c' Tryz.underlying38
  cases a with
  | none =>
    have hc0 := hnone rfl
    have hn0 : n = 0 := by omega
    subst hn0
    have hx : xs = [] := by simpa using hl
    subst hx
    clear HV
    go_enter Tryz.func159, Tryz.ntmps159
    go_wp2
    go_ret
    exact ⟨_, rfl, World.ownsRow_nil _ _ _ _, Below.refl _ _⟩
  | some ad =>
    have hb0 : Below w.heap.size w (w.alloc (.cells #[] 9)) := (Below.refl _ _).alloc (Nat.le_refl _) _
    have HR := hid (HV.out.below hb0)
    have HOWN := hid (World.ownsRow_lit (base := w.heap.size) (e := 9) (size := 1) w #[] 0 (Nat.le_refl _) (by simp [maxLen]) rfl)
    have HB0 := hid hb0
    clear HV hb0
    go_enter Tryz.func159, Tryz.ntmps159
    go_wp2_with (at_builtin; refine wpList_append_row rfl _ _ 38 rfl w.heap.size 9 el_str Tryz.underlying38 rfl (by decide) _ _ _ rfl HOWN.out _ n xs rfl HR.out h1 (by omega) (by omega) (by simp) ?_; intro v' w4 hown4 hgrow4 _)
    go_ret
    exact ⟨_, rfl, by simpa using hown4, HB0.out.grown hgrow4 (by simp) (fun q hq => by cases hq; exact Nat.le_refl _)⟩
set_option maxRecDepth 100000 in
theorem sl_Clone_steps (v : Value) (n : Nat) (xs : List Value) (w : World) (hv : RowK w v 3 n xs) (h1 : ∀ u ∈ xs, u.oneCell' = true) (hn : n ≤ 1000) :
    Calls Tryz.prog 211 #[v] w fun e w' => ∃ u, e = .returned u ∧ w'.ownsRow w.heap.size 123 3 u n xs ∧ Below w.heap.size w w' := by
  have HV := hid hv
  obtain ⟨hl, a, cap, rfl, hc, hm, hnone, -⟩ := hv
  have q37 := fun (w : World) (a : Option Addr) (n c n' c' : Nat) => Lib.run_eql_slice_nil (P := Tryz.prog) w _ _ a n c n' c' Tryz.underlying39
  cases a with
  | none =>
    have hc0 := hnone rfl
    have hn0 : n = 0 := by omega
    subst hn0
    have hx : xs = [] := by simpa using hl
    subst hx
    clear HV
    go_enter Tryz.func211, Tryz.ntmps211
    go_wp2
    go_ret
    exact ⟨_, rfl, World.ownsRow_nil _ _ _ _, Below.refl _ _⟩
  | some ad =>
    have hb0 : Below w.heap.size w (w.alloc (.cells #[] 123)) := (Below.refl _ _).alloc (Nat.le_refl _) _
    have HR := hid (HV.out.below hb0)
    have HOWN := hid (World.ownsRow_lit (base := w.heap.size) (e := 123) (size := 3) w #[] 0 (Nat.le_refl _) (by simp [maxLen]) rfl)
    have HB0 := hid hb0
    clear HV hb0
    go_enter Tryz.func211, Tryz.ntmps211
    go_wp2_with (at_builtin; refine wpList_append_row rfl _ _ 39 rfl w.heap.size 123 el_step Tryz.underlying39 rfl (by decide) _ _ _ rfl HOWN.out _ n xs rfl HR.out h1 (by omega) (by omega) (by simp) ?_; intro v' w4 hown4 hgrow4 _)
    go_ret
    exact ⟨_, rfl, by simpa using hown4, HB0.out.grown hgrow4 (by simp) (fun q hq => by cases hq; exact Nat.le_refl _)⟩
theorem stC_one (l : List St) : ∀ u ∈ stC l, u.oneCell' = true := by
  intro u hu
  unfold stC at hu
  obtain ⟨x, -, hx⟩ := List.mem_flatMap.1 hu
  simp [stV] at hx
  rcases hx with rfl | rfl | rfl <;> rfl
theorem steps_of {w : World} {b : Nat} {l : List St} (hl : l.length ≤ 1000) (hc : ∀ j (h : j < (stC l).length), w.cell? ⟨b, j, none⟩ = some (stC l)[j]) : StepsAt w (.slice (some ⟨b, 0, none⟩) l.length l.length) l := by
  refine ⟨stC_len l, _, _, rfl, Nat.le_refl _, by omega, (fun h => by cases h), fun j u hj => ⟨b, 0, rfl, ?_⟩⟩
  obtain ⟨h1, h2⟩ := List.getElem?_eq_some_iff.1 hj
  rw [Nat.zero_add, hc j h1, h2]
theorem steps_lit {w : World} {l : List St} {cs : Array Value} {T : TypeId} (hl : l.length ≤ 1000) (hc : cs = (stC l).toArray) : StepsAt (w.alloc (.cells cs T)) (.slice (some ⟨w.heap.size, 0, none⟩) l.length l.length) l := by
  subst hc
  refine steps_of hl fun j h => ?_
  rw [World.cell?_alloc_new]
  simp [h]
theorem carry_cite (n : Int) (w : World) :
    Calls Tryz.prog 181 #[.int .i64 n] w fun e w' => e = .returned (.agg #[.int .i64 1, .int .i64 n, .int .i64 0]) ∧ Below w.heap.size w w' := by
  go_enter Tryz.func181, Tryz.ntmps181
  go_wp2
  (try simp only [Exit.inBlock, Exit.then])
  refine bodyPost_ret (v := .agg #[.int .i64 1, .int .i64 n, .int .i64 0]) ?_ rfl ?_
  · simp only [results, Tryz.results181]
    go_simp
  · exact ⟨rfl, (Below.refl _ _).alloc (Nat.le_refl _) _⟩
theorem carry_detach (n m : Int) (w : World) :
    Calls Tryz.prog 184 #[.int .i64 n, .int .i64 m] w fun e w' => e = .returned (.agg #[.int .i64 2, .int .i64 n, .int .i64 m]) ∧ Below w.heap.size w w' := by
  go_enter Tryz.func184, Tryz.ntmps184
  go_wp2
  (try simp only [Exit.inBlock, Exit.then])
  refine bodyPost_ret (v := .agg #[.int .i64 2, .int .i64 n, .int .i64 m]) ?_ rfl ?_
  · simp only [results, Tryz.results184]
    go_simp
  · exact ⟨rfl, (Below.refl _ _).alloc (Nat.le_refl _) _⟩
theorem carry_proof (v : Value) (l : List St) (w : World) (hv : StepsAt w v l) (hl : l.length ≤ 1000) :
    Calls Tryz.prog 183 #[v] w fun e w' => ∃ u, e = .returned u ∧ w'.ownsRow w.heap.size 123 3 u l.length (stC l) ∧ Below w.heap.size w w' := by
  have HC := hid (sl_Clone_steps v l.length (stC l) w hv (stC_one l) hl)
  go_enter Tryz.func183, Tryz.ntmps183
  go_wp2_with fail
  refine HC.out.mono ?_
  rintro e w1 ⟨u, rfl, hown, hb⟩
  have HS := hid hown
  clear hown
  go_wp2
  go_ret
  exact ⟨_, rfl, HS.out, hb⟩
def usedL (ns : List Nm) : List Nm := ns.foldl (fun o n => if hasN o n then o else o ++ [n]) []
theorem usedL_snoc (ns : List Nm) (n : Nm) : usedL (ns ++ [n]) = if hasN (usedL ns) n then usedL ns else usedL ns ++ [n] := by unfold usedL; rw [List.foldl_append]; rfl
theorem usedL_facts (ns : List Nm) : (usedL ns).length ≤ ns.length ∧ (∀ x, x ∈ usedL ns ↔ x ∈ ns) ∧ (usedL ns).Nodup := by
  have key : ∀ (l o : List Nm), o.Nodup → (l.foldl (fun o n => if hasN o n then o else o ++ [n]) o).length ≤ o.length + l.length ∧ (∀ x, x ∈ l.foldl (fun o n => if hasN o n then o else o ++ [n]) o ↔ x ∈ o ∨ x ∈ l) ∧ (l.foldl (fun o n => if hasN o n then o else o ++ [n]) o).Nodup := by
    intro l
    induction l with
    | nil => intro o h; exact ⟨by simp, fun x => by simp, h⟩
    | cons n l ih =>
      intro o h
      rw [List.foldl_cons]
      cases e : hasN o n
      · rw [if_neg (by simp)]
        have h2 : (o ++ [n]).Nodup := by
          rw [List.nodup_append]
          refine ⟨h, by simp, fun a ha b hb => ?_⟩
          simp at hb
          subst hb
          rintro rfl
          exact hasN_no.1 e ha
        obtain ⟨i1, i2, i3⟩ := ih _ h2
        refine ⟨by simp at i1 ⊢; omega, fun x => ?_, i3⟩
        rw [i2]; simp [or_assoc]
      · rw [if_pos rfl]
        obtain ⟨i1, i2, i3⟩ := ih _ h
        refine ⟨by simp; omega, fun x => ?_, i3⟩
        rw [i2, List.mem_cons]
        constructor
        · rintro (h | h) <;> simp [h]
        · rintro (h | rfl | h)
          · exact Or.inl h
          · exact Or.inl (hasN_iff.1 e)
          · exact Or.inr h
  have := key ns [] (by simp)
  exact ⟨by have := this.1; simpa [usedL] using this, fun x => by have := this.2.1 x; simpa [usedL] using this, this.2.2⟩
theorem usedL_take (ns : List Nm) {k : Nat} (h : k < ns.length) : usedL (ns.take (k + 1)) = if hasN (usedL (ns.take k)) ns[k] then usedL (ns.take k) else usedL (ns.take k) ++ [ns[k]] := by
  rw [List.take_succ_eq_append_getElem h, usedL_snoc]
set_option maxHeartbeats 1000000 in
theorem carry_used (v : Value) (ns : List Nm) (w : World) (hv : TxtsAt w v ns) (hn : ns.length ≤ 1000) :
    Calls Tryz.prog 179 #[v] w fun e w' => ∃ u, e = .returned u ∧ w'.ownsRow w.heap.size 9 1 u (usedL ns).length ((usedL ns).map Value.string) ∧ Below w.heap.size w w' := by
  have HS := hid hv.2
  obtain ⟨a, cap, rfl, h1, h2, h3, HC⟩ := hv.open
  have HC' := hid HC
  have HF := hid (usedL_facts)
  clear HC h3 hv
  have hown0 := World.ownsRow_nil w w.heap.size 9 1
  go_enter Tryz.func179, Tryz.ntmps179
  go_wp2
  go_loopw [3, 8] (fun u kv wr => ∃ k : Nat, k ≤ ns.length ∧ kv = .int .i64 k ∧ Below w.heap.size w wr ∧ wr.ownsRow w.heap.size 9 1 u (usedL (ns.take k)).length ((usedL (ns.take k)).map Value.string)) (fun _ kv _ => ns.length - (intOf kv).toNat)
  case atStart => exact ⟨0, by omega, rfl, Below.refl _ _, by simpa [usedL] using hown0⟩
  case round =>
    clear hown0
    obtain ⟨k, hk, rfl, hb, hown⟩ := hrel
    have hsz := hb.size
    obtain ⟨f1, f2, f3⟩ := HF.out (ns.take k)
    have hT : TxtsAt wr u3 (usedL (ns.take k)) := ⟨RowK.of_owns hown (by rw [List.length_take] at f1; omega), fun x hx => HS.out x (List.mem_of_mem_take ((f2 x).1 hx))⟩
    by_cases hlt : k < ns.length
    · obtain ⟨b, o, rfl, c0⟩ := HC'.out k hlt
      have c1 := (hb.cell (World.block_lt_of_cell? _ _ c0)).trans c0
      have hst := usedL_take ns hlt
      have hxs := HS.out ns[k] (List.getElem_mem hlt)
      obtain ⟨x, hx⟩ : ∃ x, ns[k] = x := ⟨_, rfl⟩
      rw [hx] at c1 hst hxs
      have hlen : (usedL (ns.take k)).length ≤ k := by rw [List.length_take] at f1; omega
      obtain ⟨U, hU⟩ : ∃ U, usedL (ns.take k) = U := ⟨_, rfl⟩
      rw [hU] at hT hst hown hlen
      have HCT := hid (sl_Contains_strs u3 U x wr hT)
      have HB := hid hb
      have HOWN := hid hown
      have HXS := hid hxs
      clear c0 hx hU f1 f2 f3 hT hb hown hxs
      cases g : hasN U x
      · have HST : Hid (usedL (ns.take (k + 1)) = U ++ [x]) := hid (by rw [hst, g]; rfl)
        rw [g] at HCT
        clear hst g
        go_wp2_with (first
          | (go_at_call 209; refine HCT.out.mono ?_; rintro e w' ⟨rfl, rfl⟩)
          | (at_builtin; refine wpList_append_row rfl _ _ 38 rfl w.heap.size 9 el_str Tryz.underlying38 rfl (by decide) _ _ _ rfl (HOWN.out.alloc _) _ 1 [.string x] rfl (row_one_new _ _ _) (oneCell_one rfl) (by omega) (by omega) (by simp; omega) ?_; intro v' w4 hown4 hgrow4 _))
        go_roundw
        case rel =>
          exact ⟨k + 1, by omega, by go_num, (HB.out.alloc hsz _).grown hgrow4 (by have := HB.out.size; simp; omega) (fun q hq => (HOWN.out.lt q hq).1), by rw [HST.out]; simpa using hown4⟩
        case measure => simp [intOf]; omega
      · have HST : Hid (usedL (ns.take (k + 1)) = U) := hid (by rw [hst, g]; rfl)
        rw [g] at HCT
        clear hst g
        go_wp2_with (first
          | (go_at_call 209; refine HCT.out.mono ?_; rintro e w' ⟨rfl, rfl⟩))
        go_roundw
        case rel => exact ⟨k + 1, by omega, by go_num, HB.out, by rw [HST.out]; exact HOWN.out⟩
        case measure => simp [intOf]; omega
    · have hkl : k = ns.length := by omega
      subst hkl
      rw [List.take_of_length_le (Nat.le_refl _)] at hown
      have HT := hid hown
      clear hT hown f1 f2 f3
      go_wp2
      go_ret
      exact ⟨_, rfl, HT.out, hb⟩
/-- the error of a new entry's names, and of others that it uses. -/
def frI (s : Sg) (l : List En) (o b : Nm) (ns : List Nm) : Int := if libB s l && (nmB o && nmB b) then (if nmdI s l ns = 0 then (if (idxN l o).isSome then 6 else 0) else nmdI s l ns) else 1
theorem frI_no {s : Sg} {l : List En} {o b : Nm} {ns : List Nm} (h : libB s l = false ∨ nmB o = false ∨ nmB b = false) : frI s l o b ns = 1 := by
  unfold frI
  rcases h with h | h | h <;> simp [h]
theorem frI_yes {s : Sg} {l : List En} {o b : Nm} {ns : List Nm} (h1 : libB s l = true) (h2 : nmB o = true) (h3 : nmB b = true) : frI s l o b ns = if nmdI s l ns = 0 then (if (idxN l o).isSome then 6 else 0) else nmdI s l ns := by
  unfold frI
  rw [h1, h2, h3]; rfl
set_option maxHeartbeats 2000000 in
theorem carry_fresh (vs vl vn : Value) (s : Sg) (l : List En) (o b : Nm) (ns : List Nm) (w : World) (hs : SignAt w vs s) (hl : EntsAt w vl l) (hn : TxtsAt w vn ns) (hs1 : s.length ≤ 1000) (hl1 : l.length ≤ 1000) (hn1 : ns.length ≤ 1000) (ho : o.size ≤ 140737488355328) (hbn : b.size ≤ 140737488355328) :
    Calls Tryz.prog 173 #[vs, vl, .string o, .string b, vn] w fun e w' => ∃ u ts, e = .returned (.tuple #[u, .int .i64 (frI s l o b ns)]) ∧ (frI s l o b ns = 0 → givL l ns = some ts ∧ Terms w' u ts) ∧ Below w.heap.size w w' := by
  have HV := hid (deps_Valid vs vl s l w hs hl hs1 hl1)
  have HSY := hid (fun (X : World) (hX : Below w.heap.size w X) => carry_says vs vl vn s l ns X (hs.below hX) (hl.below hX) (hn.below hX) hs1 hl1 hn1)
  have HFI := hid (fun (X : World) (hX : Below w.heap.size w X) => deps_Find vs vl s l o X (hs.below hX) (hl.below hX) hs1 hl1 ho)
  clear hl hs hn
  cases g1 : libB s l
  · have HF : Hid (frI s l o b ns = 1) := hid (frI_no (Or.inl g1))
    rw [g1] at HV
    clear g1
    go_enter Tryz.func173, Tryz.ntmps173
    go_wp2_with fail
    refine HV.out.mono ?_
    rintro e w1 ⟨rfl, hb1⟩
    go_wp2
    go_ret2
    exact ⟨_, [], by rw [HF.out]; rfl, (fun h => by rw [HF.out] at h; cases h), hb1⟩
  rw [g1] at HV
  cases g2 : nmB o
  · have HF : Hid (frI s l o b ns = 1) := hid (frI_no (Or.inr (Or.inl g2)))
    have G2 := hid g2
    clear g1 g2
    go_enter Tryz.func173, Tryz.ntmps173
    go_wp2_with fail
    refine HV.out.mono ?_
    rintro e w1 ⟨rfl, hb1⟩
    go_wp2_with (go_at_call 100; refine (deps_Name _ _ ho).mono ?_; rintro e w' ⟨rfl, rfl⟩; rw [G2.out])
    go_ret2
    exact ⟨_, [], by rw [HF.out]; rfl, (fun h => by rw [HF.out] at h; cases h), hb1⟩
  cases g3 : nmB b
  · have HF : Hid (frI s l o b ns = 1) := hid (frI_no (Or.inr (Or.inr g3)))
    have G2 := hid g2
    have G3 := hid g3
    clear g1 g2 g3
    go_enter Tryz.func173, Tryz.ntmps173
    go_wp2_with fail
    refine HV.out.mono ?_
    rintro e w1 ⟨rfl, hb1⟩
    go_wp2_with fail
    refine (deps_Name _ _ ho).mono ?_
    rintro e w' ⟨rfl, rfl⟩
    rw [G2.out]
    go_wp2_with fail
    refine (deps_Name _ _ hbn).mono ?_
    rintro e w' ⟨rfl, rfl⟩
    rw [G3.out]
    go_wp2
    go_ret2
    exact ⟨_, [], by rw [HF.out]; rfl, (fun h => by rw [HF.out] at h; cases h), hb1⟩
  have HFR : Hid (frI s l o b ns = if nmdI s l ns = 0 then (if (idxN l o).isSome then 6 else 0) else nmdI s l ns) := hid (frI_yes g1 g2 g3)
  have G1 := hid g1
  have G2 := hid g2
  have G3 := hid g3
  clear g1 g2 g3
  go_enter Tryz.func173, Tryz.ntmps173
  go_wp2_with fail
  refine HV.out.mono ?_
  rintro e w1 ⟨rfl, hb1⟩
  go_wp2_with fail
  refine (deps_Name _ _ ho).mono ?_
  rintro e w' ⟨rfl, rfl⟩
  rw [G2.out]
  go_wp2_with fail
  refine (deps_Name _ _ hbn).mono ?_
  rintro e w' ⟨rfl, rfl⟩
  rw [G3.out]
  have HS1 := hid (HSY.out w1 hb1)
  go_wp2_with fail
  refine HS1.out.mono ?_
  rintro e w2 ⟨u, ts, er, hr, rfl, hT, hb2⟩
  have hb := hb1.trans (hb2.mono hb1.size)
  obtain ⟨he, hz⟩ := hr.named
  by_cases h0 : er = 0
  · obtain ⟨-, hg⟩ := hz h0
    subst h0
    have HF2 := hid (HFI.out w2 hb)
    have HT := hid hT
    have HG := hid hg
    have HB := hid hb
    have HNZ := hid he.symm
    clear hr hz hg hb1 hb2 hb he hT HS1
    cases e : idxN l o with
    | none =>
      have HF : Hid (frI s l o b ns = 0) := hid (by rw [HFR.out, HNZ.out, e]; rfl)
      rw [findR_none G1.out e] at HF2
      clear e
      go_wp2_with fail
      refine HF2.out.mono ?_
      rintro e w3 ⟨rfl, hb3⟩
      have HT3 := hid (HT.out.below hb3)
      have HB3 := hid (HB.out.trans (hb3.mono HB.out.size))
      clear hb3
      go_wp2
      go_ret2
      exact ⟨_, ts, by rw [HF.out]; rfl, fun _ => ⟨HG.out, HT3.out⟩, HB3.out⟩
    | some i =>
      have HF : Hid (frI s l o b ns = 6) := hid (by rw [HFR.out, HNZ.out, e]; rfl)
      rw [findR_some G1.out e] at HF2
      clear e
      go_wp2_with fail
      refine HF2.out.mono ?_
      rintro e w3 ⟨rfl, hb3⟩
      have HB3 := hid (HB.out.trans (hb3.mono HB.out.size))
      clear hb3
      go_wp2
      go_ret2
      exact ⟨_, [], by rw [HF.out]; rfl, (fun h => by rw [HF.out] at h; cases h), HB3.out⟩
  · have HF : Hid (frI s l o b ns = er) := hid (by rw [HFR.out, ← he, if_neg h0])
    have n0 : (er != 0) = true := by simpa using h0
    have H0 := hid h0
    clear hr he hz hT h0
    go_wp2
    go_ret2
    exact ⟨_, [], by rw [HF.out]; rfl, fun h => by rw [HF.out] at h; exact absurd h H0.out, hb⟩
end Go.Proofs.YtalodmochkodiaaGreat
namespace Go.Proofs.YtalodmochkodiaaGreat
open Go Go.RowKit Go.Maps
def en0 : En := ⟨⟨#[]⟩, ⟨#[]⟩, [], [], []⟩
theorem StepsAt.nil (w : World) : StepsAt w (.slice none 0 0) [] := ⟨rfl, none, 0, rfl, Nat.le_refl _, by simp, fun _ => rfl, fun j u hj => by simp [stC] at hj⟩
theorem EntAt.zero (w : World) : EntAt w (.slice none 0 0) (.slice none 0 0) (.slice none 0 0) en0 := ⟨Ints.nil w, TxtsAt.nil w, StepsAt.nil w, by simp [en0, ByteArray.size], by simp [en0, ByteArray.size]⟩
/-- a cell of five of the call's own: it can be read and written. -/
structure C5 (w : World) (b : Nat) (x0 x1 x2 x3 x4 : Value) : Prop where
  c0 : w.cell? ⟨b, 0, none⟩ = some x0
  c1 : w.cell? ⟨b, 1, none⟩ = some x1
  c2 : w.cell? ⟨b, 2, none⟩ = some x2
  c3 : w.cell? ⟨b, 3, none⟩ = some x3
  c4 : w.cell? ⟨b, 4, none⟩ = some x4
  z0 : w.frozen? ⟨b, 0, none⟩ = false
  z1 : w.frozen? ⟨b, 1, none⟩ = false
  z2 : w.frozen? ⟨b, 2, none⟩ = false
  z3 : w.frozen? ⟨b, 3, none⟩ = false
  z4 : w.frozen? ⟨b, 4, none⟩ = false
theorem C5.block {w w' : World} {b : Nat} {x0 x1 x2 x3 x4 : Value} (h : C5 w b x0 x1 x2 x3 x4) (hb : w'.heap[b]? = w.heap[b]?) : C5 w' b x0 x1 x2 x3 x4 := by
  have k : ∀ j, w'.cell? ⟨b, j, none⟩ = w.cell? ⟨b, j, none⟩ := fun j => World.cell?_of_block hb
  have f : ∀ j, w'.frozen? ⟨b, j, none⟩ = w.frozen? ⟨b, j, none⟩ := fun j => World.frozen?_of_block hb
  exact ⟨(k 0).trans h.c0, (k 1).trans h.c1, (k 2).trans h.c2, (k 3).trans h.c3, (k 4).trans h.c4, (f 0).trans h.z0, (f 1).trans h.z1, (f 2).trans h.z2, (f 3).trans h.z3, (f 4).trans h.z4⟩
theorem C5.below {w w' : World} {b : Nat} {x0 x1 x2 x3 x4 : Value} (h : C5 w b x0 x1 x2 x3 x4) (hb : Below w.heap.size w w') : C5 w' b x0 x1 x2 x3 x4 :=
  h.block (hb.block b (World.block_lt_of_cell? _ _ h.c0))
theorem C5.new (w : World) (x0 x1 x2 x3 x4 : Value) (t : TypeId) : C5 (w.alloc (.cells #[x0, x1, x2, x3, x4] t)) w.heap.size x0 x1 x2 x3 x4 := by
  obtain ⟨h0, h1, h2, h3, h4, -⟩ := box5e w x0 x1 x2 x3 x4 t
  exact ⟨h0, h1, h2, h3, h4, World.frozen?_alloc_new _ _ _ _, World.frozen?_alloc_new _ _ _ _, World.frozen?_alloc_new _ _ _ _, World.frozen?_alloc_new _ _ _ _, World.frozen?_alloc_new _ _ _ _⟩
/-- the five cells written. -/
def set5 (w : World) (b : Nat) (y0 y1 y2 y3 y4 : Value) : World := ((((w.setCell ⟨b, 0, none⟩ y0).setCell ⟨b, 1, none⟩ y1).setCell ⟨b, 2, none⟩ y2).setCell ⟨b, 3, none⟩ y3).setCell ⟨b, 4, none⟩ y4
theorem C5.store {w : World} {b : Nat} {x0 x1 x2 x3 x4 : Value} (h : C5 w b x0 x1 x2 x3 x4) (y0 y1 y2 y3 y4 : Value) : C5 (set5 w b y0 y1 y2 y3 y4) b y0 y1 y2 y3 y4 := by
  have e : set5 w b y0 y1 y2 y3 y4 = w.setCells b 0 [y0, y1, y2, y3, y4] := rfl
  have hin := World.cell?_setCells_in b [y0, y1, y2, y3, y4] 0 w (by
    intro j hj
    rw [Nat.zero_add]
    match j, hj with
    | 0, _ => rw [h.c0]; rfl
    | 1, _ => rw [h.c1]; rfl
    | 2, _ => rw [h.c2]; rfl
    | 3, _ => rw [h.c3]; rfl
    | 4, _ => rw [h.c4]; rfl)
  have hf := fun j => World.frozen?_setCells b [y0, y1, y2, y3, y4] 0 w ⟨b, j, none⟩
  rw [e]
  exact ⟨hin 0 (by simp), hin 1 (by simp), hin 2 (by simp), hin 3 (by simp), hin 4 (by simp), (hf 0).trans h.z0, (hf 1).trans h.z1, (hf 2).trans h.z2, (hf 3).trans h.z3, (hf 4).trans h.z4⟩
theorem set5_below {B : Nat} {a w : World} {b : Nat} (h : Below B a w) (hB : B ≤ b) (y0 y1 y2 y3 y4 : Value) : Below B a (set5 w b y0 y1 y2 y3 y4) := by
  unfold set5
  exact ((((h.setCell (p := ⟨b, 0, none⟩) hB _).setCell (p := ⟨b, 1, none⟩) hB _).setCell (p := ⟨b, 2, none⟩) hB _).setCell (p := ⟨b, 3, none⟩) hB _).setCell (p := ⟨b, 4, none⟩) hB _
theorem heap_set5 (w : World) (b : Nat) (y0 y1 y2 y3 y4 : Value) {k : Nat} (h : k ≠ b) : (set5 w b y0 y1 y2 y3 y4).heap[k]? = w.heap[k]? := by
  unfold set5
  rw [Below.heap_setCell _ _ _ _ h, Below.heap_setCell _ _ _ _ h, Below.heap_setCell _ _ _ _ h, Below.heap_setCell _ _ _ _ h, Below.heap_setCell _ _ _ _ h]
theorem owns_blocks {w W' : World} {b : Nat} {e : TypeId} {k : Nat} {v : Value} {n : Nat} {xs : List Value} (h : w.ownsRow b e k v n xs) (hs : ∀ q, b ≤ q → q < w.heap.size → v.ownBlock = some q → W'.heap[q]? = w.heap[q]?) : W'.ownsRow b e k v n xs := by
  have hlt := h.lt
  obtain ⟨h1, h2⟩ := h
  refine ⟨h1, ?_⟩
  rcases h2 with h2 | ⟨g, cap, cur, rfl, r2, r3, r4⟩
  · exact .inl h2
  · exact .inr ⟨g, cap, cur, rfl, r2, by rw [hs g (hlt g rfl).1 (hlt g rfl).2 rfl]; exact r3, r4⟩
/-- what Moved answers. -/
def MovR (s : Sg) (l : List En) (a n o b : Nm) (x : En) (e : Int) : Prop :=
  (frI s l o b [a, n] ≠ 0 ∧ x = en0 ∧ e = frI s l o b [a, n]) ∨ (frI s l o b [a, n] = 0 ∧ ∃ p q y, saysN l a = some p ∧ saysN l n = some q ∧ DetR s p q y ∧
    ((y.2 ≠ 0 ∧ x = en0 ∧ e = y.2) ∨ (y.2 = 0 ∧ x = ⟨o, b, y.1, if a = n then [a] else [a, n], if a = n then mvP1 else mvP⟩ ∧ e = 0)))
def EntQ (R : En → Int → Prop) (w : World) (e : Ending) (w' : World) : Prop := ∃ x vS vU vP er, R x er ∧ e = .returned (.tuple #[.agg #[.string x.name, .string x.who, vS, vU, vP], .int .i64 er]) ∧ EntAt w' vS vU vP x ∧ Below w.heap.size w w'
theorem EntQ.mk {R : En → Int → Prop} {w : World} {e : Ending} {w' : World} (x : En) (vS vU vP : Value) (er : Int) (h1 : R x er) (h2 : e = .returned (.tuple #[.agg #[.string x.name, .string x.who, vS, vU, vP], .int .i64 er])) (h3 : EntAt w' vS vU vP x) (h4 : Below w.heap.size w w') : EntQ R w e w' := ⟨x, vS, vU, vP, er, h1, h2, h3, h4⟩
theorem EntQ.zero {R : En → Int → Prop} {w w' : World} {er : Int} (h1 : R en0 er) (h4 : Below w.heap.size w w') : EntQ R w (.returned (.tuple #[.agg #[.string ⟨#[]⟩, .string ⟨#[]⟩, .slice none 0 0, .slice none 0 0, .slice none 0 0], .int .i64 er])) w' := ⟨en0, _, _, _, er, h1, rfl, EntAt.zero _, h4⟩
theorem usedL_two (a n : Nm) : usedL [a, n] = if a = n then [a] else [a, n] := by
  unfold usedL
  simp only [List.foldl_cons, List.foldl_nil, show hasN [] a = false from rfl, Bool.false_eq_true, if_false, List.nil_append]
  by_cases h : a = n
  · have e : hasN [a] n = true := hasN_iff.2 (by simp [h])
    rw [e, if_pos h]; rfl
  · have e : hasN [a] n = false := hasN_no.2 (by simp; exact fun e => h e.symm)
    rw [e, if_neg h]; rfl
theorem C5.set4 {w : World} {b : Nat} {x0 x1 x2 x3 x4 : Value} (h : C5 w b x0 x1 x2 x3 x4) (y : Value) : C5 (w.setCell ⟨b, 4, none⟩ y) b x0 x1 x2 x3 y := by
  refine ⟨?_, ?_, ?_, ?_, World.cell?_setCell_same _ _ _ h.c4, ?_, ?_, ?_, ?_, ?_⟩
  · rw [World.cell?_setCell_other _ _ _ _ (by simp)]; exact h.c0
  · rw [World.cell?_setCell_other _ _ _ _ (by simp)]; exact h.c1
  · rw [World.cell?_setCell_other _ _ _ _ (by simp)]; exact h.c2
  · rw [World.cell?_setCell_other _ _ _ _ (by simp)]; exact h.c3
  · rw [World.frozen?_setCell]; exact h.z0
  · rw [World.frozen?_setCell]; exact h.z1
  · rw [World.frozen?_setCell]; exact h.z2
  · rw [World.frozen?_setCell]; exact h.z3
  · rw [World.frozen?_setCell]; exact h.z4
theorem owns_slice {w : World} {b : Nat} {e : TypeId} {k : Nat} {v : Value} {n : Nat} {xs : List Value} (h : w.ownsRow b e k v n xs) : ∃ a c, v = .slice a n c := by
  obtain ⟨a, c, h1, -⟩ := owns_open h
  exact ⟨a, c, h1⟩
end Go.Proofs.YtalodmochkodiaaGreat
namespace Go.Proofs.YtalodmochkodiaaGreat
open Go Go.RowKit Go.Maps
end Go.Proofs.YtalodmochkodiaaGreat
