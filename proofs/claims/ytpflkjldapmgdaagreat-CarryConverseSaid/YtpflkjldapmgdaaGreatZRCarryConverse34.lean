/-
  WHAT IT HOLDS: contracts of slices.Clone at strings and at steps, of proof, cite, detach, used, fresh of package carry. Conditions: the arguments read as data; small signs, small libraries.
  WHAT IT HOLDS: the contract of Moved of package carry. Conditions: the arguments read as data; small signs, small libraries.
-/
import Derived.Lib.SliceRun
import Derived.Deep.RegionHeld3
import Derived.Test.YtpflkjldapmgdaaGreatZRCarryConverse33
namespace Go.Proofs.YtpflkjldapmgdaaGreat
open Go Go.RowKit Go.Maps
set_option maxRecDepth 100000 in
theorem sl_Clone_strs (v : Value) (n : Nat) (xs : List Value) (w : World) (hv : RowK w v 1 n xs) (h1 : ∀ u ∈ xs, u.oneCell' = true) (hn : n ≤ 1000) :
    Calls Tryz.prog 125 #[v] w fun e w' => ∃ u, e = .returned u ∧ w'.ownsRow w.heap.size 9 1 u n xs ∧ Below w.heap.size w w' := by
  have HV := hid hv
  obtain ⟨hl, a, cap, rfl, hc, hm, hnone, -⟩ := hv
  have q37 := fun (w : World) (a : Option Addr) (n c n' c' : Nat) => Lib.run_eql_slice_nil (P := Tryz.prog) w _ _ a n c n' c' Tryz.underlying32
  cases a with
  | none =>
    have hc0 := hnone rfl
    have hn0 : n = 0 := by omega
    subst hn0
    have hx : xs = [] := by simpa using hl
    subst hx
    clear HV
    go_enter Tryz.func125, Tryz.ntmps125
    go_wp2
    go_ret
    exact ⟨_, rfl, World.ownsRow_nil _ _ _ _, Below.refl _ _⟩
  | some ad =>
    have hb0 : Below w.heap.size w (w.alloc (.cells #[] 9)) := (Below.refl _ _).alloc (Nat.le_refl _) _
    have HR := hid (HV.out.below hb0)
    have HOWN := hid (World.ownsRow_lit (base := w.heap.size) (e := 9) (size := 1) w #[] 0 (Nat.le_refl _) (by simp [maxLen]) rfl)
    have HB0 := hid hb0
    clear HV hb0
    go_enter Tryz.func125, Tryz.ntmps125
    go_wp2_with (at_builtin; refine wpList_append_row rfl _ _ 32 rfl w.heap.size 9 el_str Tryz.underlying32 rfl (by decide) _ _ _ rfl HOWN.out _ n xs rfl HR.out h1 (by omega) (by omega) (by simp) ?_; intro v' w4 hown4 hgrow4 _)
    go_ret
    exact ⟨_, rfl, by simpa using hown4, HB0.out.grown hgrow4 (by simp) (fun q hq => by cases hq; exact Nat.le_refl _)⟩
set_option maxRecDepth 100000 in
theorem sl_Clone_steps (v : Value) (n : Nat) (xs : List Value) (w : World) (hv : RowK w v 3 n xs) (h1 : ∀ u ∈ xs, u.oneCell' = true) (hn : n ≤ 1000) :
    Calls Tryz.prog 117 #[v] w fun e w' => ∃ u, e = .returned u ∧ w'.ownsRow w.heap.size 76 3 u n xs ∧ Below w.heap.size w w' := by
  have HV := hid hv
  obtain ⟨hl, a, cap, rfl, hc, hm, hnone, -⟩ := hv
  have q37 := fun (w : World) (a : Option Addr) (n c n' c' : Nat) => Lib.run_eql_slice_nil (P := Tryz.prog) w _ _ a n c n' c' Tryz.underlying33
  cases a with
  | none =>
    have hc0 := hnone rfl
    have hn0 : n = 0 := by omega
    subst hn0
    have hx : xs = [] := by simpa using hl
    subst hx
    clear HV
    go_enter Tryz.func117, Tryz.ntmps117
    go_wp2
    go_ret
    exact ⟨_, rfl, World.ownsRow_nil _ _ _ _, Below.refl _ _⟩
  | some ad =>
    have hb0 : Below w.heap.size w (w.alloc (.cells #[] 76)) := (Below.refl _ _).alloc (Nat.le_refl _) _
    have HR := hid (HV.out.below hb0)
    have HOWN := hid (World.ownsRow_lit (base := w.heap.size) (e := 76) (size := 3) w #[] 0 (Nat.le_refl _) (by simp [maxLen]) rfl)
    have HB0 := hid hb0
    clear HV hb0
    go_enter Tryz.func117, Tryz.ntmps117
    go_wp2_with (at_builtin; refine wpList_append_row rfl _ _ 33 rfl w.heap.size 76 el_step Tryz.underlying33 rfl (by decide) _ _ _ rfl HOWN.out _ n xs rfl HR.out h1 (by omega) (by omega) (by simp) ?_; intro v' w4 hown4 hgrow4 _)
    go_ret
    exact ⟨_, rfl, by simpa using hown4, HB0.out.grown hgrow4 (by simp) (fun q hq => by cases hq; exact Nat.le_refl _)⟩
theorem stC_one (l : List St) : ∀ u ∈ stC l, u.oneCell' = true := by
  intro u hu
  unfold stC at hu
  obtain ⟨x, -, hx⟩ := List.mem_flatMap.1 hu
  simp [stV] at hx
  rcases hx with rfl | rfl | rfl <;> rfl
theorem steps_of {w : World} {b : Nat} {l : List St} (hl : l.length ≤ 1000) (hc : ∀ j (h : j < (stC l).length), w.cell? ⟨b, j, none⟩ = some (stC l)[j]) : StepsAt w (.slice (some ⟨b, 0, none⟩) l.length l.length) l := by
  refine ⟨stC_len l, _, _, rfl, Nat.le_refl _, by omega, (fun h => by cases h), fun j u hj => ⟨b, 0, rfl, ?_⟩⟩
  obtain ⟨h1, h2⟩ := List.getElem?_eq_some_iff.1 hj
  rw [Nat.zero_add, hc j h1, h2]
theorem steps_lit {w : World} {l : List St} {cs : Array Value} {T : TypeId} (hl : l.length ≤ 1000) (hc : cs = (stC l).toArray) : StepsAt (w.alloc (.cells cs T)) (.slice (some ⟨w.heap.size, 0, none⟩) l.length l.length) l := by
  subst hc
  refine steps_of hl fun j h => ?_
  rw [World.cell?_alloc_new]
  simp [h]
theorem carry_cite (n : Int) (w : World) :
    Calls Tryz.prog 49 #[.int .i64 n] w fun e w' => e = .returned (.agg #[.int .i64 1, .int .i64 n, .int .i64 0]) ∧ Below w.heap.size w w' := by
  go_enter Tryz.func49, Tryz.ntmps49
  go_wp2
  (try simp only [Exit.inBlock, Exit.then])
  refine bodyPost_ret (v := .agg #[.int .i64 1, .int .i64 n, .int .i64 0]) ?_ rfl ?_
  · simp only [results, Tryz.results49]
    go_simp
  · exact ⟨rfl, (Below.refl _ _).alloc (Nat.le_refl _) _⟩
theorem carry_detach (n m : Int) (w : World) :
    Calls Tryz.prog 50 #[.int .i64 n, .int .i64 m] w fun e w' => e = .returned (.agg #[.int .i64 2, .int .i64 n, .int .i64 m]) ∧ Below w.heap.size w w' := by
  go_enter Tryz.func50, Tryz.ntmps50
  go_wp2
  (try simp only [Exit.inBlock, Exit.then])
  refine bodyPost_ret (v := .agg #[.int .i64 2, .int .i64 n, .int .i64 m]) ?_ rfl ?_
  · simp only [results, Tryz.results50]
    go_simp
  · exact ⟨rfl, (Below.refl _ _).alloc (Nat.le_refl _) _⟩
theorem carry_proof (v : Value) (l : List St) (w : World) (hv : StepsAt w v l) (hl : l.length ≤ 1000) :
    Calls Tryz.prog 48 #[v] w fun e w' => ∃ u, e = .returned u ∧ w'.ownsRow w.heap.size 76 3 u l.length (stC l) ∧ Below w.heap.size w w' := by
  have HC := hid (sl_Clone_steps v l.length (stC l) w hv (stC_one l) hl)
  go_enter Tryz.func48, Tryz.ntmps48
  go_wp2_with fail
  refine HC.out.mono ?_
  rintro e w1 ⟨u, rfl, hown, hb⟩
  have HS := hid hown
  clear hown
  go_wp2
  go_ret
  exact ⟨_, rfl, HS.out, hb⟩
def usedL (ns : List Nm) : List Nm := ns.foldl (fun o n => if hasN o n then o else o ++ [n]) []
theorem usedL_snoc (ns : List Nm) (n : Nm) : usedL (ns ++ [n]) = if hasN (usedL ns) n then usedL ns else usedL ns ++ [n] := by unfold usedL; rw [List.foldl_append]; rfl
theorem usedL_facts (ns : List Nm) : (usedL ns).length ≤ ns.length ∧ (∀ x, x ∈ usedL ns ↔ x ∈ ns) ∧ (usedL ns).Nodup := by
  have key : ∀ (l o : List Nm), o.Nodup → (l.foldl (fun o n => if hasN o n then o else o ++ [n]) o).length ≤ o.length + l.length ∧ (∀ x, x ∈ l.foldl (fun o n => if hasN o n then o else o ++ [n]) o ↔ x ∈ o ∨ x ∈ l) ∧ (l.foldl (fun o n => if hasN o n then o else o ++ [n]) o).Nodup := by
    intro l
    induction l with
    | nil => intro o h; exact ⟨by simp, fun x => by simp, h⟩
    | cons n l ih =>
      intro o h
      rw [List.foldl_cons]
      cases e : hasN o n
      · rw [if_neg (by simp)]
        have h2 : (o ++ [n]).Nodup := by
          rw [List.nodup_append]
          refine ⟨h, by simp, fun a ha b hb => ?_⟩
          simp at hb
          subst hb
          rintro rfl
          exact hasN_no.1 e ha
        obtain ⟨i1, i2, i3⟩ := ih _ h2
        refine ⟨by simp at i1 ⊢; omega, fun x => ?_, i3⟩
        rw [i2]; simp [or_assoc]
      · rw [if_pos rfl]
        obtain ⟨i1, i2, i3⟩ := ih _ h
        refine ⟨by simp; omega, fun x => ?_, i3⟩
        rw [i2, List.mem_cons]
        constructor
        · rintro (h | h) <;> simp [h]
        · rintro (h | rfl | h)
          · exact Or.inl h
          · exact Or.inl (hasN_iff.1 e)
          · exact Or.inr h
  have := key ns [] (by simp)
  exact ⟨by have := this.1; simpa [usedL] using this, fun x => by have := this.2.1 x; simpa [usedL] using this, this.2.2⟩
theorem usedL_take (ns : List Nm) {k : Nat} (h : k < ns.length) : usedL (ns.take (k + 1)) = if hasN (usedL (ns.take k)) ns[k] then usedL (ns.take k) else usedL (ns.take k) ++ [ns[k]] := by
  rw [List.take_succ_eq_append_getElem h, usedL_snoc]
set_option maxHeartbeats 1000000 in
theorem carry_used (v : Value) (ns : List Nm) (w : World) (hv : TxtsAt w v ns) (hn : ns.length ≤ 1000) :
    Calls Tryz.prog 47 #[v] w fun e w' => ∃ u, e = .returned u ∧ w'.ownsRow w.heap.size 9 1 u (usedL ns).length ((usedL ns).map Value.string) ∧ Below w.heap.size w w' := by
  have HS := hid hv.2
  obtain ⟨a, cap, rfl, h1, h2, h3, HC⟩ := hv.open
  have HC' := hid HC
  have HF := hid (usedL_facts)
  clear HC h3 hv
  have hown0 := World.ownsRow_nil w w.heap.size 9 1
  go_enter Tryz.func47, Tryz.ntmps47
  go_wp2
  go_loopw [3, 8] (fun u kv wr => ∃ k : Nat, k ≤ ns.length ∧ kv = .int .i64 k ∧ Below w.heap.size w wr ∧ wr.ownsRow w.heap.size 9 1 u (usedL (ns.take k)).length ((usedL (ns.take k)).map Value.string)) (fun _ kv _ => ns.length - (intOf kv).toNat)
  case atStart => exact ⟨0, by omega, rfl, Below.refl _ _, by simpa [usedL] using hown0⟩
  case round =>
    clear hown0
    obtain ⟨k, hk, rfl, hb, hown⟩ := hrel
    have hsz := hb.size
    obtain ⟨f1, f2, f3⟩ := HF.out (ns.take k)
    have hT : TxtsAt wr u3 (usedL (ns.take k)) := ⟨RowK.of_owns hown (by rw [List.length_take] at f1; omega), fun x hx => HS.out x (List.mem_of_mem_take ((f2 x).1 hx))⟩
    by_cases hlt : k < ns.length
    · obtain ⟨b, o, rfl, c0⟩ := HC'.out k hlt
      have c1 := (hb.cell (World.block_lt_of_cell? _ _ c0)).trans c0
      have hst := usedL_take ns hlt
      have hxs := HS.out ns[k] (List.getElem_mem hlt)
      obtain ⟨x, hx⟩ : ∃ x, ns[k] = x := ⟨_, rfl⟩
      rw [hx] at c1 hst hxs
      have hlen : (usedL (ns.take k)).length ≤ k := by rw [List.length_take] at f1; omega
      obtain ⟨U, hU⟩ : ∃ U, usedL (ns.take k) = U := ⟨_, rfl⟩
      rw [hU] at hT hst hown hlen
      have HCT := hid (sl_Contains_strs u3 U x wr hT)
      have HB := hid hb
      have HOWN := hid hown
      have HXS := hid hxs
      clear c0 hx hU f1 f2 f3 hT hb hown hxs
      cases g : hasN U x
      · have HST : Hid (usedL (ns.take (k + 1)) = U ++ [x]) := hid (by rw [hst, g]; rfl)
        rw [g] at HCT
        clear hst g
        go_wp2_with (first
          | (go_at_call 116; refine HCT.out.mono ?_; rintro e w' ⟨rfl, rfl⟩)
          | (at_builtin; refine wpList_append_row rfl _ _ 32 rfl w.heap.size 9 el_str Tryz.underlying32 rfl (by decide) _ _ _ rfl (HOWN.out.alloc _) _ 1 [.string x] rfl (row_one_new _ _ _) (oneCell_one rfl) (by omega) (by omega) (by simp; omega) ?_; intro v' w4 hown4 hgrow4 _))
        go_roundw
        case rel =>
          exact ⟨k + 1, by omega, by go_num, (HB.out.alloc hsz _).grown hgrow4 (by have := HB.out.size; simp; omega) (fun q hq => (HOWN.out.lt q hq).1), by rw [HST.out]; simpa using hown4⟩
        case measure => simp [intOf]; omega
      · have HST : Hid (usedL (ns.take (k + 1)) = U) := hid (by rw [hst, g]; rfl)
        rw [g] at HCT
        clear hst g
        go_wp2_with (first
          | (go_at_call 116; refine HCT.out.mono ?_; rintro e w' ⟨rfl, rfl⟩))
        go_roundw
        case rel => exact ⟨k + 1, by omega, by go_num, HB.out, by rw [HST.out]; exact HOWN.out⟩
        case measure => simp [intOf]; omega
    · have hkl : k = ns.length := by omega
      subst hkl
      rw [List.take_of_length_le (Nat.le_refl _)] at hown
      have HT := hid hown
      clear hT hown f1 f2 f3
      go_wp2
      go_ret
      exact ⟨_, rfl, HT.out, hb⟩
/-- the error of a new entry's names, and of others that it uses. -/
def frI (s : Sg) (l : List En) (o b : Nm) (ns : List Nm) : Int := if libB s l && (nmB o && nmB b) then (if nmdI s l ns = 0 then (if (idxN l o).isSome then 6 else 0) else nmdI s l ns) else 1
theorem frI_no {s : Sg} {l : List En} {o b : Nm} {ns : List Nm} (h : libB s l = false ∨ nmB o = false ∨ nmB b = false) : frI s l o b ns = 1 := by
  unfold frI
  rcases h with h | h | h <;> simp [h]
theorem frI_yes {s : Sg} {l : List En} {o b : Nm} {ns : List Nm} (h1 : libB s l = true) (h2 : nmB o = true) (h3 : nmB b = true) : frI s l o b ns = if nmdI s l ns = 0 then (if (idxN l o).isSome then 6 else 0) else nmdI s l ns := by
  unfold frI
  rw [h1, h2, h3]; rfl
set_option maxHeartbeats 2000000 in
theorem carry_fresh (vs vl vn : Value) (s : Sg) (l : List En) (o b : Nm) (ns : List Nm) (w : World) (hs : SignAt w vs s) (hl : EntsAt w vl l) (hn : TxtsAt w vn ns) (hs1 : s.length ≤ 1000) (hl1 : l.length ≤ 1000) (hn1 : ns.length ≤ 1000) (ho : o.size ≤ 140737488355328) (hbn : b.size ≤ 140737488355328) :
    Calls Tryz.prog 46 #[vs, vl, .string o, .string b, vn] w fun e w' => ∃ u ts, e = .returned (.tuple #[u, .int .i64 (frI s l o b ns)]) ∧ (frI s l o b ns = 0 → givL l ns = some ts ∧ Terms w' u ts) ∧ Below w.heap.size w w' := by
  have HV := hid (deps_Valid vs vl s l w hs hl hs1 hl1)
  have HSY := hid (fun (X : World) (hX : Below w.heap.size w X) => carry_says vs vl vn s l ns X (hs.below hX) (hl.below hX) (hn.below hX) hs1 hl1 hn1)
  have HFI := hid (fun (X : World) (hX : Below w.heap.size w X) => deps_Find vs vl s l o X (hs.below hX) (hl.below hX) hs1 hl1 ho)
  clear hl hs hn
  cases g1 : libB s l
  · have HF : Hid (frI s l o b ns = 1) := hid (frI_no (Or.inl g1))
    rw [g1] at HV
    clear g1
    go_enter Tryz.func46, Tryz.ntmps46
    go_wp2_with fail
    refine HV.out.mono ?_
    rintro e w1 ⟨rfl, hb1⟩
    go_wp2
    go_ret2
    exact ⟨_, [], by rw [HF.out]; rfl, (fun h => by rw [HF.out] at h; cases h), hb1⟩
  rw [g1] at HV
  cases g2 : nmB o
  · have HF : Hid (frI s l o b ns = 1) := hid (frI_no (Or.inr (Or.inl g2)))
    have G2 := hid g2
    clear g1 g2
    go_enter Tryz.func46, Tryz.ntmps46
    go_wp2_with fail
    refine HV.out.mono ?_
    rintro e w1 ⟨rfl, hb1⟩
    go_wp2_with (go_at_call 115; refine (deps_Name _ _ ho).mono ?_; rintro e w' ⟨rfl, rfl⟩; rw [G2.out])
    go_ret2
    exact ⟨_, [], by rw [HF.out]; rfl, (fun h => by rw [HF.out] at h; cases h), hb1⟩
  cases g3 : nmB b
  · have HF : Hid (frI s l o b ns = 1) := hid (frI_no (Or.inr (Or.inr g3)))
    have G2 := hid g2
    have G3 := hid g3
    clear g1 g2 g3
    go_enter Tryz.func46, Tryz.ntmps46
    go_wp2_with fail
    refine HV.out.mono ?_
    rintro e w1 ⟨rfl, hb1⟩
    go_wp2_with fail
    refine (deps_Name _ _ ho).mono ?_
    rintro e w' ⟨rfl, rfl⟩
    rw [G2.out]
    go_wp2_with fail
    refine (deps_Name _ _ hbn).mono ?_
    rintro e w' ⟨rfl, rfl⟩
    rw [G3.out]
    go_wp2
    go_ret2
    exact ⟨_, [], by rw [HF.out]; rfl, (fun h => by rw [HF.out] at h; cases h), hb1⟩
  have HFR : Hid (frI s l o b ns = if nmdI s l ns = 0 then (if (idxN l o).isSome then 6 else 0) else nmdI s l ns) := hid (frI_yes g1 g2 g3)
  have G1 := hid g1
  have G2 := hid g2
  have G3 := hid g3
  clear g1 g2 g3
  go_enter Tryz.func46, Tryz.ntmps46
  go_wp2_with fail
  refine HV.out.mono ?_
  rintro e w1 ⟨rfl, hb1⟩
  go_wp2_with fail
  refine (deps_Name _ _ ho).mono ?_
  rintro e w' ⟨rfl, rfl⟩
  rw [G2.out]
  go_wp2_with fail
  refine (deps_Name _ _ hbn).mono ?_
  rintro e w' ⟨rfl, rfl⟩
  rw [G3.out]
  have HS1 := hid (HSY.out w1 hb1)
  go_wp2_with fail
  refine HS1.out.mono ?_
  rintro e w2 ⟨u, ts, er, hr, rfl, hT, hb2⟩
  have hb := hb1.trans (hb2.mono hb1.size)
  obtain ⟨he, hz⟩ := hr.named
  by_cases h0 : er = 0
  · obtain ⟨-, hg⟩ := hz h0
    subst h0
    have HF2 := hid (HFI.out w2 hb)
    have HT := hid hT
    have HG := hid hg
    have HB := hid hb
    have HNZ := hid he.symm
    clear hr hz hg hb1 hb2 hb he hT HS1
    cases e : idxN l o with
    | none =>
      have HF : Hid (frI s l o b ns = 0) := hid (by rw [HFR.out, HNZ.out, e]; rfl)
      rw [findR_none G1.out e] at HF2
      clear e
      go_wp2_with fail
      refine HF2.out.mono ?_
      rintro e w3 ⟨rfl, hb3⟩
      have HT3 := hid (HT.out.below hb3)
      have HB3 := hid (HB.out.trans (hb3.mono HB.out.size))
      clear hb3
      go_wp2
      go_ret2
      exact ⟨_, ts, by rw [HF.out]; rfl, fun _ => ⟨HG.out, HT3.out⟩, HB3.out⟩
    | some i =>
      have HF : Hid (frI s l o b ns = 6) := hid (by rw [HFR.out, HNZ.out, e]; rfl)
      rw [findR_some G1.out e] at HF2
      clear e
      go_wp2_with fail
      refine HF2.out.mono ?_
      rintro e w3 ⟨rfl, hb3⟩
      have HB3 := hid (HB.out.trans (hb3.mono HB.out.size))
      clear hb3
      go_wp2
      go_ret2
      exact ⟨_, [], by rw [HF.out]; rfl, (fun h => by rw [HF.out] at h; cases h), HB3.out⟩
  · have HF : Hid (frI s l o b ns = er) := hid (by rw [HFR.out, ← he, if_neg h0])
    have n0 : (er != 0) = true := by simpa using h0
    have H0 := hid h0
    clear hr he hz hT h0
    go_wp2
    go_ret2
    exact ⟨_, [], by rw [HF.out]; rfl, fun h => by rw [HF.out] at h; exact absurd h H0.out, hb⟩
end Go.Proofs.YtpflkjldapmgdaaGreat
namespace Go.Proofs.YtpflkjldapmgdaaGreat
open Go Go.RowKit Go.Maps
def en0 : En := ⟨⟨#[]⟩, ⟨#[]⟩, [], [], []⟩
theorem StepsAt.nil (w : World) : StepsAt w (.slice none 0 0) [] := ⟨rfl, none, 0, rfl, Nat.le_refl _, by simp, fun _ => rfl, fun j u hj => by simp [stC] at hj⟩
theorem EntAt.zero (w : World) : EntAt w (.slice none 0 0) (.slice none 0 0) (.slice none 0 0) en0 := ⟨Ints.nil w, TxtsAt.nil w, StepsAt.nil w, by simp [en0, ByteArray.size], by simp [en0, ByteArray.size]⟩
/-- a cell of five of the call's own: it can be read and written. -/
structure C5 (w : World) (b : Nat) (x0 x1 x2 x3 x4 : Value) : Prop where
  c0 : w.cell? ⟨b, 0, none⟩ = some x0
  c1 : w.cell? ⟨b, 1, none⟩ = some x1
  c2 : w.cell? ⟨b, 2, none⟩ = some x2
  c3 : w.cell? ⟨b, 3, none⟩ = some x3
  c4 : w.cell? ⟨b, 4, none⟩ = some x4
  z0 : w.frozen? ⟨b, 0, none⟩ = false
  z1 : w.frozen? ⟨b, 1, none⟩ = false
  z2 : w.frozen? ⟨b, 2, none⟩ = false
  z3 : w.frozen? ⟨b, 3, none⟩ = false
  z4 : w.frozen? ⟨b, 4, none⟩ = false
theorem C5.block {w w' : World} {b : Nat} {x0 x1 x2 x3 x4 : Value} (h : C5 w b x0 x1 x2 x3 x4) (hb : w'.heap[b]? = w.heap[b]?) : C5 w' b x0 x1 x2 x3 x4 := by
  have k : ∀ j, w'.cell? ⟨b, j, none⟩ = w.cell? ⟨b, j, none⟩ := fun j => World.cell?_of_block hb
  have f : ∀ j, w'.frozen? ⟨b, j, none⟩ = w.frozen? ⟨b, j, none⟩ := fun j => World.frozen?_of_block hb
  exact ⟨(k 0).trans h.c0, (k 1).trans h.c1, (k 2).trans h.c2, (k 3).trans h.c3, (k 4).trans h.c4, (f 0).trans h.z0, (f 1).trans h.z1, (f 2).trans h.z2, (f 3).trans h.z3, (f 4).trans h.z4⟩
theorem C5.below {w w' : World} {b : Nat} {x0 x1 x2 x3 x4 : Value} (h : C5 w b x0 x1 x2 x3 x4) (hb : Below w.heap.size w w') : C5 w' b x0 x1 x2 x3 x4 :=
  h.block (hb.block b (World.block_lt_of_cell? _ _ h.c0))
theorem C5.new (w : World) (x0 x1 x2 x3 x4 : Value) (t : TypeId) : C5 (w.alloc (.cells #[x0, x1, x2, x3, x4] t)) w.heap.size x0 x1 x2 x3 x4 := by
  obtain ⟨h0, h1, h2, h3, h4, -⟩ := box5e w x0 x1 x2 x3 x4 t
  exact ⟨h0, h1, h2, h3, h4, World.frozen?_alloc_new _ _ _ _, World.frozen?_alloc_new _ _ _ _, World.frozen?_alloc_new _ _ _ _, World.frozen?_alloc_new _ _ _ _, World.frozen?_alloc_new _ _ _ _⟩
/-- the five cells written. -/
def set5 (w : World) (b : Nat) (y0 y1 y2 y3 y4 : Value) : World := ((((w.setCell ⟨b, 0, none⟩ y0).setCell ⟨b, 1, none⟩ y1).setCell ⟨b, 2, none⟩ y2).setCell ⟨b, 3, none⟩ y3).setCell ⟨b, 4, none⟩ y4
theorem C5.store {w : World} {b : Nat} {x0 x1 x2 x3 x4 : Value} (h : C5 w b x0 x1 x2 x3 x4) (y0 y1 y2 y3 y4 : Value) : C5 (set5 w b y0 y1 y2 y3 y4) b y0 y1 y2 y3 y4 := by
  have e : set5 w b y0 y1 y2 y3 y4 = w.setCells b 0 [y0, y1, y2, y3, y4] := rfl
  have hin := World.cell?_setCells_in b [y0, y1, y2, y3, y4] 0 w (by
    intro j hj
    rw [Nat.zero_add]
    match j, hj with
    | 0, _ => rw [h.c0]; rfl
    | 1, _ => rw [h.c1]; rfl
    | 2, _ => rw [h.c2]; rfl
    | 3, _ => rw [h.c3]; rfl
    | 4, _ => rw [h.c4]; rfl)
  have hf := fun j => World.frozen?_setCells b [y0, y1, y2, y3, y4] 0 w ⟨b, j, none⟩
  rw [e]
  exact ⟨hin 0 (by simp), hin 1 (by simp), hin 2 (by simp), hin 3 (by simp), hin 4 (by simp), (hf 0).trans h.z0, (hf 1).trans h.z1, (hf 2).trans h.z2, (hf 3).trans h.z3, (hf 4).trans h.z4⟩
theorem set5_below {B : Nat} {a w : World} {b : Nat} (h : Below B a w) (hB : B ≤ b) (y0 y1 y2 y3 y4 : Value) : Below B a (set5 w b y0 y1 y2 y3 y4) := by
  unfold set5
  exact ((((h.setCell (p := ⟨b, 0, none⟩) hB _).setCell (p := ⟨b, 1, none⟩) hB _).setCell (p := ⟨b, 2, none⟩) hB _).setCell (p := ⟨b, 3, none⟩) hB _).setCell (p := ⟨b, 4, none⟩) hB _
theorem heap_set5 (w : World) (b : Nat) (y0 y1 y2 y3 y4 : Value) {k : Nat} (h : k ≠ b) : (set5 w b y0 y1 y2 y3 y4).heap[k]? = w.heap[k]? := by
  unfold set5
  rw [Below.heap_setCell _ _ _ _ h, Below.heap_setCell _ _ _ _ h, Below.heap_setCell _ _ _ _ h, Below.heap_setCell _ _ _ _ h, Below.heap_setCell _ _ _ _ h]
theorem owns_blocks {w W' : World} {b : Nat} {e : TypeId} {k : Nat} {v : Value} {n : Nat} {xs : List Value} (h : w.ownsRow b e k v n xs) (hs : ∀ q, b ≤ q → q < w.heap.size → v.ownBlock = some q → W'.heap[q]? = w.heap[q]?) : W'.ownsRow b e k v n xs := by
  have hlt := h.lt
  obtain ⟨h1, h2⟩ := h
  refine ⟨h1, ?_⟩
  rcases h2 with h2 | ⟨g, cap, cur, rfl, r2, r3, r4⟩
  · exact .inl h2
  · exact .inr ⟨g, cap, cur, rfl, r2, by rw [hs g (hlt g rfl).1 (hlt g rfl).2 rfl]; exact r3, r4⟩
/-- what Moved answers. -/
def MovR (s : Sg) (l : List En) (a n o b : Nm) (x : En) (e : Int) : Prop :=
  (frI s l o b [a, n] ≠ 0 ∧ x = en0 ∧ e = frI s l o b [a, n]) ∨ (frI s l o b [a, n] = 0 ∧ ∃ p q y, saysN l a = some p ∧ saysN l n = some q ∧ DetR s p q y ∧
    ((y.2 ≠ 0 ∧ x = en0 ∧ e = y.2) ∨ (y.2 = 0 ∧ x = ⟨o, b, y.1, if a = n then [a] else [a, n], if a = n then mvP1 else mvP⟩ ∧ e = 0)))
def EntQ (R : En → Int → Prop) (w : World) (e : Ending) (w' : World) : Prop := ∃ x vS vU vP er, R x er ∧ e = .returned (.tuple #[.agg #[.string x.name, .string x.who, vS, vU, vP], .int .i64 er]) ∧ EntAt w' vS vU vP x ∧ Below w.heap.size w w'
theorem EntQ.mk {R : En → Int → Prop} {w : World} {e : Ending} {w' : World} (x : En) (vS vU vP : Value) (er : Int) (h1 : R x er) (h2 : e = .returned (.tuple #[.agg #[.string x.name, .string x.who, vS, vU, vP], .int .i64 er])) (h3 : EntAt w' vS vU vP x) (h4 : Below w.heap.size w w') : EntQ R w e w' := ⟨x, vS, vU, vP, er, h1, h2, h3, h4⟩
theorem EntQ.zero {R : En → Int → Prop} {w w' : World} {er : Int} (h1 : R en0 er) (h4 : Below w.heap.size w w') : EntQ R w (.returned (.tuple #[.agg #[.string ⟨#[]⟩, .string ⟨#[]⟩, .slice none 0 0, .slice none 0 0, .slice none 0 0], .int .i64 er])) w' := ⟨en0, _, _, _, er, h1, rfl, EntAt.zero _, h4⟩
theorem usedL_two (a n : Nm) : usedL [a, n] = if a = n then [a] else [a, n] := by
  unfold usedL
  simp only [List.foldl_cons, List.foldl_nil, show hasN [] a = false from rfl, Bool.false_eq_true, if_false, List.nil_append]
  by_cases h : a = n
  · have e : hasN [a] n = true := hasN_iff.2 (by simp [h])
    rw [e, if_pos h]; rfl
  · have e : hasN [a] n = false := hasN_no.2 (by simp; exact fun e => h e.symm)
    rw [e, if_neg h]; rfl
theorem C5.set4 {w : World} {b : Nat} {x0 x1 x2 x3 x4 : Value} (h : C5 w b x0 x1 x2 x3 x4) (y : Value) : C5 (w.setCell ⟨b, 4, none⟩ y) b x0 x1 x2 x3 y := by
  refine ⟨?_, ?_, ?_, ?_, World.cell?_setCell_same _ _ _ h.c4, ?_, ?_, ?_, ?_, ?_⟩
  · rw [World.cell?_setCell_other _ _ _ _ (by simp)]; exact h.c0
  · rw [World.cell?_setCell_other _ _ _ _ (by simp)]; exact h.c1
  · rw [World.cell?_setCell_other _ _ _ _ (by simp)]; exact h.c2
  · rw [World.cell?_setCell_other _ _ _ _ (by simp)]; exact h.c3
  · rw [World.frozen?_setCell]; exact h.z0
  · rw [World.frozen?_setCell]; exact h.z1
  · rw [World.frozen?_setCell]; exact h.z2
  · rw [World.frozen?_setCell]; exact h.z3
  · rw [World.frozen?_setCell]; exact h.z4
theorem owns_slice {w : World} {b : Nat} {e : TypeId} {k : Nat} {v : Value} {n : Nat} {xs : List Value} (h : w.ownsRow b e k v n xs) : ∃ a c, v = .slice a n c := by
  obtain ⟨a, c, h1, -⟩ := owns_open h
  exact ⟨a, c, h1⟩
set_option maxHeartbeats 2000000 in
theorem carry_Moved (vs vl : Value) (s : Sg) (l : List En) (a n o b : Nm) (w : World) (hs : SignAt w vs s) (hl : EntsAt w vl l) (hs1 : s.length ≤ 1000) (hl1 : l.length ≤ 1000) (ha : a.size ≤ 140737488355328) (hn : n.size ≤ 140737488355328) (ho : o.size ≤ 140737488355328) (hbn : b.size ≤ 140737488355328) :
    Calls Tryz.prog 12 #[vs, vl, .string a, .string n, .string o, .string b] w fun e w' => EntQ (MovR s l a n o b) w e w' := by
  have hC5 := C5.new w (.string ⟨#[]⟩) (.string ⟨#[]⟩) (.slice none 0 0) (.slice none 0 0) (.slice none 0 0) 35
  have hbC : Below w.heap.size w (w.alloc (.cells #[.string ⟨#[]⟩, .string ⟨#[]⟩, .slice none 0 0, .slice none 0 0, .slice none 0 0] 35)) := (Below.refl _ _).alloc (Nat.le_refl _) _
  obtain ⟨W, hW⟩ : ∃ W, w.alloc (.cells #[.string ⟨#[]⟩, .string ⟨#[]⟩, .slice none 0 0, .slice none 0 0, .slice none 0 0] 35) = W := ⟨_, rfl⟩
  have hWz : W.heap.size = w.heap.size + 1 := by rw [← hW]; simp
  rw [hW] at hC5 hbC
  have hlit := txts_lit2 W a n 9 ha hn
  have hb0 : Below W.heap.size W (W.alloc (.cells #[.string a, .string n] 9)) := (Below.refl _ _).alloc (Nat.le_refl _) _
  have hbw := hbC.trans (hb0.mono hbC.size)
  have HFR := hid (carry_fresh vs vl _ s l o b [a, n] _ (hs.below hbw) (hl.below hbw) hlit hs1 hl1 (by simp) ho hbn)
  have HC5 := hid (hC5.below hb0)
  have HB0 := hid hbw
  have HSG := hid hs
  have HW := hid hW
  have HWZ := hid hWz
  clear hlit hb0 hl hs hC5 hbC hW hbw hWz
  go_enter Tryz.func12, Tryz.ntmps12
  go_wp2_with fail
  rw [HW.out]
  rw [← HWZ.out]
  refine HFR.out.mono ?_
  rintro e w1 ⟨u, ts, rfl, hz, hb1⟩
  have hb := HB0.out.trans (hb1.mono HB0.out.size)
  have C1 := HC5.out.below hb1
  obtain ⟨er, he⟩ : ∃ er, frI s l o b [a, n] = er := ⟨_, rfl⟩
  have HE := hid he
  rw [he] at hz ⊢
  clear he
  by_cases h0 : er = 0
  · subst h0
    obtain ⟨hg, hT⟩ := hz rfl
    obtain ⟨p, q, rfl, hp, hq⟩ := givL_two hg
    have HR : Hid (∀ y x e, DetR s p q y → ((y.2 ≠ 0 ∧ x = en0 ∧ e = y.2) ∨ (y.2 = 0 ∧ x = ⟨o, b, y.1, if a = n then [a] else [a, n], if a = n then mvP1 else mvP⟩ ∧ e = 0)) → MovR s l a n o b x e) := hid fun y x e hy hx => Or.inr ⟨HE.out, p, q, y, hp, hq, hy, hx⟩
    obtain ⟨ta, tc, rfl, tcap, -, -, TC⟩ := hT.open
    obtain ⟨tb, to, up, rfl, k0, i0⟩ := TC 0 (by simp)
    obtain ⟨tb', to', uq, he', k1, i1⟩ := TC 1 (by simp)
    obtain ⟨rfl, rfl⟩ : tb = tb' ∧ to = to' := by simpa using he'
    simp only [List.getElem_cons_zero, List.getElem_cons_succ, Nat.add_zero, List.length_cons, List.length_nil, Nat.zero_add, Nat.reduceAdd] at k0 k1 tcap i0 i1 ⊢
    have HDE := hid (fun (j : Nat) => kernel_Detach vs up uq s p q (w1.drewN j) ((HSG.out.below hb).drewN j) (i0.drewN j) (i1.drewN j) hs1)
    obtain ⟨pa, pc, rfl, -⟩ := i0.open
    obtain ⟨qa, qc, rfl, -⟩ := i1.open
    have HB := hid hb
    have hszb := hb.size
    have HC1 := hid C1
    have hRlt : w.heap.size < w1.heap.size := World.block_lt_of_cell? _ _ C1.c0
    clear hz hg hp hq TC he' hT hb1 hb i0 i1 C1 HFR HC5 HW
    go_wp2
    go_region_held3 (fun w' => w'.cell? ⟨tb, to, none⟩ = some (.slice pa p.length pc) ∧ w'.cell? ⟨tb, to + 1, none⟩ = some (.slice qa q.length qc)) (first | exact ⟨by assumption, by assumption⟩ | go_keep) (first
      | (go_at_call 42; refine (HDE.out _).mono ?_; rintro e w4 ⟨y, u, hy, rfl, hown, hb4'⟩; have hb4 : Below w1.heap.size w1 w4 := (below_self_drewN w1 _).trans hb4'; have e0 := (hb4.cell (World.block_lt_of_cell? _ _ k0)).trans k0; have e1 := (hb4.cell (World.block_lt_of_cell? _ _ k1)).trans k1))
    have HO4 : Hid (w4.ownsRow w1.heap.size 3 1 u y.1.length (y.1.map (Value.int .i64))) := hid hown
    have HB4 := hid (HB.out.trans (hb4.mono hszb))
    have C4 := HC1.out.below hb4
    have hsz4 := hb4.size
    have HY60 := hid (det_len hy)
    obtain ⟨y1, y2⟩ := y
    by_cases hy0 : y2 = 0
    · subst hy0
      obtain ⟨ya, yc, rfl⟩ := owns_slice hown
      have hlit4 := txts_lit2 w4 a n 9 ha hn
      have hba4 : Below w4.heap.size w4 (w4.alloc (.cells #[.string a, .string n] 9)) := (Below.refl _ _).alloc (Nat.le_refl _) _
      have HUS := hid (carry_used _ [a, n] _ hlit4 (by simp))
      have HBA := hid hba4
      have HCR := hid C4
      have HMV : Hid (MovR s l a n o b ⟨o, b, y1, if a = n then [a] else [a, n], if a = n then mvP1 else mvP⟩ 0) := hid (HR.out _ _ _ hy (Or.inr ⟨rfl, rfl, rfl⟩))
      clear hy hown hb4 hb4' e0 e1 k0 k1 HDE HR C4 hlit4 hba4
      go_wp2_with fail
      refine HUS.out.mono ?_
      rintro e w5 ⟨us, rfl, o5, hb5'⟩
      have hb5 : Below w4.heap.size w4 w5 := HBA.out.trans (hb5'.mono HBA.out.size)
      rw [usedL_two] at o5
      obtain ⟨ua, uc, rfl⟩ := owns_slice o5
      obtain ⟨U, hU⟩ : ∃ U, (if a = n then [a] else [a, n]) = U := ⟨_, rfl⟩
      rw [hU] at o5 HMV ⊢
      have HO5 := hid o5
      have HZ5 := hid hb5.size
      have HU := hid hU
      clear hb5' o5 hU HUS
      go_wp2_with fail
      refine (carry_cite 0 w5).mono ?_
      rintro e w6 ⟨rfl, hb6⟩
      go_wp2_with fail
      refine (carry_cite 1 w6).mono ?_
      rintro e w7 ⟨rfl, hb7⟩
      go_wp2_with fail
      refine (carry_detach 0 1 w7).mono ?_
      rintro e w8 ⟨rfl, hb8⟩
      have HST : StepsAt (w8.alloc (.cells #[.int .i64 1, .int .i64 0, .int .i64 0, .int .i64 1, .int .i64 1, .int .i64 0, .int .i64 2, .int .i64 0, .int .i64 1] 76)) (.slice (some ⟨w8.heap.size, 0, none⟩) 3 3) mvP := steps_lit (l := mvP) (by decide) rfl
      have HPR := hid (carry_proof _ mvP _ HST (by decide))
      have hb8a : Below w8.heap.size w8 (w8.alloc (.cells #[.int .i64 1, .int .i64 0, .int .i64 0, .int .i64 1, .int .i64 1, .int .i64 0, .int .i64 2, .int .i64 0, .int .i64 1] 76)) := (Below.refl _ _).alloc (Nat.le_refl _) _
      have hb58 : Below w5.heap.size w5 w8 := hb6.trans ((hb7.trans (hb8.mono hb7.size)).mono hb6.size)
      clear HST hb6 hb7 hb8
      go_wp2_with fail
      refine HPR.out.mono ?_
      rintro e w9 ⟨ps, rfl, o9, hb9'⟩
      have hb9 : Below w8.heap.size w8 w9 := hb8a.trans (hb9'.mono hb8a.size)
      have hb59 := hb58.trans (hb9.mono hb58.size)
      have hb49 := hb5.trans (hb59.mono hb5.size)
      have o9 : w9.ownsRow (w8.alloc (.cells #[.int .i64 1, .int .i64 0, .int .i64 0, .int .i64 1, .int .i64 1, .int .i64 0, .int .i64 2, .int .i64 0, .int .i64 1] 76)).heap.size 76 3 ps 3 (stC mvP) := o9
      obtain ⟨qa2, qc2, rfl⟩ := owns_slice o9
      have HZ8 := hid hb58.size
      have HO9 := hid (owns_base (b' := w5.heap.size) o9 (by have := hb8a.size; have := hb58.size; omega))
      have HB49 := hid hb49
      have HB59 := hid hb59
      clear hb9' hb9 hb8a hb58 o9 HPR hb59 hb49 hb5
      have hR9 : w.heap.size < w9.heap.size := by have := HB49.out.size; omega
      have CR9 := HCR.out.below HB49.out
      have CX := hid (C5.new w9 (.string o) (.string b) (.slice ya y1.length yc) (.slice ua U.length uc) (.slice qa2 3 qc2) 35)
      obtain ⟨WX, hWX⟩ : ∃ WX, w9.alloc (.cells #[.string o, .string b, .slice ya y1.length yc, .slice ua U.length uc, .slice qa2 3 qc2] 35) = WX := ⟨_, rfl⟩
      have hb9x : Below w9.heap.size w9 WX := hWX ▸ (Below.refl _ _).alloc (Nat.le_refl _) _
      rw [hWX] at CX
      have CRX := hid (CR9.below hb9x)
      have HCR9 := hid CR9
      have HWX := hid hWX
      have HBX := hid hb9x
      have hXR : w.heap.size ≠ w9.heap.size := by omega
      clear hWX CR9 hb9x HCR
      by_cases han : a = n
      · have q1 : (a.toList == n.toList) = true := by rw [bytes_eq]; simpa using han
        have HA := hid han
        clear han
        go_wp2_with fail
        rw [HWX.out]
        refine (carry_cite 0 WX).mono ?_
        rintro e w10 ⟨rfl, hb10⟩
        go_wp2_with fail
        refine (carry_detach 0 0 w10).mono ?_
        rintro e w11 ⟨rfl, hb11⟩
        have HST : StepsAt (w11.alloc (.cells #[.int .i64 1, .int .i64 0, .int .i64 0, .int .i64 2, .int .i64 0, .int .i64 0] 76)) (.slice (some ⟨w11.heap.size, 0, none⟩) 2 2) mvP1 := steps_lit (l := mvP1) (by decide) rfl
        have HPR := hid (carry_proof _ mvP1 _ HST (by decide))
        have hb11a : Below w11.heap.size w11 (w11.alloc (.cells #[.int .i64 1, .int .i64 0, .int .i64 0, .int .i64 2, .int .i64 0, .int .i64 0] 76)) := (Below.refl _ _).alloc (Nat.le_refl _) _
        have hbX11 : Below WX.heap.size WX w11 := hb10.trans (hb11.mono hb10.size)
        clear HST hb10 hb11
        go_wp2_with fail
        refine HPR.out.mono ?_
        rintro e w12 ⟨ps, rfl, o12, hb12'⟩
        have hb12 : Below w11.heap.size w11 w12 := hb11a.trans (hb12'.mono hb11a.size)
        have hbX12 := hbX11.trans (hb12.mono hbX11.size)
        have o12 : w12.ownsRow (w11.alloc (.cells #[.int .i64 1, .int .i64 0, .int .i64 0, .int .i64 2, .int .i64 0, .int .i64 0] 76)).heap.size 76 3 ps 2 (stC mvP1) := o12
        obtain ⟨qa3, qc3, rfl⟩ := owns_slice o12
        have hzX := HBX.out.size
        have hzX1 : w9.heap.size < WX.heap.size := World.block_lt_of_cell? _ _ CX.out.c0
        have HO12 := hid (owns_base (b' := WX.heap.size) o12 (by have := hb11a.size; have := hbX11.size; omega))
        have CX12 := CX.out.below hbX12
        have CR12 := CRX.out.below hbX12
        have CX13 := hid (CX12.set4 (.slice qa3 2 qc3))
        have HC12 := hid CR12
        have hg13 : ∀ k, k ≠ w9.heap.size → (w12.setCell ⟨w9.heap.size, 4, none⟩ (.slice qa3 2 qc3)).heap[k]? = w12.heap[k]? := fun k hk => Below.heap_setCell _ _ _ _ hk
        have CR13 := hid (CR12.block (hg13 w.heap.size hXR))
        have HG13 := hid hg13
        have HBX12 := hid hbX12
        obtain ⟨d0, d1, d2, d3, d4, y0, y1', y2', y3, y4⟩ := CX12
        obtain ⟨g0, g1, g2, g3, g4, -, -, -, -, -⟩ := CX13.out
        obtain ⟨c0, c1, c2, c3, c4, z0, z1, z2, z3, z4⟩ := CR13.out
        clear hb12' hb12 hb11a hbX11 o12 HPR hbX12 CR12 hg13
        go_wp2
        (try simp only [Exit.inBlock, Exit.then])
        clear c0 c1 c2 c3 c4 z0 z1 z2 z3 z4 d0 d1 d2 d3 d4 y0 y1' y2' y3 y4 g0 g1 g2 g3 g4
        have hR9' := hR9
        have hz12 := HBX12.out.size
        have hz4 := HB49.out.size
        have hz5 := HB59.out.size
        have hz45 := HZ5.out
        have hall : ∀ k, k ≠ w.heap.size → k < w9.heap.size → (set5 (w12.setCell ⟨w9.heap.size, 4, none⟩ (.slice qa3 2 qc3)) w.heap.size (.string o) (.string b) (.slice ya y1.length yc) (.slice ua U.length uc) (.slice qa3 2 qc3)).heap[k]? = w9.heap[k]? := fun k h1 h2 => by
          rw [heap_set5 _ _ _ _ _ _ _ h1, HG13.out k (by omega), HBX12.out.block k (by omega), HBX.out.block k h2]
        have r1 : Ints (set5 (w12.setCell ⟨w9.heap.size, 4, none⟩ (.slice qa3 2 qc3)) w.heap.size (.string o) (.string b) (.slice ya y1.length yc) (.slice ua U.length uc) (.slice qa3 2 qc3)) (.slice ya y1.length yc) y1 := Ints.of_owns (owns_blocks HO4.out fun q h1 h2 _ => by rw [hall q (by omega) (by omega), HB49.out.block q h2]) (by have h60 : y1.length ≤ 60 := HY60.out; omega)
        have r2 : TxtsAt (set5 (w12.setCell ⟨w9.heap.size, 4, none⟩ (.slice qa3 2 qc3)) w.heap.size (.string o) (.string b) (.slice ya y1.length yc) (.slice ua U.length uc) (.slice qa3 2 qc3)) (.slice ua U.length uc) U := ⟨RowK.of_owns (owns_blocks HO5.out fun q h1 h2 _ => by
          have := HBA.out.size
          rw [hall q (by omega) (by omega), HB59.out.block q h2]) (by rw [← HU.out, if_pos HA.out]; simp), fun x hx => by rw [← HU.out, if_pos HA.out] at hx; simp at hx; rw [hx]; exact ha⟩
        have r3 : StepsAt (set5 (w12.setCell ⟨w9.heap.size, 4, none⟩ (.slice qa3 2 qc3)) w.heap.size (.string o) (.string b) (.slice ya y1.length yc) (.slice ua U.length uc) (.slice qa3 2 qc3)) (.slice qa3 2 qc3) mvP1 := RowK.of_owns (owns_blocks HO12.out fun q h1 h2 _ => by rw [heap_set5 _ _ _ _ _ _ _ (by omega), HG13.out q (by omega)]) (by decide)
        have HMV1 : MovR s l a n o b ⟨o, b, y1, U, mvP1⟩ 0 := by have := HMV.out; rwa [if_pos HA.out] at this
        have hbF : Below w.heap.size w (w12.setCell ⟨w9.heap.size, 4, none⟩ (.slice qa3 2 qc3)) := (((HB4.out.trans (HB49.out.mono (by omega))).trans (HBX.out.mono (by omega))).trans (HBX12.out.mono (by omega))).setCell (p := ⟨w9.heap.size, 4, none⟩) (by show w.heap.size ≤ w9.heap.size; omega) _
        obtain ⟨c0, c1, c2, c3, c4, -, -, -, -, -⟩ := CR13.out.store (.string o) (.string b) (.slice ya y1.length yc) (.slice ua U.length uc) (.slice qa3 2 qc3)
        refine bodyPost_ret (v := .tuple #[.agg #[.string o, .string b, .slice ya y1.length yc, .slice ua U.length uc, .slice qa3 2 qc3], .int .i64 0]) ?_ rfl (EntQ.mk ⟨o, b, y1, U, mvP1⟩ (.slice ya y1.length yc) (.slice ua U.length uc) (.slice qa3 2 qc3) 0 HMV1 rfl ⟨r1, r2, r3, ho, hbn⟩ (set5_below hbF (Nat.le_refl _) _ _ _ _ _))
        unfold set5 at c0 c1 c2 c3 c4
        clear r1 r2 r3 hall hbF HMV1
        simp only [results, Tryz.results12]
        go_simp
      · have q1 : (a.toList == n.toList) = false := by rw [bytes_eq]; simpa using han
        have HA := hid han
        clear han
        obtain ⟨c0, c1, c2, c3, c4, z0, z1, z2, z3, z4⟩ := HCR9.out
        go_wp2
        (try simp only [Exit.inBlock, Exit.then])
        clear c0 c1 c2 c3 c4 z0 z1 z2 z3 z4
        have hz4 := HB49.out.size
        have hz5 := HB59.out.size
        have hz45 := HZ5.out
        have hza := HBA.out.size
        have hzs : (set5 w9 w.heap.size (.string o) (.string b) (.slice ya y1.length yc) (.slice ua U.length uc) (.slice qa2 3 qc2)).heap.size = w9.heap.size := by unfold set5; simp
        obtain ⟨WF, hWF⟩ : ∃ WF, (set5 w9 w.heap.size (.string o) (.string b) (.slice ya y1.length yc) (.slice ua U.length uc) (.slice qa2 3 qc2)).alloc (.cells #[.string o, .string b, .slice ya y1.length yc, .slice ua U.length uc, .slice qa2 3 qc2] 35) = WF := ⟨_, rfl⟩
        have hall : ∀ k, k ≠ w.heap.size → k < w9.heap.size → WF.heap[k]? = w9.heap[k]? := fun k h1 h2 => by
          rw [← hWF, Below.heap_alloc _ _ _ (by rw [hzs]; exact h2), heap_set5 _ _ _ _ _ _ _ h1]
        have hb5f := set5_below (HB4.out.trans (HB49.out.mono (by omega))) (Nat.le_refl _) (.string o) (.string b) (.slice ya y1.length yc) (.slice ua U.length uc) (.slice qa2 3 qc2)
        have hbF : Below w.heap.size w WF := hWF ▸ hb5f.alloc (by rw [hzs]; omega) _
        have C5S := (HCR9.out.store (.string o) (.string b) (.slice ya y1.length yc) (.slice ua U.length uc) (.slice qa2 3 qc2)).block (w' := WF) (by rw [← hWF]; exact Below.heap_alloc _ _ _ (by rw [hzs]; omega))
        have r1 : Ints WF (.slice ya y1.length yc) y1 := Ints.of_owns (owns_blocks HO4.out fun q h1 h2 _ => by rw [hall q (by omega) (by omega), HB49.out.block q h2]) (by have h60 : y1.length ≤ 60 := HY60.out; omega)
        have r2 : TxtsAt WF (.slice ua U.length uc) U := ⟨RowK.of_owns (owns_blocks HO5.out fun q h1 h2 _ => by rw [hall q (by omega) (by omega), HB59.out.block q h2]) (by rw [← HU.out, if_neg HA.out]; simp), fun x hx => by
          rw [← HU.out, if_neg HA.out] at hx; simp at hx
          rcases hx with rfl | rfl
          · exact ha
          · exact hn⟩
        have r3 : StepsAt WF (.slice qa2 3 qc2) mvP := RowK.of_owns (owns_blocks HO9.out fun q h1 h2 _ => hall q (by omega) (by omega)) (by decide)
        have HMV1 : MovR s l a n o b ⟨o, b, y1, U, mvP⟩ 0 := by have := HMV.out; rwa [if_neg HA.out] at this
        obtain ⟨c0, c1, c2, c3, c4, -, -, -, -, -⟩ := C5S
        unfold set5 at hWF
        rw [hWF]
        refine bodyPost_ret (v := .tuple #[.agg #[.string o, .string b, .slice ya y1.length yc, .slice ua U.length uc, .slice qa2 3 qc2], .int .i64 0]) ?_ rfl (EntQ.mk ⟨o, b, y1, U, mvP⟩ (.slice ya y1.length yc) (.slice ua U.length uc) (.slice qa2 3 qc2) 0 HMV1 rfl ⟨r1, r2, r3, ho, hbn⟩ hbF)
        clear r1 r2 r3 hall hbF HMV1 hb5f hWF hzs
        simp only [results, Tryz.results12]
        go_simp
    · have HX : Hid (MovR s l a n o b en0 y2) := hid (HR.out _ _ _ hy (Or.inl ⟨hy0, rfl, rfl⟩))
      have n0 : (y2 != 0) = true := by simpa using hy0
      have HC4 := hid C4
      obtain ⟨c0, c1, c2, c3, c4, z0, z1, z2, z3, z4⟩ := C4
      clear hy hown hb4 hb4' e0 e1 k0 k1 HDE HR hy0
      go_wp2
      (try simp only [Exit.inBlock, Exit.then])
      clear c0 c1 c2 c3 c4 z0 z1 z2 z3 z4
      obtain ⟨c0, c1, c2, c3, c4, -, -, -, -, -⟩ := HC4.out.store (.string ⟨#[]⟩) (.string ⟨#[]⟩) (.slice none 0 0) (.slice none 0 0) (.slice none 0 0)
      refine bodyPost_ret (v := .tuple #[.agg #[.string ⟨#[]⟩, .string ⟨#[]⟩, .slice none 0 0, .slice none 0 0, .slice none 0 0], .int .i64 y2]) ?_ rfl (EntQ.zero HX.out (set5_below HB4.out (Nat.le_refl _) _ _ _ _ _))
      unfold set5 at c0 c1 c2 c3 c4
      simp only [results, Tryz.results12]
      go_simp
  · have HX : Hid (MovR s l a n o b en0 er) := hid (Or.inl ⟨by rw [HE.out]; exact h0, rfl, HE.out.symm⟩)
    have n0 : (er != 0) = true := by simpa using h0
    have HC1 := hid C1
    obtain ⟨c0, c1, c2, c3, c4, z0, z1, z2, z3, z4⟩ := C1
    clear hz h0
    go_wp2
    (try simp only [Exit.inBlock, Exit.then])
    clear c0 c1 c2 c3 c4 z0 z1 z2 z3 z4
    obtain ⟨c0, c1, c2, c3, c4, -, -, -, -, -⟩ := HC1.out.store (.string ⟨#[]⟩) (.string ⟨#[]⟩) (.slice none 0 0) (.slice none 0 0) (.slice none 0 0)
    refine bodyPost_ret (v := .tuple #[.agg #[.string ⟨#[]⟩, .string ⟨#[]⟩, .slice none 0 0, .slice none 0 0, .slice none 0 0], .int .i64 er]) ?_ rfl (EntQ.zero HX.out (set5_below hb (Nat.le_refl _) _ _ _ _ _))
    unfold set5 at c0 c1 c2 c3 c4
    simp only [results, Tryz.results12]
    go_simp
end Go.Proofs.YtpflkjldapmgdaaGreat
