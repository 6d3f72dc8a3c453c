/-
  WHAT IT HOLDS: contract of Terms of the reference of layer 7. Conditions: the argument reads as a list of terms.
-/
import Derived.BigQuiet
import Derived.Test.YtpflkjldapmgdaaGreatZRCarryDerives43
import Derived.Test.YtpflkjldapmgdaaGreatZRCarryDerives37
import Derived.Test.YtpflkjldapmgdaaGreatZRCarryDerives42
namespace Go.Proofs.YtpflkjldapmgdaaGreat
open Go Go.RowKit Go.Maps
theorem withL_at : ∀ {l : List (List Int)} {t : List Int} {k : Nat}, (∀ j (h : j < l.length), j < k → cmpL l[j] t < 0) → k ≤ l.length → (∀ h : k < l.length, ¬ cmpL l[k] t < 0) → (∀ h : k < l.length, l[k] ≠ t) → withL l t = l.take k ++ t :: l.drop k
  | [], t, k, _, hk, _, _ => by simp at hk; subst hk; rfl
  | x :: l, t, 0, _, _, h, h' => by
    have h1 := h (by simp)
    have h2 := h' (by simp)
    simp only [List.getElem_cons_zero] at h1 h2
    rw [withL, if_pos (cmpL_total h1 h2)]; rfl
  | x :: l, t, k + 1, h1, hk, h, h' => by
    have h0 := h1 0 (by simp) (by omega)
    simp only [List.getElem_cons_zero] at h0
    have h2 : ¬ cmpL t x < 0 := by rw [cmpL_swap]; omega
    have h3 : ¬ cmpL t x = 0 := by rw [cmpL_swap]; omega
    rw [withL, if_neg h2, if_neg h3, withL_at (l := l) (t := t) (k := k) (fun j hj hjk => by
      have := h1 (j + 1) (by simpa using hj) (by omega)
      rw [List.getElem_cons_succ] at this
      exact this) (by simpa using hk) (fun hl => by
      have := h (by simpa using hl)
      rw [List.getElem_cons_succ] at this
      exact this) (fun hl => by
      have := h' (by simpa using hl)
      rw [List.getElem_cons_succ] at this
      exact this)]
    rfl
theorem withL_there : ∀ {l : List (List Int)} {t : List Int} {k : Nat}, (∀ j (h : j < l.length), j < k → cmpL l[j] t < 0) → (h : k < l.length) → l[k] = t → withL l t = l
  | [], _, _, _, h, _ => by simp at h
  | x :: l, t, 0, _, _, e => by
    simp only [List.getElem_cons_zero] at e
    subst e
    rw [withL, if_neg (cmpL_irr _), if_pos (cmpL_self _)]
  | x :: l, t, k + 1, h1, h, e => by
    have h0 := h1 0 (by simp) (by omega)
    simp only [List.getElem_cons_zero] at h0
    have h2 : ¬ cmpL t x < 0 := by rw [cmpL_swap]; omega
    have h3 : ¬ cmpL t x = 0 := by rw [cmpL_swap]; omega
    rw [List.getElem_cons_succ] at e
    rw [withL, if_neg h2, if_neg h3, withL_there (l := l) (t := t) (k := k) (fun j hj hjk => by
      have := h1 (j + 1) (by simpa using hj) (by omega)
      rw [List.getElem_cons_succ] at this
      exact this) (by simpa using h) e]
theorem sortedL_snoc (l : List (List Int)) (t : List Int) : sortedL (l ++ [t]) = withL (sortedL l) t := by unfold sortedL; rw [List.foldl_append]; rfl
theorem sortedL_len (l : List (List Int)) : (sortedL l).length ≤ l.length := by have := sorted_len l []; simpa [sortedL] using this
/-- a copy as one step of a region: all blocks but the row's own stay. -/
theorem step_copy_keep {P : Program} {ops : Array Oper} {o : Oper} {a : Act} {w : World} {K : Act → World → Prop} {Q : Exit → Act → World → Prop} {E : Prop} (hgd : o.guard = none) (d s : Operand) (dT sT : TypeId)
    (ho : o.op = .call { callee := .builtin .copy, args := #[d, s], argTypes := #[dT, sT] }) (elem : TypeId) (hu : P.underlying dT = some (.slice elem)) (hsz : (P.info? elem).map (·.size) = some 1)
    (dp sp : Option Addr) (dLen dCap sLen sCap : Nat) (hd : a.eval d = .slice dp dLen dCap) (hs : a.eval s = .slice sp sLen sCap)
    (g off : Nat) (cur : List Value) (t : TypeId) (hg : w.heap[g]? = some (.cells cur.toArray t (0, 0))) (cs : List Value) (hn : cs.length = Nat.min sLen dLen)
    (hpos : 0 < cs.length → dp = some ⟨g, off, none⟩ ∧ ∃ ad, sp = some ad ∧ ∀ j v, cs[j]? = some v → w.cell? (ad.add j) = some v)
    (hfit : off + cs.length ≤ cur.length) (h1 : ∀ v ∈ cs, v.oneCell' = true)
    (h : ∀ w', RowKit.Hid (w'.heap[g]? = some (.cells (splice cur off cs).toArray t (0, 0))) → w.grownBy w' (some g) → K (a.put o.dst (goInt cs.length)) w') :
    if Region.wanted o (yielded ops a.tmps) = true then Oper.wp P o a w K Q else E := by
  have hw : Region.wanted o (yielded ops a.tmps) = true := by simp [Region.wanted, hgd]
  rw [if_pos hw]
  by_cases h0 : cs.length = 0
  · obtain rfl : cs = [] := List.eq_nil_of_length_eq_zero h0
    have hrun := run_copy_none (P := P) w dT sT o.type elem dp sp dLen dCap sLen sCap hu hsz (by simpa using hn.symm)
    unfold Oper.wp
    simp [execOp, ho, resolve, invoke, builtin, hd, hs, hrun, Result.andThen]
    exact h w (show _ = _ by simpa [splice] using hg) ⟨rfl, rfl, rfl, Nat.le_refl _, fun _ _ _ => rfl⟩
  · obtain ⟨rfl, ad, rfl, hsrc⟩ := hpos (by omega)
    have hrun := run_copy_row (P := P) w dT sT o.type elem g off dLen dCap ad sLen sCap cur.toArray t cs hu hsz hg hn hsrc (by simpa using hfit) h1
    unfold Oper.wp
    simp [execOp, ho, resolve, invoke, builtin, hd, hs, hrun, Result.andThen]
    exact h _ (show _ = _ by simpa [splice] using setRow_heap w g _ _ t _ hg) ⟨rfl, rfl, rfl, by simp [World.setRow], fun k _ hne => setRow_other w g k _ (fun e => hne (by rw [e]))⟩
/-- a term is put into its place. -/
theorem TeS.ins {wd w4 w5 w6 : World} {base : Nat} {u : Value} {vs : List Value} {l : List (List Int)} (h : TeS wd base u vs l) (hs4 : wd.heap.size ≤ w4.heap.size) (h4 : ∀ q, q < wd.heap.size → some q ≠ u.ownBlock → w4.heap[q]? = wd.heap[q]?)
    {g : Nat} (hat : u.ownBlock = some g ∨ wd.heap.size ≤ g) (hg4 : g < w4.heap.size) (h5 : w4.grownBy w5 (some g)) (h6 : Below w5.heap.size w5 w6) {x : List Int} {v : Value} (hv : w6.ownsRow w5.heap.size 3 1 v x.length (x.map (Value.int .i64))) (hx : x.length ≤ 1000)
    {k cap n : Nat} (hk : k ≤ l.length) (hn : l.length = n) (hown : (w6.setCell ⟨g, k, none⟩ v).ownsRow base 28 1 (.slice (some ⟨g, 0, none⟩) (n + 1) cap) (n + 1) (vs.take k ++ v :: vs.drop k)) :
    TeS (w6.setCell ⟨g, k, none⟩ v) base (.slice (some ⟨g, 0, none⟩) (n + 1) cap) (vs.take k ++ v :: vs.drop k) (l.take k ++ x :: l.drop k) := by
  subst hn
  have hs5 := h5.size
  have hs6 := h6.size
  have hsz : (w6.setCell ⟨g, k, none⟩ v).heap.size = w6.heap.size := by simp [World.setCell]
  have hvk : k ≤ vs.length := by rw [h.len]; exact hk
  have hl1 : (vs.take k).length = k := by rw [List.length_take]; omega
  have hl2 : (l.take k).length = k := by rw [List.length_take]; omega
  refine ⟨by simpa [Nat.min_eq_left hk, show k + (l.length - k + 1) = l.length + 1 by omega] using hown, by simp [h.len], fun W' hW j hj hj' => ?_⟩
  have k6 : ∀ q, q < w6.heap.size → q ≠ g → W'.heap[q]? = w6.heap[q]? := fun q hq hne =>
    (hW q (by rw [hsz]; exact hq) (fun e => hne (Option.some.inj e))).trans (Below.heap_setCell _ _ _ _ (fun e => hne e))
  have kd : ∀ q, q < wd.heap.size → some q ≠ u.ownBlock → W'.heap[q]? = wd.heap[q]? := fun q hq hne => by
    have hqg : q ≠ g := fun e => by
      subst e
      rcases hat with ha | ha
      · exact hne ha.symm
      · omega
    rw [k6 q (by omega) hqg, h6.block q (by omega), h5.block q (by omega) (fun e => hqg (Option.some.inj e)), h4 q hq hne]
  rcases Nat.lt_trichotomy j k with hjk | hjk | hjk
  · have e1 : (vs.take k ++ v :: vs.drop k)[j] = vs[j]'(by omega) := by rw [List.getElem_append_left (by omega), List.getElem_take]
    have e2 : (l.take k ++ x :: l.drop k)[j] = l[j]'(by omega) := by rw [List.getElem_append_left (by omega), List.getElem_take]
    rw [e1, e2]
    exact h.rd W' kd j (by omega) (by omega)
  · subst hjk
    have e1 : (vs.take j ++ v :: vs.drop j)[j] = v := by rw [List.getElem_append_right (by omega)]; simp [hl1]
    have e2 : (l.take j ++ x :: l.drop j)[j] = x := by rw [List.getElem_append_right (by omega)]; simp [hl2]
    rw [e1, e2]
    exact ints_own hv hx fun q h1 h2 => k6 q h2 (by omega)
  · have hjl : j < l.length + 1 := by simp at hj; omega
    obtain ⟨d, hd⟩ : ∃ d, j = k + 1 + d := ⟨j - (k + 1), by omega⟩
    subst hd
    have e1 : (vs.take k ++ v :: vs.drop k)[k + 1 + d]? = vs[k + d]? := by
      rw [List.getElem?_append_right (by omega), hl1, show k + 1 + d - k = d + 1 by omega, List.getElem?_cons_succ, List.getElem?_drop]
    have e2 : (l.take k ++ x :: l.drop k)[k + 1 + d]? = l[k + d]? := by
      rw [List.getElem?_append_right (by omega), hl2, show k + 1 + d - k = d + 1 by omega, List.getElem?_cons_succ, List.getElem?_drop]
    rw [List.getElem?_eq_getElem hj', List.getElem?_eq_getElem (show k + d < vs.length by rw [h.len]; omega)] at e1
    rw [List.getElem?_eq_getElem hj, List.getElem?_eq_getElem (show k + d < l.length by omega)] at e2
    rw [Option.some.inj e1, Option.some.inj e2]
    exact h.rd W' kd (k + d) (by omega) (by rw [h.len]; omega)
theorem app_keep {wd w4 : World} {lit : Obj} {u : Value} {g H : Nat} (hgrow : (wd.alloc lit).grownBy w4 u.ownBlock) (hat : u.ownBlock = some g ∨ g = H) (hH : wd.heap.size ≤ H) (hlt : g < w4.heap.size) :
    (∀ q, q < wd.heap.size → some q ≠ u.ownBlock → w4.drew.heap[q]? = wd.heap[q]?) ∧ (u.ownBlock = some g ∨ wd.heap.size ≤ g) ∧ g < w4.drew.heap.size ∧ wd.heap.size ≤ w4.drew.heap.size :=
  ⟨fun q hq hne => (hgrow.block q (by simp; omega) hne).trans (Below.heap_alloc _ _ _ hq), hat.imp id (fun h => by omega), hlt, by have := hgrow.size; simp at this; show wd.heap.size ≤ w4.heap.size; omega⟩
theorem app_blk {w w' : World} {lit : Obj} {g n c : Nat} (h : (w.alloc lit).grownBy w' (Value.slice (some ⟨w.heap.size, 0, none⟩) n c).ownBlock) (hg : g < w.heap.size) : w'.heap[g]? = w.heap[g]? :=
  (h.block g (by simp; omega) (fun e => by have h2 : g = w.heap.size := Option.some.inj e; omega)).trans (Below.heap_alloc _ _ _ hg)
theorem term_size1 : (Tryz.prog.info? 28).map (·.size) = some 1 := by kernel_rfl
/-- a term of a growing row, where the world has drawn. -/
theorem TeS.at {w : World} {base g n cap : Nat} {vs : List Value} {l : List (List Int)} (h : TeS w base (.slice (some ⟨g, 0, none⟩) n cap) vs l) {j : Nat} (hj : j < l.length) : ∃ a c, w.cell? ⟨g, j, none⟩ = some (.slice a l[j].length c) ∧ Ints w (.slice a l[j].length c) l[j] := by
  have hv : j < vs.length := by rw [h.len]; exact hj
  have hr := h.rd w (fun _ _ _ => rfl) j hj hv
  obtain ⟨a, c, he, -⟩ := hr.open
  obtain ⟨_, _, hsl⟩ := owns_slice h.top
  have hn : n = l.length := by cases hsl; rfl
  subst hn
  have hc := h.top.cellAt j (by omega)
  rw [List.getElem?_eq_getElem hv, he] at hc
  exact ⟨a, c, hc, he ▸ hr⟩
theorem TeS.one {w : World} {base : Nat} {u : Value} {vs : List Value} {l : List (List Int)} (h : TeS w base u vs l) : ∀ v ∈ vs, v.oneCell' = true := by
  intro v hv
  obtain ⟨i, hi, rfl⟩ := List.getElem_of_mem hv
  obtain ⟨a, c, he, -⟩ := (h.rd w (fun _ _ _ => rfl) i (by rw [← h.len]; exact hi) hi).open
  rw [he]; rfl
set_option maxHeartbeats 8000000 in
set_option maxRecDepth 100000 in
theorem ref7_Terms (v : Value) (l : List (List Int)) (w : World) (hv : Terms w v l) (hl : l.length ≤ 100000) (hq : ∀ x ∈ l, x.length ≤ 1000) :
    Calls Tryz.prog 103 #[v] w fun e w' => ∃ u vs, e = .returned u ∧ TeS w' w.heap.size u vs (sortedL l) ∧ Below w.heap.size w w' := by
  obtain ⟨la, lc, rfl, -, ll, -, HC⟩ := hv.open
  have HC' := hid HC
  have HQ := hid hq
  have h00 := hid (TeS.nil w w.heap.size)
  clear HC hv hq
  go_enter Tryz.func103, Tryz.ntmps103
  go_wp2
  go_loopw [3, 4] (fun uo kv wr => ∃ (k m : Nat) (vs : List Value) (o : List (List Int)), k ≤ l.length ∧ kv = .int .i64 k ∧ o.length = m ∧ o = sortedL (l.take k) ∧ TeS wr w.heap.size uo vs o ∧ Below w.heap.size w wr) (fun _ kv _ => l.length - (intOf kv).toNat)
  case atStart => exact ⟨0, 0, [], [], by omega, rfl, rfl, rfl, h00.out, Below.refl _ _⟩
  case round =>
    clear h00
    rename World => wa
    obtain ⟨k, m, vs, o, hk, rfl, hom, hos, hT, hb⟩ := hrel
    have hsz := hb.size
    have hmk : m ≤ k := by
      have := sortedL_len (l.take k)
      rw [← hos, hom, List.length_take] at this; omega
    by_cases hlt : k < l.length
    · obtain ⟨lb, lo, xv, rfl, c0, hx0⟩ := HC'.out k hlt
      have c1 := (hb.cell (World.block_lt_of_cell? _ _ c0)).trans c0
      have hsn := sortedL_snoc (l.take k) l[k]
      rw [← List.take_succ_eq_append_getElem hlt, ← hos] at hsn
      have hx1 := hx0.below hb
      have hxl := HQ.out _ (List.getElem_mem hlt)
      obtain ⟨xa, xc, rfl, -⟩ := hx0.open
      obtain ⟨x, hx⟩ : ∃ x, l[k] = x := ⟨_, rfl⟩
      rw [hx] at c0 c1 hsn hx0 hx1 hxl
      have hown := hT.top
      rw [hom] at hown
      obtain ⟨ua, uc, rfl⟩ := owns_slice hown
      have HT := hid hT
      have HB := hid hb
      have HOM := hid hom
      have HSN := hid hsn
      have HX0 := hid hx0
      have HX1 := hid hx1
      have HC0 := hid c0
      have y0 : (k : Int) < (l.length : Int) := by omega
      clear hsn hx hos hT hown hb hom c0 hx0 hx1
      go_wp2
      go_loopw [5] (fun av wr => ∃ (j q : Nat), j ≤ m ∧ av = .int .i64 j ∧ wr = wa.drewN q ∧ ∀ i (h : i < o.length), i < j → cmpL o[i] x < 0) (fun av _ => m - (intOf av).toNat)
      case atStart => exact ⟨0, 0, by omega, rfl, rfl, fun _ _ h => by omega⟩
      case round =>
        obtain ⟨j, q, hj, rfl, hwq, hrel⟩ := hrel
        have HRL := hid hrel
        have c2 : wr.cell? ⟨lb, lo + k, none⟩ = some (.slice xa x.length xc) := by rw [hwq]; exact c1
        have HWQ := hid hwq
        have hbq : Below wa.heap.size wa wr := hwq ▸ below_self_drewN _ _
        have HBQ := hid hbq
        clear hrel hwq hbq c1
        by_cases hjm : j < m
        case' pos =>
          have hjo : j < o.length := by have := HOM.out; omega
          have hm0 : 0 < m := by omega
          have htop := HT.out.top
          rw [HOM.out] at htop
          obtain ⟨g0, cap0, he0, -, -⟩ := owns_some htop hm0
          obtain ⟨rfl, -, rfl⟩ := Value.slice.inj he0
          obtain ⟨oa, oc, f0, fi⟩ := (HT.out.below HBQ.out).at hjo
          clear he0 htop
          have HCP : ∀ n, Hid (Calls Tryz.prog 156 #[.slice oa o[j].length oc, .slice xa x.length xc] (wr.drewN n) fun e w' => e = .returned (.int .i64 (cmpL o[j] x)) ∧ ∃ n', w' = (wr.drewN n).drewN n') := fun n => hid (ref1_Compare _ _ _ _ _ (fi.drewN n) ((HX1.out.below HBQ.out).drewN n))
          have HZ := hid (cmpL_zero (a := o[j]) (b := x))
          have HTH := hid (fun (e : o[j] = x) => withL_there HRL.out hjo e)
          have HST := hid (fun (hc : cmpL o[j] x < 0) i (h : i < o.length) (hi : i < j + 1) => (show cmpL o[i] x < 0 from by
              rcases Nat.lt_succ_iff_lt_or_eq.1 hi with h1 | h1
              · exact HRL.out i h h1
              · subst h1; exact hc))
          have HIE := hid (fun (hc : ¬ cmpL o[j] x < 0) (hne : ¬ o[j] = x) => withL_at (l := o) (t := x) (k := j) HRL.out (by omega) (fun h => hc) (fun h => hne))
          obtain ⟨z, hz⟩ : ∃ z, cmpL o[j] x = z := ⟨_, rfl⟩
          obtain ⟨y, hy⟩ : ∃ y, o[j] = y := ⟨_, rfl⟩
          simp only [hz] at HCP HST HIE HZ
          have hyv := hid hy
          simp only [hy] at f0 HCP HTH HIE HZ fi
          clear hz hy
          have HFI := hid fi
          clear fi
          by_cases hc : z < 0
          · have HST2 := hid (HST.out hc)
            clear HST HIE HTH HZ
            go_wp2
            go_quiet ((go_at_call 156; exact Calls.quiet_of (HCP _).out))
            go_wp2
            go_roundw
            case rel => exact ⟨j + 1, _, by omega, by go_num, by rw [HWQ.out, World.drewN_drewN], HST2.out⟩
            case measure => simp [intOf]; omega
          have hd : decide (z < 0) = false := by simp [hc]
          by_cases hyx : y = x
          · have HSN2 : Hid (sortedL (l.take (k + 1)) = o) := hid (by rw [HSN.out]; exact HTH.out hyx)
            have hyd := decide_eq_true hyx
            clear HST HIE HTH HZ hyx
            go_wp2
            go_quiet ((go_at_call 156; exact Calls.quiet_of (HCP _).out))
            obtain ⟨we, hwe⟩ : ∃ we, wr.drewN nq = we := ⟨_, rfl⟩
            rw [hwe]
            have hbe : Below wr.heap.size wr we := hwe ▸ below_self_drewN _ _
            have f0 := (hbe.cell (World.block_lt_of_cell? _ _ f0)).trans f0
            have c2 := (hbe.cell (World.block_lt_of_cell? _ _ c2)).trans c2
            have HSM : ∀ n, Hid (Calls Tryz.prog 16 #[.slice oa y.length oc, .slice xa x.length xc] (we.drewN n) fun e w' => e = .returned (.bool (decide (y = x))) ∧ ∃ n', w' = (we.drewN n).drewN n') := fun n => hid (ref6_SameTerm _ _ _ _ _ ((HFI.out.below hbe).drewN n) (((HX1.out.below HBQ.out).below hbe).drewN n))
            simp only [hyd] at HSM
            have HBE := hid (HBQ.out.trans (hbe.mono HBQ.out.size))
            clear hwe hbe HCP HWQ
            go_wp2
            go_quiet ((go_at_call 16; exact Calls.quiet_of (HSM _).out))
            go_wp2
            go_roundw
            case rel => exact ⟨k + 1, m, vs, o, by omega, by go_num, HOM.out, HSN2.out.symm, HT.out.below (below_drewN HBE.out _), HB.out.trans ((below_drewN HBE.out _).mono hsz)⟩
            case measure => simp [intOf]; omega
          have hyd := decide_eq_false hyx
          have HIE2 := hid (HIE.out hc hyx)
          clear HST HIE HTH HZ hyx
          go_wp2
          go_quiet ((go_at_call 156; exact Calls.quiet_of (HCP _).out))
          obtain ⟨we, hwe⟩ : ∃ we, wr.drewN nq = we := ⟨_, rfl⟩
          rw [hwe]
          have hbe : Below wr.heap.size wr we := hwe ▸ below_self_drewN _ _
          have f0 := (hbe.cell (World.block_lt_of_cell? _ _ f0)).trans f0
          have c2 := (hbe.cell (World.block_lt_of_cell? _ _ c2)).trans c2
          have HSM : ∀ n, Hid (Calls Tryz.prog 16 #[.slice oa y.length oc, .slice xa x.length xc] (we.drewN n) fun e w' => e = .returned (.bool (decide (y = x))) ∧ ∃ n', w' = (we.drewN n).drewN n') := fun n => hid (ref6_SameTerm _ _ _ _ _ ((HFI.out.below hbe).drewN n) (((HX1.out.below HBQ.out).below hbe).drewN n))
          simp only [hyd] at HSM
          have HBE := hid (HBQ.out.trans (hbe.mono HBQ.out.size))
          clear hwe hbe HCP HWQ
          go_wp2
          go_quiet ((go_at_call 16; exact Calls.quiet_of (HSM _).out))
        case' neg =>
          have HIE2 := hid (withL_at (l := o) (t := x) (k := j) HRL.out (by have := HOM.out; omega) (fun h => by have := HOM.out; omega) (fun h => by have := HOM.out; omega))
          go_wp2
          go_quiet (fail)
          obtain ⟨we, hwe⟩ : ∃ we, wr.drewN nq = we := ⟨_, rfl⟩
          rw [hwe]
          have hbe : Below wr.heap.size wr we := hwe ▸ below_self_drewN _ _
          have c2 := (hbe.cell (World.block_lt_of_cell? _ _ c2)).trans c2
          have HBE := hid (HBQ.out.trans (hbe.mono HBQ.out.size))
          clear hwe hbe HWQ
          go_wp2
          go_quiet (fail)
        all_goals
          obtain ⟨wd, hwd⟩ : ∃ wd, we.drewN nq = wd := ⟨_, rfl⟩
          have hbd : Below wa.heap.size wa wd := hwd ▸ below_drewN HBE.out _
          rw [hwd]
          have HTD := hid (HT.out.below hbd)
          have hownd := HTD.out.top
          rw [HOM.out] at hownd
          have HOD := hid hownd
          have HBD := hid (HB.out.trans (hbd.mono hsz))
          have hszd := HBD.out.size
          clear hwd hownd hbd
          go_wp2_with (at_builtin; refine wpList_append_lie rfl _ _ 56 rfl w.heap.size 28 el_term Tryz.underlying56 rfl (by decide) _ _ _ rfl (HOD.out.alloc _) _ 1 [.slice none 0 0] rfl (row_one_new _ _ _) (oneCell_one rfl) (by omega) (by omega) (by omega) (by simp; omega) _ rfl ?_; intro g cap w4 hown4 hgrow4 hat4 hlt4)
          obtain ⟨cur, hcur, htk, hcl, hcc, hcm, hbg⟩ := own_cells hown4
          obtain ⟨CS, hCS⟩ : ∃ CS, vs.drop j = CS := ⟨_, rfl⟩
          have HCS := hid hCS
          have hvl : vs.length = m := by rw [HTD.out.len, HOM.out]
          have hcsl : CS.length = m - j := by rw [← hCS, List.length_drop, hvl]
          have HONE := hid (show ∀ v ∈ CS, v.oneCell' = true from fun v hv => by
            rw [← hCS] at hv
            exact HTD.out.one v (List.mem_of_mem_drop hv))
          have HPS := hid (show ∀ i v, CS[i]? = some v → w4.drew.cell? ((⟨g, j, none⟩ : Addr).add i) = some v from fun i v hv => by
            have hi := (List.getElem?_eq_some_iff.1 hv).1
            rw [← hCS, List.getElem?_drop] at hv
            have := hown4.cellAt (j + i) (by omega)
            rw [List.getElem?_append_left (by omega), hv] at this
            have hadd : (⟨g, j, none⟩ : Addr).add i = ⟨g, j + i, none⟩ := by unfold Addr.add; split <;> simp_all
            rw [hadd]; exact (World.cell?_of_block (w := w4) rfl).trans this)
          have hw1 : IntKind.i64.wrap ((j : Int) + 1) = (j : Int) + 1 := IntWalk.i64_in _ (by omega)
          have hj0 : (0 : Int) ≤ (j : Int) := by omega
          have hj1 : (j : Int) + 1 ≤ (m : Int) + 1 := by omega
          have hj2 : (j : Int) ≤ (m : Int) + 1 := by omega
          have hj3 : (0 : Int) ≤ (j : Int) + 1 := by omega
          have hj4 : ((j : Int) + 1).toNat = j + 1 := by omega
          have hcj : ¬ cap = j := by omega
          have HHC : Hid (w4.drew.heap[g]? = some (.cells cur.toArray 28 (0, 0))) := hid hcur
          have HH4 := hid (app_keep hgrow4 hat4 (by simp) hlt4)
          have HBW4 : Hid (Below w.heap.size w w4.drew) := hid ((HBD.out.alloc hszd _).grown hgrow4 (by simp; omega) (fun q hq => (HOD.out.lt q hq).1)).drew
          have HN : Hid (CS.length = Nat.min (m + 1 - j) (m - j)) := hid (by rw [hcsl]; show _ = min _ _; omega)
          have HP : Hid (0 < CS.length → (if cap = j + 1 then some (⟨g, 0, none⟩ : Addr) else some ⟨g, j + 1, none⟩) = some ⟨g, j + 1, none⟩ ∧ ∃ ad, some (⟨g, j, none⟩ : Addr) = some ad ∧ ∀ i v, CS[i]? = some v → w4.drew.cell? (ad.add i) = some v) := hid fun h0 => ⟨if_neg (by omega), _, rfl, HPS.out⟩
          have HF : Hid (j + 1 + CS.length ≤ cur.length) := hid (by omega)
          clear hCS hown4 hgrow4 hat4 hcur hlt4 HPS
          go_region_law (refine step_copy_keep rfl (.tmp 51) (.tmp 54) 56 56 rfl 28 Tryz.underlying56 term_size1 (if cap = j + 1 then some ⟨g, 0, none⟩ else some ⟨g, j + 1, none⟩) (some ⟨g, j, none⟩) (m - j) (cap - (j + 1)) (m + 1 - j) (cap - j) ?hd ?hs g (j + 1) cur 28 HHC.out CS HN.out HP.out HF.out HONE.out ?_; (case hd => go_simp); (case hs => go_simp); intro w5 hg5 hgk5)
          clear HP
          generalize (if cap = j + 1 then some (⟨g, 0, none⟩ : Addr) else some ⟨g, j + 1, none⟩) = dpv
          have hlen5 : (splice cur (j + 1) CS).length = cur.length := length_splice _ _ _ HF.out
          have hown5 : w5.ownsRow w.heap.size 28 1 (.slice (some ⟨g, 0, none⟩) (m + 1) cap) (m + 1) ((splice cur (j + 1) CS).take (m + 1)) := own_of_cells hg5.out (by rw [hlen5]; exact hcl) (by rw [hlen5]; exact hcc) hcm hbg
          rw [splice_take htk hcl (by omega)] at hown5
          have hg5l : g < w5.heap.size := (hown5.lt g rfl).2
          have hb5 : Below w.heap.size w w5 := HBW4.out.grown hgk5 HBW4.out.size (fun q hq => by cases hq; exact hbg)
          have c5 := (hb5.cell (World.block_lt_of_cell? _ _ HC0.out)).trans HC0.out
          have c6 := cell_alloc_keep (.cells #[] 3) c5
          have HOWNL := hid (World.ownsRow_lit (base := w5.heap.size) (e := 3) (size := 1) w5 #[] 0 (Nat.le_refl _) (by simp [maxLen]) rfl)
          have hbl : Below w5.heap.size w5 (w5.alloc (.cells #[] 3)) := (Below.refl _ _).alloc (Nat.le_refl _) _
          have HRX : Hid (Ints (w5.alloc (.cells #[] 3)) (.slice xa x.length xc) x) := hid ((HX0.out.below hb5).below hbl)
          have HO5 := hid hown5
          have HB5 := hid hb5
          have HGK5 := hid hgk5
          have HBL := hid hbl
          obtain ⟨v5, e5⟩ : ∃ v5, w5.cell? ⟨g, j, none⟩ = some v5 := by
            have h1 := hown5.cellAt j (by omega)
            have h2 := hown5.1
            rw [List.getElem?_eq_getElem (by omega)] at h1
            exact ⟨_, h1⟩
          have HE5 := hid e5
          have HF5 := hid (hown5.frozenAt j)
          have HGL := hid hg5l
          clear hw1 hj0 hj1 hj2 hj3 hj4 hcj hg5 hgk5 hb5 hown5 hbl htk hcl hcc hcm c2 e5 hg5l
          go_wp2_with (at_builtin; refine wpList_append_row rfl _ _ 28 rfl w5.heap.size 3 el_int Tryz.underlying28 rfl (by decide) _ _ _ rfl HOWNL.out _ x.length (x.map (Value.int .i64)) rfl HRX.out (ints_one _) (by omega) (by omega) (by simp) ?_; intro v6 w6 hown6 hgrow6 _; obtain ⟨a6, k6, he6⟩ := owns_slice hown6; subst he6; have e6 := app_blk hgrow6 HGL.out; have c7 := (World.cell?_of_block (a := ⟨g, j, none⟩) e6).trans HE5.out; have f7 := (World.frozen?_of_block (a := ⟨g, j, none⟩) e6).trans HF5.out; have HOWN6 := hid hown6; have HGROW6 := hid hgrow6; have HE6 := hid e6; clear hown6 hgrow6 e6)
          have hb6 : Below w5.heap.size w5 w6 := HBL.out.grown HGROW6.out (by simp) (fun q hq => by cases hq; exact Nat.le_refl _)
          have hown6 : w6.ownsRow w.heap.size 28 1 (.slice (some ⟨g, 0, none⟩) (m + 1) cap) (m + 1) (splice (vs ++ [.slice none 0 0]) (j + 1) CS) := owns_frm2 HO5.out (fun q hq => by cases hq; exact HE6.out)
          obtain ⟨hown7, -⟩ := hown6.stored j (.slice a6 x.length k6)
          rw [← HCS.out, ins_row _ _ _ (by omega)] at hown7
          have hins := HTD.out.ins (w4 := w4.drew) HH4.out.2.2.2 HH4.out.1 HH4.out.2.1 HH4.out.2.2.1 HGK5.out hb6 (by simpa using HOWN6.out) hxl (by have := HOM.out; omega) HOM.out hown7
          rw [← HIE2.out, ← HSN.out] at hins
          have HINS := hid hins
          have HL7 : Hid ((sortedL (l.take (k + 1))).length = m + 1) := hid (by rw [HSN.out, HIE2.out]; simp; have := HOM.out; omega)
          have HBF : Hid (Below w.heap.size w (w6.setCell ⟨g, j, none⟩ (.slice a6 x.length k6))) := hid ((HB5.out.trans (hb6.mono HB5.out.size)).setCell (p := ⟨g, j, none⟩) hbg _)
          clear hb6 hown6 hown7 hins c7 f7
          go_roundw
          case rel => exact ⟨k + 1, m + 1, _, _, by omega, by go_num, HL7.out, rfl, HINS.out, HBF.out⟩
          case measure => simp [intOf]; omega
    · have hkl : k = l.length := by omega
      subst hkl
      rw [List.take_of_length_le (Nat.le_refl _)] at hos
      subst hos
      have HT := hid hT
      clear hT
      go_wp2
      go_ret
      exact ⟨_, vs, rfl, HT.out, hb⟩
end Go.Proofs.YtpflkjldapmgdaaGreat
