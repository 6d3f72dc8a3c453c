/-
  WHAT IT HOLDS: contract of Sorted of the reference of layer 6. Conditions: the argument reads as a list of names.
-/
import Derived.Laws.CopyOwn
import Derived.Deep.RegionLaw
import Derived.Sort.Walk0
import Derived.Test.YtlbjbmpkaniojaaGreatZRBlameMerges23
import Derived.Test.YtlbjbmpkaniojaaGreatZRBlameMerges22
import Derived.Test.YtlbjbmpkaniojaaGreatZRBlameMerges14
import Derived.Test.YtlbjbmpkaniojaaGreatZRBlameMerges18
import Derived.Test.YtlbjbmpkaniojaaGreatZRBlameMerges25
namespace Go.Proofs.YtlbjbmpkaniojaaGreat
open Go Go.RowKit Go.Maps
theorem bless (a b : Nm) : Op.bytesLess a.toList b.toList = decide (ltN a b) := by
  rw [Go.Proofs.bytesLess_eq, Lib.toList_data, Lib.toList_data]; rfl
theorem splice_get {α : Type} (L : List α) (off : Nat) (cs : List α) (h : off ≤ L.length) (j : Nat) : (splice L off cs)[j]? = if j < off then L[j]? else if j < off + cs.length then cs[j - off]? else L[j]? := by
  unfold splice
  have hl : (L.take off).length = off := by rw [List.length_take]; omega
  by_cases h1 : j < off
  · rw [if_pos h1, List.getElem?_append_left (by omega), List.getElem?_take, if_pos h1]
  · rw [if_neg h1, List.getElem?_append_right (by omega), hl]
    by_cases h2 : j < off + cs.length
    · rw [if_pos h2, List.getElem?_append_left (by omega)]
    · rw [if_neg h2, List.getElem?_append_right (by omega), List.getElem?_drop]
      congr 1
      omega
/-- the row behind a copy by one place and a store. -/
theorem ins_row {α : Type} (O : List α) (e x : α) {k : Nat} (hk : k ≤ O.length) : (splice (O ++ [e]) (k + 1) (O.drop k)).set k x = O.take k ++ x :: O.drop k := by
  have hl : (O.take k).length = k := by rw [List.length_take]; omega
  have hd : (O.drop k).length = O.length - k := List.length_drop
  have hlen : (O ++ [e]).length = O.length + 1 := by simp
  have hsl : (splice (O ++ [e]) (k + 1) (O.drop k)).length = O.length + 1 := by rw [length_splice _ _ _ (by rw [hlen, hd]; omega), hlen]
  apply List.ext_getElem?
  intro j
  rw [List.getElem?_set]
  by_cases hjk : k = j
  · subst hjk
    rw [if_pos rfl, if_pos (by omega), List.getElem?_append_right (by omega), hl, Nat.sub_self]
    rfl
  · rw [if_neg hjk, splice_get _ _ _ (by omega), hd]
    by_cases h : j < k + 1
    · rw [if_pos h, List.getElem?_append_left (by omega), List.getElem?_append_left (by omega), List.getElem?_take, if_pos (by omega)]
    · rw [if_neg h, List.getElem?_append_right (l₁ := O.take k) (by omega), hl]
      obtain ⟨d, hd'⟩ : ∃ d, j = k + 1 + d := ⟨j - (k + 1), by omega⟩
      subst hd'
      have e1 : k + 1 + d - (k + 1) = d := by omega
      have e2 : k + 1 + d - k = d + 1 := by omega
      rw [e1, e2, List.getElem?_cons_succ]
      split
      · rfl
      · rw [List.getElem?_eq_none (by omega), List.getElem?_eq_none (by omega)]
theorem splice_take {α : Type} {L xs cs : List α} {n off : Nat} (h : L.take n = xs) (hn : n ≤ L.length) (ho : off + cs.length ≤ n) : (splice L off cs).take n = splice xs off cs := by
  subst h
  have hl : (L.take n).length = n := by rw [List.length_take]; omega
  apply List.ext_getElem?
  intro j
  rw [List.getElem?_take, splice_get _ _ _ (by omega), splice_get _ _ _ (by omega), List.getElem?_take]
  by_cases h1 : j < n
  · rw [if_pos h1, if_pos h1]
  · rw [if_neg h1, if_neg (by omega), if_neg (by omega), if_neg h1]
/-- the cells of a row of the call's own. -/
theorem own_cells {w : World} {base g n cap : Nat} {e : TypeId} {xs : List Value} (h : w.ownsRow base e 1 (.slice (some ⟨g, 0, none⟩) n cap) n xs) : ∃ cur : List Value, w.heap[g]? = some (.cells cur.toArray e (0, 0)) ∧ cur.take n = xs ∧ n ≤ cur.length ∧ cur.length = cap ∧ cap ≤ maxLen ∧ base ≤ g := by
  rcases h.2 with ⟨h', _⟩ | ⟨g', cap', cur, h', hb, hg, hnc, hcm, hcs, htake⟩
  · simp at h'
  · simp only [Value.slice.injEq, Option.some.injEq, Addr.mk.injEq, and_true, true_and] at h'
    obtain ⟨rfl, rfl⟩ := h'
    exact ⟨cur.toList, by simpa using hg, by simpa using htake, by simp; omega, by simp; omega, hcm, hb⟩
theorem own_of_cells {w : World} {base g n cap : Nat} {e : TypeId} {cur : List Value} (hg : w.heap[g]? = some (.cells cur.toArray e (0, 0))) (hn : n ≤ cur.length) (hc : cur.length = cap) (hm : cap ≤ maxLen) (hb : base ≤ g) : w.ownsRow base e 1 (.slice (some ⟨g, 0, none⟩) n cap) n (cur.take n) :=
  ⟨by simp; omega, .inr ⟨g, cap, cur.toArray, rfl, hb, hg, by omega, hm, by simp; omega, by simp⟩⟩
theorem nms_one (l : List Nm) : ∀ u ∈ l.map Value.string, u.oneCell' = true := by
  intro u hu
  obtain ⟨x, -, rfl⟩ := List.mem_map.1 hu
  rfl
theorem str_size1 : (Tryz.prog.info? 9).map (·.size) = some 1 := by kernel_rfl
set_option maxHeartbeats 4000000 in
set_option maxRecDepth 100000 in
theorem ref6_Sorted (v : Value) (l : List Nm) (w : World) (hv : TxtsAt w v l) (hl : l.length ≤ 100000) :
    Calls Tryz.prog 150 #[v] w fun e w' => ∃ u, e = .returned u ∧ w'.ownsRow w.heap.size 9 1 u (srtN l).length ((srtN l).map Value.string) ∧ Below w.heap.size w w' := by
  have HNS := hid hv.2
  obtain ⟨la, lc, rfl, -, ll, -, HC⟩ := hv.open
  have HC' := hid HC
  have h00 := hid (World.ownsRow_nil w w.heap.size 9 1)
  clear HC hv
  go_enter Tryz.func150, Tryz.ntmps150
  go_wp2
  go_loopw [3, 4] (fun uo kv wr => ∃ (k m : Nat) (o : List Nm), k ≤ l.length ∧ kv = .int .i64 k ∧ o.length = m ∧ o = srtN (l.take k) ∧ wr.ownsRow w.heap.size 9 1 uo m (o.map Value.string) ∧ Below w.heap.size w wr) (fun _ kv _ => l.length - (intOf kv).toNat)
  case atStart => exact ⟨0, 0, [], by omega, rfl, rfl, rfl, h00.out, Below.refl _ _⟩
  case round =>
    clear h00
    obtain ⟨k, m, o, hk, rfl, hom, hos, hown, hb⟩ := hrel
    have hsz := hb.size
    have hmk : m ≤ k := by
      have := srtN_len (l.take k)
      rw [← hos, hom, List.length_take] at this; omega
    by_cases hlt : k < l.length
    · obtain ⟨lb, lo, rfl, c0⟩ := HC'.out k hlt
      have c1 := (hb.cell (World.block_lt_of_cell? _ _ c0)).trans c0
      have hxs := HNS.out l[k] (List.getElem_mem hlt)
      have hin : ∀ x ∈ o, x.size ≤ 140737488355328 := fun x hx => HNS.out x (List.mem_of_mem_take (((srtN_asc (l.take k)).2 x).1 (hos ▸ hx)))
      have HTA : Hid (TxtsAt wr u3 o) := hid (TxtsAt.of_owns (by rw [hom]; exact hown) (by omega) hin)
      have hsn := srtN_snoc (l.take k) l[k]
      rw [← List.take_succ_eq_append_getElem hlt, ← hos] at hsn
      obtain ⟨x, hx⟩ : ∃ x, l[k] = x := ⟨_, rfl⟩
      rw [hx] at c0 c1 hxs hsn
      have HHA := hid (ref6_Has u3 o x wr HTA.out)
      obtain ⟨ua, uc, rfl⟩ := owns_slice hown
      have HOWN := hid hown
      have HB := hid hb
      have HOM := hid hom
      have y0 : (k : Int) < (l.length : Int) := by omega
      have hhas : ∃ z, hasN o x = z := ⟨_, rfl⟩
      obtain ⟨z, hz⟩ := hhas
      rw [hz] at HHA hsn
      cases z with
      | true =>
        have HSN : Hid (srtN (l.take (k + 1)) = o) := hid (by rw [hsn]; rfl)
        clear hsn hx hos hown hb hom hin hz c0
        go_wp2_with fail
        refine HHA.out.mono ?_
        rintro e w2 ⟨rfl, hw2⟩
        subst hw2
        go_wp2
        go_roundw
        case rel => exact ⟨k + 1, m, o, by omega, by go_num, HOM.out, HSN.out.symm, HOWN.out, HB.out⟩
        case measure => simp [intOf]; omega
      | false =>
        have HSN : Hid (srtN (l.take (k + 1)) = insN x o) := hid (by rw [hsn]; rfl)
        obtain ⟨ta, tc, hte, -, -, -, TC⟩ := HTA.out.open
        obtain ⟨rfl, -, rfl⟩ := Value.slice.inj hte
        have TC' := hid TC
        clear hte
        have HIN := hid hin
        have HXS := hid hxs
        have HC0 := hid c0
        clear hsn hx hos hown hb hin hz c0 TC
        go_wp2_with fail
        refine HHA.out.mono ?_
        rintro e w2 ⟨rfl, hw2⟩
        subst hw2
        go_wp2
        rename World => wa
        go_loopw [5] (fun av wr => ∃ (j q : Nat), j ≤ m ∧ av = .int .i64 j ∧ wr = wa.drewN q ∧ ∀ i (h : i < o.length), i < j → ltN o[i] x) (fun av _ => m - (intOf av).toNat)
        case atStart => exact ⟨0, 0, by omega, rfl, rfl, fun _ _ h => by omega⟩
        case round =>
          obtain ⟨j, q, hj, rfl, rfl, hrel⟩ := hrel
          have HRL := hid hrel
          clear hrel
          by_cases hgo : ∃ h : j < o.length, ltN o[j] x
          · obtain ⟨hjo, hlj⟩ := hgo
            obtain ⟨b, oo, rfl, f0⟩ := TC'.out j hjo
            have q1 := bless o[j] x
            rw [decide_eq_true hlj] at q1
            have hjm : j < m := by have := HOM.out; omega
            have HST := hid (fun i (h : i < o.length) (hi : i < j + 1) => (show ltN o[i] x from by
              rcases Nat.lt_succ_iff_lt_or_eq.1 hi with h1 | h1
              · exact HRL.out i h h1
              · subst h1; exact hlj))
            obtain ⟨y, hy⟩ : ∃ y, o[j] = y := ⟨_, rfl⟩
            rw [hy] at f0 q1
            clear hlj hy
            go_wp2
            go_quiet (fail)
            go_wp2
            go_roundw
            case rel => exact ⟨j + 1, _, by omega, by go_num, (by first | rfl | exact World.drewN_drewN _ _ _), HST.out⟩
            case measure => simp [intOf]; omega
          · have HIE := hid (insN_at (l := o) (n := x) (k := j) HRL.out (by have := HOM.out; omega) (fun h hl => hgo ⟨h, hl⟩))
            by_cases hjm : j < m
            case' pos =>
              have hjo : j < o.length := by have := HOM.out; omega
              obtain ⟨b, oo, rfl, f0⟩ := TC'.out j hjo
              have q1 := bless o[j] x
              rw [decide_eq_false (fun h => hgo ⟨hjo, h⟩)] at q1
              obtain ⟨y, hy⟩ : ∃ y, o[j] = y := ⟨_, rfl⟩
              rw [hy] at f0 q1
              clear hy hgo
              go_wp2
              go_quiet (fail)
            case' neg =>
              clear hgo
              go_wp2
              go_quiet (fail)
            all_goals
              obtain ⟨wd, hwd⟩ : ∃ wd, (wa.drewN q).drewN nq = wd := ⟨_, rfl⟩
              have hbd : Below wa.heap.size wa wd := hwd ▸ below_drewN (below_self_drewN _ _) _
              rw [hwd]
              have HOD := hid (owns_below HOWN.out hbd)
              have HBD := hid (HB.out.trans (hbd.mono hsz))
              have hszd := HBD.out.size
              clear hwd hbd HTA HOWN HB TC' c1 hsz HRL
              go_wp2_with (at_builtin; refine wpList_append_lie rfl _ _ 38 rfl w.heap.size 9 el_str Tryz.underlying38 rfl (by decide) _ _ _ rfl (HOD.out.alloc _) _ 1 [.string ⟨#[]⟩] rfl (row_one_new _ _ _) (oneCell_one rfl) (by omega) (by omega) (by omega) (by simp; omega) _ rfl ?_; intro g cap w4 hown4 hgrow4 hat4 hlt4)
              have hB4 := (HBD.out.alloc hszd (.cells #[.string ⟨#[]⟩] 9)).grown hgrow4 (by simp; omega) (fun q hq => (HOD.out.lt q hq).1)
              obtain ⟨cur, hcur, htk, hcl, hcc, hcm, hbg⟩ := own_cells hown4
              obtain ⟨CS, hCS⟩ : ∃ CS, (o.map Value.string).drop j = CS := ⟨_, rfl⟩
              have HCS := hid hCS
              have hcsl : CS.length = m - j := by rw [← hCS, List.length_drop, List.length_map, HOM.out]
              have HONE := hid (show ∀ v ∈ CS, v.oneCell' = true from fun v hv => by
                rw [← hCS] at hv
                exact nms_one o v (List.mem_of_mem_drop hv))
              have HPS := hid (show ∀ i v, CS[i]? = some v → w4.drew.cell? ((⟨g, j, none⟩ : Addr).add i) = some v from fun i v hv => by
                have hi := (List.getElem?_eq_some_iff.1 hv).1
                rw [← hCS, List.getElem?_drop] at hv
                have := hown4.cellAt (j + i) (by omega)
                rw [List.getElem?_append_left (by rw [List.length_map, HOM.out]; omega), hv] at this
                have hadd : (⟨g, j, none⟩ : Addr).add i = ⟨g, j + i, none⟩ := by unfold Addr.add; split <;> simp_all
                rw [hadd]; exact (World.cell?_of_block (w := w4) rfl).trans this)
              have HOWN4 := hid hown4
              have HHC : Hid (w4.drew.heap[g]? = some (.cells cur.toArray 9 (0, 0))) := hid hcur
              have HB4 : Hid (Below w.heap.size w w4.drew) := hid hB4.drew
              have hw1 : IntKind.i64.wrap ((j : Int) + 1) = (j : Int) + 1 := IntWalk.i64_in _ (by omega)
              have hj0 : (0 : Int) ≤ (j : Int) := by omega
              have hj1 : (j : Int) + 1 ≤ (m : Int) + 1 := by omega
              have hj2 : (j : Int) ≤ (m : Int) + 1 := by omega
              have hj3 : (0 : Int) ≤ (j : Int) + 1 := by omega
              have hj4 : ((j : Int) + 1).toNat = j + 1 := by omega
              have hcj : ¬ cap = j := by omega
              clear hCS hown4 hgrow4 hat4 hcur hB4
              have HN : Hid (CS.length = Nat.min (m + 1 - j) (m - j)) := hid (by rw [hcsl]; show _ = min _ _; omega)
              have HP : Hid (0 < CS.length → (if cap = j + 1 then some (⟨g, 0, none⟩ : Addr) else some ⟨g, j + 1, none⟩) = some ⟨g, j + 1, none⟩ ∧ ∃ ad, some (⟨g, j, none⟩ : Addr) = some ad ∧ ∀ i v, CS[i]? = some v → w4.drew.cell? (ad.add i) = some v) := hid fun h0 => ⟨if_neg (by omega), _, rfl, HPS.out⟩
              have HF : Hid (j + 1 + CS.length ≤ cur.length) := hid (by omega)
              go_region_law (refine step_copy_splice rfl (.tmp 41) (.tmp 44) 38 38 rfl 9 Tryz.underlying38 str_size1 (if cap = j + 1 then some ⟨g, 0, none⟩ else some ⟨g, j + 1, none⟩) (some ⟨g, j, none⟩) (m - j) (cap - (j + 1)) (m + 1 - j) (cap - j) ?hd ?hs g (j + 1) cur 9 HHC.out CS HN.out HP.out HF.out HONE.out w.heap.size w HB4.out hbg ?_; (case hd => go_simp); (case hs => go_simp); intro w5 hg5 hb5)
              have hlen5 : (splice cur (j + 1) CS).length = cur.length := length_splice _ _ _ HF.out
              have hown5 : w5.ownsRow w.heap.size 9 1 (.slice (some ⟨g, 0, none⟩) (m + 1) cap) (m + 1) ((splice cur (j + 1) CS).take (m + 1)) := own_of_cells hg5.out (by rw [hlen5]; exact hcl) (by rw [hlen5]; exact hcc) hcm hbg
              rw [splice_take htk hcl (by omega)] at hown5
              obtain ⟨hown6, hg6⟩ := hown5.stored j (.string x)
              have f5 := hown5.frozenAt j
              obtain ⟨v5, e5⟩ : ∃ v5, w5.cell? ⟨g, j, none⟩ = some v5 := by
                have h1 := hown5.cellAt j (by omega)
                have h2 := hown5.1
                rw [List.getElem?_eq_getElem (by omega)] at h1
                exact ⟨_, h1⟩
              rw [← HCS.out, ins_row _ _ _ (by rw [List.length_map, HOM.out]; omega), show (o.map Value.string).take j ++ Value.string x :: (o.map Value.string).drop j = (insN x o).map Value.string from by rw [HIE.out]; simp] at hown6
              have HO6 := hid hown6
              have HB6 : Hid (Below w.heap.size w (w5.setCell ⟨g, j, none⟩ (.string x))) := hid (hb5.setCell (p := ⟨g, j, none⟩) hbg (.string x))
              have c5 := (hb5.cell (World.block_lt_of_cell? _ _ HC0.out)).trans HC0.out
              clear hown5 hown6 hg6 hg5 hb5 hw1 hj0 hj1 hj2 hj3 hj4 htk hcl hcc hcm hcsl
              go_wp2
              go_roundw
              case rel => exact ⟨k + 1, m + 1, _, by omega, by go_num, by rw [insN_len, HOM.out], HSN.out.symm, HO6.out, HB6.out⟩
              case measure => simp [intOf]; omega
    · have hkl : k = l.length := by omega
      subst hkl
      rw [List.take_of_length_le (Nat.le_refl _)] at hos
      subst hos
      subst hom
      have HOWN := hid hown
      clear hown
      go_wp2
      go_ret
      exact ⟨_, rfl, HOWN.out, hb⟩
end Go.Proofs.YtlbjbmpkaniojaaGreat
