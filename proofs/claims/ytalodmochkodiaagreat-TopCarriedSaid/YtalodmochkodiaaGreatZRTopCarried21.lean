/-
  WHAT IT HOLDS: contracts of args and Args of package term. Conditions: the arguments read as data; a valid sign.
  WHAT IT HOLDS: what is kept over a yield: it depends only on blocks that the loop's body does not turn. Over any program. No condition.
-/
import Derived.Test.YtalodmochkodiaaGreatZRTopCarried5
import Derived.Test.YtalodmochkodiaaGreatZRTopCarried8
import Derived.Test.YtalodmochkodiaaGreatZRTopCarried12
import Derived.Test.YtalodmochkodiaaGreatZRTopCarried14
import Derived.Test.YtalodmochkodiaaGreatZRTopCarried20
namespace Go.Proofs.YtalodmochkodiaaGreat
open Go Go.RowKit Go.Maps
set_option maxHeartbeats 2000000 in
set_option maxRecDepth 100000 in
theorem term_args (vs vt : Value) (s : Sg) (t : List Int) (zs : List (List Int)) (w : World) (hsg : signB s = true) (hl : t.length ≤ 60) (c : Int) (ht0 : t = c :: zs.flatten) (hz : arP s c = zs.length) (hzt : ∀ a ∈ zs, IsT s 12 a) (hs : SignAt w vs s) (ht : Ints w vt t) :
    Calls Tryz.prog 310 #[vs, vt] w fun e w' => ∃ (u : Value) (vvs : List Value), e = .returned u ∧ w'.ownsRow w.heap.size 37 1 u zs.length vvs ∧ (∀ (i : Nat) (v : Value) (z : List Int), vvs[i]? = some v → zs[i]? = some z → Ints w v z) ∧ Below w.heap.size w w' := by
  obtain ⟨ta, tcap, rfl, hcap, h2, -, TC⟩ := ht.open
  have hpos : 0 < t.length := by rw [ht0]; simp
  obtain ⟨b, o, rfl, hc0⟩ := TC 0 hpos
  simp only [Nat.add_zero] at hc0
  have hct : t[0] = c := by subst ht0; rfl
  rw [hct] at hc0
  have hz3 : zs.length ≤ 3 := by have := (arP_bounds hsg c).2; rw [hz] at this; omega
  have HZ := hid hz
  have HT := hid ht
  have HS := hid hs
  have HZT := hid hzt
  have HEND := hid (fun (i : Int) (X : World) (hX : Below w.heap.size w X) (h1 : -1 ≤ i) (h2 : i ≤ 100) => term_end s t vs _ i X hsg (by omega) (hs.below hX) (ht.below hX) h1 h2)
  have hdrop : ∀ k (hk : k < zs.length), t.drop (1 + (zs.take k).flatten.length) = zs[k] ++ (zs.drop (k + 1)).flatten := by
    intro k hk
    have e : zs.flatten = (zs.take k).flatten ++ (zs[k] ++ (zs.drop (k + 1)).flatten) := by
      conv => lhs; rw [← List.take_append_drop k zs, List.flatten_append, List.drop_eq_getElem_cons hk, List.flatten_cons]
    rw [ht0, ← List.drop_drop]
    show (zs.flatten).drop _ = _
    rw [e, List.drop_left]
  have HD := hid hdrop
  clear hz ht hs hzt hdrop ht0 hct TC
  go_enter Tryz.func310, Tryz.ntmps310
  go_wp2_with (go_at_call 277; refine (term_arity _ _ _ _ HS.out).mono ?_; rintro e w1 ⟨rfl, rfl⟩; rw [HZ.out])
  go_loopw [5, 6, 14] (fun u av kv wr => ∃ (k : Nat) (vvs : List Value), k ≤ zs.length ∧ kv = .int .i64 k ∧ av = .int .i64 ((1 + (zs.take k).flatten.length : Nat) : Int) ∧ wr.ownsRow w.heap.size 37 1 u k vvs ∧ (∀ (i : Nat) (v : Value) (z : List Int), vvs[i]? = some v → zs[i]? = some z → Ints w v z) ∧ Below w.heap.size w wr) (fun _ _ kv _ => zs.length - (intOf kv).toNat)
  case atStart => exact ⟨0, [], by omega, rfl, rfl, World.ownsRow_nil _ _ _ _, by simp, Below.refl _ _⟩
  case round =>
    obtain ⟨k, vvs, hk, rfl, rfl, hown, hvi, hb⟩ := hrel
    have HOWN := hid hown
    have HVI := hid hvi
    have HB := hid hb
    have hsz := hb.size
    clear hown hvi hb
    by_cases hlt : k < zs.length
    · have hd := HD.out k hlt
      have hzk := HZT.out _ (List.getElem_mem hlt)
      have hlen := congrArg List.length hd
      rw [List.length_drop, List.length_append] at hlen
      have hne := hzk.ne
      obtain ⟨a, ha⟩ : ∃ a, 1 + (zs.take k).flatten.length = a := ⟨_, rfl⟩
      have hnx := nx_part hzk a ((zs.drop (k + 1)).flatten) 101 (by rw [← ha]; exact hd) (by omega)
      have hsn := start_next zs hlt
      rw [ha] at hd hlen ⊢
      have hsub := HT.out.sub hd (cap' := zs[k].length) (Nat.le_refl _)
      have HSN : Hid (1 + (zs.take (k + 1)).flatten.length = a + zs[k].length) := hid (by rw [hsn]; omega)
      obtain ⟨z, hz⟩ : ∃ z, zs[k] = z := ⟨_, rfl⟩
      have hzz : zs[k]? = some z := by rw [List.getElem?_eq_getElem hlt, hz]
      rw [hz] at hlen hne hnx hsub HSN
      have HE := HEND.out (a : Int) wr HB.out (by omega) (by omega)
      rw [show (endR s t 101 (a : Int)).1 = ((a + z.length : Nat) : Int) from hnx] at HE
      obtain ⟨dd, hdd⟩ : ∃ dd, (endR s t 101 (a : Int)).2 = dd := ⟨_, rfl⟩
      rw [hdd] at HE
      have HEE := hid HE
      have HSUB := hid hsub
      have HZZ := hid hzz
      obtain ⟨n, hn⟩ : ∃ n, z.length = n := ⟨_, rfl⟩
      obtain ⟨e1, he1⟩ : ∃ e1, a + n = e1 := ⟨_, rfl⟩
      rw [hn, he1] at HEE
      rw [hn] at HSUB HSN hlen hne
      have y0 : (0 : Int) ≤ (a : Int) := by omega
      have y1 : (a : Int) ≤ (e1 : Int) := by omega
      have y2 : (e1 : Int) ≤ (tcap : Int) := by omega
      have y3 : a ≤ e1 := by omega
      have y4 : e1 - a = n := by omega
      have y5 : ¬ e1 = a := by omega
      clear hd hzk hnx hsn hsub hz hzz HE hdd
      go_wp2_with fail
      refine HEE.out.mono ?_
      rintro e w4 ⟨rfl, hb4⟩
      have HB4 := hid hb4
      have hs4 := hb4.size
      clear hb4
      have hbA : Below w4.heap.size w4 (w4.alloc (.cells #[.slice (some ⟨b, o + a, none⟩) n n] 37)) := (Below.refl _ _).alloc (Nat.le_refl _) _
      have HBA := hid (HB4.out.trans (hbA.mono hs4))
      have HRA := hid (owns_below HOWN.out HBA.out)
      have hszA := HBA.out.size
      clear hbA
      go_wp2_with (at_builtin; refine wpList_append_row rfl _ _ 160 rfl w.heap.size 37 el_term Tryz.underlying160 rfl (by decide) _ _ _ rfl HRA.out _ 1 [.slice (some ⟨b, o + a, none⟩) n n] rfl (row_one_new _ _ _) (oneCell_one rfl) (by omega) (by omega) (by omega) ?_; intro v' w7 hown7 hgrow7 _)
      have hb7 : Below w.heap.size w w7 := (HB.out.trans (HBA.out.mono hsz)).grown hgrow7 (by omega) (fun q hq => (HOWN.out.lt q hq).1)
      have HB7 := hid hb7
      have HO7 := hid hown7
      clear hb7 hown7 hgrow7
      go_roundw
      case rel =>
        refine ⟨k + 1, vvs ++ [.slice (some ⟨b, o + a, none⟩) n n], by omega, by go_num, by rw [HSN.out, he1], HO7.out, fun i v z' hv hz' => ?_, HB7.out⟩
        have hlv : vvs.length = k := by
          have := HOWN.out.1
          simpa using this
        by_cases hi : i < k
        · rw [List.getElem?_append_left (by omega)] at hv
          exact HVI.out i v z' hv hz'
        · have hik : i = k := by
            have := (List.getElem?_eq_some_iff.1 hv).1
            rw [List.length_append, List.length_singleton] at this
            omega
          subst hik
          rw [List.getElem?_append_right (by omega), hlv] at hv
          simp at hv
          rw [HZZ.out] at hz'
          cases hz'
          rw [← hv]
          exact HSUB.out
      case measure => simp [intOf]; omega
    · have hkz : k = zs.length := by omega
      subst hkz
      go_wp2
      go_ret
      exact ⟨_, vvs, rfl, HOWN.out, HVI.out, HB.out⟩
theorem owns_open {w : World} {b : Nat} {e : TypeId} {k : Nat} {v : Value} {n : Nat} {xs : List Value} (h : w.ownsRow b e k v n xs) : ∃ a c, v = .slice a n c ∧ (0 < n → ∃ g, a = some ⟨g, 0, none⟩ ∧ b ≤ g) := by
  obtain ⟨h1, h2⟩ := h
  rcases h2 with ⟨h2, rfl⟩ | ⟨g, cap, cur, rfl, hb, r3, r4⟩
  · exact ⟨none, 0, by simp_all, fun h0 => by simp_all⟩
  · exact ⟨_, _, rfl, fun _ => ⟨g, rfl, hb⟩⟩
/-- what depends on the blocks from b on alone. -/
def Lies (b : Nat) (Φ : World → Prop) (w : World) : Prop := ∀ W', (∀ q, b ≤ q → q < w.heap.size → W'.heap[q]? = w.heap[q]?) → Φ W'
theorem Lies.here {b : Nat} {Φ : World → Prop} {w : World} (h : Lies b Φ w) : Φ w := h w fun _ _ _ => rfl
theorem owns_same {w W' : World} {b b' : Nat} {e : TypeId} {k : Nat} {v : Value} {n : Nat} {xs : List Value} (h : w.ownsRow b e k v n xs) (hb : b' ≤ b) (hs : ∀ q, b' ≤ q → q < w.heap.size → W'.heap[q]? = w.heap[q]?) : W'.ownsRow b e k v n xs := by
  have hlt := fun q hq => h.lt q hq
  obtain ⟨h1, h2⟩ := h
  refine ⟨h1, ?_⟩
  rcases h2 with h2 | ⟨g, cap, cur, rfl, r2, r3, r4⟩
  · exact .inl h2
  · exact .inr ⟨g, cap, cur, rfl, r2, by rw [hs g (by omega) (hlt g rfl).2]; exact r3, r4⟩
theorem owns_setCell {w : World} {b : Nat} {e : TypeId} {k : Nat} {v : Value} {n : Nat} {xs : List Value} (h : w.ownsRow b e k v n xs) {a : Addr} (ha : a.block < b) (u : Value) : (w.setCell a u).ownsRow b e k v n xs := by
  obtain ⟨h1, h2⟩ := h
  refine ⟨h1, ?_⟩
  rcases h2 with h2 | ⟨g, cap, cur, r1, r2, r3, r4⟩
  · exact .inl h2
  · exact .inr ⟨g, cap, cur, r1, r2, by rw [Below.heap_setCell _ _ _ _ (by omega)]; exact r3, r4⟩
set_option maxHeartbeats 2000000 in
set_option maxRecDepth 100000 in
theorem term_Args (vs vt : Value) (s : Sg) (t : List Int) (zs : List (List Int)) (w : World) (hv : termB s t = true) (c : Int) (ht0 : t = c :: zs.flatten) (hz : arP s c = zs.length) (hzt : ∀ a ∈ zs, IsT s 12 a) (hs : SignAt w vs s) (ht : Ints w vt t) (hs1 : s.length ≤ 1000) :
    Calls Tryz.prog 246 #[vs, vt] w fun e w' => ∃ (u : Value) (vvs : List Value), e = .returned (.tuple #[u, .int .i64 0]) ∧ Lies w.heap.size (fun W => TermsV W u vvs zs) w' ∧ Below w.heap.size w w' := by
  obtain ⟨f1, f2, f3, f4⟩ := termB_facts hv
  have hz3 : zs.length ≤ 3 := by have := (arP_bounds f1 c).2; rw [hz] at this; omega
  have hzl : ∀ i (h : i < zs.length), zs[i].length ≤ 60 := by
    intro i h
    have h1 : zs[i].length ≤ zs.flatten.length := by
      have e : zs.flatten = (zs.take i).flatten ++ (zs[i] ++ (zs.drop (i + 1)).flatten) := by
        conv => lhs; rw [← List.take_append_drop i zs, List.flatten_append, List.drop_eq_getElem_cons h, List.flatten_cons]
      have h2 := congrArg List.length e
      rw [List.length_append, List.length_append] at h2
      omega
    have := congrArg List.length ht0
    simp only [List.length_cons] at this
    omega
  have HZL := hid hzl
  have HZN := hid (fun i (h : i < zs.length) => (hzt _ (List.getElem_mem h)).ne)
  have HVT := hid (term_Valid' vs vt s t w hs ht hs1)
  rw [hv] at HVT
  have HAR := hid (fun (X : World) (hX : Below w.heap.size w X) => term_args vs vt s t zs X f1 f4 c ht0 hz hzt (hs.below hX) (ht.below hX))
  clear hv ht0 hz hzt hs ht hzl
  go_enter Tryz.func246, Tryz.ntmps246
  go_wp2_with fail
  refine HVT.out.mono ?_
  rintro e w1 ⟨rfl, hb1⟩
  have HB1 := hid hb1
  clear hb1
  go_wp2_with fail
  refine (HAR.out _ HB1.out).mono ?_
  rintro e w2 ⟨u, vvs, rfl, hown, hvi, hb2⟩
  obtain ⟨au, cu, rfl, hau⟩ := owns_open hown
  have HAU := hid hau
  have HB2 := hid (HB1.out.trans (hb2.mono HB1.out.size))
  have HO2 := hid hown
  have HVI := hid hvi
  have hbw2 : Below w1.heap.size w1 w2 := hb2
  have HBW2 := hid hbw2
  have hs12 := hb2.size
  have hs1w := HB1.out.size
  clear hown hvi hb2 hbw2 hau HVT HAR
  go_wp2
  go_loopw [18] (fun kv wr => ∃ (k : Nat) (vvs : List Value), k ≤ zs.length ∧ kv = .int .i64 k ∧ wr.ownsRow w1.heap.size 37 1 (.slice au zs.length cu) zs.length vvs ∧
    (∀ (i : Nat) (v : Value) (z : List Int), vvs[i]? = some v → zs[i]? = some z → if i < k then wr.ownsRow w2.heap.size 3 1 v z.length (z.map (Value.int .i64)) else Ints w1 v z) ∧ Below w1.heap.size w1 wr ∧ w2.heap.size ≤ wr.heap.size) (fun kv _ => zs.length - (intOf kv).toNat)
  case atStart => exact ⟨0, vvs, by omega, rfl, HO2.out, fun i v z h h' => by rw [if_neg (by omega)]; exact HVI.out i v z h h', HBW2.out, Nat.le_refl _⟩
  case round =>
    obtain ⟨k, ws, hk, rfl, hown, hvi, hb, hsz⟩ := hrel
    have HOWN := hid hown
    have HV2 := hid hvi
    have HBk := hid hb
    have hwl : ws.length = zs.length := by have := hown.1; simpa using this
    by_cases hlt : k < zs.length
    · obtain ⟨g, rfl, hg⟩ := HAU.out (by omega)
      obtain ⟨z, hz⟩ : ∃ z, zs[k] = z := ⟨_, rfl⟩
      have hzz : zs[k]? = some z := by rw [List.getElem?_eq_getElem hlt, hz]
      obtain ⟨v, hvk⟩ : ∃ v, ws[k]? = some v := ⟨ws[k], List.getElem?_eq_getElem (by omega)⟩
      have hiv0 := hvi k v z hvk hzz
      rw [if_neg (by omega)] at hiv0
      have hiv := hiv0.below hb
      obtain ⟨a3, c3, rfl, -⟩ := hiv.open
      have hzl := HZL.out k hlt
      have hzn := HZN.out k hlt
      rw [hz] at hzl hzn
      have hcl := hown.cellAt k (by omega)
      rw [hvk] at hcl
      have hgl := (HO2.out.lt g rfl).2
      have HCL := hid (sl_CloneT _ z wr hiv hzn (by omega))
      have y0 : (0 : Int) ≤ (k : Int) := by omega
      have y1 : (k : Int) < (zs.length : Int) := by omega
      have HZZ := hid hzz
      have hsk := hb.size
      clear hown hvi hb hiv0 hiv hz hzz
      go_wp2_with fail
      refine HCL.out.mono ?_
      rintro e w4 ⟨u4, rfl, ho4, hb4⟩
      obtain ⟨a4, c4, rfl, -⟩ := (Ints.of_owns ho4 (by omega)).open
      have hown4 := owns_below HOWN.out hb4
      have hcl4 := (hb4.cell (World.block_lt_of_cell? _ _ hcl)).trans hcl
      have hfz4 := hown4.frozenAt k
      have HOW4 := hid hown4
      have HO4 := hid ho4
      have HB4 := hid hb4
      have hs4 := hb4.size
      clear hown4 ho4 hb4 hcl
      go_wp2
      go_roundw
      case rel =>
        refine ⟨k + 1, ws.set k (.slice a4 z.length c4), by omega, by go_num, (HOW4.out.stored k _).1, fun i v' z' h h' => ?_, (HBk.out.trans (HB4.out.mono hsk)).setCell hg _, by simp [World.setCell]; omega⟩
        by_cases hik : i = k
        · subst hik
          rw [List.getElem?_set_self (by omega)] at h
          rw [HZZ.out] at h'
          cases h
          cases h'
          rw [if_pos (by omega)]
          exact owns_setCell (owns_base HO4.out hsz) (a := ⟨g, i, none⟩) hgl _
        · rw [List.getElem?_set_ne (by omega)] at h
          have h9 := HV2.out i v' z' h h'
          by_cases hi : i < k
          · rw [if_pos hi] at h9
            rw [if_pos (by omega)]
            exact owns_setCell (owns_below h9 HB4.out) (a := ⟨g, k, none⟩) hgl _
          · rw [if_neg hi] at h9
            rw [if_neg (by omega)]
            exact h9
      case measure => simp [intOf]; omega
    · have hTT : Lies w.heap.size (fun W => TermsV W (.slice au zs.length cu) ws zs) wr := by
        intro W' hW'
        have h9 : W'.ownsRow w1.heap.size 37 1 (.slice au ws.length cu) ws.length ws := by rw [hwl]; exact owns_same HOWN.out hs1w hW'
        have h8 := RowK.of_owns h9 (by omega)
        have hVV : Vals W' (.slice au zs.length cu) ws := by rw [← hwl]; exact h8
        refine ⟨hVV, hwl, fun i v z h h' => ?_⟩
        have h9 := HV2.out i v z h h'
        have hi := (List.getElem?_eq_some_iff.1 h').1
        rw [if_pos (by omega)] at h9
        have h8 := HZL.out i hi
        rw [(List.getElem?_eq_some_iff.1 h').2] at h8
        exact Ints.of_owns (owns_same h9 (by omega) hW') (by omega)
      have HTT := hid hTT
      clear hTT hown hvi hb
      go_wp2
      go_ret2
      exact ⟨_, _, rfl, HTT.out, HB1.out.trans (HBk.out.mono hs1w)⟩
end Go.Proofs.YtalodmochkodiaaGreat
namespace Go.Proofs.YtalodmochkodiaaGreat
open Go Go.RowKit Go.Maps
/-- it holds however the blocks of M turn, and whatever is made. -/
def Safe (M : Nat → Prop) (Φ : World → Prop) (W : World) : Prop := ∀ W', Kb M W W' → Φ W'
theorem Safe.here {M : Nat → Prop} {Φ : World → Prop} {W : World} (h : Safe M Φ W) : Φ W := h W (Kb.refl _ _)
theorem Safe.imp {M : Nat → Prop} {Φ Ψ : World → Prop} {W : World} (h : Safe M Φ W) (hi : ∀ W, Φ W → Ψ W) : Safe M Ψ W := fun W' hk => hi W' (h W' hk)
theorem Safe.both {M : Nat → Prop} {Φ Ψ : World → Prop} {W : World} (h : Safe M Φ W) (k : Safe M Ψ W) : Safe M (fun W => Φ W ∧ Ψ W) W := fun W' hk => ⟨h W' hk, k W' hk⟩
theorem Safe.grow {M : Nat → Prop} {Φ : World → Prop} {W W1 : World} (h : Safe M Φ W) (hb : Below W.heap.size W W1) : Safe M Φ W1 := fun W' hk => h W' ((Kb.of_below (M := M) hb).trans hk (fun _ hq => Or.inl hq))
theorem Safe.turn {M M' : Nat → Prop} {Φ : World → Prop} {W W1 : World} (h : Safe M Φ W) (hk : Kb M W W1) (hM : ∀ k, M' k → M k ∨ W.heap.size ≤ k) : Safe M' Φ W1 := fun W' hk' => h W' (hk.trans hk' hM)
/-- what lies in new blocks. -/
theorem Safe.new {M : Nat → Prop} {Φ : World → Prop} {b : Nat} {W1 : World} (h : Lies b Φ W1) (hM : ∀ k, M k → k < b) : Safe M Φ W1 := fun W' hk => h W' fun q hq hlt => hk.same q hlt fun hm => by have := hM q hm; omega
/-- a cell of a block of the iterator's own. -/
theorem Safe.cell {M : Nat → Prop} {W : World} {a : Addr} {v : Value} (h : W.cell? a = some v) (hM : ¬ M a.block) : Safe M (fun W => W.cell? a = some v) W := fun W' hk => (World.cell?_of_block (hk.same _ (World.block_lt_of_cell? _ _ h) hM)).trans h
/-- a row of the iterator's own. -/
theorem Safe.ints {M : Nat → Prop} {W : World} {b : Nat} {e : TypeId} {v : Value} {xs : List Int} (h : W.ownsRow b e 1 v xs.length (xs.map (Value.int .i64))) (hl : xs.length ≤ 140737488355328) (hM : ∀ k, M k → k < b) : Safe M (fun W => Ints W v xs) W :=
  Safe.new (b := b) (fun W' hW' => Ints.of_owns (owns_same h (Nat.le_refl _) hW') hl) hM
end Go.Proofs.YtalodmochkodiaaGreat
