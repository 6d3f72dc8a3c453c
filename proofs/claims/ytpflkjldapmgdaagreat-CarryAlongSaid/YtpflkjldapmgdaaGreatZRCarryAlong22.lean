/-
  WHAT IT HOLDS: contracts of args and Args of package term. Conditions: the arguments read as data; a valid sign.
  WHAT IT HOLDS: the law for a range over a function (Rfl) for a body that keeps what it was handed: the relation need only be kept while the world grows and while the loop's record turns. Over any program. No condition.
  WHAT IT HOLDS: what is kept over a yield: it depends only on blocks that the loop's body does not turn. Over any program. No condition.
-/
import Derived.Test.YtpflkjldapmgdaaGreatZRCarryAlong9
import Derived.Test.YtpflkjldapmgdaaGreatZRCarryAlong5
import Derived.Test.YtpflkjldapmgdaaGreatZRCarryAlong13
import Derived.Test.YtpflkjldapmgdaaGreatZRCarryAlong16
import Derived.Test.YtpflkjldapmgdaaGreatZRCarryAlong21
namespace Go.Proofs.YtpflkjldapmgdaaGreat
open Go Go.RowKit Go.Maps
set_option maxHeartbeats 2000000 in
set_option maxRecDepth 100000 in
theorem term_args (vs vt : Value) (s : Sg) (t : List Int) (zs : List (List Int)) (w : World) (hsg : signB s = true) (hl : t.length ≤ 60) (c : Int) (ht0 : t = c :: zs.flatten) (hz : arP s c = zs.length) (hzt : ∀ a ∈ zs, IsT s 12 a) (hs : SignAt w vs s) (ht : Ints w vt t) :
    Calls Tryz.prog 170 #[vs, vt] w fun e w' => ∃ (u : Value) (vvs : List Value), e = .returned u ∧ w'.ownsRow w.heap.size 28 1 u zs.length vvs ∧ (∀ (i : Nat) (v : Value) (z : List Int), vvs[i]? = some v → zs[i]? = some z → Ints w v z) ∧ Below w.heap.size w w' := by
  obtain ⟨ta, tcap, rfl, hcap, h2, -, TC⟩ := ht.open
  have hpos : 0 < t.length := by rw [ht0]; simp
  obtain ⟨b, o, rfl, hc0⟩ := TC 0 hpos
  simp only [Nat.add_zero] at hc0
  have hct : t[0] = c := by subst ht0; rfl
  rw [hct] at hc0
  have hz3 : zs.length ≤ 3 := by have := (arP_bounds hsg c).2; rw [hz] at this; omega
  have HZ := hid hz
  have HT := hid ht
  have HS := hid hs
  have HZT := hid hzt
  have HEND := hid (fun (i : Int) (X : World) (hX : Below w.heap.size w X) (h1 : -1 ≤ i) (h2 : i ≤ 100) => term_end s t vs _ i X hsg (by omega) (hs.below hX) (ht.below hX) h1 h2)
  have hdrop : ∀ k (hk : k < zs.length), t.drop (1 + (zs.take k).flatten.length) = zs[k] ++ (zs.drop (k + 1)).flatten := by
    intro k hk
    have e : zs.flatten = (zs.take k).flatten ++ (zs[k] ++ (zs.drop (k + 1)).flatten) := by
      conv => lhs; rw [← List.take_append_drop k zs, List.flatten_append, List.drop_eq_getElem_cons hk, List.flatten_cons]
    rw [ht0, ← List.drop_drop]
    show (zs.flatten).drop _ = _
    rw [e, List.drop_left]
  have HD := hid hdrop
  clear hz ht hs hzt hdrop ht0 hct TC
  go_enter Tryz.func170, Tryz.ntmps170
  go_wp2_with (go_at_call 178; refine (term_arity _ _ _ _ HS.out).mono ?_; rintro e w1 ⟨rfl, rfl⟩; rw [HZ.out])
  go_loopw [5, 6, 14] (fun u av kv wr => ∃ (k : Nat) (vvs : List Value), k ≤ zs.length ∧ kv = .int .i64 k ∧ av = .int .i64 ((1 + (zs.take k).flatten.length : Nat) : Int) ∧ wr.ownsRow w.heap.size 28 1 u k vvs ∧ (∀ (i : Nat) (v : Value) (z : List Int), vvs[i]? = some v → zs[i]? = some z → Ints w v z) ∧ Below w.heap.size w wr) (fun _ _ kv _ => zs.length - (intOf kv).toNat)
  case atStart => exact ⟨0, [], by omega, rfl, rfl, World.ownsRow_nil _ _ _ _, by simp, Below.refl _ _⟩
  case round =>
    obtain ⟨k, vvs, hk, rfl, rfl, hown, hvi, hb⟩ := hrel
    have HOWN := hid hown
    have HVI := hid hvi
    have HB := hid hb
    have hsz := hb.size
    clear hown hvi hb
    by_cases hlt : k < zs.length
    · have hd := HD.out k hlt
      have hzk := HZT.out _ (List.getElem_mem hlt)
      have hlen := congrArg List.length hd
      rw [List.length_drop, List.length_append] at hlen
      have hne := hzk.ne
      obtain ⟨a, ha⟩ : ∃ a, 1 + (zs.take k).flatten.length = a := ⟨_, rfl⟩
      have hnx := nx_part hzk a ((zs.drop (k + 1)).flatten) 101 (by rw [← ha]; exact hd) (by omega)
      have hsn := start_next zs hlt
      rw [ha] at hd hlen ⊢
      have hsub := HT.out.sub hd (cap' := zs[k].length) (Nat.le_refl _)
      have HSN : Hid (1 + (zs.take (k + 1)).flatten.length = a + zs[k].length) := hid (by rw [hsn]; omega)
      obtain ⟨z, hz⟩ : ∃ z, zs[k] = z := ⟨_, rfl⟩
      have hzz : zs[k]? = some z := by rw [List.getElem?_eq_getElem hlt, hz]
      rw [hz] at hlen hne hnx hsub HSN
      have HE := HEND.out (a : Int) wr HB.out (by omega) (by omega)
      rw [show (endR s t 101 (a : Int)).1 = ((a + z.length : Nat) : Int) from hnx] at HE
      obtain ⟨dd, hdd⟩ : ∃ dd, (endR s t 101 (a : Int)).2 = dd := ⟨_, rfl⟩
      rw [hdd] at HE
      have HEE := hid HE
      have HSUB := hid hsub
      have HZZ := hid hzz
      obtain ⟨n, hn⟩ : ∃ n, z.length = n := ⟨_, rfl⟩
      obtain ⟨e1, he1⟩ : ∃ e1, a + n = e1 := ⟨_, rfl⟩
      rw [hn, he1] at HEE
      rw [hn] at HSUB HSN hlen hne
      have y0 : (0 : Int) ≤ (a : Int) := by omega
      have y1 : (a : Int) ≤ (e1 : Int) := by omega
      have y2 : (e1 : Int) ≤ (tcap : Int) := by omega
      have y3 : a ≤ e1 := by omega
      have y4 : e1 - a = n := by omega
      have y5 : ¬ e1 = a := by omega
      clear hd hzk hnx hsn hsub hz hzz HE hdd
      go_wp2_with fail
      refine HEE.out.mono ?_
      rintro e w4 ⟨rfl, hb4⟩
      have HB4 := hid hb4
      have hs4 := hb4.size
      clear hb4
      have hbA : Below w4.heap.size w4 (w4.alloc (.cells #[.slice (some ⟨b, o + a, none⟩) n n] 28)) := (Below.refl _ _).alloc (Nat.le_refl _) _
      have HBA := hid (HB4.out.trans (hbA.mono hs4))
      have HRA := hid (owns_below HOWN.out HBA.out)
      have hszA := HBA.out.size
      clear hbA
      go_wp2_with (at_builtin; refine wpList_append_row rfl _ _ 56 rfl w.heap.size 28 el_term Tryz.underlying56 rfl (by decide) _ _ _ rfl HRA.out _ 1 [.slice (some ⟨b, o + a, none⟩) n n] rfl (row_one_new _ _ _) (oneCell_one rfl) (by omega) (by omega) (by omega) ?_; intro v' w7 hown7 hgrow7 _)
      have hb7 : Below w.heap.size w w7 := (HB.out.trans (HBA.out.mono hsz)).grown hgrow7 (by omega) (fun q hq => (HOWN.out.lt q hq).1)
      have HB7 := hid hb7
      have HO7 := hid hown7
      clear hb7 hown7 hgrow7
      go_roundw
      case rel =>
        refine ⟨k + 1, vvs ++ [.slice (some ⟨b, o + a, none⟩) n n], by omega, by go_num, by rw [HSN.out, he1], HO7.out, fun i v z' hv hz' => ?_, HB7.out⟩
        have hlv : vvs.length = k := by
          have := HOWN.out.1
          simpa using this
        by_cases hi : i < k
        · rw [List.getElem?_append_left (by omega)] at hv
          exact HVI.out i v z' hv hz'
        · have hik : i = k := by
            have := (List.getElem?_eq_some_iff.1 hv).1
            rw [List.length_append, List.length_singleton] at this
            omega
          subst hik
          rw [List.getElem?_append_right (by omega), hlv] at hv
          simp at hv
          rw [HZZ.out] at hz'
          cases hz'
          rw [← hv]
          exact HSUB.out
      case measure => simp [intOf]; omega
    · have hkz : k = zs.length := by omega
      subst hkz
      go_wp2
      go_ret
      exact ⟨_, vvs, rfl, HOWN.out, HVI.out, HB.out⟩
theorem owns_open {w : World} {b : Nat} {e : TypeId} {k : Nat} {v : Value} {n : Nat} {xs : List Value} (h : w.ownsRow b e k v n xs) : ∃ a c, v = .slice a n c ∧ (0 < n → ∃ g, a = some ⟨g, 0, none⟩ ∧ b ≤ g) := by
  obtain ⟨h1, h2⟩ := h
  rcases h2 with ⟨h2, rfl⟩ | ⟨g, cap, cur, rfl, hb, r3, r4⟩
  · exact ⟨none, 0, by simp_all, fun h0 => by simp_all⟩
  · exact ⟨_, _, rfl, fun _ => ⟨g, rfl, hb⟩⟩
/-- what depends on the blocks from b on alone. -/
def Lies (b : Nat) (Φ : World → Prop) (w : World) : Prop := ∀ W', (∀ q, b ≤ q → q < w.heap.size → W'.heap[q]? = w.heap[q]?) → Φ W'
theorem Lies.here {b : Nat} {Φ : World → Prop} {w : World} (h : Lies b Φ w) : Φ w := h w fun _ _ _ => rfl
theorem owns_same {w W' : World} {b b' : Nat} {e : TypeId} {k : Nat} {v : Value} {n : Nat} {xs : List Value} (h : w.ownsRow b e k v n xs) (hb : b' ≤ b) (hs : ∀ q, b' ≤ q → q < w.heap.size → W'.heap[q]? = w.heap[q]?) : W'.ownsRow b e k v n xs := by
  have hlt := fun q hq => h.lt q hq
  obtain ⟨h1, h2⟩ := h
  refine ⟨h1, ?_⟩
  rcases h2 with h2 | ⟨g, cap, cur, rfl, r2, r3, r4⟩
  · exact .inl h2
  · exact .inr ⟨g, cap, cur, rfl, r2, by rw [hs g (by omega) (hlt g rfl).2]; exact r3, r4⟩
theorem owns_setCell {w : World} {b : Nat} {e : TypeId} {k : Nat} {v : Value} {n : Nat} {xs : List Value} (h : w.ownsRow b e k v n xs) {a : Addr} (ha : a.block < b) (u : Value) : (w.setCell a u).ownsRow b e k v n xs := by
  obtain ⟨h1, h2⟩ := h
  refine ⟨h1, ?_⟩
  rcases h2 with h2 | ⟨g, cap, cur, r1, r2, r3, r4⟩
  · exact .inl h2
  · exact .inr ⟨g, cap, cur, r1, r2, by rw [Below.heap_setCell _ _ _ _ (by omega)]; exact r3, r4⟩
set_option maxHeartbeats 2000000 in
set_option maxRecDepth 100000 in
theorem term_Args (vs vt : Value) (s : Sg) (t : List Int) (zs : List (List Int)) (w : World) (hv : termB s t = true) (c : Int) (ht0 : t = c :: zs.flatten) (hz : arP s c = zs.length) (hzt : ∀ a ∈ zs, IsT s 12 a) (hs : SignAt w vs s) (ht : Ints w vt t) (hs1 : s.length ≤ 1000) :
    Calls Tryz.prog 128 #[vs, vt] w fun e w' => ∃ (u : Value) (vvs : List Value), e = .returned (.tuple #[u, .int .i64 0]) ∧ Lies w.heap.size (fun W => TermsV W u vvs zs) w' ∧ Below w.heap.size w w' := by
  obtain ⟨f1, f2, f3, f4⟩ := termB_facts hv
  have hz3 : zs.length ≤ 3 := by have := (arP_bounds f1 c).2; rw [hz] at this; omega
  have hzl : ∀ i (h : i < zs.length), zs[i].length ≤ 60 := by
    intro i h
    have h1 : zs[i].length ≤ zs.flatten.length := by
      have e : zs.flatten = (zs.take i).flatten ++ (zs[i] ++ (zs.drop (i + 1)).flatten) := by
        conv => lhs; rw [← List.take_append_drop i zs, List.flatten_append, List.drop_eq_getElem_cons h, List.flatten_cons]
      have h2 := congrArg List.length e
      rw [List.length_append, List.length_append] at h2
      omega
    have := congrArg List.length ht0
    simp only [List.length_cons] at this
    omega
  have HZL := hid hzl
  have HZN := hid (fun i (h : i < zs.length) => (hzt _ (List.getElem_mem h)).ne)
  have HVT := hid (term_Valid' vs vt s t w hs ht hs1)
  rw [hv] at HVT
  have HAR := hid (fun (X : World) (hX : Below w.heap.size w X) => term_args vs vt s t zs X f1 f4 c ht0 hz hzt (hs.below hX) (ht.below hX))
  clear hv ht0 hz hzt hs ht hzl
  go_enter Tryz.func128, Tryz.ntmps128
  go_wp2_with fail
  refine HVT.out.mono ?_
  rintro e w1 ⟨rfl, hb1⟩
  have HB1 := hid hb1
  clear hb1
  go_wp2_with fail
  refine (HAR.out _ HB1.out).mono ?_
  rintro e w2 ⟨u, vvs, rfl, hown, hvi, hb2⟩
  obtain ⟨au, cu, rfl, hau⟩ := owns_open hown
  have HAU := hid hau
  have HB2 := hid (HB1.out.trans (hb2.mono HB1.out.size))
  have HO2 := hid hown
  have HVI := hid hvi
  have hbw2 : Below w1.heap.size w1 w2 := hb2
  have HBW2 := hid hbw2
  have hs12 := hb2.size
  have hs1w := HB1.out.size
  clear hown hvi hb2 hbw2 hau HVT HAR
  go_wp2
  go_loopw [18] (fun kv wr => ∃ (k : Nat) (vvs : List Value), k ≤ zs.length ∧ kv = .int .i64 k ∧ wr.ownsRow w1.heap.size 28 1 (.slice au zs.length cu) zs.length vvs ∧
    (∀ (i : Nat) (v : Value) (z : List Int), vvs[i]? = some v → zs[i]? = some z → if i < k then wr.ownsRow w2.heap.size 3 1 v z.length (z.map (Value.int .i64)) else Ints w1 v z) ∧ Below w1.heap.size w1 wr ∧ w2.heap.size ≤ wr.heap.size) (fun kv _ => zs.length - (intOf kv).toNat)
  case atStart => exact ⟨0, vvs, by omega, rfl, HO2.out, fun i v z h h' => by rw [if_neg (by omega)]; exact HVI.out i v z h h', HBW2.out, Nat.le_refl _⟩
  case round =>
    obtain ⟨k, ws, hk, rfl, hown, hvi, hb, hsz⟩ := hrel
    have HOWN := hid hown
    have HV2 := hid hvi
    have HBk := hid hb
    have hwl : ws.length = zs.length := by have := hown.1; simpa using this
    by_cases hlt : k < zs.length
    · obtain ⟨g, rfl, hg⟩ := HAU.out (by omega)
      obtain ⟨z, hz⟩ : ∃ z, zs[k] = z := ⟨_, rfl⟩
      have hzz : zs[k]? = some z := by rw [List.getElem?_eq_getElem hlt, hz]
      obtain ⟨v, hvk⟩ : ∃ v, ws[k]? = some v := ⟨ws[k], List.getElem?_eq_getElem (by omega)⟩
      have hiv0 := hvi k v z hvk hzz
      rw [if_neg (by omega)] at hiv0
      have hiv := hiv0.below hb
      obtain ⟨a3, c3, rfl, -⟩ := hiv.open
      have hzl := HZL.out k hlt
      have hzn := HZN.out k hlt
      rw [hz] at hzl hzn
      have hcl := hown.cellAt k (by omega)
      rw [hvk] at hcl
      have hgl := (HO2.out.lt g rfl).2
      have HCL := hid (sl_CloneT _ z wr hiv hzn (by omega))
      have y0 : (0 : Int) ≤ (k : Int) := by omega
      have y1 : (k : Int) < (zs.length : Int) := by omega
      have HZZ := hid hzz
      have hsk := hb.size
      clear hown hvi hb hiv0 hiv hz hzz
      go_wp2_with fail
      refine HCL.out.mono ?_
      rintro e w4 ⟨u4, rfl, ho4, hb4⟩
      obtain ⟨a4, c4, rfl, -⟩ := (Ints.of_owns ho4 (by omega)).open
      have hown4 := owns_below HOWN.out hb4
      have hcl4 := (hb4.cell (World.block_lt_of_cell? _ _ hcl)).trans hcl
      have hfz4 := hown4.frozenAt k
      have HOW4 := hid hown4
      have HO4 := hid ho4
      have HB4 := hid hb4
      have hs4 := hb4.size
      clear hown4 ho4 hb4 hcl
      go_wp2
      go_roundw
      case rel =>
        refine ⟨k + 1, ws.set k (.slice a4 z.length c4), by omega, by go_num, (HOW4.out.stored k _).1, fun i v' z' h h' => ?_, (HBk.out.trans (HB4.out.mono hsk)).setCell hg _, by simp [World.setCell]; omega⟩
        by_cases hik : i = k
        · subst hik
          rw [List.getElem?_set_self (by omega)] at h
          rw [HZZ.out] at h'
          cases h
          cases h'
          rw [if_pos (by omega)]
          exact owns_setCell (owns_base HO4.out hsz) (a := ⟨g, i, none⟩) hgl _
        · rw [List.getElem?_set_ne (by omega)] at h
          have h9 := HV2.out i v' z' h h'
          by_cases hi : i < k
          · rw [if_pos hi] at h9
            rw [if_pos (by omega)]
            exact owns_setCell (owns_below h9 HB4.out) (a := ⟨g, k, none⟩) hgl _
          · rw [if_neg hi] at h9
            rw [if_neg (by omega)]
            exact h9
      case measure => simp [intOf]; omega
    · have hTT : Lies w.heap.size (fun W => TermsV W (.slice au zs.length cu) ws zs) wr := by
        intro W' hW'
        have h9 : W'.ownsRow w1.heap.size 28 1 (.slice au ws.length cu) ws.length ws := by rw [hwl]; exact owns_same HOWN.out hs1w hW'
        have h8 := RowK.of_owns h9 (by omega)
        have hVV : Vals W' (.slice au zs.length cu) ws := by rw [← hwl]; exact h8
        refine ⟨hVV, hwl, fun i v z h h' => ?_⟩
        have h9 := HV2.out i v z h h'
        have hi := (List.getElem?_eq_some_iff.1 h').1
        rw [if_pos (by omega)] at h9
        have h8 := HZL.out i hi
        rw [(List.getElem?_eq_some_iff.1 h').2] at h8
        exact Ints.of_owns (owns_same h9 (by omega) hW') (by omega)
      have HTT := hid hTT
      clear hTT hown hvi hb
      go_wp2
      go_ret2
      exact ⟨_, _, rfl, HTT.out, HB1.out.trans (HBk.out.mono hs1w)⟩
end Go.Proofs.YtpflkjldapmgdaaGreat
namespace Go.Proofs.YtpflkjldapmgdaaGreat
open Go Go.RowKit Go.Maps
/-- kept while the world grows, and while the loop's own record (block B + 1) turns. -/
structure Grw (B : Nat) (I : (Nat → Prop) → World → Prop) : Prop where
  grow : ∀ (M : Nat → Prop) (W W' : World), I M W → Below W.heap.size W W' → I M W'
  turn : ∀ (M : Nat → Prop) (W : World) (o o' : Obj), W.heap[B + 1]? = some o → o.isCells = false → I M W → ¬ M (B + 1) → I M (W.putObj (B + 1) o')
theorem Grw.below {B : Nat} {I : (Nat → Prop) → World → Prop} (h : Grw B I) {M : Nat → Prop} {W W' : World} (hi : I M W) {b : Nat} (hb : Below b W W') (he : b = W.heap.size := by rfl) : I M W' := h.grow M W W' hi (he ▸ hb)
theorem Grw.put {B : Nat} {I : (Nat → Prop) → World → Prop} (h : Grw B I) {M : Nat → Prop} {W : World} {o : Obj} (ho : W.heap[B + 1]? = some o) (hc : o.isCells = false) (o' : Obj) (hi : I M W) (hm : ¬ M (B + 1)) : I M (W.putObj (B + 1) o') := h.turn M W o o' ho hc hi hm
theorem Grw.of_frm {B : Nat} {I : (Nat → Prop) → World → Prop} (h : Frm B I) : Grw B I := ⟨fun _ _ _ hi hb => h.below hi hb, fun _ _ _ _ _ _ hi hm => h.put _ hi (by omega) hm⟩
/-- the contract of an iterator, as SeqE, but it is told that the blocks that turn are there. -/
def SeqG (P : Program) {α : Type} (g : Nat) (lb : Array Value) (encs : α → Array Value) (E : List α → α → (Nat → Prop) → World → Prop) (S : List α → Prop) (N : Nat → Prop) (w0 : World) : Prop :=
  ∀ (l : Nat) (J Jx : List α → (Nat → Prop) → World → Prop) (M0 : Nat → Prop) (W : World), Below w0.heap.size w0 W → (∀ k, M0 k → ¬ N k ∧ k < W.heap.size) →
    (∀ pre M A B, J pre M A → Below A.heap.size A B → J pre M B) → (∀ pre M A B, Jx pre M A → Below A.heap.size A B → Jx pre M B) →
    (∀ pre x M W1, J pre M W1 → E pre x M W1 → YieldAt Fence.wide 1 P l (encs x) W1 fun e W' => ∃ M', (∀ k, M' k → M k ∨ W1.heap.size ≤ k) ∧ (∀ k, M' k → k < W'.heap.size) ∧ Kb M W1 W' ∧
      ((e = .returned (.bool true) ∧ J (pre ++ [x]) M' W') ∨ (e = .returned (.bool false) ∧ Jx (pre ++ [x]) M' W'))) →
    J [] M0 W →
    CallsIn Fence.wide 2 P g (#[.func (.yield l) #[] #[]] ++ lb) W fun e W' => (∃ v, e = .returned v) ∧ ((∃ xs M, S xs ∧ J xs M W') ∨ (∃ pre M, Jx pre M W'))
theorem SeqG.of_seq {P : Program} {α : Type} {g : Nat} {lb : Array Value} {encs : α → Array Value} {E : List α → α → World → Prop} {S : List α → Prop} {N : Nat → Prop} {w0 : World} (h : SeqE P g lb encs E S N w0) : SeqG P g lb encs (fun pre x _ W => E pre x W) S N w0 :=
  fun l J Jx M0 W h1 h2 h3 h4 h5 h6 => h l J Jx M0 W h1 h2 h3 h4 (fun pre x M W1 hj he => by
    obtain ⟨fn, tmps, assign, body, hy, hR⟩ := h5 pre x M W1 hj he
    exact ⟨fn, tmps, assign, body, hy, hR.mono fun e W' ⟨M', a, _, b, c⟩ => ⟨M', a, b, c⟩⟩) h6
theorem wpIn_rangeG {P : Program} {α : Type} {g : Operand} {ps : Array Tmp} {assign body : Code} {Q : Exit → Act → World → Prop} {a : Act} {w : World}
    {gf : Nat} {lb : Array Value} (hg : a.eval g = .func (.func gf) #[] lb) (eg : ∀ args w, (callFunc gf args).run P w = .ok (.enter gf args) w)
    {encs : α → Array Value} {E : List α → α → (Nat → Prop) → World → Prop} {S : List α → Prop} {N : Nat → Prop} {w0 : World} (hseq : SeqG P gf lb encs E S N w0) (hb0 : Below w0.heap.size w0 w) (hps : ∀ x, (encs x).size = ps.size)
    (hE : ∀ pre x (M : Nat → Prop) (W : World) k (o o' : Obj), E pre x M W → M k → W.heap[k]? = some o → o.isCells = false → E pre x M (W.putObj k o')) (hE2 : ∀ pre x (M : Nat → Prop) (A B : World), E pre x M A → Below A.heap.size A B → E pre x M B) (hN : ∀ k, N k → k < w.heap.size)
    (I : List α → (Nat → Prop) → World → Prop) (Ix : Code → List α → (Nat → Prop) → World → Prop) (M0 : Nat → Prop) (hM0 : ∀ k, M0 k → ¬ N k ∧ k < w.heap.size)
    (hI : ∀ pre, Grw w.heap.size (I pre)) (hIx : ∀ c pre, Grw w.heap.size (Ix c pre)) (h0 : I [] M0 w)
    (hround : ∀ (l : Nat) (pre : List α) (x : α) (M : Nat → Prop) (W : World), w.heap.size + 2 ≤ W.heap.size → (∀ k, M k → k ≠ w.heap.size ∧ k ≠ w.heap.size + 1 ∧ k < W.heap.size ∧ ¬ N k) →
      (∀ w₁ W2, Below W.heap.size W w₁ → RecT (w.heap.size + 1) w₁ W2 → I pre M W2 ∧ E pre x (fun k => M k ∨ k = w.heap.size + 1) W2 ∧ W2.heap.size = w₁.heap.size) →
      assign.wpIn (Fence.wide.inRound l) 1 P (Exit.then (fun a₁ w₁ => Below W.heap.size W w₁ ∧ ∀ W2, RecT (w.heap.size + 1) w₁ W2 → body.wpIn (Fence.wide.inRound l) 1 P (rpost I Ix (pre ++ [x]) M W.heap.size W2) a₁ W2) (fun _ _ _ => False))
        { tmps := (ps.zip (encs x)).foldl (fun t (p, v) => t.setIfInBounds p v) a.tmps, defers := [] } W)
    (hdone : ∀ (xs : List α) (M : Nat → Prop) (W : World), S xs → I xs M W → W.heap[w.heap.size]? = some (.deferred (some [])) → (∀ k, M k → k ≠ w.heap.size) → Q .normal { a with defers := { target := .collected w.heap.size, args := #[] } :: a.defers } W)
    (hstop : ∀ (c : Code) (pre : List α) (M : Nat → Prop) (W : World), Ix c pre M W → W.heap[w.heap.size]? = some (.deferred (some [])) → (∀ k, M k → k ≠ w.heap.size) → c.wpIn Fence.wide 3 P Q { a with defers := { target := .collected w.heap.size, args := #[] } :: a.defers } W) :
    (Code.rangeFunc g ps assign body).wpIn Fence.wide 3 P Q a w := by
  refine wpIn_rangeFunc ?_
  intro fn hfn
  obtain ⟨rec, hrec⟩ : ∃ rec : LoopState → Option Code → Loop, rec = fun st pe => { state := st, pending := pe, fn, tmps := a.tmps, params := ps, assign, body, defers := w.heap.size } := ⟨_, rfl⟩
  obtain ⟨W1, hW1⟩ : ∃ W1, (w.alloc (.deferred (some []))).alloc (.loop (rec .ready none)) = W1 := ⟨_, rfl⟩
  have hL1 : W1.heap[w.heap.size + 1]? = some (.loop (rec .ready none)) := by
    rw [← hW1]; have := World.alloc_heap_new (w.alloc (.deferred (some []))) (.loop (rec .ready none)); rwa [World.size_alloc] at this
  have hK1 : W1.heap[w.heap.size]? = some (.deferred (some [])) := by
    rw [← hW1]; exact (Below.heap_alloc _ _ _ (by simp)).trans (World.alloc_heap_new w _)
  have hbw1 : Below w.heap.size w W1 := by rw [← hW1]; exact ((Below.refl _ w).alloc (Nat.le_refl _) _).alloc (by simp) _
  have hsz1 : W1.heap.size = w.heap.size + 2 := by rw [← hW1]; simp
  refine ⟨w.heap.size + 1, [{ target := .collected w.heap.size, args := #[] }], W1, { target := .fn (.func gf) lb, args := #[.func (.yield (w.heap.size + 1)) #[] #[]] }, W1, gf,
    #[.func (.yield (w.heap.size + 1)) #[] #[]] ++ lb, W1, ?_, ?_, ?_, ?_, fun _ => by omega, ?_⟩
  · rw [← hW1, hrec]; exact run_enterLoop_outer _ _ _ _ _
  · simp only [resolve, hg]
    simp [go_sem]
  · intro f' _; trivial
  · simp [invoke, go_sem, eg]
  · refine (hseq (w.heap.size + 1)
      (fun pre Mi W => ∃ M, (∀ k, Mi k ↔ M k ∨ k = w.heap.size + 1) ∧ (∀ k, M k → k ≠ w.heap.size ∧ k ≠ w.heap.size + 1 ∧ k < W.heap.size ∧ ¬ N k) ∧ I pre M W ∧ W.heap[w.heap.size + 1]? = some (.loop (rec .ready none)) ∧ W.heap[w.heap.size]? = some (.deferred (some [])))
      (fun pre Mi W => ∃ c M, (∀ k, M k → k ≠ w.heap.size ∧ k ≠ w.heap.size + 1 ∧ k < W.heap.size) ∧ Ix c pre M W ∧ W.heap[w.heap.size + 1]? = some (.loop (rec .done (some c))) ∧ W.heap[w.heap.size]? = some (.deferred (some [])))
      (fun k => M0 k ∨ k = w.heap.size + 1) W1 (hb0.trans (hbw1.mono hb0.size)) ?_ ?_ ?_ ?_ ⟨M0, fun _ => Iff.rfl, ?_, (hI []).below h0 hbw1, hL1, hK1⟩).mono ?_
    · rintro k (hk | rfl)
      · exact ⟨(hM0 k hk).1, by have := (hM0 k hk).2; omega⟩
      · exact ⟨fun h => by have := hN _ h; omega, by omega⟩
    · rintro pre Mi A B ⟨M, h1, h2, h3, h4, h5⟩ hAB
      exact ⟨M, h1, fun k hk => ⟨(h2 k hk).1, (h2 k hk).2.1, Nat.lt_of_lt_of_le (h2 k hk).2.2.1 hAB.size, (h2 k hk).2.2.2⟩, (hI pre).below h3 hAB, (hAB.block _ (Array.getElem?_eq_some_iff.1 h4).1).trans h4, (hAB.block _ (Array.getElem?_eq_some_iff.1 h5).1).trans h5⟩
    · rintro pre Mi A B ⟨c, M, h2, h3, h4, h5⟩ hAB
      exact ⟨c, M, fun k hk => ⟨(h2 k hk).1, (h2 k hk).2.1, Nat.lt_of_lt_of_le (h2 k hk).2.2 hAB.size⟩, (hIx c pre).below h3 hAB, (hAB.block _ (Array.getElem?_eq_some_iff.1 h4).1).trans h4, (hAB.block _ (Array.getElem?_eq_some_iff.1 h5).1).trans h5⟩
    · rintro pre x Mi W ⟨M, hMi, hM, hi, hl, hk⟩ he
      have hMq : Mi = fun k => M k ∨ k = w.heap.size + 1 := funext fun k => propext (hMi k)
      have hlt : w.heap.size + 1 < W.heap.size := (Array.getElem?_eq_some_iff.1 hl).1
      have hy := run_yield (P := P) (args := encs x) hl (by rw [hrec]; exact hps x)
      rw [hrec] at hy
      have hnl : ¬ M (w.heap.size + 1) := fun h => (hM _ h).2.1 rfl
      refine ⟨fn, _, assign, body, hy, roundIn_of_wpIn hfn (wpIn_mono (hround (w.heap.size + 1) pre x M W (by omega) hM ?_) ?_)⟩
      · rintro w₁ W2 hbw ⟨o, rfl⟩
        have hl1 := (hbw.block _ hlt).trans hl
        exact ⟨(hI pre).put hl1 rfl _ ((hI pre).below hi hbw) hnl, hE pre x _ w₁ _ _ _ (hE2 pre x _ W w₁ (hMq ▸ he) hbw) (Or.inr rfl) hl1 rfl, by simp⟩
      · intro e₁ a₁ w₁ hp₁
        cases e₁ with
        | normal =>
          obtain ⟨hbw, hbody⟩ := hp₁
          have hl1 : w₁.heap[w.heap.size + 1]? = some (.loop (rec .ready none)) := (hbw.block _ hlt).trans hl
          have hk1 : w₁.heap[w.heap.size]? = some (.deferred (some [])) := (hbw.block _ (by omega)).trans hk
          refine ⟨_, run_beginRound hl1 (by rw [hrec]), ?_⟩
          obtain ⟨W2, hW2⟩ : ∃ W2, w₁.putObj (w.heap.size + 1) (.loop { rec .ready none with state := .busy }) = W2 := ⟨_, rfl⟩
          have hl2 : W2.heap[w.heap.size + 1]? = some (.loop { rec .ready none with state := .busy }) := by rw [← hW2]; exact World.putObj_heap_same (by have := hbw.size; omega)
          have hk2 : W2.heap[w.heap.size]? = some (.deferred (some [])) := by rw [← hW2]; exact (World.putObj_heap_other (by omega)).trans hk1
          have hs2 : W2.heap.size = w₁.heap.size := by rw [← hW2]; simp
          have hs1 := hbw.size
          have hkb2 : Kb Mi W W2 := by rw [← hW2]; exact (Kb.of_below hbw).trans (Kb.put (M := Mi) _ ((hMi _).2 (Or.inr rfl))) (fun q hq => Or.inl hq)
          have hb2 := hbody W2 ⟨_, hW2.symm⟩
          have key : ∀ (jump : Option Code) (W3 : World) (M' : Nat → Prop), (∀ k, M' k → M k ∨ W.heap.size ≤ k) → Kb (fun k => M k ∨ W.heap.size ≤ k) W2 W3 →
              (Instr.endRound (w.heap.size + 1) jump).run P W3 = .ok (.bool jump.isNone) (W3.putObj (w.heap.size + 1) (.loop (rec (if jump.isNone then .ready else .done) jump))) ∧
              (W3.putObj (w.heap.size + 1) (.loop (rec (if jump.isNone then .ready else .done) jump))).heap[w.heap.size + 1]? = some (.loop (rec (if jump.isNone then .ready else .done) jump)) ∧
              (W3.putObj (w.heap.size + 1) (.loop (rec (if jump.isNone then .ready else .done) jump))).heap[w.heap.size]? = some (.deferred (some [])) ∧
              Kb Mi W (W3.putObj (w.heap.size + 1) (.loop (rec (if jump.isNone then .ready else .done) jump))) ∧ ¬ M' (w.heap.size + 1) ∧ ¬ M' w.heap.size ∧ W3.heap[w.heap.size + 1]? = some (.loop { rec .ready none with state := .busy }) := by
            intro jump W3 M' hM' hkb
            have hl3 : W3.heap[w.heap.size + 1]? = some (.loop { rec .ready none with state := .busy }) := (hkb.same _ (by omega) (fun h => by rcases h with h | h <;> first | exact hnl h | omega)).trans hl2
            have hk3 : W3.heap[w.heap.size]? = some (.deferred (some [])) := (hkb.same _ (by omega) (fun h => by rcases h with h | h <;> first | exact (hM _ h).1 rfl | omega)).trans hk2
            have hrun := run_endRound (P := P) jump hl3
            refine ⟨by rw [hrec] at hrun ⊢; exact hrun, World.putObj_heap_same (Array.getElem?_eq_some_iff.1 hl3).1, (World.putObj_heap_other (by omega)).trans hk3, ?_, fun h => ?_, fun h => ?_, hl3⟩
            · exact (hkb2.trans hkb (fun q hq => by rcases hq with hq | hq; exact Or.inl ((hMi q).2 (Or.inl hq)); exact Or.inr hq)).trans (Kb.put (M := Mi) _ ((hMi _).2 (Or.inr rfl))) (fun q hq => Or.inl hq)
            · rcases hM' _ h with h1 | h1
              · exact hnl h1
              · omega
            · rcases hM' _ h with h1 | h1
              · exact (hM _ h1).1 rfl
              · omega
          rw [hW2]
          refine wpIn_mono hb2 ?_
          have bnd : ∀ (M' : Nat → Prop) (W3 : World) (o o' : Obj), (∀ k, M' k → k < W3.heap.size) → W3.heap[w.heap.size + 1]? = some o → ∀ k, (M' k ∨ k = w.heap.size + 1) → k < (W3.putObj (w.heap.size + 1) o').heap.size := by
            rintro M' W3 o o' hM' ho k (hk | rfl)
            · simp; exact hM' k hk
            · simp; exact (Array.getElem?_eq_some_iff.1 ho).1
          have fresh : ∀ (M' : Nat → Prop), (∀ k, M' k → M k ∨ W.heap.size ≤ k) → ∀ k, (M' k ∨ k = w.heap.size + 1) → Mi k ∨ W.heap.size ≤ k := by
            rintro M' hM' k (h | rfl)
            · rcases hM' k h with h1 | h1
              · exact Or.inl ((hMi k).2 (Or.inl h1))
              · exact Or.inr (by omega)
            · exact Or.inl ((hMi _).2 (Or.inr rfl))
          rintro e a3 W3 hp
          cases e with
          | normal =>
            obtain ⟨M', hM', hkb, hi3⟩ := hp
            obtain ⟨hr, hl4, hk4, hkb4, hn1, hn2, hl5⟩ := key none W3 M' (fun k hk => (hM' k hk).1) hkb
            refine ⟨_, _, hr, fun k => M' k ∨ k = w.heap.size + 1, fresh M' (fun k hk => (hM' k hk).1), bnd M' _ _ _ (fun k hk => (hM' k hk).2) hl5, hkb4, Or.inl ⟨rfl, M', fun _ => Iff.rfl, fun k hk => ⟨fun e => hn2 (e ▸ hk), fun e => hn1 (e ▸ hk), by simp; exact (hM' k hk).2, ?_⟩, (hI _).put hl5 rfl _ hi3 hn1, hl4, hk4⟩⟩
            rcases (hM' k hk).1 with h1 | h1
            · exact (hM k h1).2.2.2
            · exact fun h => by have := hN k h; omega
          | ret =>
            obtain ⟨M', hM', hkb, hi3⟩ := hp
            obtain ⟨hr, hl4, hk4, hkb4, hn1, hn2, hl5⟩ := key (some .ret) W3 M' (fun k hk => (hM' k hk).1) hkb
            exact ⟨_, _, hr, fun k => M' k ∨ k = w.heap.size + 1, fresh M' (fun k hk => (hM' k hk).1), bnd M' _ _ _ (fun k hk => (hM' k hk).2) hl5, hkb4, Or.inr ⟨rfl, .ret, M', fun k hk => ⟨fun e => hn2 (e ▸ hk), fun e => hn1 (e ▸ hk), by simp; exact (hM' k hk).2⟩, (hIx _ _).put hl5 rfl _ hi3 hn1, hl4, hk4⟩⟩
          | exit id =>
            obtain ⟨M', hM', hkb, hi3⟩ := hp
            obtain ⟨hr, hl4, hk4, hkb4, hn1, hn2, hl5⟩ := key (some (.exit id)) W3 M' (fun k hk => (hM' k hk).1) hkb
            exact ⟨_, _, hr, fun k => M' k ∨ k = w.heap.size + 1, fresh M' (fun k hk => (hM' k hk).1), bnd M' _ _ _ (fun k hk => (hM' k hk).2) hl5, hkb4, Or.inr ⟨rfl, .exit id, M', fun k hk => ⟨fun e => hn2 (e ▸ hk), fun e => hn1 (e ▸ hk), by simp; exact (hM' k hk).2⟩, (hIx _ _).put hl5 rfl _ hi3 hn1, hl4, hk4⟩⟩
          | goto t =>
            obtain ⟨M', hM', hkb, hi3⟩ := hp
            obtain ⟨hr, hl4, hk4, hkb4, hn1, hn2, hl5⟩ := key (some (.goto t)) W3 M' (fun k hk => (hM' k hk).1) hkb
            exact ⟨_, _, hr, fun k => M' k ∨ k = w.heap.size + 1, fresh M' (fun k hk => (hM' k hk).1), bnd M' _ _ _ (fun k hk => (hM' k hk).2) hl5, hkb4, Or.inr ⟨rfl, .goto t, M', fun k hk => ⟨fun e => hn2 (e ▸ hk), fun e => hn1 (e ▸ hk), by simp; exact (hM' k hk).2⟩, (hIx _ _).put hl5 rfl _ hi3 hn1, hl4, hk4⟩⟩
          | panic ch => exact hp.elim
          | outgrown => exact hp.elim
        | ret => exact hp₁.elim
        | exit id => exact hp₁.elim
        | goto t => exact hp₁.elim
        | panic ch => exact hp₁.elim
        | outgrown => exact hp₁.elim
    · intro k hk
      have := hM0 k hk
      exact ⟨by omega, by omega, by omega, this.1⟩
    · rintro e W2 ⟨⟨v, rfl⟩, (⟨xs, Mi, hS, M, hMi, hM, hi, hl, hk⟩ | ⟨pre, Mi, c, M, hM, hi, hl, hk⟩)⟩
      · refine ⟨none, _, by have := run_endLoop (P := P) hl (by rw [hrec]; simp); rw [hrec] at this; exact this, hdone xs M _ hS ((hI xs).put hl rfl _ hi (fun h => (hM _ h).2.1 rfl)) ((World.putObj_heap_other (by omega)).trans hk) (fun k hk => (hM k hk).1)⟩
      · refine ⟨some c, _, by have := run_endLoop (P := P) hl (by rw [hrec]; simp); rw [hrec] at this; exact this, hstop c pre M _ ((hIx c pre).put hl rfl _ hi (fun h => (hM _ h).2.1 rfl)) ((World.putObj_heap_other (by omega)).trans hk) (fun k hk => (hM k hk).1)⟩
end Go.Proofs.YtpflkjldapmgdaaGreat
namespace Go.Proofs.YtpflkjldapmgdaaGreat
open Go Go.RowKit Go.Maps
/-- it holds however the blocks of M turn, and whatever is made. -/
def Safe (M : Nat → Prop) (Φ : World → Prop) (W : World) : Prop := ∀ W', Kb M W W' → Φ W'
theorem Safe.here {M : Nat → Prop} {Φ : World → Prop} {W : World} (h : Safe M Φ W) : Φ W := h W (Kb.refl _ _)
theorem Safe.imp {M : Nat → Prop} {Φ Ψ : World → Prop} {W : World} (h : Safe M Φ W) (hi : ∀ W, Φ W → Ψ W) : Safe M Ψ W := fun W' hk => hi W' (h W' hk)
theorem Safe.both {M : Nat → Prop} {Φ Ψ : World → Prop} {W : World} (h : Safe M Φ W) (k : Safe M Ψ W) : Safe M (fun W => Φ W ∧ Ψ W) W := fun W' hk => ⟨h W' hk, k W' hk⟩
theorem Safe.grow {M : Nat → Prop} {Φ : World → Prop} {W W1 : World} (h : Safe M Φ W) (hb : Below W.heap.size W W1) : Safe M Φ W1 := fun W' hk => h W' ((Kb.of_below (M := M) hb).trans hk (fun _ hq => Or.inl hq))
theorem Safe.turn {M M' : Nat → Prop} {Φ : World → Prop} {W W1 : World} (h : Safe M Φ W) (hk : Kb M W W1) (hM : ∀ k, M' k → M k ∨ W.heap.size ≤ k) : Safe M' Φ W1 := fun W' hk' => h W' (hk.trans hk' hM)
/-- what lies in new blocks. -/
theorem Safe.new {M : Nat → Prop} {Φ : World → Prop} {b : Nat} {W1 : World} (h : Lies b Φ W1) (hM : ∀ k, M k → k < b) : Safe M Φ W1 := fun W' hk => h W' fun q hq hlt => hk.same q hlt fun hm => by have := hM q hm; omega
/-- what lies in old blocks that the body leaves. -/
theorem Safe.old {M : Nat → Prop} {Φ : World → Prop} {wb W : World} (h : ∀ W', Below wb.heap.size wb W' → Φ W') (hb : Below wb.heap.size wb W) (hM : ∀ k, M k → wb.heap.size ≤ k) : Safe M Φ W := fun W' hk => h W' (hb.trans (hk.below hb.size hM))
/-- a cell of a block of the iterator's own. -/
theorem Safe.cell {M : Nat → Prop} {W : World} {a : Addr} {v : Value} (h : W.cell? a = some v) (hM : ¬ M a.block) : Safe M (fun W => W.cell? a = some v) W := fun W' hk => (World.cell?_of_block (hk.same _ (World.block_lt_of_cell? _ _ h) hM)).trans h
/-- a row of the iterator's own. -/
theorem Safe.ints {M : Nat → Prop} {W : World} {b : Nat} {e : TypeId} {v : Value} {xs : List Int} (h : W.ownsRow b e 1 v xs.length (xs.map (Value.int .i64))) (hl : xs.length ≤ 140737488355328) (hM : ∀ k, M k → k < b) : Safe M (fun W => Ints W v xs) W :=
  Safe.new (b := b) (fun W' hW' => Ints.of_owns (owns_same h (Nat.le_refl _) hW') hl) hM
end Go.Proofs.YtpflkjldapmgdaaGreat
