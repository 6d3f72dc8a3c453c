/-
  WHAT IT HOLDS: how a library of the call's own memory lies while it grows; contracts of each of package carry. Conditions: the arguments read as data; small signs, small libraries; the function value that is handed in does what f says to an entry of the call's own.
  WHAT IT HOLDS: a growing row of terms, each in memory of its own; contracts of Args and Alike of the reference of layer 1. Conditions: the arguments read as data.
  WHAT IT HOLDS: contracts of halves, implies and alike of the reference of layer 8. Conditions: the arguments read as data.
  WHAT IT HOLDS: contracts of Canonical of the reference of layer 1, of Converse and Equivalence of the reference of layer 8. Conditions: the arguments read as data.
-/
import Derived.Test.YtpflkjldapmgdaaGreatZRCarryConverse38
import Derived.Test.YtpflkjldapmgdaaGreatZRCarryConverse5
import Derived.Test.YtpflkjldapmgdaaGreatZRCarryConverse35
import Derived.Test.YtpflkjldapmgdaaGreatZRCarryConverse21
import Derived.Test.YtpflkjldapmgdaaGreatZRCarryConverse32
import Derived.Test.YtpflkjldapmgdaaGreatZRCarryConverse29
namespace Go.Proofs.YtpflkjldapmgdaaGreat
open Go Go.RowKit Go.Maps
/-- a row of entries of the call's own; what the entries hold does not lie in the row's own block. -/
structure EnS (w : World) (base : Nat) (u : Value) (vs : List V3) (l : List En) : Prop where
  top : w.ownsRow base 35 5 u l.length (ensC l vs)
  len : vs.length = l.length
  rd : ∀ W' : World, (∀ q, q < w.heap.size → some q ≠ u.ownBlock → W'.heap[q]? = w.heap[q]?) → ∀ (j : Nat) (h : j < l.length) (h' : j < vs.length), EntAt W' vs[j].1 vs[j].2.1 vs[j].2.2 l[j]
theorem EnS.nil (w : World) (base : Nat) : EnS w base (.slice none 0 0) [] [] := ⟨World.ownsRow_nil _ _ _ _, rfl, fun _ _ j h => by simp at h⟩
theorem EnS.below {w w' : World} {base : Nat} {u : Value} {vs : List V3} {l : List En} (h : EnS w base u vs l) (hb : Below w.heap.size w w') : EnS w' base u vs l :=
  ⟨owns_below h.top hb, h.len, fun W' hW => h.rd W' fun q hq hne => (hW q (Nat.lt_of_lt_of_le hq hb.size) hne).trans (hb.block q hq)⟩
theorem EnS.ents {w : World} {base : Nat} {u : Value} {vs : List V3} {l : List En} (h : EnS w base u vs l) (hl : l.length ≤ 1000) : EntsV w u vs l :=
  ⟨RowK.of_owns h.top (by omega), h.len, h.rd w fun _ _ _ => rfl⟩
theorem ensC_snoc (l : List En) (x : En) (vs : List V3) (v : V3) (h : vs.length = l.length) : ensC (l ++ [x]) (vs ++ [v]) = ensC l vs ++ enC x v := by
  rw [ensC_append l [x] vs [v] h]
  simp [ensC]
theorem EnS.push {w w1 w2 : World} {base : Nat} {u : Value} {vs : List V3} {l : List En} (h : EnS w base u vs l) (hb : Below w.heap.size w w1) {x : En} {v : V3}
    (hx : ∀ W' : World, (∀ q, q < w1.heap.size → some q ≠ u.ownBlock → W'.heap[q]? = w1.heap[q]?) → EntAt W' v.1 v.2.1 v.2.2 x)
    {g cap n : Nat} (hn : n = l.length) (hown : w2.ownsRow base 35 5 (.slice (some ⟨g, 0, none⟩) (n + 1) cap) (n + 1) (ensC l vs ++ enC x v)) (hg : w1.grownBy w2 u.ownBlock) {H : Nat} (hH : H = w1.heap.size) (hat : u.ownBlock = some g ∨ g = H) :
    EnS w2 base (.slice (some ⟨g, 0, none⟩) (n + 1) cap) (vs ++ [v]) (l ++ [x]) := by
  subst hn
  have hb1 := h.below hb
  have key : ∀ W' : World, (∀ q, q < w2.heap.size → some q ≠ (Value.slice (some ⟨g, 0, none⟩) (l.length + 1) cap).ownBlock → W'.heap[q]? = w2.heap[q]?) → ∀ q, q < w1.heap.size → some q ≠ u.ownBlock → W'.heap[q]? = w1.heap[q]? := by
    intro W' hW q hq hne
    rw [hW q (Nat.lt_of_lt_of_le hq hg.size) ?_, hg.block q hq hne]
    intro e
    have e : q = g := Option.some.inj e
    rcases hat with ha | ha
    · exact hne (by rw [ha, e])
    · omega
  refine ⟨by rw [ensC_snoc _ _ _ _ h.len]; simpa using hown, by simp [h.len], fun W' hW j hj hj' => ?_⟩
  have k1 := key W' hW
  by_cases hlt : j < l.length
  · have hv : j < vs.length := by rw [h.len]; exact hlt
    rw [List.getElem_append_left hlt, List.getElem_append_left hv]
    exact hb1.rd W' k1 j hlt hv
  · have e : j = l.length := by simp at hj; omega
    subst e
    have e1 : (l ++ [x])[l.length] = x := by simp
    have e2 : (vs ++ [v])[l.length] = v := by rw [List.getElem_append_right (by rw [h.len]; exact Nat.le_refl _)]; simp [h.len]
    rw [e1, e2]
    exact hx W' k1
theorem EnS.slice {w : World} {base : Nat} {u : Value} {vs : List V3} {l : List En} (h : EnS w base u vs l) : ∃ a c, u = .slice a l.length c := owns_slice h.top
/-- the one entry that an append is handed. -/
theorem row_one_ent (w : World) (x0 x1 x2 x3 x4 : Value) (t : TypeId) : RowK (w.alloc (.cells #[x0, x1, x2, x3, x4] t)) (.slice (some ⟨w.heap.size, 0, none⟩) 1 1) 5 1 [x0, x1, x2, x3, x4] := by
  refine ⟨rfl, _, _, rfl, Nat.le_refl _, by omega, (fun h => by cases h), fun j u hj => ⟨_, _, rfl, ?_⟩⟩
  rw [World.cell?_alloc_new, Nat.zero_add]
  simpa using hj
theorem enC_one (x : En) (a b c : Option Addr) (n m k n' m' k' : Nat) : ∀ u ∈ enC x (.slice a n n', .slice b m m', .slice c k k'), u.oneCell' = true := by
  intro u hu
  simp [enC] at hu
  rcases hu with rfl | rfl | rfl | rfl | rfl <;> rfl
/-- what an entry is asked to be, to be copied. -/
def EnSm (x : En) : Prop := 0 < x.says.length ∧ x.says.length ≤ 1000 ∧ x.uses.length ≤ 1000 ∧ x.proof.length ≤ 1000
set_option maxHeartbeats 2000000 in
set_option maxRecDepth 100000 in
theorem carry_each (fg : Nat) (lb : Array Value) (eg : ∀ args w, (callFunc fg args).run Tryz.prog w = .ok (.enter fg args) w) (vl : Value) (l : List En) (f : En → En) (w : World) (hl : EntsAt w vl l) (hl1 : l.length ≤ 1000) (hok : ∀ x ∈ l, EnSm x)
    (hf : ∀ (i : Nat) (h : i < l.length) (W : World) (v : Value) (B : Nat), w.heap.size ≤ B → B ≤ W.heap.size → Below w.heap.size w W → EnO W B v l[i] → Calls Tryz.prog fg (#[v] ++ lb) W fun e w' => ∃ v', e = .returned v' ∧ EnO w' B v' (f l[i]) ∧ Below B W w') :
    Calls Tryz.prog 60 #[vl, .func (.func fg) #[] lb] w fun e w' => ∃ u vs, e = .returned u ∧ EnS w' w.heap.size u vs (l.map f) ∧ Below w.heap.size w w' := by
  obtain ⟨la, lc, rfl, -, ll, -, HC⟩ := hl.open
  have HC' := hid HC
  have HF := hid hf
  have HOK := hid hok
  have h00 := hid (EnS.nil w w.heap.size)
  clear HC hl hf hok
  go_enter Tryz.func60, Tryz.ntmps60
  go_wp2
  go_loopw [5, 10] (fun u kv wr => ∃ (k : Nat) (vs : List V3), k ≤ l.length ∧ kv = .int .i64 k ∧ EnS wr w.heap.size u vs ((l.take k).map f) ∧ Below w.heap.size w wr) (fun _ kv _ => l.length - (intOf kv).toNat)
  case atStart => exact ⟨0, [], by omega, rfl, by simpa using h00.out, Below.refl _ _⟩
  case round =>
    clear h00
    obtain ⟨k, vs, hk, rfl, hE, hb⟩ := hrel
    have hsz := hb.size
    by_cases hlt : k < l.length
    · obtain ⟨b, o, vS, vu, vp, rfl, c0, c1, c2, c3, c4, he⟩ := HC'.out k hlt
      have he' := he.below hb
      obtain ⟨sa, sc, rfl, -⟩ := he'.s.open
      obtain ⟨ua, uc, rfl, -⟩ := he'.u.open
      obtain ⟨pa, pc, rfl, -⟩ := he'.p.open
      have d0 := (hb.cell (World.block_lt_of_cell? _ _ c0)).trans c0
      have d1 := (hb.cell (World.block_lt_of_cell? _ _ c1)).trans c1
      have d2 := (hb.cell (World.block_lt_of_cell? _ _ c2)).trans c2
      have d3 := (hb.cell (World.block_lt_of_cell? _ _ c3)).trans c3
      have d4 := (hb.cell (World.block_lt_of_cell? _ _ c4)).trans c4
      obtain ⟨s0, s1, s2, s3⟩ := HOK.out _ (List.getElem_mem hlt)
      have HFK := hid (HF.out k hlt)
      have HTK := hid (show (l.take (k + 1)).map f = (l.take k).map f ++ [f l[k]] from by rw [List.take_succ_eq_append_getElem hlt, List.map_append]; rfl)
      have hlen : ((l.take k).map f).length = k := by simp; omega
      obtain ⟨x, hx⟩ : ∃ x, l[k] = x := ⟨_, rfl⟩
      rw [hx] at d0 d1 d2 d3 d4 he' s0 s1 s2 s3 HFK HTK
      obtain ⟨y, hy⟩ : ∃ y, f x = y := ⟨_, rfl⟩
      rw [hy] at HFK HTK
      obtain ⟨L, hL⟩ : ∃ L, (l.take k).map f = L := ⟨_, rfl⟩
      rw [hL] at hE HTK hlen
      clear c0 c1 c2 c3 c4 he hx hy hL
      have EB0 := EB.new wr x (.slice sa x.says.length sc) (.slice ua x.uses.length uc) (.slice pa x.proof.length pc) 35
      obtain ⟨W, hW⟩ : ∃ W, wr.alloc (.cells #[.string x.name, .string x.who, .slice sa x.says.length sc, .slice ua x.uses.length uc, .slice pa x.proof.length pc] 35) = W := ⟨_, rfl⟩
      have hbr : Below wr.heap.size wr W := hW ▸ (Below.refl _ _).alloc (Nat.le_refl _) _
      rw [hW] at EB0
      have HCP := hid (carry_copied (.slice sa x.says.length sc) (.slice ua x.uses.length uc) (.slice pa x.proof.length pc) x W (he'.below hbr) s0 s1 s2 s3)
      have HHW := hid hW
      have HBR := hid hbr
      have HE := hid hE
      have HB := hid hb
      clear EB0 hW hbr hE hb he'
      go_wp2_with fail
      rw [HHW.out]
      refine HCP.out.mono ?_
      rintro e w1 ⟨v, rfl, hO, hb1⟩
      have hbW := HB.out.trans (HBR.out.mono hsz)
      have hbw1 := hbW.trans (hb1.mono hbW.size)
      have HFF := hid (HFK.out w1 v W.heap.size hbW.size hb1.size hbw1 hO)
      have HB1 := hid hb1
      have HSW := hid hbW.size
      clear hO hb1 hbW hbw1
      go_wp2_with fail
      go_at_fn fg
      refine HFF.out.mono ?_
      rintro e w2 ⟨v', rfl, ⟨vS, vU, vP, rfl, hO⟩, hb2⟩
      have hbW2 : Below W.heap.size W w2 := HB1.out.trans hb2
      have hbr2 : Below wr.heap.size wr w2 := HBR.out.trans (hbW2.mono HBR.out.size)
      have hbw2 := HB.out.trans (hbr2.mono hsz)
      obtain ⟨a1, k1, rfl⟩ := owns_slice hO.s
      obtain ⟨a2, k2, rfl⟩ := owns_slice hO.u
      obtain ⟨a3, k3, rfl⟩ := owns_slice hO.p
      have HE2 := hid (HE.out.below hbr2)
      have HO2 := hid hO
      have HB2 := hid hbw2
      have HSZ2 := hid hbw2.size
      have HU := hid HE.out.top.lt
      have hown2 := HE2.out.top
      rw [hlen] at hown2
      have hownA := hown2.alloc (.cells #[.string y.name, .string y.who, .slice a1 y.says.length k1, .slice a2 y.uses.length k2, .slice a3 y.proof.length k3] 35)
      have HROW := hid (row_one_ent w2 (.string y.name) (.string y.who) (.slice a1 y.says.length k1) (.slice a2 y.uses.length k2) (.slice a3 y.proof.length k3) 35)
      have HRS := hid HBR.out.size
      have hwz := hbw2.size
      clear hO hb2 hbW2 hbw2 hown2
      go_wp2_with (at_builtin; refine wpList_append_lie rfl _ _ 24 rfl w.heap.size 35 el_ent Tryz.underlying24 rfl (by decide) u5 k (ensC L vs) rfl hownA _ 1 (enC y (.slice a1 y.says.length k1, .slice a2 y.uses.length k2, .slice a3 y.proof.length k3)) rfl HROW.out (enC_one _ _ _ _ _ _ _ _ _ _) (by omega) (by omega) (by omega) (by simp; omega) _ rfl ?_; intro g cap w4 hown4 hgrow4 hat4 hlt4)
      go_roundw
      case rel =>
        refine ⟨k + 1, vs ++ [(.slice a1 y.says.length k1, .slice a2 y.uses.length k2, .slice a3 y.proof.length k3)], by omega, by go_num, ?_, (HB2.out.alloc HSZ2.out _).grown hgrow4 (by simp; have := HSZ2.out; omega) (fun q hq => (HU.out q hq).1)⟩
        rw [HTK.out]
        exact HE2.out.push (w1 := w2.alloc _) ((Below.refl _ _).alloc (Nat.le_refl _) _) (fun W' hW' => (HO2.out.blocks (base' := 0) (Nat.zero_le _) fun q h1 h2 => (hW' q (by simp; omega) (fun e => by
          have := (HU.out q e.symm).2
          have := HRS.out
          omega)).trans (Below.heap_alloc _ _ _ h2)).ent) hlen.symm hown4 hgrow4 rfl hat4
      case measure => simp [intOf]; omega
    · have hkl : k = l.length := by omega
      subst hkl
      rw [List.take_of_length_le (Nat.le_refl _)] at hE
      have HE := hid hE
      clear hE
      go_wp2
      go_ret
      exact ⟨_, vs, rfl, HE.out, hb⟩
end Go.Proofs.YtpflkjldapmgdaaGreat
namespace Go.Proofs.YtpflkjldapmgdaaGreat
open Go Go.RowKit Go.Maps
/-- a growing row of terms: behind any change of its own block alone the terms still lie. -/
structure TeS (w : World) (base : Nat) (u : Value) (vs : List Value) (l : List (List Int)) : Prop where
  top : w.ownsRow base 28 1 u l.length vs
  len : vs.length = l.length
  rd : ∀ W' : World, (∀ q, q < w.heap.size → some q ≠ u.ownBlock → W'.heap[q]? = w.heap[q]?) → ∀ (j : Nat) (h : j < l.length) (h' : j < vs.length), Ints W' vs[j] l[j]
theorem TeS.nil (w : World) (base : Nat) : TeS w base (.slice none 0 0) [] [] := ⟨World.ownsRow_nil _ _ _ _, rfl, fun _ _ j h => by simp at h⟩
theorem TeS.below {w w' : World} {base : Nat} {u : Value} {vs : List Value} {l : List (List Int)} (h : TeS w base u vs l) (hb : Below w.heap.size w w') : TeS w' base u vs l :=
  ⟨owns_below h.top hb, h.len, fun W' hW => h.rd W' fun q hq hne => (hW q (Nat.lt_of_lt_of_le hq hb.size) hne).trans (hb.block q hq)⟩
theorem TeS.base {w : World} {base base' : Nat} {u : Value} {vs : List Value} {l : List (List Int)} (h : TeS w base u vs l) (hb : base' ≤ base) : TeS w base' u vs l := ⟨owns_base h.top hb, h.len, h.rd⟩
theorem TeS.terms {w : World} {base : Nat} {u : Value} {vs : List Value} {l : List (List Int)} (h : TeS w base u vs l) (hl : l.length ≤ 100000) : Terms w u l :=
  ⟨vs, by unfold Vals; rw [h.len]; exact RowK.of_owns h.top (by omega), h.len, fun i v t h1 h2 => by
    obtain ⟨k1, e1⟩ := List.getElem?_eq_some_iff.1 h1
    obtain ⟨k2, e2⟩ := List.getElem?_eq_some_iff.1 h2
    subst e1 e2
    exact h.rd w (fun _ _ _ => rfl) i k2 k1⟩
theorem TeS.push {w w1 w2 : World} {base : Nat} {u : Value} {vs : List Value} {l : List (List Int)} (h : TeS w base u vs l) (hb : Below w.heap.size w w1) {x : List Int} {v : Value}
    (hx : ∀ W' : World, (∀ q, q < w1.heap.size → some q ≠ u.ownBlock → W'.heap[q]? = w1.heap[q]?) → Ints W' v x)
    {g cap n : Nat} (hn : n = l.length) (hown : w2.ownsRow base 28 1 (.slice (some ⟨g, 0, none⟩) (n + 1) cap) (n + 1) (vs ++ [v])) (hg : w1.grownBy w2 u.ownBlock) {H : Nat} (hH : H = w1.heap.size) (hat : u.ownBlock = some g ∨ g = H) :
    TeS w2 base (.slice (some ⟨g, 0, none⟩) (n + 1) cap) (vs ++ [v]) (l ++ [x]) := by
  subst hn
  have hb1 := h.below hb
  have key : ∀ W' : World, (∀ q, q < w2.heap.size → some q ≠ (Value.slice (some ⟨g, 0, none⟩) (l.length + 1) cap).ownBlock → W'.heap[q]? = w2.heap[q]?) → ∀ q, q < w1.heap.size → some q ≠ u.ownBlock → W'.heap[q]? = w1.heap[q]? := by
    intro W' hW q hq hne
    rw [hW q (Nat.lt_of_lt_of_le hq hg.size) ?_, hg.block q hq hne]
    intro e
    have e : q = g := Option.some.inj e
    rcases hat with ha | ha
    · exact hne (by rw [ha, e])
    · omega
  refine ⟨by simpa using hown, by simp [h.len], fun W' hW j hj hj' => ?_⟩
  have k1 := key W' hW
  by_cases hlt : j < l.length
  · have hv : j < vs.length := by rw [h.len]; exact hlt
    rw [List.getElem_append_left hlt, List.getElem_append_left hv]
    exact hb1.rd W' k1 j hlt hv
  · have e : j = l.length := by simp at hj; omega
    subst e
    have e1 : (l ++ [x])[l.length] = x := by simp
    have e2 : (vs ++ [v])[l.length] = v := by rw [List.getElem_append_right (by rw [h.len]; exact Nat.le_refl _)]; simp [h.len]
    rw [e1, e2]
    exact hx W' k1
theorem TeS.slice {w : World} {base : Nat} {u : Value} {vs : List Value} {l : List (List Int)} (h : TeS w base u vs l) : ∃ a c, u = .slice a l.length c := owns_slice h.top
/-- numbers of one's own, behind a change elsewhere. -/
theorem ints_own {w W' : World} {base : Nat} {v : Value} {l : List Int} (h : w.ownsRow base 3 1 v l.length (l.map (Value.int .i64))) (hl : l.length ≤ 1000) (hs : ∀ q, base ≤ q → q < w.heap.size → W'.heap[q]? = w.heap[q]?) : Ints W' v l :=
  Ints.of_owns (owns_blocks h fun q h1 h2 _ => hs q h1 h2) (by omega)
set_option maxHeartbeats 2000000 in
set_option maxRecDepth 100000 in
theorem ref1_Args (vs vt : Value) (s : Sg) (t : List Int) (zs : List (List Int)) (c : Nat) (w : World) (hv : termB s t = true) (ht0 : t = (c : Int) :: zs.flatten) (hc : c < s.length) (hz : (zs.length : Int) = arOf s c) (hzt : ∀ a ∈ zs, IsT s 12 a) (hs : SignAt w vs s) (ht : Ints w vt t) :
    Calls Tryz.prog 133 #[vs, vt] w fun e w' => ∃ u vvs, e = .returned (.tuple #[u, .int .i64 0]) ∧ TeS w' w.heap.size u vvs zs ∧ Below w.heap.size w w' := by
  obtain ⟨f1, f2, f3, f4⟩ := termB_facts hv
  have hsg : ∀ x ∈ t, x < s.length := T_lt24r ((termB_T hv).mono (m' := 24) (by omega))
  have hd : t.drop 0 = (c : Int) :: zs.flatten ++ [] := by simpa using ht0
  have HARG := hid (fun (X : World) (hX : Below w.heap.size w X) => ref1_Arguments vs vt s 12 t [] c zs 0 X (hs.below hX) (ht.below hX) hc hz hzt hd hsg (by omega))
  have hzl := terms_len hzt
  have hfl : zs.flatten.length < 60 := by have := congrArg List.length ht0; simp at this; simp; omega
  have hz100 : zs.length ≤ 1000 := by omega
  have HPART := hid (fun (X : World) (k : Nat) (hk : k < zs.length) (hX : Below w.heap.size w X) => ref1_Part vs vt s 12 t zs[k] ((zs.drop (k + 1)).flatten ++ []) (0 + 1 + (zs.take k).flatten.length) X (hs.below hX) (ht.below hX) (hzt _ (List.getElem_mem hk)) (drop_part hd hk) hsg (by omega) (by
    have h1 := congrArg List.length (drop_part hd hk)
    rw [List.length_drop, List.length_append] at h1
    have := (hzt zs[k] (List.getElem_mem hk)).ne
    omega))
  have HZL := hid (fun (k : Nat) (hk : k < zs.length) => (show zs[k].length ≤ 60 from by
    have h1 := congrArg List.length (drop_part hd hk)
    rw [List.length_drop, List.length_append] at h1
    omega))
  have HV := hid (ref1_Valid vs vt s t w hs ht)
  rw [hv] at HV
  obtain ⟨sa, sc, rfl, -⟩ := hs.open
  obtain ⟨ta, tc, rfl, -⟩ := ht.open
  clear hs ht hsg hd hzt ht0 f1 f2 f3 hz hc hv
  go_enter Tryz.func133, Tryz.ntmps133
  go_wp2_with fail
  refine HV.out.mono ?_
  rintro e w1 ⟨rfl, n, hw1⟩
  have hb1 : Below w.heap.size w w1 := hw1 ▸ below_self_drewN w n
  clear hw1 HV
  have HA1 := hid (HARG.out w1 hb1)
  go_wp2_with fail
  refine HA1.out.mono ?_
  rintro e w2 ⟨u2, rfl, o2, hb2⟩
  have hb02 := hb1.trans (hb2.mono hb1.size)
  have HST := hid (Ints.of_owns o2 (by rw [startL_len]; omega))
  obtain ⟨xa, xc, rfl, xcap, -, -, XC⟩ := HST.out.open
  rw [startL_len] at xcap
  have XC' := hid XC
  have HB2 := hid hb02
  have h00 := hid (TeS.nil w2 w2.heap.size)
  clear hb1 hb2 o2 hb02 XC HA1 HARG
  simp only [startL_len]
  go_wp2
  go_loopw [7, 8] (fun u kv wr => ∃ (k : Nat) (vvs : List Value), k ≤ zs.length ∧ kv = .int .i64 k ∧ TeS wr w2.heap.size u vvs (zs.take k) ∧ Below w2.heap.size w2 wr) (fun _ kv _ => zs.length - (intOf kv).toNat)
  case atStart => exact ⟨0, [], by omega, rfl, by simpa using h00.out, Below.refl _ _⟩
  case round =>
    clear h00
    obtain ⟨k, vvs, hk, rfl, hE, hb⟩ := hrel
    have hsz := hb.size
    by_cases hlt : k < zs.length
    · obtain ⟨xb, xo, rfl, k0⟩ := XC'.out k (by rw [startL_len]; exact hlt)
      rw [startL_get 0 zs hlt] at k0
      have k1 := (hb.cell (World.block_lt_of_cell? _ _ k0)).trans k0
      have HP := hid (HPART.out wr k hlt (HB2.out.trans (hb.mono HB2.out.size)))
      have hzk := HZL.out k hlt
      have HTK := hid (show zs.take (k + 1) = zs.take k ++ [zs[k]] from List.take_succ_eq_append_getElem hlt)
      obtain ⟨z, hz⟩ : ∃ z, zs[k] = z := ⟨_, rfl⟩
      obtain ⟨S, hS⟩ : ∃ S, 0 + 1 + (zs.take k).flatten.length = S := ⟨_, rfl⟩
      rw [hz] at HP hzk HTK
      rw [hS] at HP k1
      have hlen : (zs.take k).length = k := by simp; omega
      obtain ⟨L, hL⟩ : ∃ L, zs.take k = L := ⟨_, rfl⟩
      rw [hL] at hE HTK hlen
      have HE := hid hE
      have HB := hid hb
      clear k0 hE hb hz hS hL
      go_wp2_with fail
      refine HP.out.mono ?_
      rintro e w3 ⟨v3, rfl, o3, hb3⟩
      obtain ⟨a3, c3, rfl⟩ := owns_slice o3
      have HE3 := hid (HE.out.below hb3)
      have HO3 := hid o3
      have HU := hid HE.out.top.lt
      have HB3 := hid (HB.out.trans (hb3.mono hsz))
      have hwz := HB3.out.size
      have HS3 := hid hb3.size
      have hown2 := HE3.out.top
      rw [hlen] at hown2
      have hownA := hown2.alloc (.cells #[.slice a3 z.length c3] 28)
      clear o3 hb3 hown2
      go_wp2_with (at_builtin; refine wpList_append_lie rfl _ _ 56 rfl w2.heap.size 28 el_term Tryz.underlying56 rfl (by decide) u7 k vvs rfl hownA _ 1 [.slice a3 z.length c3] rfl (row_one_new _ _ _) (oneCell_one rfl) (by omega) (by omega) (by omega) (by simp; omega) _ rfl ?_; intro g cap w4 hown4 hgrow4 hat4 hlt4)
      go_roundw
      case rel =>
        refine ⟨k + 1, vvs ++ [.slice a3 z.length c3], by omega, by go_num, ?_, (HB3.out.alloc hwz _).grown hgrow4 (by simp; have := hwz; omega) (fun q hq => (HU.out q hq).1)⟩
        rw [HTK.out]
        exact HE3.out.push (w1 := w3.alloc _) ((Below.refl _ _).alloc (Nat.le_refl _) _) (fun W' hW' => ints_own HO3.out (by omega) fun q h1 h2 => (hW' q (by simp; omega) (fun e => by
          have := (HU.out q e.symm).2
          omega)).trans (Below.heap_alloc _ _ _ h2)) hlen.symm hown4 hgrow4 rfl hat4
      case measure => simp [intOf]; omega
    · have hkl : k = zs.length := by omega
      subst hkl
      rw [List.take_of_length_le (Nat.le_refl _)] at hE
      have HE := hid (hE.base HB2.out.size)
      have HB := hid (HB2.out.trans (hb.mono HB2.out.size))
      clear hE hb
      go_wp2
      go_ret2
      exact ⟨_, vvs, rfl, HE.out, HB.out⟩
theorem ref1_Alike (vs va vb : Value) (s : Sg) (a b : List Int) (w : World) (hs : SignAt w vs s) (ra : Ints w va a) (rb : Ints w vb b) :
    Calls Tryz.prog 30 #[vs, va, vb] w fun e w' => e = .returned (.bool (alikeB s a b)) ∧ Below w.heap.size w w' := by
  cases h1 : termB s a
  · have HF : Hid (alikeB s a b = false) := hid (by unfold alikeB; rw [h1]; rfl)
    go_enter Tryz.func30, Tryz.ntmps30
    go_wp2_with fail
    refine (ref1_Valid _ _ s a _ hs ra).mono ?_
    rintro e w1 ⟨rfl, n, rfl⟩
    rw [h1]
    go_wp2
    go_ret
    exact ⟨ret_bool HF.out.symm, below_self_drewN _ _⟩
  · cases h2 : termB s b
    · have HF : Hid (alikeB s a b = false) := hid (by unfold alikeB; rw [h1, h2]; rfl)
      have HVB := hid (fun (n : Nat) => ref1_Valid vs vb s b (w.drewN n) (hs.drewN n) (rb.drewN n))
      rw [h2] at HVB
      go_enter Tryz.func30, Tryz.ntmps30
      go_wp2_with fail
      refine (ref1_Valid _ _ s a _ hs ra).mono ?_
      rintro e w1 ⟨rfl, n, rfl⟩
      rw [h1]
      go_wp2_with fail
      refine (HVB.out n).mono ?_
      rintro e w2 ⟨rfl, n2, rfl⟩
      go_wp2
      go_ret
      exact ⟨ret_bool HF.out.symm, below_self_drewN _ _⟩
    · have f4 := (termB_facts h1).2.2.2
      have f5 := (termB_facts h2).2.2.2
      have HA := hid (termB_wf h1)
      have HBW := hid (termB_wf h2)
      have ha0 := (termB_T h1).ne
      have hb0 := (termB_T h2).ne
      have HL := hid (canonL_len a)
      have HLB := hid (canonL_len b)
      have HF : Hid (alikeB s a b = decide (canonL a = canonL b)) := hid (by unfold alikeB; rw [h1, h2]; simp)
      have H1 := hid h1
      have H2 := hid h2
      clear h1 h2
      go_enter Tryz.func30, Tryz.ntmps30
      go_wp2_with fail
      refine (ref1_Valid _ _ s a _ hs ra).mono ?_
      rintro e w1 ⟨rfl, n, hw1⟩
      have hb1 : Below w.heap.size w w1 := hw1 ▸ below_self_drewN w n
      clear hw1
      rw [H1.out]
      go_wp2_with fail
      refine (ref1_Valid _ _ s b _ (hs.below hb1) (rb.below hb1)).mono ?_
      rintro e w2 ⟨rfl, n2, hw2⟩
      have hb2 : Below w.heap.size w w2 := hw2 ▸ below_drewN hb1 n2
      clear hw2
      rw [H2.out]
      go_wp2_with fail
      refine (ref1_Renamed _ a _ (ra.below hb2) ha0 (by omega) HA.out).mono ?_
      rintro e w3 ⟨u3, rfl, o3, hb3'⟩
      have hb3 := hb2.trans (hb3'.mono hb2.size)
      have r3 := Ints.of_owns o3 (by rw [HL.out]; omega)
      clear hb3' o3
      go_wp2_with fail
      refine (ref1_Renamed _ b _ (rb.below hb3) hb0 (by omega) HBW.out).mono ?_
      rintro e w4 ⟨u4, rfl, o4, hb4'⟩
      have hb4 := hb3.trans (hb4'.mono hb3.size)
      have r4 := Ints.of_owns o4 (by rw [HLB.out]; omega)
      have HEQ := hid (ref1_Same u3 u4 (canonL a) (canonL b) w4 (r3.below hb4') r4)
      clear hb4' o4 r3 r4
      go_wp2_with fail
      refine HEQ.out.mono ?_
      rintro e w5 ⟨rfl, n, rfl⟩
      go_wp2
      go_ret
      exact ⟨ret_bool HF.out.symm, below_drewN hb4 n⟩
end Go.Proofs.YtpflkjldapmgdaaGreat
namespace Go.Proofs.YtpflkjldapmgdaaGreat
open Go Go.RowKit Go.Maps
set_option maxHeartbeats 1000000 in
theorem ref8_halves0 (vs vm : Value) (s : Sg) (m : List Int) (w : World) (hm : 0 < m.length) (h0 : m.head? ≠ some 0) (rm : Ints w vm m) :
    Calls Tryz.prog 73 #[vs, vm] w fun e w' => e = .returned (.tuple #[.slice none 0 0, .slice none 0 0, .bool false]) ∧ Below w.heap.size w w' := by
  obtain ⟨ta, tcap, rfl, hcap, h2, -, TC⟩ := rm.open
  obtain ⟨b, o, rfl, hc0⟩ := TC 0 hm
  simp only [Nat.add_zero] at hc0
  have hn : m[0] ≠ 0 := fun h => h0 (by rw [List.head?_eq_getElem?, List.getElem?_eq_getElem hm, h])
  have hnd : (m[0] != 0) = true := by simpa using hn
  obtain ⟨x, hx⟩ : ∃ x, m[0] = x := ⟨_, rfl⟩
  rw [hx] at hc0 hnd
  clear TC rm h0 hx hn
  go_enter Tryz.func73, Tryz.ntmps73
  go_wp2
  go_ret3
  exact ⟨rfl, Below.refl _ _⟩
theorem sg_pos {s : Sg} (f1 : signB s = true) : 0 < s.length := by
  unfold signB at f1
  simp only [Bool.and_eq_true] at f1
  have := inB_true.1 f1.1.1
  omega
theorem sg_two {s : Sg} (f1 : signB s = true) (A B : List Int) : (([A, B] : List (List Int)).length : Int) = arOf s (0 : Nat) := by
  have := halves_arP f1
  have h0 := sg_pos f1
  unfold arP at this
  rw [show inB 0 (-12) (-1) = false from by decide, if_neg (by simp)] at this
  split at this
  · simpa using this.symm
  · omega
set_option maxHeartbeats 1000000 in
theorem ref8_halves (vs vm : Value) (s : Sg) (m A B : List Int) (w : World) (hm : m = 0 :: (A ++ B)) (hv : termB s m = true) (hA : IsT s 12 A) (hB : IsT s 12 B) (hs : SignAt w vs s) (rm : Ints w vm m) :
    Calls Tryz.prog 73 #[vs, vm] w fun e w' => ∃ ua ub, e = .returned (.tuple #[ua, ub, .bool true]) ∧ Ints w' ua A ∧ Ints w' ub B ∧ Below w.heap.size w w' := by
  have f1 := (termB_facts hv).1
  have HAR := hid (ref1_Args vs vm s m [A, B] 0 w hv (by simpa using hm) (sg_pos f1) (sg_two f1 A B) (by intro a ha; simp at ha; rcases ha with rfl | rfl <;> assumption) hs rm)
  obtain ⟨ta, tcap, hva, hcap, h2, -, TC⟩ := rm.open
  subst hva
  obtain ⟨b, o, rfl, hc0⟩ := TC 0 (by rw [hm]; simp)
  have hm0 : ∀ (h : 0 < m.length), m[0] = 0 := by intro h; subst hm; rfl
  have hmp : 0 < m.length := by rw [hm]; simp
  rw [hm0] at hc0
  simp only [Nat.add_zero] at hc0
  clear TC rm hv hA hB hm hm0
  go_enter Tryz.func73, Tryz.ntmps73
  go_wp2_with fail
  refine HAR.out.mono ?_
  rintro e w1 ⟨u, vvs, rfl, hl, hb1⟩
  have hv1 := hl.terms (by simp)
  have HB1 := hid hb1
  clear hb1 hc0 hl
  obtain ⟨a, cap, rfl, hc, -, -, hcell⟩ := hv1.open
  obtain ⟨g, o, va, rfl, c0, hIA⟩ := hcell 0 (by simp)
  obtain ⟨g', o', vb, he', c1, hIB⟩ := hcell 1 (by simp)
  obtain ⟨rfl, rfl⟩ : g = g' ∧ o = o' := by simpa using he'
  simp only [List.getElem_cons_zero, List.getElem_cons_succ, Nat.add_zero, List.length_cons, List.length_nil, Nat.zero_add, Nat.reduceAdd] at c0 c1 hc hIA hIB ⊢
  have HIA := hid hIA
  have HIB := hid hIB
  obtain ⟨xa, ya, rfl, -⟩ := hIA.open
  obtain ⟨xb, yb, rfl, -⟩ := hIB.open
  clear hIA hIB hcell he' hv1
  go_wp2
  go_quiet (fail)
  go_wp2
  go_ret3
  exact ⟨_, _, rfl, HIA.out.drewN _, HIB.out.drewN _, below_drewN HB1.out _⟩
set_option maxHeartbeats 1000000 in
set_option maxRecDepth 100000 in
theorem ref8_implies (va vb : Value) (a b : List Int) (w : World) (ra : Ints w va a) (rb : Ints w vb b) (la : a.length ≤ 1000) (lb : b.length ≤ 1000) :
    Calls Tryz.prog 87 #[va, vb] w fun e w' => ∃ u, e = .returned u ∧ w'.ownsRow w.heap.size 3 1 u (0 :: (a ++ b)).length ((0 :: (a ++ b)).map (Value.int .i64)) ∧ Below w.heap.size w w' := by
  have hown := World.ownsRow_lit (base := w.heap.size) (e := 3) (size := 1) w #[.int .i64 0] 1 (Nat.le_refl _) (by simp [maxLen]) rfl
  have hb0 : Below w.heap.size w (w.alloc (.cells #[.int .i64 0] 3)) := (Below.refl _ _).alloc (Nat.le_refl _) _
  have HOWN := hid hown
  have HRA := hid (ra.below hb0)
  have HRB := hid rb
  have HB0 := hid hb0
  obtain ⟨xa, ya, rfl, -⟩ := ra.open
  obtain ⟨xb, yb, rfl, -⟩ := rb.open
  clear ra rb hown hb0
  go_enter Tryz.func87, Tryz.ntmps87
  go_wp2_with (at_builtin; first
    | (refine wpList_append_row rfl _ _ 28 rfl w.heap.size 3 el_int Tryz.underlying28 rfl (by decide) _ _ _ rfl HOWN.out _ a.length (a.map (Value.int .i64)) rfl HRA.out (ints_one a) (by omega) (by omega) (by simp) ?_; intro v3 w3 hown3 hgrow3 _; have hb3 : Below w.heap.size w w3 := HB0.out.grown hgrow3 (by simp) (fun q hq => by cases hq; exact Nat.le_refl _); have HRB3 := hid (HRB.out.below hb3); have HO3 := hid hown3; have HB3 := hid hb3; have hz3 := hb3.size; obtain ⟨x3, y3, he3⟩ := owns_slice hown3; subst he3; clear hown3 hgrow3 hb3)
    | (refine wpList_append_row rfl _ _ 28 rfl w.heap.size 3 el_int Tryz.underlying28 rfl (by decide) _ _ _ rfl HO3.out _ b.length (b.map (Value.int .i64)) rfl HRB3.out (ints_one b) (by omega) (by omega) hz3 ?_; intro v4 w4 hown4 hgrow4 _))
  go_ret
  refine ⟨_, rfl, ?_, HB3.out.grown hgrow4 hz3 (fun q hq => (HO3.out.lt q hq).1)⟩
  have e1 : a.length + b.length + 1 = 1 + a.length + b.length := by omega
  rw [e1]
  simpa using hown4
set_option maxHeartbeats 1000000 in
theorem ref8_alike (vs vl vt : Value) (s : Sg) (l : List En) (t : List Int) (w : World) (hs : SignAt w vs s) (hl : EntsAt w vl l) (ht : Ints w vt t) :
    Calls Tryz.prog 74 #[vs, vl, vt] w fun e w' => e = .returned (.int .i64 (firstI l.length fun i => alikeB s ((l.map En.says).getD i []) t)) ∧ Below w.heap.size w w' := by
  have HSG := hid hs
  have HT := hid ht
  obtain ⟨la, lc, rfl, -, ll, -, HC⟩ := hl.open
  have HC' := hid HC
  obtain ⟨sa, sc, rfl, -⟩ := hs.open
  obtain ⟨ta, tc, rfl, -⟩ := ht.open
  clear HC hl hs ht
  go_enter Tryz.func74, Tryz.ntmps74
  go_wp2
  go_loopw [7] (fun kv wr => ∃ (k : Nat), k ≤ l.length ∧ kv = .int .i64 k ∧ (∀ j, j < k → alikeB s ((l.map En.says).getD j []) t = false) ∧ Below w.heap.size w wr) (fun kv _ => l.length - (intOf kv).toNat)
  case atStart => exact ⟨0, by omega, rfl, by intro j h; omega, Below.refl _ _⟩
  case round =>
    obtain ⟨k, hk, rfl, hrel, hb⟩ := hrel
    have hsz := hb.size
    have HR := hid hrel
    clear hrel
    by_cases hlt : k < l.length
    · obtain ⟨b, o, vS, vu, vp, rfl, -, -, c2, -, -, he⟩ := HC'.out k hlt
      have d2 := (hb.cell (World.block_lt_of_cell? _ _ c2)).trans c2
      have hI := he.s.below hb
      have hgd : (l.map En.says).getD k [] = l[k].says := by simp [List.getD, hlt]
      obtain ⟨x, hx⟩ : ∃ x, l[k].says = x := ⟨_, rfl⟩
      rw [hx] at hI hgd
      obtain ⟨xa, xc, rfl, -⟩ := hI.open
      have HAL := hid (ref1_Alike (.slice sa s.length sc) _ (.slice ta t.length tc) s x t wr (HSG.out.below hb) hI (HT.out.below hb))
      have HB := hid hb
      have HGD := hid hgd
      clear c2 he hI hx hb hgd
      cases hal : alikeB s x t
      · rw [hal] at HAL
        go_wp2_with fail
        refine HAL.out.mono ?_
        rintro e w1 ⟨rfl, hb1⟩
        go_wp2
        go_roundw
        case rel =>
          refine ⟨k + 1, by omega, by go_num, fun j hj => ?_, HB.out.trans (hb1.mono hsz)⟩
          by_cases hjk : j = k
          · subst hjk; rw [HGD.out]; exact hal
          · exact HR.out j (by omega)
        case measure => simp [intOf]; omega
      · rw [hal] at HAL
        have HF : Hid (firstI l.length (fun i => alikeB s ((l.map En.says).getD i []) t) = k) := hid (firstI_at hlt (by rw [HGD.out]; exact hal) HR.out)
        go_wp2_with fail
        refine HAL.out.mono ?_
        rintro e w1 ⟨rfl, hb1⟩
        go_wp2
        go_ret
        exact ⟨ret_int HF.out.symm, HB.out.trans (hb1.mono hsz)⟩
    · have hkl : k = l.length := by omega
      subst hkl
      have HF : Hid (firstI l.length (fun i => alikeB s ((l.map En.says).getD i []) t) = -1) := hid (firstI_no HR.out)
      go_wp2
      go_ret
      exact ⟨ret_int HF.out.symm, hb⟩
end Go.Proofs.YtpflkjldapmgdaaGreat
namespace Go.Proofs.YtpflkjldapmgdaaGreat
open Go Go.RowKit Go.Maps
set_option maxHeartbeats 1000000 in
theorem ref1_Canonical (vs vt : Value) (s : Sg) (t : List Int) (w : World) (hs : SignAt w vs s) (rt : Ints w vt t) (g : termB s t = true) :
    Calls Tryz.prog 86 #[vs, vt] w fun e w' => ∃ u, e = .returned (.tuple #[u, .int .i64 0]) ∧ w'.ownsRow w.heap.size 3 1 u (canonL t).length ((canonL t).map (Value.int .i64)) ∧ Below w.heap.size w w' := by
  have HV := hid (ref1_Valid vs vt s t w hs rt)
  have f4 := (termB_facts g).2.2.2
  have HA := hid (termB_wf g)
  have ha0 := (termB_T g).ne
  have HRN := hid (fun (X : World) (hX : Below w.heap.size w X) => ref1_Renamed vt t X (rt.below hX) ha0 (by omega) HA.out)
  rw [g] at HV
  clear g hs rt
  go_enter Tryz.func86, Tryz.ntmps86
  go_wp2_with fail
  refine HV.out.mono ?_
  rintro e w1 ⟨rfl, n, hw1⟩
  have hb1 : Below w.heap.size w w1 := hw1 ▸ below_self_drewN w n
  clear hw1
  have H1 := hid (HRN.out w1 hb1)
  go_wp2_with fail
  refine H1.out.mono ?_
  rintro e w2 ⟨u, rfl, o2, hb2⟩
  have HO := hid (owns_base (b' := w.heap.size) o2 hb1.size)
  have HB := hid (hb1.trans (hb2.mono hb1.size))
  clear o2 hb1 hb2
  go_wp2
  go_ret2
  exact ⟨_, rfl, HO.out, HB.out⟩
set_option maxHeartbeats 1000000 in
set_option maxRecDepth 100000 in
theorem ref8_Converse (vs vt : Value) (s : Sg) (t : List Int) (w : World) (hs : SignAt w vs s) (rt : Ints w vt t) :
    Calls Tryz.prog 24 #[vs, vt] w fun e w' => ∃ u, e = .returned (.tuple #[u, .int .i64 (convR s t).2]) ∧ Ints w' u (convR s t).1 ∧ Below w.heap.size w w' := by
  have HVS := hid (ref1_ValidSign vs s w hs)
  have HV := hid (fun (X : World) (hX : Below w.heap.size w X) => ref1_Valid vs vt s t X (hs.below hX) (rt.below hX))
  cases g0 : signB s
  · have HF := hid (convR_1 (s := s) (t := t) (by
      cases g : termB s t with
      | false => rfl
      | true => rw [(termB_facts g).1] at g0; cases g0))
    rw [g0] at HVS
    clear g0 hs rt
    go_enter Tryz.func24, Tryz.ntmps24
    go_wp2_with fail
    refine HVS.out.mono ?_
    rintro e w1 ⟨rfl, n1, rfl⟩
    go_wp2
    go_ret2
    exact ⟨_, by rw [HF.out]; rfl, by rw [HF.out]; exact Ints.of_owns (World.ownsRow_nil _ 0 3 1) (by simp), below_self_drewN _ _⟩
  rw [g0] at HVS
  cases g : termB s t
  · have HF := hid (convR_1 g)
    simp only [g] at HV
    clear g g0 hs rt
    go_enter Tryz.func24, Tryz.ntmps24
    go_wp2_with fail
    refine HVS.out.mono ?_
    rintro e w1 ⟨rfl, n1, rfl⟩
    go_wp2_with fail
    refine (HV.out _ (below_self_drewN _ _)).mono ?_
    rintro e w2 ⟨rfl, n2, rfl⟩
    go_wp2
    go_ret2
    exact ⟨_, by rw [HF.out]; rfl, by rw [HF.out]; exact Ints.of_owns (World.ownsRow_nil _ 0 3 1) (by simp), below_self_drewN _ _⟩
  simp only [g] at HV
  have ht0 := (termB_T g).ne
  by_cases h0 : t.head? = some 0
  · obtain ⟨A, B, ht, tA, tB, lA, lB⟩ := halves_T g h0
    have HF := hid (convR_0 g h0)
    have HSW := hid (swap_term tA tB (ht ▸ g))
    have HCE := hid (show convL s t = canonL (0 :: (B ++ A)) from by rw [ht]; exact convL_eq tA)
    have HSD := hid (fun (X : World) (hX : Below w.heap.size w X) => ref8_halves vs vt s t A B X ht g tA tB (hs.below hX) (rt.below hX))
    have HSG := hid hs
    have hl60 : (canonL (0 :: (B ++ A))).length ≤ 60 := by
      have := (termB_facts g).2.2.2
      rw [canonL_len, ht] at *
      simp at this ⊢; omega
    have hl61 : (0 :: (B ++ A)).length ≤ 60 := by rw [canonL_len] at hl60; exact hl60
    clear hs rt g g0 h0 ht
    go_enter Tryz.func24, Tryz.ntmps24
    go_wp2_with fail
    refine HVS.out.mono ?_
    rintro e w1 ⟨rfl, n1, hw1⟩
    have hb1 : Below w.heap.size w w1 := hw1 ▸ below_self_drewN w n1
    clear hw1
    go_wp2_with fail
    refine (HV.out _ hb1).mono ?_
    rintro e w2 ⟨rfl, n2, hw2⟩
    have hb2 : Below w.heap.size w w2 := hw2 ▸ below_drewN hb1 n2
    clear hw2 hb1
    have HS1 := hid (HSD.out w2 hb2)
    go_wp2_with fail
    refine HS1.out.mono ?_
    rintro e w3 ⟨ua, ub, rfl, ia, ib, hb3⟩
    have HB3 := hid (hb2.trans (hb3.mono hb2.size))
    have HIM := hid (ref8_implies ub ua B A w3 ib ia (by omega) (by omega))
    obtain ⟨L, hL⟩ : ∃ L, 0 :: (B ++ A) = L := ⟨_, rfl⟩
    rw [hL] at HIM HSW HCE hl60 hl61
    clear hL
    obtain ⟨aa, ac, rfl, -⟩ := ia.open
    obtain ⟨ba, bc, rfl, -⟩ := ib.open
    clear ia ib hb2 hb3 HS1
    go_wp2_with fail
    refine HIM.out.mono ?_
    rintro e w4 ⟨u4, rfl, o4, hb4⟩
    have HB4 := hid (HB3.out.trans (hb4.mono HB3.out.size))
    have HCA := hid (ref1_Canonical vs u4 s L w4 (HSG.out.below HB4.out) (Ints.of_owns o4 (by omega)) HSW.out)
    obtain ⟨a4, c4, rfl⟩ := owns_slice o4
    clear o4 hb4 HIM
    go_wp2_with fail
    refine HCA.out.mono ?_
    rintro e w5 ⟨u5, rfl, o5, hb5⟩
    have HI := hid (Ints.of_owns o5 (by omega))
    have HB5 := hid (HB4.out.trans (hb5.mono HB4.out.size))
    clear o5 hb5 HCA
    go_wp2
    go_ret2
    exact ⟨_, by rw [HF.out]; rfl, by rw [HF.out, HCE.out]; exact HI.out, HB5.out⟩
  · have HF := hid (convR_10 g h0)
    have HSD := hid (fun (X : World) (hX : Below w.heap.size w X) => ref8_halves0 vs vt s t X ht0 h0 (rt.below hX))
    clear g g0 h0 hs rt
    go_enter Tryz.func24, Tryz.ntmps24
    go_wp2_with fail
    refine HVS.out.mono ?_
    rintro e w1 ⟨rfl, n1, hw1⟩
    have hb1 : Below w.heap.size w w1 := hw1 ▸ below_self_drewN w n1
    clear hw1
    go_wp2_with fail
    refine (HV.out _ hb1).mono ?_
    rintro e w2 ⟨rfl, n2, hw2⟩
    have hb2 : Below w.heap.size w w2 := hw2 ▸ below_drewN hb1 n2
    clear hw2 hb1
    have HS1 := hid (HSD.out w2 hb2)
    go_wp2_with fail
    refine HS1.out.mono ?_
    rintro e w3 ⟨rfl, hb3⟩
    go_wp2
    go_ret2
    exact ⟨_, by rw [HF.out]; rfl, by rw [HF.out]; exact Ints.of_owns (World.ownsRow_nil _ 0 3 1) (by simp), hb2.trans (hb3.mono hb2.size)⟩
theorem termB_nosign {s : Sg} {t : List Int} (h : signB s = false) : termB s t = false := by
  cases g : termB s t with
  | false => rfl
  | true => rw [(termB_facts g).1] at h; cases h
set_option maxHeartbeats 1000000 in
theorem ref8_Equivalence (vs vt vu : Value) (s : Sg) (t u : List Int) (w : World) (hs : SignAt w vs s) (rt : Ints w vt t) (ru : Ints w vu u) :
    Calls Tryz.prog 26 #[vs, vt, vu] w fun e w' => e = .returned (.tuple #[.bool (eqvR s t u).1, .int .i64 (eqvR s t u).2]) ∧ Below w.heap.size w w' := by
  have HVS := hid (ref1_ValidSign vs s w hs)
  have HV := hid (fun (X : World) (hX : Below w.heap.size w X) => ref1_Valid vs vt s t X (hs.below hX) (rt.below hX))
  have HV2 := hid (fun (X : World) (hX : Below w.heap.size w X) => ref1_Valid vs vu s u X (hs.below hX) (ru.below hX))
  have HCV := hid (fun (X : World) (hX : Below w.heap.size w X) => ref8_Converse vs vt s t X (hs.below hX) (rt.below hX))
  have HSG := hid hs
  have HRU := hid ru
  clear hs rt ru
  cases g0 : signB s
  · have HF := hid (eqvR_1 (u := u) (Or.inl (termB_nosign (t := t) g0)))
    rw [g0] at HVS
    clear g0
    go_enter Tryz.func26, Tryz.ntmps26
    go_wp2_with fail
    refine HVS.out.mono ?_
    rintro e w1 ⟨rfl, n1, rfl⟩
    go_wp2
    go_ret2
    exact ⟨by rw [HF.out]; rfl, below_self_drewN _ _⟩
  rw [g0] at HVS
  cases g1 : termB s t
  · have HF := hid (eqvR_1 (u := u) (Or.inl g1))
    simp only [g1] at HV
    clear g1 g0
    go_enter Tryz.func26, Tryz.ntmps26
    go_wp2_with fail
    refine HVS.out.mono ?_
    rintro e w1 ⟨rfl, n1, rfl⟩
    go_wp2_with fail
    refine (HV.out _ (below_self_drewN _ _)).mono ?_
    rintro e w2 ⟨rfl, n2, rfl⟩
    go_wp2
    go_ret2
    exact ⟨by rw [HF.out]; rfl, below_self_drewN _ _⟩
  simp only [g1] at HV
  cases g2 : termB s u
  · have HF := hid (eqvR_1 (t := t) (Or.inr g2))
    simp only [g2] at HV2
    clear g1 g2 g0
    go_enter Tryz.func26, Tryz.ntmps26
    go_wp2_with fail
    refine HVS.out.mono ?_
    rintro e w1 ⟨rfl, n1, rfl⟩
    go_wp2_with fail
    refine (HV.out _ (below_self_drewN _ _)).mono ?_
    rintro e w2 ⟨rfl, n2, rfl⟩
    go_wp2_with fail
    refine (HV2.out _ (below_self_drewN _ _)).mono ?_
    rintro e w3 ⟨rfl, n3, rfl⟩
    go_wp2
    go_ret2
    exact ⟨by rw [HF.out]; rfl, below_self_drewN _ _⟩
  simp only [g2] at HV2
  have HE := hid (eqvR_0 g1 g2)
  by_cases h0 : t.head? = some 0
  · have HF : Hid (eqvR s t u = (alikeB s (convL s t) u, 0)) := hid (by rw [HE.out, decide_eq_true h0]; rfl)
    rw [convR_0 g1 h0] at HCV
    obtain ⟨c, hc⟩ : ∃ c, convL s t = c := ⟨_, rfl⟩
    rw [hc] at HF HCV
    clear g0 g1 g2 h0 hc
    go_enter Tryz.func26, Tryz.ntmps26
    go_wp2_with fail
    refine HVS.out.mono ?_
    rintro e w1 ⟨rfl, n1, rfl⟩
    go_wp2_with fail
    refine (HV.out _ (below_self_drewN _ _)).mono ?_
    rintro e w2 ⟨rfl, n2, rfl⟩
    go_wp2_with fail
    refine (HV2.out _ (below_self_drewN _ _)).mono ?_
    rintro e w3 ⟨rfl, n3, hw3⟩
    have hbw2 : Below w.heap.size w w3 := hw3 ▸ (below_drewN (below_self_drewN _ _) _)
    clear hw3
    have H3 := hid (HCV.out w3 hbw2)
    go_wp2_with fail
    refine H3.out.mono ?_
    rintro e w4 ⟨v, rfl, hi, hb3⟩
    have hbw3 := hbw2.trans (hb3.mono hbw2.size)
    have H4 := hid (ref1_Alike vs v vu s c u w4 (HSG.out.below hbw3) hi (HRU.out.below hbw3))
    have HB3 := hid hbw3
    clear hi hb3 hbw2 hbw3
    go_wp2_with fail
    refine H4.out.mono ?_
    rintro e w5 ⟨rfl, hb4⟩
    go_wp2
    go_ret2
    exact ⟨by rw [HF.out]; rfl, HB3.out.trans (hb4.mono HB3.out.size)⟩
  · have HF : Hid (eqvR s t u = (false, 0)) := hid (by rw [HE.out, decide_eq_false h0]; rfl)
    rw [convR_10 g1 h0] at HCV
    clear g0 g1 g2 h0
    go_enter Tryz.func26, Tryz.ntmps26
    go_wp2_with fail
    refine HVS.out.mono ?_
    rintro e w1 ⟨rfl, n1, rfl⟩
    go_wp2_with fail
    refine (HV.out _ (below_self_drewN _ _)).mono ?_
    rintro e w2 ⟨rfl, n2, rfl⟩
    go_wp2_with fail
    refine (HV2.out _ (below_self_drewN _ _)).mono ?_
    rintro e w3 ⟨rfl, n3, hw3⟩
    have hbw2 : Below w.heap.size w w3 := hw3 ▸ (below_drewN (below_self_drewN _ _) _)
    clear hw3
    have H3 := hid (HCV.out w3 hbw2)
    go_wp2_with fail
    refine H3.out.mono ?_
    rintro e w4 ⟨v, rfl, hi, hb3⟩
    have HB3 := hid (hbw2.trans (hb3.mono hbw2.size))
    clear hi hb3 hbw2
    go_wp2
    go_ret2
    exact ⟨by rw [HF.out]; rfl, HB3.out⟩
end Go.Proofs.YtpflkjldapmgdaaGreat
