/-
  WHAT IT HOLDS: contracts of the helpers great, heavy, many and awake of the laws of layer 9, and of SameInts of the reference of layer 6. Conditions: the arguments read as data.
  WHAT IT HOLDS: the walk of the law BlamePlays: it returns true. Conditions: the arguments read as data.
-/
import Derived.Laws.StructEq
import Derived.BigQuiet
import Derived.Test.YtlbjbmpkaniojaaGreatZRBlamePlays46
import Derived.Test.YtlbjbmpkaniojaaGreatZRBlamePlays39
import Derived.Test.YtlbjbmpkaniojaaGreatZRBlamePlays44
import Derived.Test.YtlbjbmpkaniojaaGreatZRBlamePlays33
namespace Go.Proofs.YtlbjbmpkaniojaaGreat
open Go Go.RowKit Go.Maps
def GrQ (w : World) (e : Ending) (w' : World) : Prop := ∃ z : Bool, e = .returned (.bool z) ∧ Below w.heap.size w w'
theorem GrQ.mk {w w' : World} (z : Bool) (h : Below w.heap.size w w') : GrQ w (.returned (.bool z)) w' := ⟨z, rfl, h⟩
set_option maxHeartbeats 4000000 in
theorem law9_great (vS vU vP : Value) (x : En) (w : World) (he : EntAt w vS vU vP x) :
    Calls Tryz.prog 55 #[.agg #[.string x.name, .string x.who, vS, vU, vP]] w fun e w' => GrQ w e w' := by
  obtain ⟨sa, sc, rfl, -⟩ := he.s.open
  obtain ⟨ua, uc, rfl, -, ul, -, UC⟩ := he.u.open
  obtain ⟨pa, pc, rfl, -⟩ := he.p.open
  have UC' := hid UC
  obtain ⟨V, hV⟩ : ∃ V, w.alloc (.cells #[.string x.name, .string x.who, .slice sa x.says.length sc, .slice ua x.uses.length uc, .slice pa x.proof.length pc] 41) = V := ⟨_, rfl⟩
  have hbV : Below w.heap.size w V := hV ▸ (Below.refl _ _).alloc (Nat.le_refl _) _
  have EB0 := EB.new w x (.slice sa x.says.length sc) (.slice ua x.uses.length uc) (.slice pa x.proof.length pc) 41
  rw [hV] at EB0
  obtain ⟨c0, c1, c2, c3, c4⟩ := EB0
  have HV := hid hV
  have HBV := hid hbV
  clear hV hbV he UC
  go_enter Tryz.func55, Tryz.ntmps55
  go_wp2_with (rw [HV.out])
  go_loop [3] (fun jv => ∃ j : Nat, j ≤ x.uses.length ∧ jv = .int .i64 j) (fun jv => x.uses.length - (intOf jv).toNat)
  case atStart => exact ⟨0, by omega, rfl⟩
  case round =>
    obtain ⟨j, hj, rfl⟩ := hrel
    by_cases hjl : j < x.uses.length
    · obtain ⟨ub, uo, rfl, u0⟩ := UC'.out j hjl
      have u1 := (HBV.out.cell (World.block_lt_of_cell? _ _ u0)).trans u0
      obtain ⟨y, hy⟩ : ∃ y, x.uses[j] = y := ⟨_, rfl⟩
      rw [hy] at u0 u1
      by_cases f1 : (y.size : Int) > 100
      · go_wp2
        go_ret
        exact GrQ.mk _ HBV.out
      · go_wp2
        go_round
        case rel => exact ⟨j + 1, by omega, by go_num⟩
        case measure => simp [intOf]; omega
    · by_cases e1 : (x.name.size : Int) > 100
      · go_wp2
        go_ret
        exact GrQ.mk _ HBV.out
      by_cases e2 : (x.who.size : Int) > 100
      · go_wp2
        go_ret
        exact GrQ.mk _ HBV.out
      by_cases e3 : (x.says.length : Int) > 100
      · go_wp2
        go_ret
        exact GrQ.mk _ HBV.out
      by_cases e4 : (x.uses.length : Int) > 20
      · go_wp2
        go_ret
        exact GrQ.mk _ HBV.out
      go_wp2
      go_ret
      exact GrQ.mk _ HBV.out
def Hv9Q (s : Sg) (l : List En) (w : World) (e : Ending) (w' : World) : Prop := ∃ z : Bool, e = .returned (.bool z) ∧ (z = false → s.length ≤ 20 ∧ l.length ≤ 70) ∧ Below w.heap.size w w'
theorem Hv9Q.yes {s : Sg} {l : List En} {w : World} {w' : World} (h : Below w.heap.size w w') : Hv9Q s l w (.returned (.bool true)) w' := ⟨true, rfl, (fun h => by cases h), h⟩
theorem Hv9Q.no {s : Sg} {l : List En} {w : World} {w' : World} (h1 : s.length ≤ 20) (h2 : l.length ≤ 70) (h : Below w.heap.size w w') : Hv9Q s l w (.returned (.bool false)) w' := ⟨false, rfl, fun _ => ⟨h1, h2⟩, h⟩
set_option maxHeartbeats 4000000 in
theorem law9_heavy (vs vl : Value) (s : Sg) (l : List En) (w : World) (hs : SignAt w vs s) (hl : EntsAt w vl l) :
    Calls Tryz.prog 11 #[vs, vl] w fun e w' => Hv9Q s l w e w' := by
  obtain ⟨sa, sc, rfl, -, hsl, -⟩ := hs.open
  obtain ⟨la, lc, rfl, -, ll, -, HC⟩ := hl.open
  have HC' := hid HC
  clear HC hl hs
  go_enter Tryz.func11, Tryz.ntmps11
  go_wp2
  go_loopw [5] (fun kv wr => ∃ k : Nat, k ≤ l.length ∧ kv = .int .i64 k ∧ Below w.heap.size w wr) (fun kv _ => l.length - (intOf kv).toNat)
  case atStart => exact ⟨0, by omega, rfl, Below.refl _ _⟩
  case round =>
    obtain ⟨k, hk, rfl, hb⟩ := hrel
    have hsz := hb.size
    by_cases hlt : k < l.length
    · obtain ⟨b, o, vS, vu, vp, rfl, c0, c1, c2, c3, c4, he⟩ := HC'.out k hlt
      have he' := he.below hb
      have HG := hid (law9_great vS vu vp l[k] wr he')
      obtain ⟨xa, xc, rfl, -⟩ := he'.s.open
      obtain ⟨ua, uc, rfl, -⟩ := he'.u.open
      obtain ⟨pa, pc, rfl, -⟩ := he'.p.open
      have d0 := (hb.cell (World.block_lt_of_cell? _ _ c0)).trans c0
      have d1 := (hb.cell (World.block_lt_of_cell? _ _ c1)).trans c1
      have d2 := (hb.cell (World.block_lt_of_cell? _ _ c2)).trans c2
      have d3 := (hb.cell (World.block_lt_of_cell? _ _ c3)).trans c3
      have d4 := (hb.cell (World.block_lt_of_cell? _ _ c4)).trans c4
      obtain ⟨x, hx⟩ : ∃ x, l[k] = x := ⟨_, rfl⟩
      rw [hx] at d0 d1 d2 d3 d4 HG
      have HB := hid hb
      have y0 : (k : Int) < (l.length : Int) := by omega
      clear c0 c1 c2 c3 c4 he he' hx hb
      go_wp2_with fail
      refine HG.out.mono ?_
      rintro e w2 ⟨z, rfl, hb2⟩
      have HB2 := hid (HB.out.trans (hb2.mono hsz))
      clear hb2
      cases z
      · go_wp2
        go_roundw
        case rel => exact ⟨k + 1, by omega, by go_num, HB2.out⟩
        case measure => simp [intOf]; omega
      · go_wp2
        go_ret
        exact Hv9Q.yes HB2.out
    · by_cases e1 : (s.length : Int) > 20
      · go_wp2
        go_ret
        exact Hv9Q.yes hb
      by_cases e2 : (l.length : Int) > 20
      · by_cases e3 : (l.length : Int) ≤ 60
        · go_wp2
          go_ret
          exact Hv9Q.yes hb
        by_cases e4 : (l.length : Int) > 70
        · go_wp2
          go_ret
          exact Hv9Q.yes hb
        have HN := hid (Hv9Q.no (s := s) (l := l) (by omega) (by omega) hb)
        go_wp2
        go_ret
        exact HN.out
      have e4 : ¬ (l.length : Int) > 70 := by omega
      have HN := hid (Hv9Q.no (s := s) (l := l) (by omega) (by omega) hb)
      go_wp2
      go_ret
      exact HN.out
def Mn9Q (cs : List Chg) (w : World) (e : Ending) (w' : World) : Prop := ∃ z : Bool, e = .returned (.bool z) ∧ (z = false → cs.length ≤ 210) ∧ Below w.heap.size w w'
theorem Mn9Q.yes {cs : List Chg} {w : World} {w' : World} (h : Below w.heap.size w w') : Mn9Q cs w (.returned (.bool true)) w' := ⟨true, rfl, (fun h => by cases h), h⟩
theorem Mn9Q.no {cs : List Chg} {w : World} {w' : World} (h2 : cs.length ≤ 210) (h : Below w.heap.size w w') : Mn9Q cs w (.returned (.bool false)) w' := ⟨false, rfl, fun _ => h2, h⟩
set_option maxHeartbeats 4000000 in
set_option maxRecDepth 100000 in
theorem law9_many (vc : Value) (cs : List Chg) (w : World) (hc : ChsAt w vc cs) :
    Calls Tryz.prog 12 #[vc] w fun e w' => Mn9Q cs w e w' := by
  obtain ⟨ca, cc, rfl, -, hcl, -, ZC⟩ := hc.open
  have HCC := hid ZC
  clear ZC hc
  go_enter Tryz.func12, Tryz.ntmps12
  go_wp2
  go_loopw [3] (fun kv wr => ∃ k : Nat, k ≤ cs.length ∧ kv = .int .i64 k ∧ Below w.heap.size w wr) (fun kv _ => cs.length - (intOf kv).toNat)
  case atStart => exact ⟨0, by omega, rfl, Below.refl _ _⟩
  case round =>
    obtain ⟨k, hk, rfl, hb⟩ := hrel
    have hsz := hb.size
    by_cases hlt : k < cs.length
    · obtain ⟨b, o, vS, vU, vP, rfl, z0, z1, z2, z3, z4, z5, z6, z7, z8, hce⟩ := HCC.out k hlt
      have HG := hid (law9_great vS vU vP cs[k].ent wr (hce.below hb).e)
      obtain ⟨sa, sk, rfl, -⟩ := hce.e.s.open
      obtain ⟨ta, tk, rfl, -⟩ := hce.e.u.open
      obtain ⟨pa, pk, rfl, -⟩ := hce.e.p.open
      have HK := hid (fun (X : World) (hX : Below w.heap.size w X) => (fun {p : Addr} {u : Value} (h : w.cell? p = some u) => (hX.cell (World.block_lt_of_cell? _ _ h)).trans h))
      have Z1 := hid z1
      have Z2 := hid z2
      have Z3 := hid z3
      replace z4 := HK.out wr hb z4
      replace z5 := HK.out wr hb z5
      replace z6 := HK.out wr hb z6
      replace z7 := HK.out wr hb z7
      replace z8 := HK.out wr hb z8
      obtain ⟨c, hcx⟩ : ∃ c, cs[k] = c := ⟨_, rfl⟩
      rw [hcx] at z4 z5 z6 z7 z8 HG Z1 Z2 Z3
      have HB := hid hb
      have y0 : (k : Int) < (cs.length : Int) := by omega
      clear z0 z1 z2 z3 hce hcx hb
      go_wp2_with fail
      refine HG.out.mono ?_
      rintro e w2 ⟨z, rfl, hb2⟩
      have HB2 := hid (HB.out.trans (hb2.mono hsz))
      have z1 := HK.out w2 HB2.out Z1.out
      have z2 := HK.out w2 HB2.out Z2.out
      have z3 := HK.out w2 HB2.out Z3.out
      clear hb2
      cases z
      case true =>
        go_wp2
        go_ret
        exact Mn9Q.yes HB2.out
      by_cases e1 : (c.who.size : Int) > 100
      · go_wp2
        go_ret
        exact Mn9Q.yes HB2.out
      by_cases e2 : (c.name.size : Int) > 100
      · go_wp2
        go_ret
        exact Mn9Q.yes HB2.out
      by_cases e3 : (c.new.size : Int) > 100
      · go_wp2
        go_ret
        exact Mn9Q.yes HB2.out
      go_wp2
      go_roundw
      case rel => exact ⟨k + 1, by omega, by go_num, HB2.out⟩
      case measure => simp [intOf]; omega
    · by_cases e1 : (cs.length : Int) > 30
      · by_cases e2 : (cs.length : Int) ≤ 200
        · go_wp2
          go_ret
          exact Mn9Q.yes hb
        by_cases e4 : (cs.length : Int) > 210
        · go_wp2
          go_ret
          exact Mn9Q.yes hb
        have HN := hid (Mn9Q.no (cs := cs) (by omega) hb)
        go_wp2
        go_ret
        exact HN.out
      have e4 : ¬ (cs.length : Int) > 210 := by omega
      have HN := hid (Mn9Q.no (cs := cs) (by omega) hb)
      go_wp2
      go_ret
      exact HN.out
def annN : Nm := ⟨#[97, 110, 110]⟩
def bobN : Nm := ⟨#[98, 111, 98]⟩
def enI : En := ⟨⟨#[105]⟩, annN, [0, -1, -1], [], []⟩
def enD : En := ⟨⟨#[105, 100]⟩, bobN, [0, -1, -1], [], []⟩
def cAw9 : List Chg := [⟨1, annN, em, em, enI⟩, ⟨3, annN, ⟨#[105]⟩, ⟨#[105, 100]⟩, en0⟩, ⟨2, bobN, em, em, enD⟩]
theorem sm9 : ∀ c ∈ cAw9, c.ent.name.size ≤ 140737488355328 ∧ c.ent.who.size ≤ 140737488355328 ∧ c.who.size ≤ 140737488355328 ∧ c.name.size ≤ 140737488355328 ∧ c.new.size ≤ 140737488355328 := by decide +kernel
theorem blame_aw9 : blameL sg1 cAw9 = ([(⟨#[105, 100]⟩, annN, bobN)], 0) := by decide +kernel
theorem hist_aw9 : histL sg1 cAw9 ⟨#[105, 100]⟩ = ([0, 1, 2], 0) := by decide +kernel
theorem intsA9 (w : World) (T : TypeId) : Ints (w.alloc (.cells #[.int .i64 0, .int .i64 (-1), .int .i64 (-1)] T)) (.slice (some ⟨w.heap.size, 0, none⟩) 3 3) [0, -1, -1] := by
  have r := World.ownsRow_lit (base := 0) (e := T) (size := 1) w #[.int .i64 0, .int .i64 (-1), .int .i64 (-1)] 3 (by omega) (by simp [maxLen]) (by simp)
  exact Ints.of_owns r (by simp)
theorem intsB9 (w : World) (T : TypeId) : Ints (w.alloc (.cells #[.int .i64 0, .int .i64 1, .int .i64 2] T)) (.slice (some ⟨w.heap.size, 0, none⟩) 3 3) [0, 1, 2] := by
  have r := World.ownsRow_lit (base := 0) (e := T) (size := 1) w #[.int .i64 0, .int .i64 1, .int .i64 2] 3 (by omega) (by simp [maxLen]) (by simp)
  exact Ints.of_owns r (by simp)
theorem chs_lit {w : World} {l : List Chg} {vs : List V3} {T : TypeId} {cs : Array Value} (hc : cs = (chsC l vs).toArray) (hl : vs.length = l.length) (hl1 : l.length ≤ 1000) (he : ∀ (j : Nat) (h : j < l.length) (h' : j < vs.length), ChgAt w vs[j].1 vs[j].2.1 vs[j].2.2 l[j]) : ChsAt (w.alloc (.cells cs T)) (.slice (some ⟨w.heap.size, 0, none⟩) l.length l.length) l := by
  subst hc
  have hb : Below w.heap.size w (w.alloc (.cells (chsC l vs).toArray T)) := (Below.refl _ _).alloc (Nat.le_refl _) _
  refine ⟨vs, ⟨chsC_len l vs hl, _, _, rfl, Nat.le_refl _, by omega, (fun h => by cases h), fun j u hj => ⟨_, _, rfl, ?_⟩⟩, hl, fun j h h' => (he j h h').below hb⟩
  rw [World.cell?_alloc_new, Nat.zero_add]
  exact List.getElem?_toArray.trans hj
set_option maxHeartbeats 4000000 in
set_option maxRecDepth 100000 in
theorem law9_awake (w : World) :
    Calls Tryz.prog 10 #[] w fun e w' => e = .returned (.bool true) ∧ Below w.heap.size w w' := by
  have q1 := sign9 w 81
  obtain ⟨W1, hW1⟩ : ∃ W1, w.alloc (.cells #[.string ⟨#[67]⟩, .int .i64 2] 81) = W1 := ⟨_, rfl⟩
  have b1 : Below w.heap.size w W1 := hW1 ▸ (Below.refl _ _).alloc (Nat.le_refl _) _
  rw [hW1] at q1
  have q2 := intsA9 W1 3
  obtain ⟨W2, hW2⟩ : ∃ W2, W1.alloc (.cells #[.int .i64 0, .int .i64 (-1), .int .i64 (-1)] 3) = W2 := ⟨_, rfl⟩
  have b2 : Below W1.heap.size W1 W2 := hW2 ▸ (Below.refl _ _).alloc (Nat.le_refl _) _
  rw [hW2] at q2
  have q3 := EB.new W2 enI (.slice (some ⟨W1.heap.size, 0, none⟩) 3 3) (.slice none 0 0) (.slice none 0 0) 41
  obtain ⟨W3, hW3⟩ : ∃ W3, W2.alloc (.cells #[.string ⟨#[105]⟩, .string ⟨#[97, 110, 110]⟩, .slice (some ⟨W1.heap.size, 0, none⟩) 3 3, .slice none 0 0, .slice none 0 0] 41) = W3 := ⟨_, rfl⟩
  have b3 : Below W2.heap.size W2 W3 := hW3 ▸ (Below.refl _ _).alloc (Nat.le_refl _) _
  have hW3' : W2.alloc (.cells #[.string enI.name, .string enI.who, .slice (some ⟨W1.heap.size, 0, none⟩) 3 3, .slice none 0 0, .slice none 0 0] 41) = W3 := hW3
  rw [hW3'] at q3
  have q4 := intsA9 W3 3
  obtain ⟨W4, hW4⟩ : ∃ W4, W3.alloc (.cells #[.int .i64 0, .int .i64 (-1), .int .i64 (-1)] 3) = W4 := ⟨_, rfl⟩
  have b4 : Below W3.heap.size W3 W4 := hW4 ▸ (Below.refl _ _).alloc (Nat.le_refl _) _
  rw [hW4] at q4
  have q5 := EB.new W4 enD (.slice (some ⟨W3.heap.size, 0, none⟩) 3 3) (.slice none 0 0) (.slice none 0 0) 41
  obtain ⟨W5, hW5⟩ : ∃ W5, W4.alloc (.cells #[.string ⟨#[105, 100]⟩, .string ⟨#[98, 111, 98]⟩, .slice (some ⟨W3.heap.size, 0, none⟩) 3 3, .slice none 0 0, .slice none 0 0] 41) = W5 := ⟨_, rfl⟩
  have b5 : Below W4.heap.size W4 W5 := hW5 ▸ (Below.refl _ _).alloc (Nat.le_refl _) _
  have hW5' : W4.alloc (.cells #[.string enD.name, .string enD.who, .slice (some ⟨W3.heap.size, 0, none⟩) 3 3, .slice none 0 0, .slice none 0 0] 41) = W5 := hW5
  rw [hW5'] at q5
  have b45 := b4.trans (b5.mono b4.size)
  have b35 := b3.trans (b45.mono b3.size)
  have r3 := q3.below b45
  have hch : ChsAt (W5.alloc (.cells #[.int .i64 1, .string ⟨#[97, 110, 110]⟩, .string ⟨#[]⟩, .string ⟨#[]⟩, .string ⟨#[105]⟩, .string ⟨#[97, 110, 110]⟩, .slice (some ⟨W1.heap.size, 0, none⟩) 3 3, .slice none 0 0, .slice none 0 0,
      .int .i64 3, .string ⟨#[97, 110, 110]⟩, .string ⟨#[105]⟩, .string ⟨#[105, 100]⟩, .string ⟨#[]⟩, .string ⟨#[]⟩, .slice none 0 0, .slice none 0 0, .slice none 0 0,
      .int .i64 2, .string ⟨#[98, 111, 98]⟩, .string ⟨#[]⟩, .string ⟨#[]⟩, .string ⟨#[105, 100]⟩, .string ⟨#[98, 111, 98]⟩, .slice (some ⟨W3.heap.size, 0, none⟩) 3 3, .slice none 0 0, .slice none 0 0] 43)) (.slice (some ⟨W5.heap.size, 0, none⟩) 3 3) cAw9 := by
    refine chs_lit (l := cAw9) (vs := [(.slice (some ⟨W1.heap.size, 0, none⟩) 3 3, .slice none 0 0, .slice none 0 0), (.slice none 0 0, .slice none 0 0, .slice none 0 0), (.slice (some ⟨W3.heap.size, 0, none⟩) 3 3, .slice none 0 0, .slice none 0 0)]) rfl rfl (by decide) fun j h1 h2 => ?_
    match j, h1 with
    | 0, _ => exact ⟨⟨q2.below b35, TxtsAt.nil _, StepsAt.nil _, (sm9 _ (List.getElem_mem _)).1, (sm9 _ (List.getElem_mem _)).2.1⟩, (sm9 _ (List.getElem_mem _)).2.2.1, (sm9 _ (List.getElem_mem _)).2.2.2.1, (sm9 _ (List.getElem_mem _)).2.2.2.2⟩
    | 1, _ => exact ⟨⟨Ints.nil _, TxtsAt.nil _, StepsAt.nil _, (sm9 _ (List.getElem_mem _)).1, (sm9 _ (List.getElem_mem _)).2.1⟩, (sm9 _ (List.getElem_mem _)).2.2.1, (sm9 _ (List.getElem_mem _)).2.2.2.1, (sm9 _ (List.getElem_mem _)).2.2.2.2⟩
    | 2, _ => exact ⟨⟨q4.below b5, TxtsAt.nil _, StepsAt.nil _, (sm9 _ (List.getElem_mem _)).1, (sm9 _ (List.getElem_mem _)).2.1⟩, (sm9 _ (List.getElem_mem _)).2.2.1, (sm9 _ (List.getElem_mem _)).2.2.2.1, (sm9 _ (List.getElem_mem _)).2.2.2.2⟩
  obtain ⟨W6, hW6⟩ : ∃ W6, W5.alloc (.cells #[.int .i64 1, .string ⟨#[97, 110, 110]⟩, .string ⟨#[]⟩, .string ⟨#[]⟩, .string ⟨#[105]⟩, .string ⟨#[97, 110, 110]⟩, .slice (some ⟨W1.heap.size, 0, none⟩) 3 3, .slice none 0 0, .slice none 0 0,
      .int .i64 3, .string ⟨#[97, 110, 110]⟩, .string ⟨#[105]⟩, .string ⟨#[105, 100]⟩, .string ⟨#[]⟩, .string ⟨#[]⟩, .slice none 0 0, .slice none 0 0, .slice none 0 0,
      .int .i64 2, .string ⟨#[98, 111, 98]⟩, .string ⟨#[]⟩, .string ⟨#[]⟩, .string ⟨#[105, 100]⟩, .string ⟨#[98, 111, 98]⟩, .slice (some ⟨W3.heap.size, 0, none⟩) 3 3, .slice none 0 0, .slice none 0 0] 43) = W6 := ⟨_, rfl⟩
  have b6 : Below W5.heap.size W5 W6 := hW6 ▸ (Below.refl _ _).alloc (Nat.le_refl _) _
  rw [hW6] at hch
  have b25 := b2.trans (b35.mono b2.size)
  have b26 := b25.trans (b6.mono b25.size)
  have hsg := hid (q1.below b26)
  have HCH := hid hch
  have HB := hid (b1.trans (b26.mono b1.size))
  have HBL := hid (blame_Blame _ _ sg1 cAw9 W6 hsg.out hch (by decide))
  rw [blame_aw9] at HBL
  have h1 := hid hW1
  have h2 := hid hW2
  have h3 := hid hW3
  have h4 := hid hW4
  have h5 := hid hW5
  have h6 := hid hW6
  obtain ⟨c0, c1, c2, c3, c4⟩ := r3
  obtain ⟨g0, g1, g2, g3, g4⟩ := q5
  clear q1 q2 q3 q4 b1 b2 b3 b4 b5 b6 b45 b35 b25 b26 hW1 hW2 hW3 hW4 hW5 hW6 hW3' hW5' hch
  simp only [enI, enD, annN, bobN] at c0 c1 g0 g1
  go_enter Tryz.func10, Tryz.ntmps10
  go_wp2_with (first | rw [h1.out] | rw [h2.out] | rw [h3.out] | rw [h4.out] | rw [h5.out] | rw [h6.out])
  refine HBL.out.mono ?_
  rintro e w7 ⟨u, rfl, hu, hb7⟩
  have HU := hid hu
  have HB7 := hid (HB.out.trans (hb7.mono HB.out.size))
  have HHI := hid (blame_History _ _ sg1 cAw9 ⟨#[105, 100]⟩ w7 (hsg.out.below hb7) (HCH.out.below hb7) (by decide) (by decide))
  rw [hist_aw9] at HHI
  obtain ⟨ua, uc, rfl, -⟩ := hu.open
  clear hu hb7 HBL c0 c1 c2 c3 c4 g0 g1 g2 g3 g4
  go_wp2_with fail
  refine HHI.out.mono ?_
  rintro e w8 ⟨v, rfl, hv, hb8⟩
  have HB8 := hid (HB7.out.trans (hb8.mono HB7.out.size))
  obtain ⟨ua', uc', eu, -, -, ZC⟩ := (HU.out.below hb8).open
  obtain ⟨b, o, rfl, z0, z1, z2⟩ := ZC 0 (by decide)
  simp only [Value.slice.injEq] at eu
  obtain ⟨rfl, -, rfl⟩ := eu
  simp only [List.getElem_cons_zero, annN, bobN, Nat.zero_mul, Nat.add_zero] at z0 z1 z2
  have hbA : Below w8.heap.size w8 (w8.alloc (.cells #[.int .i64 0, .int .i64 1, .int .i64 2] 3)) := (Below.refl _ _).alloc (Nat.le_refl _) _
  have HSI := hid (ref6_SameInts v _ [0, 1, 2] [0, 1, 2] (w8.alloc (.cells #[.int .i64 0, .int .i64 1, .int .i64 2] 3)) (hv.below hbA) (intsB9 w8 3))
  have HBA := hid (HB8.out.trans (hbA.mono HB8.out.size))
  obtain ⟨va, vc, rfl, -⟩ := hv.open
  clear hv hb8 hbA ZC HHI
  go_wp2_with fail
  refine HSI.out.mono ?_
  rintro e w9 ⟨rfl, nq, rfl⟩
  have HB9 := hid (HBA.out.trans ((below_self_drewN _ nq).mono HBA.out.size))
  go_wp2
  go_ret
  exact ⟨rfl, HB9.out⟩
end Go.Proofs.YtlbjbmpkaniojaaGreat
namespace Go.Proofs.YtlbjbmpkaniojaaGreat
open Go Go.RowKit Go.Maps
theorem played_len {s : Sg} {l : List En} {cs : List Chg} (h : (playedL s l cs).2.2 = 0) : (playedL s l cs).1.length ≤ 60 := by
  by_cases h2 : askL s l cs = 0
  · obtain ⟨g1, g2, g3⟩ := playedA_yes h2
    rw [g3] at h ⊢
    exact (edB_iff.1 (playL_ed cs l 0 g1 g2 h)).1.len
  · rw [playedA_no h2] at h
    exact absurd h h2
theorem ChsAt.none (w : World) (a : Option Addr) (cap : Nat) (h : a = none → cap = 0) : ChsAt w (.slice a 0 cap) [] := ⟨[], ⟨rfl, a, cap, rfl, Nat.zero_le _, by simp, h, fun j u hj => by simp [chsC] at hj⟩, rfl, fun j h => by simp at h⟩
set_option maxHeartbeats 4000000 in
set_option maxRecDepth 100000 in
theorem walk_BlamePlays (vs vl vc : Value) (s : Sg) (l : List En) (cs : List Chg) (n : Int) (w : World) (hs : SignAt w vs s) (hl : EntsAt w vl l) (hc : ChsAt w vc cs) :
    Calls Tryz.prog 3 #[vs, vl, vc, .int .i64 n] w fun e w' => e = .returned (.bool true) ∧ Below w.heap.size w w' := by
  have HAW := hid (law9_awake w)
  have HS := hid hs
  have HL := hid hl
  have HC := hid hc
  have HHV := hid (fun (X : World) (hX : Below w.heap.size w X) => law9_heavy _ _ s l X (hs.below hX) (hl.below hX))
  have HMN := hid (fun (X : World) (hX : Below w.heap.size w X) => law9_many _ cs X (hc.below hX))
  obtain ⟨sp, sc, rfl, -, hsl, -⟩ := hs.open
  obtain ⟨lp, lc, rfl, -, hll, -⟩ := hl.open
  obtain ⟨ca, cc, rfl, hcap, hcl, hcz, ZC⟩ := hc.open
  have HZC := hid ZC
  have HCZ := hid hcz
  clear hs hl hc ZC
  go_enter Tryz.func3, Tryz.ntmps3
  go_wp2_with fail
  refine HAW.out.mono ?_
  rintro e w1 ⟨rfl, hb1⟩
  have HB1 := hid hb1
  have HH1 := hid (HHV.out w1 hb1)
  clear hb1 HAW HHV
  go_wp2_with fail
  refine HH1.out.mono ?_
  rintro e w2 ⟨z, rfl, hz, hb2⟩
  have HB2 := hid (HB1.out.trans (hb2.mono HB1.out.size))
  clear hb2 HH1
  cases z
  case true =>
    go_wp2
    go_ret
    exact ⟨rfl, HB2.out⟩
  obtain ⟨hs20, hl70⟩ := hz rfl
  have HM2 := hid (HMN.out w2 HB2.out)
  clear HMN hz
  go_wp2_with fail
  refine HM2.out.mono ?_
  rintro e w3 ⟨z2, rfl, -, hb3⟩
  have HB3 := hid (HB2.out.trans (hb3.mono HB2.out.size))
  clear hb3 HM2
  cases z2
  case true =>
    go_wp2
    go_ret
    exact ⟨rfl, HB3.out⟩
  have HPB := hid (fun (X : World) (hX : Below w.heap.size w X) => blame_Played _ _ _ s l cs X (HS.out.below hX) (HL.out.below hX) (HC.out.below hX) (by omega) (by omega))
  have HPR := hid (fun (X : World) (hX : Below w.heap.size w X) => ref9_Played _ _ _ s l cs X (HS.out.below hX) (HL.out.below hX) (HC.out.below hX) (by omega) (by omega))
  have HAB := hid (fun (X : World) (hX : Below w.heap.size w X) => blame_At _ _ s cs n X (HS.out.below hX) (HC.out.below hX) (by omega))
  have HAR := hid (fun (X : World) (hX : Below w.heap.size w X) => ref9_At _ _ s cs n X (HS.out.below hX) (HC.out.below hX) (by omega))
  have HCU := hid (fun (h : (playedL s l cs).2.2 = 0) (k : Nat) => played_cut h k)
  have HED := hid (fun (k : Nat) (h : (playedL s l (cs.take k)).2.2 = 0) => played_len h)
  obtain ⟨P, i1, e1, hP⟩ : ∃ P i1 e1, playedL s l cs = (P, i1, e1) := ⟨_, _, _, rfl⟩
  obtain ⟨A, e2, hA⟩ : ∃ A e2, atL s cs n = (A, e2) := ⟨_, _, rfl⟩
  simp only [hP] at HPB HPR HCU
  simp only [hA] at HAB HAR
  have HP3 := hid (HPB.out w3 HB3.out)
  clear hP hA HPB
  go_wp2_with fail
  refine HP3.out.mono ?_
  rintro e w4 ⟨u4, rfl, hu4, hb4⟩
  have HB4 := hid (HB3.out.trans (hb4.mono HB3.out.size))
  have HU4 := hid hu4
  obtain ⟨a4, c4, rfl, -⟩ := hu4.open
  have HP4 := hid (HPR.out w4 HB4.out)
  clear hb4 hu4 HP3 HPR
  go_wp2_with fail
  refine HP4.out.mono ?_
  rintro e w5 ⟨u5, rfl, hu5, hb5⟩
  have HB5 := hid (HB4.out.trans (hb5.mono HB4.out.size))
  have HU4 := hid (HU4.out.below hb5)
  have HU5 := hid hu5
  obtain ⟨a5, c5, rfl, -⟩ := hu5.open
  have HP5 := hid (HAB.out w5 HB5.out)
  clear hb5 hu5 HP4 HAB
  go_wp2_with fail
  refine HP5.out.mono ?_
  rintro e w6 ⟨u6, rfl, hu6, hb6⟩
  have HB6 := hid (HB5.out.trans (hb6.mono HB5.out.size))
  have HU4 := hid (HU4.out.below hb6)
  have HU5 := hid (HU5.out.below hb6)
  have HU6 := hid hu6
  obtain ⟨a6, c6, rfl, -⟩ := hu6.open
  have HP6 := hid (HAR.out w6 HB6.out)
  clear hb6 hu6 HP5 HAR
  go_wp2_with fail
  refine HP6.out.mono ?_
  rintro e w7 ⟨u7, rfl, hu7, hb7⟩
  have HB7 := hid (HB6.out.trans (hb7.mono HB6.out.size))
  have HU4 := hid (HU4.out.below hb7)
  have HU5 := hid (HU5.out.below hb7)
  have HU6 := hid (HU6.out.below hb7)
  have HU7 := hid hu7
  obtain ⟨a7, c7, rfl, -⟩ := hu7.open
  have HS7 := hid (ref6_SameLibraryE _ _ P w7 HU4.out HU5.out)
  clear hb7 hu7 HP6
  go_wp2_with fail
  refine HS7.out.mono ?_
  rintro e w8 ⟨rfl, hb8⟩
  have HB8 := hid (HB7.out.trans (hb8.mono HB7.out.size))
  have HU4 := hid (HU4.out.below hb8)
  have HS8 := hid (ref6_SameLibraryE _ _ A w8 (HU6.out.below hb8) (HU7.out.below hb8))
  clear hb8 HS7
  go_wp2_with fail
  refine HS8.out.mono ?_
  rintro e w9 ⟨rfl, hb9⟩
  have HB9 := hid (HB8.out.trans (hb9.mono HB8.out.size))
  have HU4 := hid (HU4.out.below hb9)
  clear hb9 HS8
  by_cases h1 : e1 = 0
  case neg =>
    have n1 : (e1 != 0) = true := by simpa using h1
    clear h1
    go_wp2
    go_ret
    exact ⟨rfl, HB9.out⟩
  by_cases h3 : n < 0
  case pos =>
    subst h1
    go_wp2
    go_ret
    exact ⟨rfl, HB9.out⟩
  by_cases h4 : (cs.length : Int) < n
  case pos =>
    subst h1
    go_wp2
    go_ret
    exact ⟨rfl, HB9.out⟩
  obtain ⟨k, rfl⟩ : ∃ k : Nat, n = k := ⟨n.toNat, by omega⟩
  have hk : k ≤ cs.length := by omega
  subst h1
  obtain ⟨g1, g2, g3⟩ := HCU.out rfl k
  have hPl := HED.out k g1
  have HPT := hid (blame_Played _ _ _ s l (cs.take k) w9 (HS.out.below HB9.out) (HL.out.below HB9.out) ((HC.out.below HB9.out).take k hk) (by omega) (by omega))
  obtain ⟨P2, i2, e3, hP2⟩ : ∃ P2 i2 e3, playedL s l (cs.take k) = (P2, i2, e3) := ⟨_, _, _, rfl⟩
  rw [hP2] at g1 g2 g3 hPl HPT
  dsimp only at g1 g2 g3 hPl HPT
  subst g1
  obtain ⟨P3, i3, e4, hP3⟩ : ∃ P3 i3 e4, playedL s P2 (cs.drop k) = (P3, i3, e4) := ⟨_, _, _, rfl⟩
  rw [hP3] at g2 g3
  dsimp only at g2 g3
  subst g2 g3
  have HP3 := hid hP3
  clear hP2 hP3 HCU HED
  go_wp2_with fail
  refine HPT.out.mono ?_
  rintro e w10 ⟨u10, rfl, hu10, hb10⟩
  have HB10 := hid (HB9.out.trans (hb10.mono HB9.out.size))
  have HU4 := hid (HU4.out.below hb10)
  have HU10 := hid hu10
  obtain ⟨a10, c10, rfl, -⟩ := hu10.open
  clear hb10 hu10 HPT
  have HPG := hid (fun (v : Value) (hv : ChsAt w10 v (cs.drop k)) => blame_Played _ _ v s P2 (cs.drop k) w10 (HS.out.below HB10.out) HU10.out hv (by omega) (by omega))
  simp only [HP3.out] at HPG
  by_cases h0 : 0 < cs.length
  case pos =>
    obtain ⟨b, o, _, _, _, rfl, -⟩ := HZC.out 0 h0
    have HDR := hid ((HC.out.below HB10.out).drop k hk)
    clear hcz
    go_wp2_with fail
    all_goals
      refine (HPG.out _ (by first | exact HDR.out | (rw [show cs.length - k = 0 by omega, List.drop_eq_nil_of_le (by omega)]; exact ChsAt.none _ _ _ (fun h => by cases h)))).mono ?_
      rintro e w11 ⟨u11, rfl, hu11, hb11⟩
      have HB11 := hid (HB10.out.trans (hb11.mono HB10.out.size))
      have HS11 := hid (ref6_SameLibraryE _ _ _ w11 hu11 (HU4.out.below hb11))
      obtain ⟨a11, c11, rfl, -⟩ := hu11.open
      clear hb11 hu11
      go_wp2_with fail
      refine HS11.out.mono ?_
      rintro e w12 ⟨rfl, hb12⟩
      have HB12 := hid (HB11.out.trans (hb12.mono HB11.out.size))
      clear hb12
      go_wp2
      go_ret
      exact ⟨rfl, HB12.out⟩
  case neg =>
    have hn : cs = [] := List.length_eq_zero_iff.1 (by omega)
    subst hn
    obtain rfl : k = 0 := by simpa using hk
    have hcz2 := HCZ.out
    rcases ca with _ | ⟨b, o, pth⟩
    case none =>
      have hcc := hcz2 rfl
      subst hcc
      clear hcz2
      go_wp2_with fail
      all_goals
        refine (HPG.out _ (by exact ChsAt.none _ _ _ (fun _ => rfl))).mono ?_
        rintro e w11 ⟨u11, rfl, hu11, hb11⟩
        have HB11 := hid (HB10.out.trans (hb11.mono HB10.out.size))
        have HS11 := hid (ref6_SameLibraryE _ _ _ w11 hu11 (HU4.out.below hb11))
        obtain ⟨a11, c11, rfl, -⟩ := hu11.open
        clear hb11 hu11
        go_wp2_with fail
        refine HS11.out.mono ?_
        rintro e w12 ⟨rfl, hb12⟩
        have HB12 := hid (HB11.out.trans (hb12.mono HB11.out.size))
        clear hb12
        go_wp2
        go_ret
        exact ⟨rfl, HB12.out⟩
    case some =>
      go_wp2_with fail
      all_goals
        refine (HPG.out _ (by exact ChsAt.none _ _ _ (fun h => by cases h))).mono ?_
        rintro e w11 ⟨u11, rfl, hu11, hb11⟩
        have HB11 := hid (HB10.out.trans (hb11.mono HB10.out.size))
        have HS11 := hid (ref6_SameLibraryE _ _ _ w11 hu11 (HU4.out.below hb11))
        obtain ⟨a11, c11, rfl, -⟩ := hu11.open
        clear hb11 hu11
        go_wp2_with fail
        refine HS11.out.mono ?_
        rintro e w12 ⟨rfl, hb12⟩
        have HB12 := hid (HB11.out.trans (hb12.mono HB11.out.size))
        clear hb12
        go_wp2
        go_ret
        exact ⟨rfl, HB12.out⟩
end Go.Proofs.YtlbjbmpkaniojaaGreat
