/-
  WHAT IT HOLDS: contracts of the helpers great, heavy, many and awake of the laws of layer 9, and of SameInts of the reference of layer 6. Conditions: the arguments read as data.
  WHAT IT HOLDS: contracts of Apart of package blame and of the reference of layer 9. Conditions: the arguments read as data; small signs, small libraries. Printed by wip/gen_ap.py.
  WHAT IT HOLDS: contracts of names and apart of the house of the laws of layer 9. Conditions: the arguments read as data; few uses. Printed by wip/gen_an.py.
  WHAT IT HOLDS: the walk of the law BlameApart: it returns true. Conditions: the arguments read as data. Printed by wip/gen_ba.py.
-/
import Derived.Laws.StructEq
import Derived.BigQuiet
import Derived.Deep.RegionHeld3
import Derived.Test.YtlbjbmpkaniojaaGreatZRBlameApart46
import Derived.Test.YtlbjbmpkaniojaaGreatZRBlameApart40
import Derived.Test.YtlbjbmpkaniojaaGreatZRBlameApart35
import Derived.Test.YtlbjbmpkaniojaaGreatZRBlameApart44
import Derived.Test.YtlbjbmpkaniojaaGreatZRBlameApart24
namespace Go.Proofs.YtlbjbmpkaniojaaGreat
open Go Go.RowKit Go.Maps
def GrQ (w : World) (e : Ending) (w' : World) : Prop := ∃ z : Bool, e = .returned (.bool z) ∧ Below w.heap.size w w'
theorem GrQ.mk {w w' : World} (z : Bool) (h : Below w.heap.size w w') : GrQ w (.returned (.bool z)) w' := ⟨z, rfl, h⟩
set_option maxHeartbeats 4000000 in
theorem law9_great (vS vU vP : Value) (x : En) (w : World) (he : EntAt w vS vU vP x) :
    Calls Tryz.prog 55 #[.agg #[.string x.name, .string x.who, vS, vU, vP]] w fun e w' => GrQ w e w' := by
  obtain ⟨sa, sc, rfl, -⟩ := he.s.open
  obtain ⟨ua, uc, rfl, -, ul, -, UC⟩ := he.u.open
  obtain ⟨pa, pc, rfl, -⟩ := he.p.open
  have UC' := hid UC
  obtain ⟨V, hV⟩ : ∃ V, w.alloc (.cells #[.string x.name, .string x.who, .slice sa x.says.length sc, .slice ua x.uses.length uc, .slice pa x.proof.length pc] 41) = V := ⟨_, rfl⟩
  have hbV : Below w.heap.size w V := hV ▸ (Below.refl _ _).alloc (Nat.le_refl _) _
  have EB0 := EB.new w x (.slice sa x.says.length sc) (.slice ua x.uses.length uc) (.slice pa x.proof.length pc) 41
  rw [hV] at EB0
  obtain ⟨c0, c1, c2, c3, c4⟩ := EB0
  have HV := hid hV
  have HBV := hid hbV
  clear hV hbV he UC
  go_enter Tryz.func55, Tryz.ntmps55
  go_wp2_with (rw [HV.out])
  go_loop [3] (fun jv => ∃ j : Nat, j ≤ x.uses.length ∧ jv = .int .i64 j) (fun jv => x.uses.length - (intOf jv).toNat)
  case atStart => exact ⟨0, by omega, rfl⟩
  case round =>
    obtain ⟨j, hj, rfl⟩ := hrel
    by_cases hjl : j < x.uses.length
    · obtain ⟨ub, uo, rfl, u0⟩ := UC'.out j hjl
      have u1 := (HBV.out.cell (World.block_lt_of_cell? _ _ u0)).trans u0
      obtain ⟨y, hy⟩ : ∃ y, x.uses[j] = y := ⟨_, rfl⟩
      rw [hy] at u0 u1
      by_cases f1 : (y.size : Int) > 100
      · go_wp2
        go_ret
        exact GrQ.mk _ HBV.out
      · go_wp2
        go_round
        case rel => exact ⟨j + 1, by omega, by go_num⟩
        case measure => simp [intOf]; omega
    · by_cases e1 : (x.name.size : Int) > 100
      · go_wp2
        go_ret
        exact GrQ.mk _ HBV.out
      by_cases e2 : (x.who.size : Int) > 100
      · go_wp2
        go_ret
        exact GrQ.mk _ HBV.out
      by_cases e3 : (x.says.length : Int) > 100
      · go_wp2
        go_ret
        exact GrQ.mk _ HBV.out
      by_cases e4 : (x.uses.length : Int) > 20
      · go_wp2
        go_ret
        exact GrQ.mk _ HBV.out
      go_wp2
      go_ret
      exact GrQ.mk _ HBV.out
def Hv9Q (s : Sg) (l : List En) (w : World) (e : Ending) (w' : World) : Prop := ∃ z : Bool, e = .returned (.bool z) ∧ (z = false → s.length ≤ 20 ∧ l.length ≤ 70) ∧ Below w.heap.size w w'
theorem Hv9Q.yes {s : Sg} {l : List En} {w : World} {w' : World} (h : Below w.heap.size w w') : Hv9Q s l w (.returned (.bool true)) w' := ⟨true, rfl, (fun h => by cases h), h⟩
theorem Hv9Q.no {s : Sg} {l : List En} {w : World} {w' : World} (h1 : s.length ≤ 20) (h2 : l.length ≤ 70) (h : Below w.heap.size w w') : Hv9Q s l w (.returned (.bool false)) w' := ⟨false, rfl, fun _ => ⟨h1, h2⟩, h⟩
set_option maxHeartbeats 4000000 in
theorem law9_heavy (vs vl : Value) (s : Sg) (l : List En) (w : World) (hs : SignAt w vs s) (hl : EntsAt w vl l) :
    Calls Tryz.prog 11 #[vs, vl] w fun e w' => Hv9Q s l w e w' := by
  obtain ⟨sa, sc, rfl, -, hsl, -⟩ := hs.open
  obtain ⟨la, lc, rfl, -, ll, -, HC⟩ := hl.open
  have HC' := hid HC
  clear HC hl hs
  go_enter Tryz.func11, Tryz.ntmps11
  go_wp2
  go_loopw [5] (fun kv wr => ∃ k : Nat, k ≤ l.length ∧ kv = .int .i64 k ∧ Below w.heap.size w wr) (fun kv _ => l.length - (intOf kv).toNat)
  case atStart => exact ⟨0, by omega, rfl, Below.refl _ _⟩
  case round =>
    obtain ⟨k, hk, rfl, hb⟩ := hrel
    have hsz := hb.size
    by_cases hlt : k < l.length
    · obtain ⟨b, o, vS, vu, vp, rfl, c0, c1, c2, c3, c4, he⟩ := HC'.out k hlt
      have he' := he.below hb
      have HG := hid (law9_great vS vu vp l[k] wr he')
      obtain ⟨xa, xc, rfl, -⟩ := he'.s.open
      obtain ⟨ua, uc, rfl, -⟩ := he'.u.open
      obtain ⟨pa, pc, rfl, -⟩ := he'.p.open
      have d0 := (hb.cell (World.block_lt_of_cell? _ _ c0)).trans c0
      have d1 := (hb.cell (World.block_lt_of_cell? _ _ c1)).trans c1
      have d2 := (hb.cell (World.block_lt_of_cell? _ _ c2)).trans c2
      have d3 := (hb.cell (World.block_lt_of_cell? _ _ c3)).trans c3
      have d4 := (hb.cell (World.block_lt_of_cell? _ _ c4)).trans c4
      obtain ⟨x, hx⟩ : ∃ x, l[k] = x := ⟨_, rfl⟩
      rw [hx] at d0 d1 d2 d3 d4 HG
      have HB := hid hb
      have y0 : (k : Int) < (l.length : Int) := by omega
      clear c0 c1 c2 c3 c4 he he' hx hb
      go_wp2_with fail
      refine HG.out.mono ?_
      rintro e w2 ⟨z, rfl, hb2⟩
      have HB2 := hid (HB.out.trans (hb2.mono hsz))
      clear hb2
      cases z
      · go_wp2
        go_roundw
        case rel => exact ⟨k + 1, by omega, by go_num, HB2.out⟩
        case measure => simp [intOf]; omega
      · go_wp2
        go_ret
        exact Hv9Q.yes HB2.out
    · by_cases e1 : (s.length : Int) > 20
      · go_wp2
        go_ret
        exact Hv9Q.yes hb
      by_cases e2 : (l.length : Int) > 20
      · by_cases e3 : (l.length : Int) ≤ 60
        · go_wp2
          go_ret
          exact Hv9Q.yes hb
        by_cases e4 : (l.length : Int) > 70
        · go_wp2
          go_ret
          exact Hv9Q.yes hb
        have HN := hid (Hv9Q.no (s := s) (l := l) (by omega) (by omega) hb)
        go_wp2
        go_ret
        exact HN.out
      have e4 : ¬ (l.length : Int) > 70 := by omega
      have HN := hid (Hv9Q.no (s := s) (l := l) (by omega) (by omega) hb)
      go_wp2
      go_ret
      exact HN.out
def Mn9Q (cs : List Chg) (w : World) (e : Ending) (w' : World) : Prop := ∃ z : Bool, e = .returned (.bool z) ∧ (z = false → cs.length ≤ 210) ∧ Below w.heap.size w w'
theorem Mn9Q.yes {cs : List Chg} {w : World} {w' : World} (h : Below w.heap.size w w') : Mn9Q cs w (.returned (.bool true)) w' := ⟨true, rfl, (fun h => by cases h), h⟩
theorem Mn9Q.no {cs : List Chg} {w : World} {w' : World} (h2 : cs.length ≤ 210) (h : Below w.heap.size w w') : Mn9Q cs w (.returned (.bool false)) w' := ⟨false, rfl, fun _ => h2, h⟩
set_option maxHeartbeats 4000000 in
set_option maxRecDepth 100000 in
theorem law9_many (vc : Value) (cs : List Chg) (w : World) (hc : ChsAt w vc cs) :
    Calls Tryz.prog 12 #[vc] w fun e w' => Mn9Q cs w e w' := by
  obtain ⟨ca, cc, rfl, -, hcl, -, ZC⟩ := hc.open
  have HCC := hid ZC
  clear ZC hc
  go_enter Tryz.func12, Tryz.ntmps12
  go_wp2
  go_loopw [3] (fun kv wr => ∃ k : Nat, k ≤ cs.length ∧ kv = .int .i64 k ∧ Below w.heap.size w wr) (fun kv _ => cs.length - (intOf kv).toNat)
  case atStart => exact ⟨0, by omega, rfl, Below.refl _ _⟩
  case round =>
    obtain ⟨k, hk, rfl, hb⟩ := hrel
    have hsz := hb.size
    by_cases hlt : k < cs.length
    · obtain ⟨b, o, vS, vU, vP, rfl, z0, z1, z2, z3, z4, z5, z6, z7, z8, hce⟩ := HCC.out k hlt
      have HG := hid (law9_great vS vU vP cs[k].ent wr (hce.below hb).e)
      obtain ⟨sa, sk, rfl, -⟩ := hce.e.s.open
      obtain ⟨ta, tk, rfl, -⟩ := hce.e.u.open
      obtain ⟨pa, pk, rfl, -⟩ := hce.e.p.open
      have HK := hid (fun (X : World) (hX : Below w.heap.size w X) => (fun {p : Addr} {u : Value} (h : w.cell? p = some u) => (hX.cell (World.block_lt_of_cell? _ _ h)).trans h))
      have Z1 := hid z1
      have Z2 := hid z2
      have Z3 := hid z3
      replace z4 := HK.out wr hb z4
      replace z5 := HK.out wr hb z5
      replace z6 := HK.out wr hb z6
      replace z7 := HK.out wr hb z7
      replace z8 := HK.out wr hb z8
      obtain ⟨c, hcx⟩ : ∃ c, cs[k] = c := ⟨_, rfl⟩
      rw [hcx] at z4 z5 z6 z7 z8 HG Z1 Z2 Z3
      have HB := hid hb
      have y0 : (k : Int) < (cs.length : Int) := by omega
      clear z0 z1 z2 z3 hce hcx hb
      go_wp2_with fail
      refine HG.out.mono ?_
      rintro e w2 ⟨z, rfl, hb2⟩
      have HB2 := hid (HB.out.trans (hb2.mono hsz))
      have z1 := HK.out w2 HB2.out Z1.out
      have z2 := HK.out w2 HB2.out Z2.out
      have z3 := HK.out w2 HB2.out Z3.out
      clear hb2
      cases z
      case true =>
        go_wp2
        go_ret
        exact Mn9Q.yes HB2.out
      by_cases e1 : (c.who.size : Int) > 100
      · go_wp2
        go_ret
        exact Mn9Q.yes HB2.out
      by_cases e2 : (c.name.size : Int) > 100
      · go_wp2
        go_ret
        exact Mn9Q.yes HB2.out
      by_cases e3 : (c.new.size : Int) > 100
      · go_wp2
        go_ret
        exact Mn9Q.yes HB2.out
      go_wp2
      go_roundw
      case rel => exact ⟨k + 1, by omega, by go_num, HB2.out⟩
      case measure => simp [intOf]; omega
    · by_cases e1 : (cs.length : Int) > 30
      · by_cases e2 : (cs.length : Int) ≤ 200
        · go_wp2
          go_ret
          exact Mn9Q.yes hb
        by_cases e4 : (cs.length : Int) > 210
        · go_wp2
          go_ret
          exact Mn9Q.yes hb
        have HN := hid (Mn9Q.no (cs := cs) (by omega) hb)
        go_wp2
        go_ret
        exact HN.out
      have e4 : ¬ (cs.length : Int) > 210 := by omega
      have HN := hid (Mn9Q.no (cs := cs) (by omega) hb)
      go_wp2
      go_ret
      exact HN.out
def annN : Nm := ⟨#[97, 110, 110]⟩
def bobN : Nm := ⟨#[98, 111, 98]⟩
def enI : En := ⟨⟨#[105]⟩, annN, [0, -1, -1], [], []⟩
def enD : En := ⟨⟨#[105, 100]⟩, bobN, [0, -1, -1], [], []⟩
def cAw9 : List Chg := [⟨1, annN, em, em, enI⟩, ⟨3, annN, ⟨#[105]⟩, ⟨#[105, 100]⟩, en0⟩, ⟨2, bobN, em, em, enD⟩]
theorem sm9 : ∀ c ∈ cAw9, c.ent.name.size ≤ 140737488355328 ∧ c.ent.who.size ≤ 140737488355328 ∧ c.who.size ≤ 140737488355328 ∧ c.name.size ≤ 140737488355328 ∧ c.new.size ≤ 140737488355328 := by decide +kernel
theorem blame_aw9 : blameL sg1 cAw9 = ([(⟨#[105, 100]⟩, annN, bobN)], 0) := by decide +kernel
theorem hist_aw9 : histL sg1 cAw9 ⟨#[105, 100]⟩ = ([0, 1, 2], 0) := by decide +kernel
theorem intsA9 (w : World) (T : TypeId) : Ints (w.alloc (.cells #[.int .i64 0, .int .i64 (-1), .int .i64 (-1)] T)) (.slice (some ⟨w.heap.size, 0, none⟩) 3 3) [0, -1, -1] := by
  have r := World.ownsRow_lit (base := 0) (e := T) (size := 1) w #[.int .i64 0, .int .i64 (-1), .int .i64 (-1)] 3 (by omega) (by simp [maxLen]) (by simp)
  exact Ints.of_owns r (by simp)
theorem intsB9 (w : World) (T : TypeId) : Ints (w.alloc (.cells #[.int .i64 0, .int .i64 1, .int .i64 2] T)) (.slice (some ⟨w.heap.size, 0, none⟩) 3 3) [0, 1, 2] := by
  have r := World.ownsRow_lit (base := 0) (e := T) (size := 1) w #[.int .i64 0, .int .i64 1, .int .i64 2] 3 (by omega) (by simp [maxLen]) (by simp)
  exact Ints.of_owns r (by simp)
theorem chs_lit {w : World} {l : List Chg} {vs : List V3} {T : TypeId} {cs : Array Value} (hc : cs = (chsC l vs).toArray) (hl : vs.length = l.length) (hl1 : l.length ≤ 1000) (he : ∀ (j : Nat) (h : j < l.length) (h' : j < vs.length), ChgAt w vs[j].1 vs[j].2.1 vs[j].2.2 l[j]) : ChsAt (w.alloc (.cells cs T)) (.slice (some ⟨w.heap.size, 0, none⟩) l.length l.length) l := by
  subst hc
  have hb : Below w.heap.size w (w.alloc (.cells (chsC l vs).toArray T)) := (Below.refl _ _).alloc (Nat.le_refl _) _
  refine ⟨vs, ⟨chsC_len l vs hl, _, _, rfl, Nat.le_refl _, by omega, (fun h => by cases h), fun j u hj => ⟨_, _, rfl, ?_⟩⟩, hl, fun j h h' => (he j h h').below hb⟩
  rw [World.cell?_alloc_new, Nat.zero_add]
  exact List.getElem?_toArray.trans hj
set_option maxHeartbeats 4000000 in
set_option maxRecDepth 100000 in
theorem law9_awake (w : World) :
    Calls Tryz.prog 10 #[] w fun e w' => e = .returned (.bool true) ∧ Below w.heap.size w w' := by
  have q1 := sign9 w 81
  obtain ⟨W1, hW1⟩ : ∃ W1, w.alloc (.cells #[.string ⟨#[67]⟩, .int .i64 2] 81) = W1 := ⟨_, rfl⟩
  have b1 : Below w.heap.size w W1 := hW1 ▸ (Below.refl _ _).alloc (Nat.le_refl _) _
  rw [hW1] at q1
  have q2 := intsA9 W1 3
  obtain ⟨W2, hW2⟩ : ∃ W2, W1.alloc (.cells #[.int .i64 0, .int .i64 (-1), .int .i64 (-1)] 3) = W2 := ⟨_, rfl⟩
  have b2 : Below W1.heap.size W1 W2 := hW2 ▸ (Below.refl _ _).alloc (Nat.le_refl _) _
  rw [hW2] at q2
  have q3 := EB.new W2 enI (.slice (some ⟨W1.heap.size, 0, none⟩) 3 3) (.slice none 0 0) (.slice none 0 0) 41
  obtain ⟨W3, hW3⟩ : ∃ W3, W2.alloc (.cells #[.string ⟨#[105]⟩, .string ⟨#[97, 110, 110]⟩, .slice (some ⟨W1.heap.size, 0, none⟩) 3 3, .slice none 0 0, .slice none 0 0] 41) = W3 := ⟨_, rfl⟩
  have b3 : Below W2.heap.size W2 W3 := hW3 ▸ (Below.refl _ _).alloc (Nat.le_refl _) _
  have hW3' : W2.alloc (.cells #[.string enI.name, .string enI.who, .slice (some ⟨W1.heap.size, 0, none⟩) 3 3, .slice none 0 0, .slice none 0 0] 41) = W3 := hW3
  rw [hW3'] at q3
  have q4 := intsA9 W3 3
  obtain ⟨W4, hW4⟩ : ∃ W4, W3.alloc (.cells #[.int .i64 0, .int .i64 (-1), .int .i64 (-1)] 3) = W4 := ⟨_, rfl⟩
  have b4 : Below W3.heap.size W3 W4 := hW4 ▸ (Below.refl _ _).alloc (Nat.le_refl _) _
  rw [hW4] at q4
  have q5 := EB.new W4 enD (.slice (some ⟨W3.heap.size, 0, none⟩) 3 3) (.slice none 0 0) (.slice none 0 0) 41
  obtain ⟨W5, hW5⟩ : ∃ W5, W4.alloc (.cells #[.string ⟨#[105, 100]⟩, .string ⟨#[98, 111, 98]⟩, .slice (some ⟨W3.heap.size, 0, none⟩) 3 3, .slice none 0 0, .slice none 0 0] 41) = W5 := ⟨_, rfl⟩
  have b5 : Below W4.heap.size W4 W5 := hW5 ▸ (Below.refl _ _).alloc (Nat.le_refl _) _
  have hW5' : W4.alloc (.cells #[.string enD.name, .string enD.who, .slice (some ⟨W3.heap.size, 0, none⟩) 3 3, .slice none 0 0, .slice none 0 0] 41) = W5 := hW5
  rw [hW5'] at q5
  have b45 := b4.trans (b5.mono b4.size)
  have b35 := b3.trans (b45.mono b3.size)
  have r3 := q3.below b45
  have hch : ChsAt (W5.alloc (.cells #[.int .i64 1, .string ⟨#[97, 110, 110]⟩, .string ⟨#[]⟩, .string ⟨#[]⟩, .string ⟨#[105]⟩, .string ⟨#[97, 110, 110]⟩, .slice (some ⟨W1.heap.size, 0, none⟩) 3 3, .slice none 0 0, .slice none 0 0,
      .int .i64 3, .string ⟨#[97, 110, 110]⟩, .string ⟨#[105]⟩, .string ⟨#[105, 100]⟩, .string ⟨#[]⟩, .string ⟨#[]⟩, .slice none 0 0, .slice none 0 0, .slice none 0 0,
      .int .i64 2, .string ⟨#[98, 111, 98]⟩, .string ⟨#[]⟩, .string ⟨#[]⟩, .string ⟨#[105, 100]⟩, .string ⟨#[98, 111, 98]⟩, .slice (some ⟨W3.heap.size, 0, none⟩) 3 3, .slice none 0 0, .slice none 0 0] 43)) (.slice (some ⟨W5.heap.size, 0, none⟩) 3 3) cAw9 := by
    refine chs_lit (l := cAw9) (vs := [(.slice (some ⟨W1.heap.size, 0, none⟩) 3 3, .slice none 0 0, .slice none 0 0), (.slice none 0 0, .slice none 0 0, .slice none 0 0), (.slice (some ⟨W3.heap.size, 0, none⟩) 3 3, .slice none 0 0, .slice none 0 0)]) rfl rfl (by decide) fun j h1 h2 => ?_
    match j, h1 with
    | 0, _ => exact ⟨⟨q2.below b35, TxtsAt.nil _, StepsAt.nil _, (sm9 _ (List.getElem_mem _)).1, (sm9 _ (List.getElem_mem _)).2.1⟩, (sm9 _ (List.getElem_mem _)).2.2.1, (sm9 _ (List.getElem_mem _)).2.2.2.1, (sm9 _ (List.getElem_mem _)).2.2.2.2⟩
    | 1, _ => exact ⟨⟨Ints.nil _, TxtsAt.nil _, StepsAt.nil _, (sm9 _ (List.getElem_mem _)).1, (sm9 _ (List.getElem_mem _)).2.1⟩, (sm9 _ (List.getElem_mem _)).2.2.1, (sm9 _ (List.getElem_mem _)).2.2.2.1, (sm9 _ (List.getElem_mem _)).2.2.2.2⟩
    | 2, _ => exact ⟨⟨q4.below b5, TxtsAt.nil _, StepsAt.nil _, (sm9 _ (List.getElem_mem _)).1, (sm9 _ (List.getElem_mem _)).2.1⟩, (sm9 _ (List.getElem_mem _)).2.2.1, (sm9 _ (List.getElem_mem _)).2.2.2.1, (sm9 _ (List.getElem_mem _)).2.2.2.2⟩
  obtain ⟨W6, hW6⟩ : ∃ W6, W5.alloc (.cells #[.int .i64 1, .string ⟨#[97, 110, 110]⟩, .string ⟨#[]⟩, .string ⟨#[]⟩, .string ⟨#[105]⟩, .string ⟨#[97, 110, 110]⟩, .slice (some ⟨W1.heap.size, 0, none⟩) 3 3, .slice none 0 0, .slice none 0 0,
      .int .i64 3, .string ⟨#[97, 110, 110]⟩, .string ⟨#[105]⟩, .string ⟨#[105, 100]⟩, .string ⟨#[]⟩, .string ⟨#[]⟩, .slice none 0 0, .slice none 0 0, .slice none 0 0,
      .int .i64 2, .string ⟨#[98, 111, 98]⟩, .string ⟨#[]⟩, .string ⟨#[]⟩, .string ⟨#[105, 100]⟩, .string ⟨#[98, 111, 98]⟩, .slice (some ⟨W3.heap.size, 0, none⟩) 3 3, .slice none 0 0, .slice none 0 0] 43) = W6 := ⟨_, rfl⟩
  have b6 : Below W5.heap.size W5 W6 := hW6 ▸ (Below.refl _ _).alloc (Nat.le_refl _) _
  rw [hW6] at hch
  have b25 := b2.trans (b35.mono b2.size)
  have b26 := b25.trans (b6.mono b25.size)
  have hsg := hid (q1.below b26)
  have HCH := hid hch
  have HB := hid (b1.trans (b26.mono b1.size))
  have HBL := hid (blame_Blame _ _ sg1 cAw9 W6 hsg.out hch (by decide))
  rw [blame_aw9] at HBL
  have h1 := hid hW1
  have h2 := hid hW2
  have h3 := hid hW3
  have h4 := hid hW4
  have h5 := hid hW5
  have h6 := hid hW6
  obtain ⟨c0, c1, c2, c3, c4⟩ := r3
  obtain ⟨g0, g1, g2, g3, g4⟩ := q5
  clear q1 q2 q3 q4 b1 b2 b3 b4 b5 b6 b45 b35 b25 b26 hW1 hW2 hW3 hW4 hW5 hW6 hW3' hW5' hch
  simp only [enI, enD, annN, bobN] at c0 c1 g0 g1
  go_enter Tryz.func10, Tryz.ntmps10
  go_wp2_with (first | rw [h1.out] | rw [h2.out] | rw [h3.out] | rw [h4.out] | rw [h5.out] | rw [h6.out])
  refine HBL.out.mono ?_
  rintro e w7 ⟨u, rfl, hu, hb7⟩
  have HU := hid hu
  have HB7 := hid (HB.out.trans (hb7.mono HB.out.size))
  have HHI := hid (blame_History _ _ sg1 cAw9 ⟨#[105, 100]⟩ w7 (hsg.out.below hb7) (HCH.out.below hb7) (by decide) (by decide))
  rw [hist_aw9] at HHI
  obtain ⟨ua, uc, rfl, -⟩ := hu.open
  clear hu hb7 HBL c0 c1 c2 c3 c4 g0 g1 g2 g3 g4
  go_wp2_with fail
  refine HHI.out.mono ?_
  rintro e w8 ⟨v, rfl, hv, hb8⟩
  have HB8 := hid (HB7.out.trans (hb8.mono HB7.out.size))
  obtain ⟨ua', uc', eu, -, -, ZC⟩ := (HU.out.below hb8).open
  obtain ⟨b, o, rfl, z0, z1, z2⟩ := ZC 0 (by decide)
  simp only [Value.slice.injEq] at eu
  obtain ⟨rfl, -, rfl⟩ := eu
  simp only [List.getElem_cons_zero, annN, bobN, Nat.zero_mul, Nat.add_zero] at z0 z1 z2
  have hbA : Below w8.heap.size w8 (w8.alloc (.cells #[.int .i64 0, .int .i64 1, .int .i64 2] 3)) := (Below.refl _ _).alloc (Nat.le_refl _) _
  have HSI := hid (ref6_SameInts v _ [0, 1, 2] [0, 1, 2] (w8.alloc (.cells #[.int .i64 0, .int .i64 1, .int .i64 2] 3)) (hv.below hbA) (intsB9 w8 3))
  have HBA := hid (HB8.out.trans (hbA.mono HB8.out.size))
  obtain ⟨va, vc, rfl, -⟩ := hv.open
  clear hv hb8 hbA ZC HHI
  go_wp2_with fail
  refine HSI.out.mono ?_
  rintro e w9 ⟨rfl, nq, rfl⟩
  have HB9 := hid (HBA.out.trans ((below_self_drewN _ nq).mono HBA.out.size))
  go_wp2
  go_ret
  exact ⟨rfl, HB9.out⟩
end Go.Proofs.YtlbjbmpkaniojaaGreat
namespace Go.Proofs.YtlbjbmpkaniojaaGreat
open Go Go.RowKit Go.Maps
theorem chs_two {w : World} {c d : Chg} {v1 v2 v3 u1 u2 u3 : Value} {T : TypeId} (h : ChgAt w v1 v2 v3 c) (k : ChgAt w u1 u2 u3 d) : ChsAt (w.alloc (.cells #[.int .i64 c.kind, .string c.who, .string c.name, .string c.new, .string c.ent.name, .string c.ent.who, v1, v2, v3, .int .i64 d.kind, .string d.who, .string d.name, .string d.new, .string d.ent.name, .string d.ent.who, u1, u2, u3] T)) (.slice (some ⟨w.heap.size, 0, none⟩) 2 2) [c, d] :=
  chs_lit (l := [c, d]) (vs := [(v1, v2, v3), (u1, u2, u3)]) rfl rfl (by simp) (fun j h1 h2 => by
    match j, h1 with
    | 0, _ => exact h
    | 1, _ => exact k)
theorem apartR_no {s : Sg} {l : List En} {c d : Chg} (h : edB s l = false ∨ chgB s c = false ∨ chgB s d = false) : apartR s l c d = (false, 1) := by
  unfold apartR
  rcases h with h | h | h <;> rw [h] <;> simp
theorem apartR_yes {s : Sg} {l : List En} {c d : Chg} (h : edB s l = true) (h1 : chgB s c = true) (h2 : chgB s d = true) : apartR s l c d = (decide ((playL l [c, d] 0).2.2 = 0) && (decide ((playL l [d, c] 0).2.2 = 0) && decide ((playL l [c, d] 0).1 = (playL l [d, c] 0).1)), 0) := by
  unfold apartR
  rw [h, h1, h2]
  rfl
theorem all_two {s : Sg} {c d : Chg} (h1 : chgB s c = true) (h2 : chgB s d = true) : ∀ x ∈ [c, d], chgB s x = true := by
  intro x hx
  simp at hx
  rcases hx with rfl | rfl
  · exact h1
  · exact h2
set_option maxHeartbeats 4000000 in
set_option maxRecDepth 100000 in
theorem blame_Apart (vs vl v1 v2 v3 u1 u2 u3 : Value) (s : Sg) (l : List En) (c d : Chg) (w : World) (hs : SignAt w vs s) (hl : EntsAt w vl l) (hc : ChgAt w v1 v2 v3 c) (hd : ChgAt w u1 u2 u3 d) (hs1 : s.length ≤ 1000) (hl1 : l.length ≤ 1000) :
    Calls Tryz.prog 18 #[vs, vl, chV c v1 v2 v3, chV d u1 u2 u3] w fun e w' => e = .returned (.tuple #[.bool (apartR s l c d).1, .int .i64 (apartR s l c d).2]) ∧ Below w.heap.size w w' := by
  obtain ⟨sa, sc, rfl, -⟩ := hc.e.s.open
  obtain ⟨ua, uc, rfl, -⟩ := hc.e.u.open
  obtain ⟨pa, pc, rfl, -⟩ := hc.e.p.open
  obtain ⟨sb, sd, rfl, -⟩ := hd.e.s.open
  obtain ⟨ub, ud, rfl, -⟩ := hd.e.u.open
  obtain ⟨pb, pd, rfl, -⟩ := hd.e.p.open
  have hCB := CB.new w c (.slice sa c.ent.says.length sc) (.slice ua c.ent.uses.length uc) (.slice pa c.ent.proof.length pc) 43
  obtain ⟨V, hV⟩ : ∃ V, w.alloc (.cells #[.int .i64 c.kind, .string c.who, .string c.name, .string c.new, .string c.ent.name, .string c.ent.who, .slice sa c.ent.says.length sc, .slice ua c.ent.uses.length uc, .slice pa c.ent.proof.length pc] 43) = V := ⟨_, rfl⟩
  have hbV : Below w.heap.size w V := hV ▸ (Below.refl _ _).alloc (Nat.le_refl _) _
  rw [hV] at hCB
  have hCD := CB.new V d (.slice sb d.ent.says.length sd) (.slice ub d.ent.uses.length ud) (.slice pb d.ent.proof.length pd) 43
  obtain ⟨X, hX⟩ : ∃ X, V.alloc (.cells #[.int .i64 d.kind, .string d.who, .string d.name, .string d.new, .string d.ent.name, .string d.ent.who, .slice sb d.ent.says.length sd, .slice ub d.ent.uses.length ud, .slice pb d.ent.proof.length pd] 43) = X := ⟨_, rfl⟩
  have hbX : Below V.heap.size V X := hX ▸ (Below.refl _ _).alloc (Nat.le_refl _) _
  rw [hX] at hCD
  have hb := hbV.trans (hbX.mono hbV.size)
  have HCC := hid (hCB.below hbX)
  have HCD := hid hCD
  have HED := hid (blame_Edition vs vl s l X (hs.below hb) (hl.below hb) hs1 hl1)
  have HVC := hid (fun (Y : World) (hY : Below w.heap.size w Y) => blame_Valid vs _ _ _ s c Y (hs.below hY) (hc.below hY) hs1)
  have HVD := hid (fun (Y : World) (hY : Below w.heap.size w Y) => blame_Valid vs _ _ _ s d Y (hs.below hY) (hd.below hY) hs1)
  have HPL := hid (fun (h : edB s l = true) (Y : World) (hY : Below w.heap.size w Y) (v : Value) (cs : List Chg) (hcs : ChsAt Y v cs) (hk : ∀ x ∈ cs, chgB s x = true) => blame_played vl v s l cs Y (hl.below hY) hcs h hk)
  have HC := hid hc
  have HD := hid hd
  have HLL := hid hl
  obtain ⟨sp, sx, rfl, -⟩ := hs.open
  obtain ⟨la, lc, rfl, -⟩ := hl.open
  unfold chV at HVC HVD ⊢
  have HW := hid hV
  have HX := hid hX
  have HB := hid hb
  clear hV hX hbV hbX hb hs hl hc hd hCB hCD
  obtain ⟨c0, c1, c2, c3, c4, c5, c6, c7, c8⟩ := HCC.out
  obtain ⟨d0, d1, d2, d3, d4, d5, d6, d7, d8⟩ := HCD.out
  cases g1 : edB s l
  · have HF := hid (apartR_no (c := c) (d := d) (Or.inl g1))
    rw [g1] at HED
    clear g1
    go_enter Tryz.func18, Tryz.ntmps18
    go_wp2_with (first | rw [HW.out] | rw [HX.out])
    refine HED.out.mono ?_
    rintro e w1 ⟨rfl, hb1⟩
    go_wp2
    go_ret2
    exact ⟨by rw [HF.out]; rfl, HB.out.trans (hb1.mono HB.out.size)⟩
  rw [g1] at HED
  have HPL1 := hid (HPL.out g1)
  have HG1 := hid g1
  clear g1 HPL
  cases g2 : chgB s c
  · have HF := hid (apartR_no (l := l) (d := d) (Or.inr (Or.inl g2)))
    simp only [g2] at HVC
    clear g2
    go_enter Tryz.func18, Tryz.ntmps18
    go_wp2_with (first | rw [HW.out] | rw [HX.out])
    refine HED.out.mono ?_
    rintro e w1 ⟨rfl, hb1⟩
    have HB1 := hid (HB.out.trans (hb1.mono HB.out.size))
    have HV1 := hid (HVC.out w1 HB1.out)
    clear c0 c1 c2 c3 c4 c5 c6 c7 c8 d0 d1 d2 d3 d4 d5 d6 d7 d8
    obtain ⟨c0, c1, c2, c3, c4, c5, c6, c7, c8⟩ := HCC.out.below hb1
    clear hb1
    go_wp2_with fail
    refine HV1.out.mono ?_
    rintro e w2 ⟨rfl, hb2⟩
    go_wp2
    go_ret2
    exact ⟨by rw [HF.out]; rfl, HB1.out.trans (hb2.mono HB1.out.size)⟩
  simp only [g2] at HVC
  have HG2 := hid g2
  clear g2
  cases g3 : chgB s d
  · have HF := hid (apartR_no (l := l) (c := c) (Or.inr (Or.inr g3)))
    simp only [g3] at HVD
    clear g3
    go_enter Tryz.func18, Tryz.ntmps18
    go_wp2_with (first | rw [HW.out] | rw [HX.out])
    refine HED.out.mono ?_
    rintro e w1 ⟨rfl, hb1⟩
    have HB1 := hid (HB.out.trans (hb1.mono HB.out.size))
    have HV1 := hid (HVC.out w1 HB1.out)
    clear c0 c1 c2 c3 c4 c5 c6 c7 c8 d0 d1 d2 d3 d4 d5 d6 d7 d8
    obtain ⟨c0, c1, c2, c3, c4, c5, c6, c7, c8⟩ := HCC.out.below hb1
    have HD1 := hid (HCD.out.below hb1)
    clear hb1
    go_wp2_with fail
    refine HV1.out.mono ?_
    rintro e w2 ⟨rfl, hb2⟩
    have HB2 := hid (HB1.out.trans (hb2.mono HB1.out.size))
    have HV2 := hid (HVD.out w2 HB2.out)
    clear c0 c1 c2 c3 c4 c5 c6 c7 c8
    obtain ⟨d0, d1, d2, d3, d4, d5, d6, d7, d8⟩ := HD1.out.below hb2
    clear hb2
    go_wp2_with fail
    refine HV2.out.mono ?_
    rintro e w3 ⟨rfl, hb3⟩
    go_wp2
    go_ret2
    exact ⟨by rw [HF.out]; rfl, HB2.out.trans (hb3.mono HB2.out.size)⟩
  simp only [g3] at HVD
  have HAR := hid (apartR_yes HG1.out HG2.out g3)
  have HA1 := hid (all_two HG2.out g3)
  have HA2 := hid (all_two g3 HG2.out)
  clear g3
  obtain ⟨P, i1, e1, hP⟩ : ∃ P i1 e1, playL l [c, d] 0 = (P, i1, e1) := ⟨_, _, _, rfl⟩
  obtain ⟨Q, i2, e2, hQ⟩ : ∃ Q i2 e2, playL l [d, c] 0 = (Q, i2, e2) := ⟨_, _, _, rfl⟩
  have HPC := hid (fun (Y : World) (hY : Below w.heap.size w Y) (v : Value) (hcs : ChsAt Y v [c, d]) => HPL1.out Y hY v [c, d] hcs HA1.out)
  have HPD := hid (fun (Y : World) (hY : Below w.heap.size w Y) (v : Value) (hcs : ChsAt Y v [d, c]) => HPL1.out Y hY v [d, c] hcs HA2.out)
  simp only [hP] at HPC HAR
  simp only [hQ] at HPD HAR
  clear hP hQ HPL1
  go_enter Tryz.func18, Tryz.ntmps18
  go_wp2_with (first | rw [HW.out] | rw [HX.out])
  refine HED.out.mono ?_
  rintro e w1 ⟨rfl, hb1⟩
  have HB1 := hid (HB.out.trans (hb1.mono HB.out.size))
  have HV1 := hid (HVC.out w1 HB1.out)
  clear c0 c1 c2 c3 c4 c5 c6 c7 c8 d0 d1 d2 d3 d4 d5 d6 d7 d8
  have HCC1 := hid (HCC.out.below hb1)
  have HCD1 := hid (HCD.out.below hb1)
  obtain ⟨c0, c1, c2, c3, c4, c5, c6, c7, c8⟩ := HCC1.out
  clear hb1
  go_wp2_with fail
  refine HV1.out.mono ?_
  rintro e w2 ⟨rfl, hb2⟩
  have HB2 := hid (HB1.out.trans (hb2.mono HB1.out.size))
  have HV2 := hid (HVD.out w2 HB2.out)
  have HCC2 := hid (HCC1.out.below hb2)
  have HCD2 := hid (HCD1.out.below hb2)
  clear c0 c1 c2 c3 c4 c5 c6 c7 c8 hb2
  obtain ⟨d0, d1, d2, d3, d4, d5, d6, d7, d8⟩ := HCD2.out
  go_wp2_with fail
  refine HV2.out.mono ?_
  rintro e w3 ⟨rfl, hb3⟩
  have HB3 := hid (HB2.out.trans (hb3.mono HB2.out.size))
  have HCC3 := hid (HCC2.out.below hb3)
  have HCD3 := hid (HCD2.out.below hb3)
  clear d0 d1 d2 d3 d4 d5 d6 d7 d8 hb3
  obtain ⟨c0, c1, c2, c3, c4, c5, c6, c7, c8⟩ := HCC3.out
  obtain ⟨d0, d1, d2, d3, d4, d5, d6, d7, d8⟩ := HCD3.out
  have hbA : Below w3.heap.size w3 (w3.alloc (.cells #[.int .i64 c.kind, .string c.who, .string c.name, .string c.new, .string c.ent.name, .string c.ent.who, .slice sa c.ent.says.length sc, .slice ua c.ent.uses.length uc, .slice pa c.ent.proof.length pc, .int .i64 d.kind, .string d.who, .string d.name, .string d.new, .string d.ent.name, .string d.ent.who, .slice sb d.ent.says.length sd, .slice ub d.ent.uses.length ud, .slice pb d.ent.proof.length pd] 43)) := (Below.refl _ _).alloc (Nat.le_refl _) _
  have HBA := hid (HB3.out.trans (hbA.mono HB3.out.size))
  have HP3 := hid (HPC.out _ HBA.out _ (chs_two (HC.out.below HB3.out) (HD.out.below HB3.out)))
  have HNA := hid hbA
  clear hbA
  go_wp2_with fail
  refine HP3.out.mono ?_
  rintro e w4 ⟨v4, rfl, hv4, hb4⟩
  have HN4 := hid (HNA.out.trans (hb4.mono HNA.out.size))
  have HB4 := hid (HB3.out.trans (HN4.out.mono HB3.out.size))
  have HV4 := hid hv4
  obtain ⟨a4, k4, rfl, -⟩ := hv4.open
  clear hv4 hb4 c0 c1 c2 c3 c4 c5 c6 c7 c8 d0 d1 d2 d3 d4 d5 d6 d7 d8
  obtain ⟨c0, c1, c2, c3, c4, c5, c6, c7, c8⟩ := HCC3.out.below HN4.out
  obtain ⟨d0, d1, d2, d3, d4, d5, d6, d7, d8⟩ := HCD3.out.below HN4.out
  have hbA : Below w4.heap.size w4 (w4.alloc (.cells #[.int .i64 d.kind, .string d.who, .string d.name, .string d.new, .string d.ent.name, .string d.ent.who, .slice sb d.ent.says.length sd, .slice ub d.ent.uses.length ud, .slice pb d.ent.proof.length pd, .int .i64 c.kind, .string c.who, .string c.name, .string c.new, .string c.ent.name, .string c.ent.who, .slice sa c.ent.says.length sc, .slice ua c.ent.uses.length uc, .slice pa c.ent.proof.length pc] 43)) := (Below.refl _ _).alloc (Nat.le_refl _) _
  have HBA2 := hid (HB4.out.trans (hbA.mono HB4.out.size))
  have HP4 := hid (HPD.out _ HBA2.out _ (chs_two (HD.out.below HB4.out) (HC.out.below HB4.out)))
  have HNA2 := hid hbA
  clear hbA
  go_wp2_with fail
  refine HP4.out.mono ?_
  rintro e w5 ⟨v5, rfl, hv5, hb5⟩
  have HN5 := hid (HNA2.out.trans (hb5.mono HNA2.out.size))
  have HB5 := hid (HB4.out.trans (HN5.out.mono HB4.out.size))
  have HSM := hid (blame_same _ _ P Q w5 (HV4.out.below HN5.out) hv5)
  obtain ⟨a5, k5, rfl, -⟩ := hv5.open
  clear hv5 hb5 c0 c1 c2 c3 c4 c5 c6 c7 c8 d0 d1 d2 d3 d4 d5 d6 d7 d8
  by_cases z1 : e1 = 0
  case neg =>
    have HF : Hid (apartR s l c d = (false, 0)) := hid (by rw [HAR.out, decide_eq_false z1]; rfl)
    have n1 : (e1 == 0) = false := by simpa using z1
    clear z1
    go_wp2
    go_ret2
    exact ⟨by rw [HF.out]; rfl, HB5.out⟩
  by_cases z2 : e2 = 0
  case neg =>
    have HF : Hid (apartR s l c d = (false, 0)) := hid (by rw [HAR.out, decide_eq_false z2, Bool.false_and, Bool.and_false])
    have n2 : (e2 == 0) = false := by simpa using z2
    subst z1
    clear z2
    go_wp2
    go_ret2
    exact ⟨by rw [HF.out]; rfl, HB5.out⟩
  subst z1 z2
  have HF : Hid (apartR s l c d = (decide (P = Q), 0)) := hid (by rw [HAR.out]; simp)
  clear HAR
  go_wp2_with fail
  refine HSM.out.mono ?_
  rintro e w6 ⟨rfl, hb6⟩
  have HB6 := hid (HB5.out.trans (hb6.mono HB5.out.size))
  clear hb6
  go_wp2
  go_ret2
  exact ⟨by rw [HF.out]; rfl, HB6.out⟩
set_option maxHeartbeats 4000000 in
set_option maxRecDepth 100000 in
theorem ref9_Apart (vs vl v1 v2 v3 u1 u2 u3 : Value) (s : Sg) (l : List En) (c d : Chg) (w : World) (hs : SignAt w vs s) (hl : EntsAt w vl l) (hc : ChgAt w v1 v2 v3 c) (hd : ChgAt w u1 u2 u3 d) (hs1 : s.length ≤ 1000) (hl1 : l.length ≤ 1000) :
    Calls Tryz.prog 19 #[vs, vl, chV c v1 v2 v3, chV d u1 u2 u3] w fun e w' => e = .returned (.tuple #[.bool (apartR s l c d).1, .int .i64 (apartR s l c d).2]) ∧ Below w.heap.size w w' := by
  obtain ⟨sa, sc, rfl, -⟩ := hc.e.s.open
  obtain ⟨ua, uc, rfl, -⟩ := hc.e.u.open
  obtain ⟨pa, pc, rfl, -⟩ := hc.e.p.open
  obtain ⟨sb, sd, rfl, -⟩ := hd.e.s.open
  obtain ⟨ub, ud, rfl, -⟩ := hd.e.u.open
  obtain ⟨pb, pd, rfl, -⟩ := hd.e.p.open
  have hCB := CB.new w c (.slice sa c.ent.says.length sc) (.slice ua c.ent.uses.length uc) (.slice pa c.ent.proof.length pc) 43
  obtain ⟨V, hV⟩ : ∃ V, w.alloc (.cells #[.int .i64 c.kind, .string c.who, .string c.name, .string c.new, .string c.ent.name, .string c.ent.who, .slice sa c.ent.says.length sc, .slice ua c.ent.uses.length uc, .slice pa c.ent.proof.length pc] 43) = V := ⟨_, rfl⟩
  have hbV : Below w.heap.size w V := hV ▸ (Below.refl _ _).alloc (Nat.le_refl _) _
  rw [hV] at hCB
  have hCD := CB.new V d (.slice sb d.ent.says.length sd) (.slice ub d.ent.uses.length ud) (.slice pb d.ent.proof.length pd) 43
  obtain ⟨X, hX⟩ : ∃ X, V.alloc (.cells #[.int .i64 d.kind, .string d.who, .string d.name, .string d.new, .string d.ent.name, .string d.ent.who, .slice sb d.ent.says.length sd, .slice ub d.ent.uses.length ud, .slice pb d.ent.proof.length pd] 43) = X := ⟨_, rfl⟩
  have hbX : Below V.heap.size V X := hX ▸ (Below.refl _ _).alloc (Nat.le_refl _) _
  rw [hX] at hCD
  have hb := hbV.trans (hbX.mono hbV.size)
  have HCC := hid (hCB.below hbX)
  have HCD := hid hCD
  have HED := hid (ref9_Edition vs vl s l X (hs.below hb) (hl.below hb) hs1 hl1)
  have HVC := hid (fun (Y : World) (hY : Below w.heap.size w Y) => ref9_Valid vs _ _ _ s c Y (hs.below hY) (hc.below hY) hs1)
  have HVD := hid (fun (Y : World) (hY : Below w.heap.size w Y) => ref9_Valid vs _ _ _ s d Y (hs.below hY) (hd.below hY) hs1)
  have HPL := hid (fun (h : edB s l = true) (Y : World) (hY : Below w.heap.size w Y) (v : Value) (cs : List Chg) (hcs : ChsAt Y v cs) (hk : ∀ x ∈ cs, chgB s x = true) => ref9_play vl v s l cs Y (hl.below hY) hcs h hk)
  have HC := hid hc
  have HD := hid hd
  have HLL := hid hl
  obtain ⟨sp, sx, rfl, -⟩ := hs.open
  obtain ⟨la, lc, rfl, -⟩ := hl.open
  unfold chV at HVC HVD ⊢
  have HW := hid hV
  have HX := hid hX
  have HB := hid hb
  clear hV hX hbV hbX hb hs hl hc hd hCB hCD
  obtain ⟨c0, c1, c2, c3, c4, c5, c6, c7, c8⟩ := HCC.out
  obtain ⟨d0, d1, d2, d3, d4, d5, d6, d7, d8⟩ := HCD.out
  cases g1 : edB s l
  · have HF := hid (apartR_no (c := c) (d := d) (Or.inl g1))
    rw [g1] at HED
    clear g1
    go_enter Tryz.func19, Tryz.ntmps19
    go_wp2_with (first | rw [HW.out] | rw [HX.out])
    refine HED.out.mono ?_
    rintro e w1 ⟨rfl, hb1⟩
    go_wp2
    go_ret2
    exact ⟨by rw [HF.out]; rfl, HB.out.trans (hb1.mono HB.out.size)⟩
  rw [g1] at HED
  have HPL1 := hid (HPL.out g1)
  have HG1 := hid g1
  clear g1 HPL
  cases g2 : chgB s c
  · have HF := hid (apartR_no (l := l) (d := d) (Or.inr (Or.inl g2)))
    simp only [g2] at HVC
    clear g2
    go_enter Tryz.func19, Tryz.ntmps19
    go_wp2_with (first | rw [HW.out] | rw [HX.out])
    refine HED.out.mono ?_
    rintro e w1 ⟨rfl, hb1⟩
    have HB1 := hid (HB.out.trans (hb1.mono HB.out.size))
    have HV1 := hid (HVC.out w1 HB1.out)
    clear c0 c1 c2 c3 c4 c5 c6 c7 c8 d0 d1 d2 d3 d4 d5 d6 d7 d8
    obtain ⟨c0, c1, c2, c3, c4, c5, c6, c7, c8⟩ := HCC.out.below hb1
    clear hb1
    go_wp2_with fail
    refine HV1.out.mono ?_
    rintro e w2 ⟨rfl, hb2⟩
    go_wp2
    go_ret2
    exact ⟨by rw [HF.out]; rfl, HB1.out.trans (hb2.mono HB1.out.size)⟩
  simp only [g2] at HVC
  have HG2 := hid g2
  clear g2
  cases g3 : chgB s d
  · have HF := hid (apartR_no (l := l) (c := c) (Or.inr (Or.inr g3)))
    simp only [g3] at HVD
    clear g3
    go_enter Tryz.func19, Tryz.ntmps19
    go_wp2_with (first | rw [HW.out] | rw [HX.out])
    refine HED.out.mono ?_
    rintro e w1 ⟨rfl, hb1⟩
    have HB1 := hid (HB.out.trans (hb1.mono HB.out.size))
    have HV1 := hid (HVC.out w1 HB1.out)
    clear c0 c1 c2 c3 c4 c5 c6 c7 c8 d0 d1 d2 d3 d4 d5 d6 d7 d8
    obtain ⟨c0, c1, c2, c3, c4, c5, c6, c7, c8⟩ := HCC.out.below hb1
    have HD1 := hid (HCD.out.below hb1)
    clear hb1
    go_wp2_with fail
    refine HV1.out.mono ?_
    rintro e w2 ⟨rfl, hb2⟩
    have HB2 := hid (HB1.out.trans (hb2.mono HB1.out.size))
    have HV2 := hid (HVD.out w2 HB2.out)
    clear c0 c1 c2 c3 c4 c5 c6 c7 c8
    obtain ⟨d0, d1, d2, d3, d4, d5, d6, d7, d8⟩ := HD1.out.below hb2
    clear hb2
    go_wp2_with fail
    refine HV2.out.mono ?_
    rintro e w3 ⟨rfl, hb3⟩
    go_wp2
    go_ret2
    exact ⟨by rw [HF.out]; rfl, HB2.out.trans (hb3.mono HB2.out.size)⟩
  simp only [g3] at HVD
  have HAR := hid (apartR_yes HG1.out HG2.out g3)
  have HA1 := hid (all_two HG2.out g3)
  have HA2 := hid (all_two g3 HG2.out)
  clear g3
  obtain ⟨P, i1, e1, hP⟩ : ∃ P i1 e1, playL l [c, d] 0 = (P, i1, e1) := ⟨_, _, _, rfl⟩
  obtain ⟨Q, i2, e2, hQ⟩ : ∃ Q i2 e2, playL l [d, c] 0 = (Q, i2, e2) := ⟨_, _, _, rfl⟩
  have HPC := hid (fun (Y : World) (hY : Below w.heap.size w Y) (v : Value) (hcs : ChsAt Y v [c, d]) => HPL1.out Y hY v [c, d] hcs HA1.out)
  have HPD := hid (fun (Y : World) (hY : Below w.heap.size w Y) (v : Value) (hcs : ChsAt Y v [d, c]) => HPL1.out Y hY v [d, c] hcs HA2.out)
  simp only [hP] at HPC HAR
  simp only [hQ] at HPD HAR
  clear hP hQ HPL1
  go_enter Tryz.func19, Tryz.ntmps19
  go_wp2_with (first | rw [HW.out] | rw [HX.out])
  refine HED.out.mono ?_
  rintro e w1 ⟨rfl, hb1⟩
  have HB1 := hid (HB.out.trans (hb1.mono HB.out.size))
  have HV1 := hid (HVC.out w1 HB1.out)
  clear c0 c1 c2 c3 c4 c5 c6 c7 c8 d0 d1 d2 d3 d4 d5 d6 d7 d8
  have HCC1 := hid (HCC.out.below hb1)
  have HCD1 := hid (HCD.out.below hb1)
  obtain ⟨c0, c1, c2, c3, c4, c5, c6, c7, c8⟩ := HCC1.out
  clear hb1
  go_wp2_with fail
  refine HV1.out.mono ?_
  rintro e w2 ⟨rfl, hb2⟩
  have HB2 := hid (HB1.out.trans (hb2.mono HB1.out.size))
  have HV2 := hid (HVD.out w2 HB2.out)
  have HCC2 := hid (HCC1.out.below hb2)
  have HCD2 := hid (HCD1.out.below hb2)
  clear c0 c1 c2 c3 c4 c5 c6 c7 c8 hb2
  obtain ⟨d0, d1, d2, d3, d4, d5, d6, d7, d8⟩ := HCD2.out
  go_wp2_with fail
  refine HV2.out.mono ?_
  rintro e w3 ⟨rfl, hb3⟩
  have HB3 := hid (HB2.out.trans (hb3.mono HB2.out.size))
  have HCC3 := hid (HCC2.out.below hb3)
  have HCD3 := hid (HCD2.out.below hb3)
  clear d0 d1 d2 d3 d4 d5 d6 d7 d8 hb3
  obtain ⟨c0, c1, c2, c3, c4, c5, c6, c7, c8⟩ := HCC3.out
  obtain ⟨d0, d1, d2, d3, d4, d5, d6, d7, d8⟩ := HCD3.out
  have hbA : Below w3.heap.size w3 (w3.alloc (.cells #[.int .i64 c.kind, .string c.who, .string c.name, .string c.new, .string c.ent.name, .string c.ent.who, .slice sa c.ent.says.length sc, .slice ua c.ent.uses.length uc, .slice pa c.ent.proof.length pc, .int .i64 d.kind, .string d.who, .string d.name, .string d.new, .string d.ent.name, .string d.ent.who, .slice sb d.ent.says.length sd, .slice ub d.ent.uses.length ud, .slice pb d.ent.proof.length pd] 43)) := (Below.refl _ _).alloc (Nat.le_refl _) _
  have HBA := hid (HB3.out.trans (hbA.mono HB3.out.size))
  have HP3 := hid (HPC.out _ HBA.out _ (chs_two (HC.out.below HB3.out) (HD.out.below HB3.out)))
  have HNA := hid hbA
  clear hbA
  go_wp2_with fail
  refine HP3.out.mono ?_
  rintro e w4 ⟨v4, rfl, hv4, hb4⟩
  have HN4 := hid (HNA.out.trans (hb4.mono HNA.out.size))
  have HB4 := hid (HB3.out.trans (HN4.out.mono HB3.out.size))
  have HV4 := hid hv4
  obtain ⟨a4, k4, rfl, -⟩ := hv4.open
  clear hv4 hb4 c0 c1 c2 c3 c4 c5 c6 c7 c8 d0 d1 d2 d3 d4 d5 d6 d7 d8
  obtain ⟨c0, c1, c2, c3, c4, c5, c6, c7, c8⟩ := HCC3.out.below HN4.out
  obtain ⟨d0, d1, d2, d3, d4, d5, d6, d7, d8⟩ := HCD3.out.below HN4.out
  have hbA : Below w4.heap.size w4 (w4.alloc (.cells #[.int .i64 d.kind, .string d.who, .string d.name, .string d.new, .string d.ent.name, .string d.ent.who, .slice sb d.ent.says.length sd, .slice ub d.ent.uses.length ud, .slice pb d.ent.proof.length pd, .int .i64 c.kind, .string c.who, .string c.name, .string c.new, .string c.ent.name, .string c.ent.who, .slice sa c.ent.says.length sc, .slice ua c.ent.uses.length uc, .slice pa c.ent.proof.length pc] 43)) := (Below.refl _ _).alloc (Nat.le_refl _) _
  have HBA2 := hid (HB4.out.trans (hbA.mono HB4.out.size))
  have HP4 := hid (HPD.out _ HBA2.out _ (chs_two (HD.out.below HB4.out) (HC.out.below HB4.out)))
  have HNA2 := hid hbA
  clear hbA
  go_wp2_with fail
  refine HP4.out.mono ?_
  rintro e w5 ⟨v5, rfl, hv5, hb5⟩
  have HN5 := hid (HNA2.out.trans (hb5.mono HNA2.out.size))
  have HB5 := hid (HB4.out.trans (HN5.out.mono HB4.out.size))
  have HSM := hid (ref6_SameLibrary _ _ P Q w5 (HV4.out.below HN5.out) hv5)
  obtain ⟨a5, k5, rfl, -⟩ := hv5.open
  clear hv5 hb5 c0 c1 c2 c3 c4 c5 c6 c7 c8 d0 d1 d2 d3 d4 d5 d6 d7 d8
  by_cases z1 : e1 = 0
  case neg =>
    have HF : Hid (apartR s l c d = (false, 0)) := hid (by rw [HAR.out, decide_eq_false z1]; rfl)
    have n1 : (e1 == 0) = false := by simpa using z1
    clear z1
    go_wp2
    go_ret2
    exact ⟨by rw [HF.out]; rfl, HB5.out⟩
  by_cases z2 : e2 = 0
  case neg =>
    have HF : Hid (apartR s l c d = (false, 0)) := hid (by rw [HAR.out, decide_eq_false z2, Bool.false_and, Bool.and_false])
    have n2 : (e2 == 0) = false := by simpa using z2
    subst z1
    clear z2
    go_wp2
    go_ret2
    exact ⟨by rw [HF.out]; rfl, HB5.out⟩
  subst z1 z2
  have HF : Hid (apartR s l c d = (decide (P = Q), 0)) := hid (by rw [HAR.out]; simp)
  clear HAR
  go_wp2_with fail
  refine HSM.out.mono ?_
  rintro e w6 ⟨rfl, hb6⟩
  have HB6 := hid (HB5.out.trans (hb6.mono HB5.out.size))
  clear hb6
  go_wp2
  go_ret2
  exact ⟨by rw [HF.out]; rfl, HB6.out⟩
end Go.Proofs.YtlbjbmpkaniojaaGreat
namespace Go.Proofs.YtlbjbmpkaniojaaGreat
open Go Go.RowKit Go.Maps
theorem namesL_len (c : Chg) : (namesL c).length = 3 + c.ent.uses.length := by unfold namesL; rw [List.length_append]; rfl
theorem namesL_map (c : Chg) : (namesL c).map Value.string = [.string c.name, .string c.new, .string c.ent.name] ++ c.ent.uses.map Value.string := by unfold namesL; rw [List.map_append]; rfl
set_option maxHeartbeats 2000000 in
theorem law9_names (v1 v2 v3 : Value) (c : Chg) (w : World) (hc : ChgAt w v1 v2 v3 c) (hu : c.ent.uses.length ≤ 1000) :
    Calls Tryz.prog 62 #[chV c v1 v2 v3] w fun e w' => ∃ u, e = .returned u ∧ TxtsAt w' u (namesL c) ∧ Below w.heap.size w w' := by
  obtain ⟨sa, sc, rfl, -⟩ := hc.e.s.open
  obtain ⟨ua, uc, rfl, -⟩ := hc.e.u.open
  obtain ⟨pa, pc, rfl, -⟩ := hc.e.p.open
  have hCB := CB.new w c (.slice sa c.ent.says.length sc) (.slice ua c.ent.uses.length uc) (.slice pa c.ent.proof.length pc) 43
  obtain ⟨V, hV⟩ : ∃ V, w.alloc (.cells #[.int .i64 c.kind, .string c.who, .string c.name, .string c.new, .string c.ent.name, .string c.ent.who, .slice sa c.ent.says.length sc, .slice ua c.ent.uses.length uc, .slice pa c.ent.proof.length pc] 43) = V := ⟨_, rfl⟩
  have hbV : Below w.heap.size w V := hV ▸ (Below.refl _ _).alloc (Nat.le_refl _) _
  rw [hV] at hCB
  have hown := World.ownsRow_lit (base := V.heap.size) (e := 9) (size := 1) V #[.string c.name, .string c.new, .string c.ent.name] 3 (by omega) (by simp [maxLen]) (by simp)
  have hbW : Below V.heap.size V (V.alloc (.cells #[.string c.name, .string c.new, .string c.ent.name] 9)) := (Below.refl _ _).alloc (Nat.le_refl _) _
  have hus := (hc.e.u.below hbV).below hbW
  have hCW := hCB.below hbW
  obtain ⟨W2, hW2⟩ : ∃ W2, V.alloc (.cells #[.string c.name, .string c.new, .string c.ent.name] 9) = W2 := ⟨_, rfl⟩
  rw [hW2] at hown hbW hus hCW
  have HW2 := hid hW2
  obtain ⟨-, -, -, -, -, -, -, e7, -⟩ := hCW
  have HN := hid (And.intro hc.n2 (And.intro hc.n3 (And.intro hc.e.n1 hc.e.u.2)))
  have HOW := hid hown
  have HU := hid hus
  have HBV := hid hbV
  have HBW := hid hbW
  have HW := hid hV
  unfold chV
  obtain ⟨c0, c1, c2, c3, c4, c5, c6, c7, c8⟩ := hCB
  clear hV hW2 hbV hbW hus hown hc
  go_enter Tryz.func62, Tryz.ntmps62
  go_wp2_with (first
    | rw [HW.out]
    | rw [HW2.out]
    | (at_builtin; refine wpList_append_row rfl _ _ 38 rfl V.heap.size 9 el_str Tryz.underlying38 rfl (by decide) _ 3 [.string c.name, .string c.new, .string c.ent.name] rfl HOW.out _ c.ent.uses.length (c.ent.uses.map Value.string) rfl HU.out.1 (strs_one _) (by omega) (by omega) HBW.out.size ?_; intro v' w4 hown4 hgrow4 _))
  have HB4 := hid (HBV.out.trans ((HBW.out.grown hgrow4 HBW.out.size (fun q hq => by cases hq; exact Nat.le_refl _)).mono HBV.out.size))
  obtain ⟨a4, k4, rfl⟩ := owns_slice hown4
  have HT : Hid (TxtsAt w4 (.slice a4 (3 + c.ent.uses.length) k4) (namesL c)) := hid ⟨by rw [namesL_len, namesL_map]; exact RowK.of_owns hown4 (by omega), fun x hx => by
    unfold namesL at hx
    rcases List.mem_append.1 hx with hx | hx
    · simp at hx
      rcases hx with rfl | rfl | rfl
      · exact HN.out.1
      · exact HN.out.2.1
      · exact HN.out.2.2.1
    · exact HN.out.2.2.2 x hx⟩
  clear hown4 hgrow4
  go_wp2
  go_ret
  exact ⟨_, rfl, HT.out, HB4.out⟩
theorem apt_yes {c d : Chg} (h : ∀ (j : Nat) (hj : j < (namesL d).length), (namesL d)[j] = em ∨ hasN (namesL c) (namesL d)[j] = false) : aptB c d = true := by
  unfold aptB
  rw [List.all_eq_true]
  intro n hn
  obtain ⟨j, hj, rfl⟩ := List.getElem_of_mem hn
  rcases h j hj with h | h
  · rw [h]; simp
  · rw [h]; simp
theorem apt_no {c d : Chg} {j : Nat} (hj : j < (namesL d).length) (h1 : (namesL d)[j] ≠ em) (h2 : hasN (namesL c) (namesL d)[j] = true) : aptB c d = false := by
  unfold aptB
  rw [List.all_eq_false]
  exact ⟨_, List.getElem_mem hj, by rw [h2]; simpa using h1⟩
set_option maxHeartbeats 4000000 in
set_option maxRecDepth 100000 in
theorem law9_apart (v1 v2 v3 u1 u2 u3 : Value) (c d : Chg) (w : World) (hc : ChgAt w v1 v2 v3 c) (hd : ChgAt w u1 u2 u3 d) (hu : c.ent.uses.length ≤ 1000) (hu2 : d.ent.uses.length ≤ 1000) :
    Calls Tryz.prog 21 #[chV c v1 v2 v3, chV d u1 u2 u3] w fun e w' => e = .returned (.bool (aptB c d)) ∧ Below w.heap.size w w' := by
  obtain ⟨sa, sc, rfl, -⟩ := hc.e.s.open
  obtain ⟨ua, uc, rfl, -⟩ := hc.e.u.open
  obtain ⟨pa, pc, rfl, -⟩ := hc.e.p.open
  obtain ⟨sb, sd, rfl, -⟩ := hd.e.s.open
  obtain ⟨ub, ud, rfl, -⟩ := hd.e.u.open
  obtain ⟨pb, pd, rfl, -⟩ := hd.e.p.open
  have hCB := CB.new w c (.slice sa c.ent.says.length sc) (.slice ua c.ent.uses.length uc) (.slice pa c.ent.proof.length pc) 43
  obtain ⟨V, hV⟩ : ∃ V, w.alloc (.cells #[.int .i64 c.kind, .string c.who, .string c.name, .string c.new, .string c.ent.name, .string c.ent.who, .slice sa c.ent.says.length sc, .slice ua c.ent.uses.length uc, .slice pa c.ent.proof.length pc] 43) = V := ⟨_, rfl⟩
  have hbV : Below w.heap.size w V := hV ▸ (Below.refl _ _).alloc (Nat.le_refl _) _
  rw [hV] at hCB
  have hCD := CB.new V d (.slice sb d.ent.says.length sd) (.slice ub d.ent.uses.length ud) (.slice pb d.ent.proof.length pd) 43
  obtain ⟨X, hX⟩ : ∃ X, V.alloc (.cells #[.int .i64 d.kind, .string d.who, .string d.name, .string d.new, .string d.ent.name, .string d.ent.who, .slice sb d.ent.says.length sd, .slice ub d.ent.uses.length ud, .slice pb d.ent.proof.length pd] 43) = X := ⟨_, rfl⟩
  have hbX : Below V.heap.size V X := hX ▸ (Below.refl _ _).alloc (Nat.le_refl _) _
  rw [hX] at hCD
  have hb := hbV.trans (hbX.mono hbV.size)
  have HCC := hid (hCB.below hbX)
  have HND := hid (law9_names _ _ _ d X (hd.below hb) hu2)
  have HNC := hid (fun (Y : World) (hY : Below w.heap.size w Y) => law9_names _ _ _ c Y (hc.below hY) hu)
  unfold chV at HND HNC ⊢
  have HW := hid hV
  have HX := hid hX
  have HB := hid hb
  obtain ⟨d0, d1, d2, d3, d4, d5, d6, d7, d8⟩ := hCD
  clear hV hX hbV hbX hb hc hd hCB
  go_enter Tryz.func21, Tryz.ntmps21
  go_wp2_with (first | rw [HW.out] | rw [HX.out])
  refine HND.out.mono ?_
  rintro e w1 ⟨u, rfl, hu1, hb1⟩
  have HT := hid hu1
  have HB1 := hid (HB.out.trans (hb1.mono HB.out.size))
  have HC1 := hid (HCC.out.below hb1)
  obtain ⟨ta, tc, rfl, -, htl, -, ZC⟩ := hu1.open
  have HZC := hid ZC
  clear hu1 hb1 ZC d0 d1 d2 d3 d4 d5 d6 d7 d8
  have HYE := hid (apt_yes (c := c) (d := d))
  have HNO := hid (fun (j : Nat) (hj : j < (namesL d).length) => apt_no (c := c) hj)
  obtain ⟨N, hN⟩ : ∃ N, namesL d = N := ⟨_, rfl⟩
  rw [hN] at HT htl HZC HYE HNO
  rw [hN]
  clear hN
  go_wp2
  go_loopw [6] (fun kv wr => ∃ k : Nat, k ≤ N.length ∧ kv = .int .i64 k ∧ (∀ (j : Nat) (hj : j < N.length), j < k → N[j] = em ∨ hasN (namesL c) N[j] = false) ∧ Below w1.heap.size w1 wr) (fun kv _ => N.length - (intOf kv).toNat)
  case atStart => exact ⟨0, by omega, rfl, fun j _ h => absurd h (by omega), Below.refl _ _⟩
  case round =>
    obtain ⟨k, hk, rfl, hR, hb⟩ := hrel
    have hsz := hb.size
    have HR := hid hR
    clear hR
    by_cases hlt : k < N.length
    · obtain ⟨b, o, rfl, x0⟩ := HZC.out k hlt
      replace x0 := (hb.cell (World.block_lt_of_cell? _ _ x0)).trans x0
      have HNX := hid (fun (h : N[k] = em ∨ hasN (namesL c) N[k] = false) (j : Nat) (hj : j < N.length) (hjk : j < k + 1) => (show N[j] = em ∨ hasN (namesL c) N[j] = false from by
        by_cases e : j = k
        · subst e; exact h
        · exact HR.out j hj (by omega)))
      have HNK := hid (HNO.out k hlt)
      have y0 : (k : Int) < (N.length : Int) := by omega
      have y1 : (0 : Int) ≤ (k : Int) := by omega
      by_cases hem : N[k] = em
      · have HNX1 := hid (HNX.out (Or.inl hem))
        obtain ⟨n, hn⟩ : ∃ n, N[k] = n := ⟨_, rfl⟩
        replace x0 : wr.cell? ⟨b, o + k, none⟩ = some (.string n) := by rw [x0, ← hn]
        obtain ⟨q0, q1, q2⟩ := str_em (hn.symm.trans hem)
        have HB := hid hb
        clear hem hn hb HNX
        go_wp2
        go_quiet (fail)
        go_wp2
        go_roundw
        case rel => exact ⟨k + 1, by omega, by go_num, HNX1.out, HB.out.trans ((below_self_drewN wr nq).mono HB.out.size)⟩
        case measure => simp [intOf]; omega
      · obtain ⟨z, hz⟩ : ∃ z, hasN (namesL c) N[k] = z := ⟨_, rfl⟩
        have HNX1 : Hid (z = false → ∀ (j : Nat) (hj : j < N.length), j < k + 1 → N[j] = em ∨ hasN (namesL c) N[j] = false) := hid (fun h => HNX.out (Or.inr (hz.trans h)))
        have HNF : Hid (z = true → aptB c d = false) := hid (fun h => HNK.out hem (hz.trans h))
        obtain ⟨n, hn⟩ : ∃ n, N[k] = n := ⟨_, rfl⟩
        replace x0 : wr.cell? ⟨b, o + k, none⟩ = some (.string n) := by rw [x0, ← hn]
        have hz' : hasN (namesL c) n = z := by rw [← hn]; exact hz
        obtain ⟨q0, q1, q2⟩ := str_ne (show n ≠ em from by rw [← hn]; exact hem)
        have HHS := hid (fun (Y : World) (v : Value) (hv : TxtsAt Y v (namesL c)) => ref6_Has v (namesL c) n Y hv)
        simp only [hz'] at HHS
        have HBR := hid hb
        obtain ⟨c0, c1, c2, c3, c4, c5, c6, c7, c8⟩ := HC1.out.below hb
        have HNCR := hid (fun (Y : World) (hY : Below wr.heap.size wr Y) => HNC.out Y (HB1.out.trans ((hb.trans (hY.mono hb.size)).mono HB1.out.size)))
        have hvz : wr.heap.size ≤ wr.heap.size := Nat.le_refl _
        have C0 := hid c0
        have C1 := hid c1
        have C2 := hid c2
        have C3 := hid c3
        have C4 := hid c4
        have C5 := hid c5
        have C6 := hid c6
        have C7 := hid c7
        have C8 := hid c8
        have X0 := hid x0
        clear hem hn hb HNX hz hz' HNK
        go_wp2
        go_region_held3 (fun w' => w'.cell? ⟨w.heap.size, 0, none⟩ = some (.int .i64 c.kind) ∧ w'.cell? ⟨w.heap.size, 1, none⟩ = some (.string c.who) ∧ w'.cell? ⟨w.heap.size, 2, none⟩ = some (.string c.name) ∧ w'.cell? ⟨w.heap.size, 3, none⟩ = some (.string c.new) ∧ w'.cell? ⟨w.heap.size, 4, none⟩ = some (.string c.ent.name) ∧ w'.cell? ⟨w.heap.size, 5, none⟩ = some (.string c.ent.who) ∧ w'.cell? ⟨w.heap.size, 6, none⟩ = some (.slice sa c.ent.says.length sc) ∧ w'.cell? ⟨w.heap.size, 7, none⟩ = some (.slice ua c.ent.uses.length uc) ∧ w'.cell? ⟨w.heap.size, 8, none⟩ = some (.slice pa c.ent.proof.length pc) ∧ w'.cell? ⟨b, o + k, none⟩ = some (.string n))
          (first | exact ⟨by assumption, by assumption, by assumption, by assumption, by assumption, by assumption, by assumption, by assumption, by assumption, by assumption⟩ | go_keep)
          (first
            | (go_at_call 62; (with_reducible refine (HNCR.out _ (by (repeat (first | with_reducible assumption | with_reducible exact Below.refl _ _ | with_reducible exact below_self_drewN _ _ | with_reducible refine Below.drew ?_ | with_reducible refine below_drewN ?_ _ | (with_reducible refine Below.alloc ?_ ?_ _; rotate_left; focus (first | (simp; done) | omega | (simp; omega))))))).mono ?_); rintro e wz ⟨uz, rfl, huz, hbz⟩; have hbr : Below wr.heap.size wr wz := Below.trans (by (repeat (first | with_reducible assumption | with_reducible exact Below.refl _ _ | with_reducible exact below_self_drewN _ _ | with_reducible refine Below.drew ?_ | with_reducible refine below_drewN ?_ _ | (with_reducible refine Below.alloc ?_ ?_ _; rotate_left; focus (first | (simp; done) | omega | (simp; omega)))))) (hbz.mono (by (first | (simp; done) | omega | (simp; omega)))); have hvz := hbr.size; have HUZ := hid huz; obtain ⟨za, zk, rfl, -⟩ := huz.open; have c0 := (hbr.cell (World.block_lt_of_cell? _ _ C0.out)).trans C0.out; have c1 := (hbr.cell (World.block_lt_of_cell? _ _ C1.out)).trans C1.out; have c2 := (hbr.cell (World.block_lt_of_cell? _ _ C2.out)).trans C2.out; have c3 := (hbr.cell (World.block_lt_of_cell? _ _ C3.out)).trans C3.out; have c4 := (hbr.cell (World.block_lt_of_cell? _ _ C4.out)).trans C4.out; have c5 := (hbr.cell (World.block_lt_of_cell? _ _ C5.out)).trans C5.out; have c6 := (hbr.cell (World.block_lt_of_cell? _ _ C6.out)).trans C6.out; have c7 := (hbr.cell (World.block_lt_of_cell? _ _ C7.out)).trans C7.out; have c8 := (hbr.cell (World.block_lt_of_cell? _ _ C8.out)).trans C8.out; have x0 := (hbr.cell (World.block_lt_of_cell? _ _ X0.out)).trans X0.out)
            | (go_at_call 63; (with_reducible refine (HHS.out _ _ (HUZ.out.below (by (repeat (first | with_reducible assumption | with_reducible exact Below.refl _ _ | with_reducible exact below_self_drewN _ _ | with_reducible refine Below.drew ?_ | with_reducible refine below_drewN ?_ _ | (with_reducible refine Below.alloc ?_ ?_ _; rotate_left; focus (first | (simp; done) | omega | (simp; omega)))))))).mono ?_); rintro e wy ⟨rfl, rfl⟩))
        have HBZ := hid (HBR.out.trans (hbr.mono hsz))
        clear hbr hbz huz hvz c0 c1 c2 c3 c4 c5 c6 c7 c8 x0
        cases z
        case true =>
          have HNF1 := hid (HNF.out rfl)
          go_wp2
          go_ret
          exact ⟨ret_bool HNF1.out.symm, HB1.out.trans (HBZ.out.mono HB1.out.size)⟩
        case false =>
          have HNX2 := hid (HNX1.out rfl)
          go_wp2
          go_roundw
          case rel => exact ⟨k + 1, by omega, by go_num, HNX2.out, HBZ.out⟩
          case measure => simp [intOf]; omega
    · have HF := hid (HYE.out fun j hj => HR.out j hj (by omega))
      have HBE := hid (HB1.out.trans (hb.mono HB1.out.size))
      clear hb
      go_wp2
      go_ret
      exact ⟨ret_bool HF.out.symm, HBE.out⟩
end Go.Proofs.YtlbjbmpkaniojaaGreat
namespace Go.Proofs.YtlbjbmpkaniojaaGreat
open Go Go.RowKit Go.Maps
theorem chg_uses {s : Sg} {c : Chg} (h : chgB s c = true) : c.ent.uses.length ≤ 1000 := by
  cases chgB_iff.1 h with
  | put h0 h1 hk h2 h3 h4 => exact (ent_sm (entryB_iff.2 h4)).2.2.1
  | ren h0 h1 hk h2 h3 h4 h5 => rw [h5]; simp [en0]
  | drop h0 h1 hk h2 h3 h5 => rw [h5]; simp [en0]
theorem apart_made {s : Sg} {l : List En} {c d : Chg} (h1 : (madeL s l c).2 = 0) (h2 : (madeL s l d).2 = 0) (h60 : l.length + 2 ≤ 60) (h : (apartR s l c d).1 = false) : aptB c d = false := by
  obtain ⟨k1, k2, -⟩ := made_ed h1
  obtain ⟨-, k3, -⟩ := made_ed h2
  refine Bool.eq_false_iff.2 fun ha => ?_
  have := apart_ok k1 k2 k3 (by rw [← madeL_yes k1 k2]; exact h1) (by rw [← madeL_yes k1 k3]; exact h2) h60 ha
  rw [this] at h
  cases h
set_option maxHeartbeats 8000000 in
set_option maxRecDepth 100000 in
theorem walk_BlameApart (vs vl v1 v2 v3 u1 u2 u3 : Value) (s : Sg) (l : List En) (c d : Chg) (w : World) (hs : SignAt w vs s) (hl : EntsAt w vl l) (hc : ChgAt w v1 v2 v3 c) (hd : ChgAt w u1 u2 u3 d) :
    Calls Tryz.prog 4 #[vs, vl, chV c v1 v2 v3, chV d u1 u2 u3] w fun e w' => e = .returned (.bool true) ∧ Below w.heap.size w w' := by
  obtain ⟨sp, sc0, rfl, -, hsl, -⟩ := hs.open
  obtain ⟨lp, lc, rfl, -, hll, -⟩ := hl.open
  obtain ⟨sa, sc, rfl, -⟩ := hc.e.s.open
  obtain ⟨ua, uc, rfl, -⟩ := hc.e.u.open
  obtain ⟨pa, pc, rfl, -⟩ := hc.e.p.open
  obtain ⟨sb, sd, rfl, -⟩ := hd.e.s.open
  obtain ⟨ub, ud, rfl, -⟩ := hd.e.u.open
  obtain ⟨pb, pd, rfl, -⟩ := hd.e.p.open
  have hCB := CB.new w c (.slice sa c.ent.says.length sc) (.slice ua c.ent.uses.length uc) (.slice pa c.ent.proof.length pc) 43
  obtain ⟨V, hV⟩ : ∃ V, w.alloc (.cells #[.int .i64 c.kind, .string c.who, .string c.name, .string c.new, .string c.ent.name, .string c.ent.who, .slice sa c.ent.says.length sc, .slice ua c.ent.uses.length uc, .slice pa c.ent.proof.length pc] 43) = V := ⟨_, rfl⟩
  have hbV : Below w.heap.size w V := hV ▸ (Below.refl _ _).alloc (Nat.le_refl _) _
  rw [hV] at hCB
  have hCD := CB.new V d (.slice sb d.ent.says.length sd) (.slice ub d.ent.uses.length ud) (.slice pb d.ent.proof.length pd) 43
  obtain ⟨X, hX⟩ : ∃ X, V.alloc (.cells #[.int .i64 d.kind, .string d.who, .string d.name, .string d.new, .string d.ent.name, .string d.ent.who, .slice sb d.ent.says.length sd, .slice ub d.ent.uses.length ud, .slice pb d.ent.proof.length pd] 43) = X := ⟨_, rfl⟩
  have hbX : Below V.heap.size V X := hX ▸ (Below.refl _ _).alloc (Nat.le_refl _) _
  rw [hX] at hCD
  have hb := hbV.trans (hbX.mono hbV.size)
  have HAW := hid (law9_awake X)
  have HS := hid (hs.below hb)
  have HL := hid (hl.below hb)
  have HC := hid (hc.below hb)
  have HD := hid (hd.below hb)
  have HW := hid hV
  have HXX := hid hX
  have HBV := hid hb
  have HCC := hid (hCB.below hbX)
  have HCD := hid hCD
  have HHV := hid (fun (Y : World) (hY : Below X.heap.size X Y) => law9_heavy _ _ s l Y (HS.out.below hY) (HL.out.below hY))
  have HMN := hid (fun (Y : World) (hY : Below X.heap.size X Y) (v : Value) (hv : ChsAt Y v [c, d]) => law9_many v [c, d] Y hv)
  unfold chV
  clear hV hX hbV hbX hb hCB hCD hs hl hc hd
  go_enter Tryz.func4, Tryz.ntmps4
  go_wp2_with (first | rw [HW.out] | rw [HXX.out])
  refine HAW.out.mono ?_
  rintro e w1 ⟨rfl, hb1⟩
  have HB1 := hid hb1
  have HH1 := hid (HHV.out w1 hb1)
  clear hb1 HAW HHV
  go_wp2_with fail
  refine HH1.out.mono ?_
  rintro e w2 ⟨z, rfl, hz, hb2⟩
  have HB2 := hid (HB1.out.trans (hb2.mono HB1.out.size))
  clear hb2 HH1
  cases z
  case true =>
    go_wp2
    go_ret
    exact ⟨rfl, HBV.out.trans (HB2.out.mono HBV.out.size)⟩
  obtain ⟨hs20, hl70⟩ := hz rfl
  have hbA : Below w2.heap.size w2 (w2.alloc (.cells #[.int .i64 c.kind, .string c.who, .string c.name, .string c.new, .string c.ent.name, .string c.ent.who, .slice sa c.ent.says.length sc, .slice ua c.ent.uses.length uc, .slice pa c.ent.proof.length pc, .int .i64 d.kind, .string d.who, .string d.name, .string d.new, .string d.ent.name, .string d.ent.who, .slice sb d.ent.says.length sd, .slice ub d.ent.uses.length ud, .slice pb d.ent.proof.length pd] 43)) := (Below.refl _ _).alloc (Nat.le_refl _) _
  have HBA := hid (HB2.out.trans (hbA.mono HB2.out.size))
  have HM2 := hid (HMN.out _ HBA.out _ (chs_two (HC.out.below HB2.out) (HD.out.below HB2.out)))
  obtain ⟨c0, c1, c2, c3, c4, c5, c6, c7, c8⟩ := HCC.out.below HB2.out
  obtain ⟨d0, d1, d2, d3, d4, d5, d6, d7, d8⟩ := HCD.out.below HB2.out
  clear HMN hz hbA
  go_wp2_with fail
  refine HM2.out.mono ?_
  rintro e w3 ⟨z2, rfl, -, hb3⟩
  have HB3 := hid (HBA.out.trans (hb3.mono HBA.out.size))
  clear hb3 HM2
  clear c0 c1 c2 c3 c4 c5 c6 c7 c8
  clear d0 d1 d2 d3 d4 d5 d6 d7 d8
  cases z2
  case true =>
    go_wp2
    go_ret
    exact ⟨rfl, HBV.out.trans (HB3.out.mono HBV.out.size)⟩
  have hs1 : s.length ≤ 1000 := by omega
  have hl1 : l.length ≤ 1000 := by omega
  have HAB := hid (blame_Apart _ _ _ _ _ _ _ _ s l c d w3 (HS.out.below HB3.out) (HL.out.below HB3.out) (HC.out.below HB3.out) (HD.out.below HB3.out) hs1 hl1)
  have HAR := hid (fun (Y : World) (hY : Below X.heap.size X Y) => ref9_Apart _ _ _ _ _ _ _ _ s l c d Y (HS.out.below hY) (HL.out.below hY) (HC.out.below hY) (HD.out.below hY) hs1 hl1)
  have HMC := hid (fun (Y : World) (hY : Below X.heap.size X Y) => blame_Made _ _ _ _ _ s l c Y (HS.out.below hY) (HL.out.below hY) (HC.out.below hY) hs1 hl1)
  have HMD := hid (fun (Y : World) (hY : Below X.heap.size X Y) => blame_Made _ _ _ _ _ s l d Y (HS.out.below hY) (HL.out.below hY) (HD.out.below hY) hs1 hl1)
  have HLA := hid (fun (Y : World) (hY : Below X.heap.size X Y) (h1 : c.ent.uses.length ≤ 1000) (h2 : d.ent.uses.length ≤ 1000) => law9_apart _ _ _ _ _ _ c d Y (HC.out.below hY) (HD.out.below hY) h1 h2)
  unfold chV at HAB HAR HMC HMD HLA
  have HOK := hid (apart_made (s := s) (l := l) (c := c) (d := d))
  have HUC := hid (fun (h : (madeL s l c).2 = 0) => chg_uses (made_ed h).2.1)
  have HUD := hid (fun (h : (madeL s l d).2 = 0) => chg_uses (made_ed h).2.1)
  obtain ⟨r, er, hr⟩ : ∃ r er, apartR s l c d = (r, er) := ⟨_, _, rfl⟩
  obtain ⟨M, me, hm⟩ : ∃ M me, madeL s l c = (M, me) := ⟨_, _, rfl⟩
  obtain ⟨K, ke, hk⟩ : ∃ K ke, madeL s l d = (K, ke) := ⟨_, _, rfl⟩
  rw [hr] at HAB
  simp only [hr] at HAR HOK
  simp only [hm] at HMC HOK HUC
  simp only [hk] at HMD HOK HUD
  clear hr hm hk
  have n1 : (r != r) = false := by simp
  have n2 : (er != er) = false := by simp
  obtain ⟨c0, c1, c2, c3, c4, c5, c6, c7, c8⟩ := HCC.out.below HB3.out
  obtain ⟨d0, d1, d2, d3, d4, d5, d6, d7, d8⟩ := HCD.out.below HB3.out
  go_wp2_with fail
  refine HAB.out.mono ?_
  rintro e w4 ⟨rfl, hb4⟩
  have HB4 := hid (HB3.out.trans (hb4.mono HB3.out.size))
  have HA4 := hid (HAR.out w4 HB4.out)
  clear hb4 HAB HAR
  clear c0 c1 c2 c3 c4 c5 c6 c7 c8
  clear d0 d1 d2 d3 d4 d5 d6 d7 d8
  obtain ⟨c0, c1, c2, c3, c4, c5, c6, c7, c8⟩ := HCC.out.below HB4.out
  obtain ⟨d0, d1, d2, d3, d4, d5, d6, d7, d8⟩ := HCD.out.below HB4.out
  go_wp2_with fail
  refine HA4.out.mono ?_
  rintro e w5 ⟨rfl, hb5⟩
  have HB5 := hid (HB4.out.trans (hb5.mono HB4.out.size))
  have HM5 := hid (HMC.out w5 HB5.out)
  clear hb5 HA4 HMC
  clear c0 c1 c2 c3 c4 c5 c6 c7 c8
  clear d0 d1 d2 d3 d4 d5 d6 d7 d8
  obtain ⟨c0, c1, c2, c3, c4, c5, c6, c7, c8⟩ := HCC.out.below HB5.out
  go_wp2_with fail
  refine HM5.out.mono ?_
  rintro e w6 ⟨v6, rfl, hv6, hb6⟩
  have HB6 := hid (HB5.out.trans (hb6.mono HB5.out.size))
  obtain ⟨a6, k6, rfl, -⟩ := hv6.ents.open
  have HM6 := hid (HMD.out w6 HB6.out)
  clear hb6 hv6 HM5 HMD
  clear c0 c1 c2 c3 c4 c5 c6 c7 c8
  obtain ⟨d0, d1, d2, d3, d4, d5, d6, d7, d8⟩ := HCD.out.below HB6.out
  go_wp2_with fail
  refine HM6.out.mono ?_
  rintro e w7 ⟨v7, rfl, hv7, hb7⟩
  have HB7 := hid (HB6.out.trans (hb7.mono HB6.out.size))
  obtain ⟨a7, k7, rfl, -⟩ := hv7.ents.open
  clear hb7 hv7 HM6
  clear d0 d1 d2 d3 d4 d5 d6 d7 d8
  obtain ⟨c0, c1, c2, c3, c4, c5, c6, c7, c8⟩ := HCC.out.below HB7.out
  obtain ⟨d0, d1, d2, d3, d4, d5, d6, d7, d8⟩ := HCD.out.below HB7.out
  cases r
  case true =>
    go_wp2
    go_ret
    exact ⟨rfl, HBV.out.trans (HB7.out.mono HBV.out.size)⟩
  by_cases z1 : me = 0
  case neg =>
    have q1 : (me != 0) = true := by simpa using z1
    clear z1
    go_wp2
    go_ret
    exact ⟨rfl, HBV.out.trans (HB7.out.mono HBV.out.size)⟩
  by_cases z2 : ke = 0
  case neg =>
    have q2 : (ke != 0) = true := by simpa using z2
    subst z1
    clear z2
    go_wp2
    go_ret
    exact ⟨rfl, HBV.out.trans (HB7.out.mono HBV.out.size)⟩
  subst z1 z2
  by_cases z3 : l.length + 2 ≤ 60
  case neg =>
    have q3 : (60 : Int) < (l.length : Int) + 2 := by omega
    go_wp2
    go_ret
    exact ⟨rfl, HBV.out.trans (HB7.out.mono HBV.out.size)⟩
  have q3 : ¬ (60 : Int) < (l.length : Int) + 2 := by omega
  have HL7 := hid (HLA.out w7 HB7.out (HUC.out rfl) (HUD.out rfl))
  have haf := HOK.out rfl rfl z3 rfl
  rw [haf] at HL7
  clear haf z3 HOK HUC HUD HLA
  go_wp2_with fail
  refine HL7.out.mono ?_
  rintro e w8 ⟨rfl, hb8⟩
  have HB8 := hid (HB7.out.trans (hb8.mono HB7.out.size))
  clear hb8
  go_wp2
  go_ret
  exact ⟨rfl, HBV.out.trans (HB8.out.mono HBV.out.size)⟩
end Go.Proofs.YtlbjbmpkaniojaaGreat
