/-
  WHAT IT HOLDS: contract of Derived of package carry. Conditions: the arguments read as data; small signs, small libraries.
-/
import Derived.Deep.RegionLaw
import Derived.Shelf.SlSortCmp.NoneTotal
import Derived.Test.YtpflkjldapmgdaaGreatZRCarryDerives45
import Derived.Test.YtpflkjldapmgdaaGreatZRCarryDerives42
namespace Go.Proofs.YtpflkjldapmgdaaGreat
open Go Go.RowKit Go.Maps Go.Shelf
attribute [local go_sem] Oper.semAt_some
theorem carry_Derived1 (va vb : Value) (a b : List Int) (w : World) (ha : Ints w va a) (hb : Ints w vb b) :
    Calls Tryz.prog 101 #[va, vb] w fun e w' => e = .returned (.bool (decide (a = b))) ∧ ∃ n, w' = w.drewN n := by
  have HE := hid (sl_EqualT va vb a b w ha hb)
  go_enter Tryz.func101, Tryz.ntmps101
  go_wp2_with fail
  refine HE.out.mono ?_
  rintro e w1 ⟨rfl, n, hw⟩
  have HW := hid hw
  clear hw
  go_wp2
  go_ret
  exact ⟨rfl, n, HW.out⟩
theorem app_blk' {w w' : World} {lit : Obj} {u : Value} {g : Nat} (h : (w.alloc lit).grownBy w' u.ownBlock) (hg : g < w.heap.size) (hne : ∀ q, u.ownBlock = some q → q ≠ g) : w'.heap[g]? = w.heap[g]? :=
  (h.block g (by simp; omega) (fun e => hne g e.symm rfl)).trans (Below.heap_alloc _ _ _ hg)
/-- a region that only goes on. -/
theorem wp_straight {P : Program} {c : Code} {Q : Exit → Act → World → Prop} {a : Act} {w : World} (h : c.wp P (Exit.then (Q .normal) (fun _ _ _ => False)) a w) : c.wp P Q a w :=
  wp_mono h (fun e a w hq => by cases e <;> first | exact hq | exact hq.elim)
def saysL (l : List En) : List (List Int) := l.map En.says
theorem saysL_take {l : List En} {k : Nat} (h : k < l.length) : saysL (l.take (k + 1)) = saysL (l.take k) ++ [l[k].says] := by unfold saysL; rw [List.take_succ_eq_append_getElem h, List.map_append]; rfl
theorem sort_terms0 (p : Option Addr) (c : Nat) (fv : Value) (w : World) : Calls Tryz.prog 98 #[.slice p 0 c, fv] w fun e w' => e = .returned (.tuple #[]) ∧ w' = w :=
  AnyF.slices_SortFunc_none { Tryz.sort98 with } p c fv w
theorem compact_terms0 (p : Option Addr) (c : Nat) (fv : Value) (w : World) : Calls Tryz.prog 100 #[.slice p 0 c, fv] w fun e w' => e = .returned (.slice p 0 c) ∧ w' = w := by
  go_enter Tryz.func100, Tryz.ntmps100
  go_wp2
  go_ret
  exact ⟨rfl, rfl⟩
theorem putObj_terms {w : World} {D : Nat} {o o' : Obj} (h : w.heap[D]? = some o) (ho : o.isCells = false) {v : Value} {xs : List (List Int)} (hr : Terms w v xs) : Terms (w.putObj D o') v xs := by
  obtain ⟨vs, h1, h2, h3⟩ := hr
  exact ⟨vs, putObj_rowK h ho h1, h2, fun i u t hu ht => putObj_ints h ho (h3 i u t hu ht)⟩
theorem RwQ.says (s : Sg) (l : List En) : RwQ s l [] (saysL l) := fun t => by
  unfold saysL
  rw [List.mem_map]
  constructor
  · rintro ⟨x, hx, rfl⟩; exact Or.inl ⟨x, hx, rfl⟩
  · rintro (⟨x, hx, rfl⟩ | ⟨p, hp, -⟩)
    · exact ⟨x, hx, rfl⟩
    · cases hp
set_option maxHeartbeats 8000000 in
set_option maxRecDepth 100000 in
theorem carry_Derived (vs vl : Value) (s : Sg) (l : List En) (w : World) (hs : SignAt w vs s) (hl : EntsAt w vl l) (hs1 : s.length ≤ 1000) (hl1 : l.length ≤ 1000) :
    Calls Tryz.prog 31 #[vs, vl] w fun e w' => ∃ u L er, DrvA s l L er ∧ e = .returned (.tuple #[u, .int .i64 er]) ∧ Terms w' u L ∧ Below w.heap.size w w' := by
  have HLL := hid hl
  have HSG := hid hs
  obtain ⟨sa, sc, rfl, -⟩ := hs.open
  obtain ⟨la, lc, rfl, -, -, -, HC⟩ := hl.open
  have HC' := hid HC
  have hb0 : Below w.heap.size w (w.alloc (.cells #[.slice sa s.length sc] 23)) := (Below.refl _ _).alloc (Nat.le_refl _) _
  have HV := hid (deps_Valid _ _ s l _ (hs.below hb0) (hl.below hb0) hs1 hl1)
  have HB0 := hid hb0
  have c2 := cell_new1 w (.slice sa s.length sc) 23
  clear hs hl hb0 HC
  refine calls_marks Tryz.func31 rfl ?_
  simp only [Tryz.ntmps31, List.size_toArray, List.length_cons, List.length_nil, Nat.reduceAdd, Nat.reduceSub, Array.replicate_succ, Array.replicate_zero, List.push_toArray, List.append_toArray, List.nil_append, List.cons_append]
  cases g : libB s l
  · have HR : Hid (DrvA s l [] 1) := hid (Or.inl ⟨g, rfl, rfl⟩)
    rw [g] at HV
    clear g
    go_wp2_with fail
    refine HV.out.mono ?_
    rintro e w1 ⟨rfl, hb1⟩
    have HB1 := hid (HB0.out.trans (hb1.mono HB0.out.size))
    clear hb1
    go_wp2
    refine leave_none (v := .tuple #[.slice none 0 0, .int .i64 1]) (by simp [results, Tryz.results31, go_sem]) ?_
    exact ⟨_, [], 1, HR.out, rfl, terms_nilC _, HB1.out⟩
  · rw [g] at HV
    have HGG := hid g
    have hOK := libB_iff.1 g
    have hl60 := hOK.len
    have HTE := hid (fun x (hx : x ∈ l) => (hOK.ents x hx).says)
    clear g hOK
    go_wp2_with fail
    refine HV.out.mono ?_
    rintro e w1 ⟨rfl, hb1⟩
    have c2' := (hb1.cell (World.block_lt_of_cell? _ _ c2)).trans c2
    have hbw1 := HB0.out.trans (hb1.mono HB0.out.size)
    have hs1' := hb1.size
    simp only [World.size_alloc] at hs1'
    have k6 := cell_new1 w1 (.slice none 0 0) 56
    have f6 := (Boxed.new w1 56 (.slice none 0 0)).frozen
    have hbA : Below w1.heap.size w1 (w1.alloc (.cells #[.slice none 0 0] 56)) := (Below.refl _ _).alloc (Nat.le_refl _) _
    have HST : Hid (TrS (fun q => q = w1.heap.size) (w1.alloc (.cells #[.slice none 0 0] 56)) w1.heap.size w1.heap.size [] (.slice none 0 0) [] ∧ Below w.heap.size w (w1.alloc (.cells #[.slice none 0 0] 56)) ∧ (w1.alloc (.cells #[.slice none 0 0] 56)).cell? ⟨w.heap.size, 0, none⟩ = some (.slice sa s.length sc) ∧ w1.heap.size < (w1.alloc (.cells #[.slice none 0 0] 56)).heap.size) :=
      hid ⟨⟨k6, f6, World.ownsRow_nil _ _ _ _, rfl, (fun q hq => by cases hq), (fun i v p h => by simp at h)⟩, hbw1.trans (hbA.mono hbw1.size), (hbA.cell (World.block_lt_of_cell? _ _ c2')).trans c2', by simp⟩
    clear hb1 c2 k6 f6 hbA
    go_wp2
    clear c2'
    go_loopw [19] (fun kv wr => ∃ (k : Nat) (uo : Value) (vvs : List Value) (N : Nat → Prop), k ≤ l.length ∧ kv = .int .i64 k ∧ (∀ q, N q → q < wr.heap.size ∧ w1.heap.size ≤ q) ∧ N w1.heap.size ∧ (∀ q, uo.ownBlock = some q → N q) ∧ TrS N wr w1.heap.size w1.heap.size (saysL (l.take k)) uo vvs ∧ Below w.heap.size w wr ∧ wr.cell? ⟨w.heap.size, 0, none⟩ = some (.slice sa s.length sc)) (fun kv _ => l.length - (intOf kv).toNat)
    case atStart => exact ⟨0, .slice none 0 0, [], (fun q => q = w1.heap.size), by omega, rfl, (fun q hq => by subst hq; exact ⟨HST.out.2.2.2, Nat.le_refl _⟩), rfl, (fun q hq => by cases hq), HST.out.1, HST.out.2.1, HST.out.2.2.1⟩
    case round =>
      clear HST
      obtain ⟨k, uo, vvs, N, hk, rfl, hN, hNo, hNu, hT, hb, hcs⟩ := hrel
      have hsz := hb.size
      have hvl : vvs.length ≤ k := by rw [hT.len, saysL, List.length_map, List.length_take]; omega
      have hol : w1.heap.size < wr.heap.size := (hN _ hNo).1
      by_cases hlt : k < l.length
      · obtain ⟨b, o, vS, vu, vp, rfl, c0, c1, c3, c4, c5, he⟩ := HC'.out k hlt
        obtain ⟨xa, xc, rfl, -⟩ := he.s.open
        obtain ⟨ua, uc, rfl, -⟩ := he.u.open
        obtain ⟨pa, pc, rfl, -⟩ := he.p.open
        have d0 := (hb.cell (World.block_lt_of_cell? _ _ c0)).trans c0
        have d1 := (hb.cell (World.block_lt_of_cell? _ _ c1)).trans c1
        have d2 := (hb.cell (World.block_lt_of_cell? _ _ c3)).trans c3
        have d3 := (hb.cell (World.block_lt_of_cell? _ _ c4)).trans c4
        have d4 := (hb.cell (World.block_lt_of_cell? _ _ c5)).trans c5
        have htx := HTE.out l[k] (List.getElem_mem hlt)
        have HTK := hid (saysL_take hlt)
        have hxl := (termB_facts htx).2.2.2
        have hx0 := (termB_T htx).ne
        obtain ⟨x, hx⟩ : ∃ x, l[k] = x := ⟨_, rfl⟩
        rw [hx] at d0 d1 d2 d3 d4 he HTK hxl hx0
        have EB0 := EB.new wr x (.slice xa x.says.length xc) (.slice ua x.uses.length uc) (.slice pa x.proof.length pc) 35
        obtain ⟨wb, hwb⟩ : ∃ wb, wr.alloc (.cells #[.string x.name, .string x.who, .slice xa x.says.length xc, .slice ua x.uses.length uc, .slice pa x.proof.length pc] 35) = wb := ⟨_, rfl⟩
        have hbb : Below wr.heap.size wr wb := hwb ▸ (Below.refl _ _).alloc (Nat.le_refl _) _
        rw [hwb] at EB0
        have hbwb := hb.trans (hbb.mono hsz)
        have hTb := hT.below hbb
        have HTB := hid hTb
        have HCL := hid (fun (X : World) (hX : Below wb.heap.size wb X) => sl_CloneT (.slice xa x.says.length xc) x.says X ((he.s.below hbwb).below hX) hx0 (by omega))
        have HWB := hid hwb
        have HBWB := hid hbwb
        have HN := hid (fun q (hq : N q) => (show q < wb.heap.size ∧ w1.heap.size ≤ q from ⟨by have := (hN q hq).1; have := hbb.size; omega, (hN q hq).2⟩))
        have HNU := hid hNu
        have x2 := EB0.c2
        have b6 := hTb.c
        have g6 := hTb.f
        have HCS := hid ((hbb.cell (World.block_lt_of_cell? _ _ hcs)).trans hcs)
        have hszb := hbwb.size
        have hszr := hbb.size
        clear c0 c1 c3 c4 c5 he htx hx hb hT EB0 hbb hwb hTb hbwb hN hNu hcs
        go_wp2
        rw [HWB.out]
        have HTX := hid (fun (X : World) (hX : Below wb.heap.size wb X) => owns_below HTB.out.top hX)
        have HCX := hid (fun (X : World) (hX : Below wb.heap.size wb X) => (hX.cell (World.block_lt_of_cell? _ _ b6)).trans b6)
        have HFX := hid (fun (X : World) (hX : Below wb.heap.size wb X) => (hX.frozen (World.block_lt_of_cell? _ _ b6)).trans g6)
        have HBL := hid (World.block_lt_of_cell? _ _ b6)
        have HRW := hid (fun (w5 : World) (u5 : Value) => (show RowK (w5.alloc (.cells #[u5] 28)).drew (.slice (some ⟨w5.heap.size, 0, none⟩) 1 1) 1 1 [u5] from row_one_new w5 u5 28))
        have hq1 : w1.heap.size ≤ wb.heap.size := by omega
        clear g6
        refine wp_straight ?_
        go_region_law (first
          | (refine step_append_lie rfl (.tmp 23) (.tmp 27) 56 rfl w1.heap.size 28 el_term Tryz.underlying56 rfl (by decide) uo vvs.length vvs rfl (HTX.out _ ?hb) (.slice (some ⟨w5.heap.size, 0, none⟩) 1 1) 1 [.slice a5 x.says.length k5] rfl (HRW.out _ _) (oneCell_one rfl) (by decide) (by omega) (by omega) ?hs _ rfl ?_
             (case hb => exact hbw5.alloc hbw5.size _)
             (case hs => (have := hbw5.size; simp; omega))
             intro g7 c7 w7 hown7 hgrow7 hat7 hlt7
             have e7 := app_blk' hgrow7 (by have := hbw5.size; have := HBL.out; omega) HTB.out.ne
             have b7 := (World.cell?_of_block (a := ⟨w1.heap.size, 0, none⟩) e7).trans b5
             have f7 := (World.frozen?_of_block (a := ⟨w1.heap.size, 0, none⟩) e7).trans (HFX.out _ hbw5))
          | (go_simp; go_at_call 97; (first | (with_reducible refine (HCL.out _ (Below.refl _ _)).mono ?_) | (with_reducible refine (HCL.out _ (Below.drew (Below.refl _ _))).mono ?_)); rintro e w5 ⟨u5, rfl, o5, hb5⟩; obtain ⟨a5, k5, rfl⟩ := owns_slice o5; have hbw5 : Below wb.heap.size wb w5 := (by first | exact hb5 | exact (below_self_drew _).trans hb5); have b5 := HCX.out _ hbw5; have b5a := cell_alloc_keep (.cells #[.slice a5 x.says.length k5] 28) b5))
        all_goals
          obtain ⟨p1, p2, p3, p4⟩ := TrS.push HTB.out (fun q hq => (HN.out q hq).1) hNo HNU.out (Or.inr (Nat.le_refl _)) (hbw5.alloc hbw5.size (.cells #[.slice a5 x.says.length k5] 28)) (x := x.says) (v := .slice a5 x.says.length k5) (o5.alloc _) (by omega) rfl hown7 hgrow7 (hat7.imp id (fun h => Nat.le_of_eq h.symm)) hlt7
          have p2 := p2.mono (M' := N) (fun q _ hq => by
            rcases hq with rfl | hq
            · exact hNo
            · exact HNU.out q hq)
          rw [← HTK.out] at p1
          have HP1 := hid p1
          have hwl : w.heap.size < wb.heap.size := by omega
          have HPB := hid (HBWB.out.trans (p2.below (b := w.heap.size) HBWB.out.size (fun q hq => by have := (HN.out q hq).2; omega)))
          have HPC := hid ((World.cell?_of_block (a := ⟨w.heap.size, 0, none⟩) (p2.same w.heap.size hwl (fun h => by have := (HN.out w.heap.size h).2; omega))).trans HCS.out)
          have hfs := p2.size
          have HPN := hid (fun q (hq : N q ∨ q = g7) => (show q < (w7.setCell ⟨w1.heap.size, 0, none⟩ (.slice (some ⟨g7, 0, none⟩) (vvs.length + 1) c7)).heap.size ∧ w1.heap.size ≤ q from by
            rcases hq with hq | rfl
            · have := HN.out q hq; exact ⟨by omega, this.2⟩
            · refine ⟨p4, ?_⟩
              rcases p3 with h | h
              · exact (HN.out _ h).2
              · omega))
          clear p1 p2 p3 p4 hown7 hgrow7 hat7 hlt7 e7 b7 f7 hfs
          go_wp2
          go_roundw
          case rel => exact ⟨k + 1, _, _, fun q => N q ∨ q = g7, by omega, by go_num, HPN.out, Or.inl hNo, (fun q hq => by cases hq; exact Or.inr rfl), HP1.out, HPB.out, HPC.out⟩
          case measure => simp [intOf]; omega
      · have hkl : k = l.length := by omega
        subst hkl
        rw [List.take_of_length_le (Nat.le_refl _)] at hT
        rename World => wz
        have HT := hid hT
        have HN := hid hN
        have HNU := hid hNu
        have HB := hid hb
        have HCS := hid hcs
        clear hT hN hNu hb hcs HC'
        go_wp2_with (go_at_call 89; refine (carry_pairs _ _ _ _).mono ?_; rintro e w4 ⟨rfl, rfl⟩)
        obtain ⟨W0, hW0⟩ : ∃ W0, wz.alloc (.cells #[.slice la l.length lc] 24) = W0 := ⟨_, rfl⟩
        rw [hW0]
        have hbC : Below wz.heap.size wz W0 := hW0 ▸ (Below.refl wz.heap.size wz).alloc (Nat.le_refl _) (.cells #[.slice la l.length lc] 24)
        have hsz0 : wz.heap.size + 1 ≤ W0.heap.size := by rw [← hW0]; simp
        have kl : W0.cell? ⟨wz.heap.size, 0, none⟩ = some (.slice la l.length lc) := by rw [← hW0]; exact cell_new1 _ _ _
        have kc := (hbC.cell (World.block_lt_of_cell? _ _ HCS.out)).trans HCS.out
        have hbw := HB.out.trans (hbC.mono HB.out.size)
        have hTS : TrS (fun k => N k ∨ k = W0.heap.size + 1) W0 w1.heap.size w1.heap.size (saysL l) uo vvs := (HT.out.below hbC).mono (fun k hk => by
          rcases hk with hk | rfl
          · exact Or.inl hk
          · exact Or.inr (by omega))
        have HST : Hid (DrvI s l w W0.heap.size w1.heap.size w1.heap.size w.heap.size (.slice sa s.length sc) [] N W0) :=
          hid ⟨⟨saysL l, uo, vvs, RwQ.says s l, by unfold saysL; simp; omega, fun t ht => by
            obtain ⟨x, hx, rfl⟩ := List.mem_map.1 ht
            exact (termB_facts (HTE.out x hx)).2.2.2, hTS, HNU.out⟩, kc, hbw, hNo, fun h => by have := (HN.out _ h).2; omega⟩
        have HSQ := hid (pairs_seq wz.heap.size (.slice la l.length lc) l w W0 HLL.out hbw kl)
        have hLL : l.length * l.length ≤ 3600 := Nat.mul_le_mul hl60 hl60
        clear hW0 hbC hbw kc kl hTS HT HNU HCS
        refine wpIn_wide.1 (wpIn_rangeG (gf := 148) (lb := #[.pointer (some ⟨wz.heap.size, 0, none⟩)]) rfl (enters_of Tryz.func148 rfl rfl) (encs := pqX) (E := pqE w l) (S := fun xs => xs.map pqN = prsL l)
          (N := fun k => k < w.heap.size ∨ k = wz.heap.size) (w0 := W0) HSQ.out (Below.refl _ _) (fun _ => rfl) ?_ ?_ ?_
          (fun pre => DrvI s l w W0.heap.size w1.heap.size w1.heap.size w.heap.size (.slice sa s.length sc) pre) (fun _ _ _ _ => False)
          N ?_ (fun pre => DrvI.grw (by omega) (by omega) (by omega) pre) (fun c pre => ⟨fun _ _ _ h _ => h, fun _ _ _ _ _ _ h _ => h⟩) HST.out ?_ ?_ ?_)
        case refine_1 => exact fun _ _ _ _ _ _ _ h _ _ _ => h
        case refine_2 => exact fun _ _ _ _ _ h _ => h
        case refine_3 => rintro k (h | rfl) <;> omega
        case refine_4 => intro k hk; have := HN.out k hk; exact ⟨by rintro (h | h) <;> omega, by omega⟩
        case refine_5 =>
          clear HST HSQ
          rintro l' pre ⟨⟨⟨xS, xU, xP⟩, x⟩, ⟨⟨yS, yU, yP⟩, y⟩⟩ M W hsW hM hturn
          have hE := (hturn W _ (Below.refl _ _) ⟨.deferred none, rfl⟩).2.1
          obtain ⟨hpl, hxm, hym, hx, hy⟩ := hE
          simp only [veAt] at hx hy
          obtain ⟨a1, k1, a2, k2, a3, k3, rfl, rfl, rfl⟩ := ent_slices hx
          obtain ⟨b1, j1, b2, j2, b3, j3, rfl, rfl, rfl⟩ := ent_slices hy
          simp only at hpl hxm hym
          simp only [pqX, veV]
          have HXS := hid hx.s
          have HYS := hid hy.s
          have EX0 := EB.new W x (.slice a1 x.says.length k1) (.slice a2 x.uses.length k2) (.slice a3 x.proof.length k3) 35
          have hbX : Below W.heap.size W (W.alloc (.cells #[.string x.name, .string x.who, .slice a1 x.says.length k1, .slice a2 x.uses.length k2, .slice a3 x.proof.length k3] 35)) := (Below.refl _ _).alloc (Nat.le_refl _) _
          have EY0 := EB.new (W.alloc (.cells #[.string x.name, .string x.who, .slice a1 x.says.length k1, .slice a2 x.uses.length k2, .slice a3 x.proof.length k3] 35)) y (.slice b1 y.says.length j1) (.slice b2 y.uses.length j2) (.slice b3 y.proof.length j3) 35
          have hbXY := hbX.alloc (by simp) (.cells #[.string y.name, .string y.who, .slice b1 y.says.length j1, .slice b2 y.uses.length j2, .slice b3 y.proof.length j3] 35)
          have EX1 := EX0.below ((Below.refl _ _).alloc (Nat.le_refl _) (.cells #[.string y.name, .string y.who, .slice b1 y.says.length j1, .slice b2 y.uses.length j2, .slice b3 y.proof.length j3] 35))
          rw [World.size_alloc] at EY0
          obtain ⟨wc, hwc⟩ : ∃ wc, (W.alloc (.cells #[.string x.name, .string x.who, .slice a1 x.says.length k1, .slice a2 x.uses.length k2, .slice a3 x.proof.length k3] 35)).alloc (.cells #[.string y.name, .string y.who, .slice b1 y.says.length j1, .slice b2 y.uses.length j2, .slice b3 y.proof.length j3] 35) = wc := ⟨_, rfl⟩
          have hswc : wc.heap.size = W.heap.size + 1 + 1 := by rw [← hwc]; simp
          rw [hwc] at EX1 EY0 hbXY
          have HWC := hid hwc
          have HEX := hid EX1
          have HEY := hid EY0
          have HBXY := hid hbXY
          have HTURN := hid hturn
          have HM := hid hM
          clear hx hy hturn hM EX0 EX1 EY0 hbX hbXY hwc
          gi_wp2
          rw [HWC.out]
          refine ⟨HBXY.out, fun W2 hT2 => ?_⟩
          obtain ⟨hI2, -, hs2⟩ := HTURN.out wc W2 HBXY.out hT2
          have EX2 := HEX.out.turned hT2 (by omega)
          have EY2 := HEY.out.turned hT2 (by omega)
          have HI2 := hid hI2
          obtain ⟨⟨raw, uo, vvs, i1, i2, i3, i4, i5⟩, o5, o6, o7, o8⟩ := hI2
          have HDE := hid (kernel_Detach (.slice sa s.length sc) (.slice a1 x.says.length k1) (.slice b1 y.says.length j1) s x.says y.says W2 (HSG.out.below o6) (HXS.out.below o6) (HYS.out.below o6) hs1)
          obtain ⟨x0, x1, x2, x3, x4⟩ := EX2
          obtain ⟨y0, y1, y2, y3, y4⟩ := EY2
          have hMs : ∀ k, M k → k < W2.heap.size := fun k hk => by have := (HM.out k hk).2.2.1; omega
          have HMS := hid hMs
          have hW02 : W0.heap.size + 1 < W2.heap.size := by omega
          have hWW2 : W.heap.size ≤ W2.heap.size := by omega
          have I1 := hid i1
          have I2 := hid i2
          have I3 := hid i3
          have I4 := hid i4
          have I5 := hid i5
          clear hT2 i1 i2 i3 i4 i5 o6 o7 o8 x0 x1 x3 x4 y0 y1 y3 y4 hMs hs2 hswc
          gi_wp2_with fail
          refine ⟨trivial, (callsIn_wide.2 HDE.out).mono ?_⟩
          rintro e W3 ⟨⟨t0, e0⟩, u3, hdet, rfl, hou, hb3⟩
          have HDT := hid hdet
          have hs3 := hb3.size
          have HB3 := hid hb3
          have htl : t0.length ≤ 60 := det_len hdet
          have HOU := hid hou
          obtain ⟨au, ku, rfl⟩ := owns_slice hou
          clear x2 y2 o5 hb3 hdet hou
          by_cases h0 : e0 = 0
          · subst h0
            dsimp only at HOU
            have hvl : vvs.length ≤ 3660 := by
              have h1 := I4.out.len
              have h2 := I2.out
              omega
            have hbx : Below W2.heap.size W2 (W3.alloc (.cells #[.slice au t0.length ku] 28)) := HB3.out.alloc hs3 _
            have HBX := hid hbx
            have c7 := (HB3.out.cell (World.block_lt_of_cell? _ _ I4.out.c)).trans I4.out.c
            have HRA := hid (owns_below I4.out.top hbx)
            have HSRC := hid (row_one_new W3 (.slice au t0.length ku) 28)
            have C96 := hid ((hbx.cell (World.block_lt_of_cell? _ _ I4.out.c)).trans I4.out.c)
            have F96 := hid ((hbx.frozen (p := ⟨w1.heap.size, 0, none⟩) (World.block_lt_of_cell? _ _ I4.out.c)).trans I4.out.f)
            have HNE := hid I4.out.ne
            have HXZ := hid hbx.size
            clear hbx
            gi_wp2_with (gi_at_builtin; refine wpListIn_append_lie rfl _ _ 56 rfl w1.heap.size 28 el_term Tryz.underlying56 rfl (by decide) _ _ _ rfl HRA.out _ 1 [.slice au t0.length ku] rfl HSRC.out (oneCell_one rfl) (by decide) (by omega) (by omega) (by have := HXZ.out; omega) _ rfl ?_; intro g1 c1 w7 hown7 hgrow7 hat7 hlt7; have e97 := hgrow7.block w1.heap.size (World.block_lt_of_cell? _ _ C96.out) (fun e => HNE.out _ e.symm rfl); have c97 := cell_same C96.out e97; have f97 := (World.frozen?_of_block e97).trans F96.out)
            obtain ⟨M', h1, h2, h3⟩ := DrvI.push (x := (((.slice a1 x.says.length k1, .slice a2 x.uses.length k2, .slice a3 x.proof.length k3), x), ((.slice b1 y.says.length j1, .slice b2 y.uses.length j2, .slice b3 y.proof.length j3), y))) HI2.out (by omega) (by omega) (by omega) (by omega) (Or.inr (Nat.le_refl _)) (by omega) hW02 HMS.out
              I1.out I2.out I3.out I4.out I5.out HDT.out htl HBX.out (HOU.out.alloc _) rfl hown7 hgrow7 (hat7.imp id (fun h => Nat.le_of_eq h.symm)) hlt7
            exact ⟨M', fun k hk => ⟨(h1 k hk).1.imp id (fun h => by omega), (h1 k hk).2⟩, h2.mono (fun k _ hk => hk.imp id (fun h => by omega)), h3⟩
          · have n0 : (e0 == 0) = false := by simpa using h0
            have H0 := hid h0
            clear h0
            gi_wp2
            refine ⟨M, fun k hk => ⟨Or.inl hk, by have := HMS.out k hk; omega⟩, Kb.of_below HB3.out, ?_⟩
            exact ((DrvI.grw (by omega) (by omega) (by omega) _).below HI2.out HB3.out).skip HDT.out H0.out
        case refine_6 =>
          clear HST HSQ
          rintro xs M W hxs hI hD hMD
          obtain ⟨⟨raw, uo, vvs, i1, i2, i3, i4, i5⟩, o5, o6, o7, o8⟩ := hI
          have hxl : xs.length = l.length * l.length := by
            have h1 := congrArg List.length hxs
            rw [List.length_map, prsL_len] at h1
            exact h1
          have HAN : Hid (DrvA s l (sortedL raw) 0) := hid (DrvA.of_raw HGG.out hxs i1)
          have hrl : vvs.length ≤ 3660 := by have := i4.len; omega
          have HDD := hid hD
          have hDl := (Array.getElem?_eq_some_iff.1 hD).1
          have hol := World.block_lt_of_cell? _ _ i4.c
          have o1 := i4.c
          by_cases h0 : vvs.length = 0
          · have htop := i4.top
            obtain ⟨ua, uc, rfl⟩ := owns_slice htop
            have hr0 : raw = [] := List.eq_nil_of_length_eq_zero (by have := i4.len; omega)
            have HB := hid (putObj_below (.deferred none) o6 (by omega : w.heap.size ≤ W0.heap.size))
            have HTN : Hid (Terms (W.putObj W0.heap.size (.deferred none)) (.slice ua 0 uc) (sortedL raw)) := hid (putObj_terms hD rfl (by
              rw [hr0]
              rw [h0] at htop
              exact ⟨[], RowK.of_owns (by rw [List.eq_nil_of_length_eq_zero h0] at htop; exact htop) (by simp), rfl, fun i v p h => by simp at h⟩))
            rw [h0] at o1
            clear htop i1 i2 i3 i4 i5 o5 o6 o7 o8 hD hMD hDl hol hr0
            go_wp2_with (first
              | (go_at_call 98; refine (sort_terms0 _ _ _ _).mono ?_; rintro e w2 ⟨rfl, rfl⟩)
              | (go_at_call 100; refine (compact_terms0 _ _ _ _).mono ?_; rintro e w3 ⟨rfl, rfl⟩))
            refine leave_mark (v := .tuple #[.slice ua 0 uc, .int .i64 0]) HDD.out (by simp [results, Tryz.results31, go_sem]) ?_
            exact ⟨_, _, 0, HAN.out, rfl, HTN.out, HB.out⟩
          · obtain ⟨g, cap, rfl, hg0, -⟩ := owns_some i4.top (by omega)
            have hgM : M g := i5 g rfl
            have hgne : g ≠ w1.heap.size := i4.ne g rfl
            have hgD : g ≠ W0.heap.size := hMD g hgM
            have hel : Elts g vvs raw W := ⟨i4.len, fun i v q hv hq W' hk => i4.el i v q hv hq W' (hk.mono (M' := fun k => M k ∨ k = W0.heap.size + 1) (fun k _ hk => by have hk : k = g := hk; exact Or.inl (hk ▸ hgM)))⟩
            have HSO := hid (sort_terms w1.heap.size g vvs.length cap vvs raw W (by omega) (by omega) i4.len.symm i4.top hel)
            have HO1 := hid o1
            have HHG := hid (show g ≠ w1.heap.size ∧ g ≠ W0.heap.size ∧ w1.heap.size ≤ g from ⟨hgne, hgD, hg0⟩)
            have HDL := hid (show W0.heap.size < W.heap.size ∧ w1.heap.size < W.heap.size from ⟨hDl, hol⟩)
            have HO6 := hid o6
            clear i1 i2 i3 i4 i5 o5 o6 o7 o8 hD hMD hDl hol hgM hgne hgD hel
            go_wp2_with (first
              | (go_at_call 98; refine HSO.out.mono ?_; rintro e w2 ⟨vs', gs', rfl, hown2, hel2, hmem, has, hk2⟩; have o12 := (World.cell?_of_block (a := ⟨w1.heap.size, 0, none⟩) (hk2.same _ HDL.out.2 (fun h => HHG.out.1 h.symm))).trans HO1.out; have hgl2 : gs'.length = vvs.length := (by have h1 := hel2.1; have h2 := hown2.1; omega); have HCM := hid (compact_terms 101 #[] (enters_of Tryz.func101 (by kernel_rfl) rfl) w1.heap.size g vvs.length cap vs' gs' w2 (by omega) hgl2 hown2 hel2 (fun X v v' q q' _ h1 h2 => carry_Derived1 v v' q q' X h1 h2)); have HCS := hid (comp_sorted hmem has); have HK2 := hid hk2; clear hown2 hel2 hmem has hk2 hgl2)
              | (go_at_call 100; refine HCM.out.mono ?_; rintro e w3 ⟨u3, rfl, ht3, hk3⟩))
            rw [HCS.out] at ht3
            have hk23 := HK2.out.trans hk3 (fun k hk => Or.inl hk)
            have hD3 : w3.heap[W0.heap.size]? = some (.deferred (some [])) := (hk23.same _ HDL.out.1 (fun h => HHG.out.2.1 h.symm)).trans HDD.out
            have HB := putObj_below (.deferred none) (HO6.out.trans (hk23.below (b := w.heap.size) HO6.out.size (fun k hk => by subst hk; have := HHG.out.2.2; omega))) (by omega : w.heap.size ≤ W0.heap.size)
            have HTN := putObj_terms (o' := .deferred none) hD3 rfl ht3
            refine leave_mark (v := .tuple #[u3, .int .i64 0]) hD3 (by simp [results, Tryz.results31, go_sem]) ?_
            exact ⟨_, _, 0, HAN.out, rfl, HTN, HB⟩
        case refine_7 =>
          intro c pre M W h
          exact h.elim
end Go.Proofs.YtpflkjldapmgdaaGreat
