/-
  WHAT IT HOLDS: contract of the iterator that pairs of package carry hands back, and of pairs. Conditions: the arguments read as data.
  WHAT IT HOLDS: the plain law of what a library derives; a growing row of terms in a variable of its own, over a range over a function. Conditions: none.
  WHAT IT HOLDS: contracts of cmp.Compare at strings, of the comparison of Equivalences of package carry, and of slices.SortFunc at pairs of names of the call's own. Conditions: the arguments read as data.
  WHAT IT HOLDS: contract of Equivalences of package carry. Conditions: the arguments read as data; small signs, small libraries.
-/
import Derived.Deep.RegionHeld3
import Derived.Laws.Cover1
import Derived.Shelf.SlSortCmp.NoneTotal
import Derived.Test.YtpflkjldapmgdaaGreatZRCarryDerives6
import Derived.Test.YtpflkjldapmgdaaGreatZRCarryDerives38
import Derived.Test.YtpflkjldapmgdaaGreatZRCarryDerives25
import Derived.Test.YtpflkjldapmgdaaGreatZRCarryDerives44
import Derived.Test.YtpflkjldapmgdaaGreatZRCarryDerives26
import Derived.Test.YtpflkjldapmgdaaGreatZRCarryDerives21
import Derived.Test.YtpflkjldapmgdaaGreatZRCarryDerives2
import Derived.Test.YtpflkjldapmgdaaGreatZRCarryDerives43
import Derived.Test.YtpflkjldapmgdaaGreatZRCarryDerives20
import Derived.Test.YtpflkjldapmgdaaGreatZRCarryDerives29
import Derived.Test.YtpflkjldapmgdaaGreatZRCarryDerives39
import Derived.Test.YtpflkjldapmgdaaGreatZRCarryDerives41
namespace Go.Proofs.YtpflkjldapmgdaaGreat
open Go Go.RowKit Go.Maps Go.Shelf
attribute [local go_sem] Oper.semAt_some
/-- an entry with its three slices, as the iterator yields it. -/
abbrev VE := V3 × En
def veV (x : VE) : Value := .agg #[.string x.2.name, .string x.2.who, x.1.1, x.1.2.1, x.1.2.2]
def veAt (W : World) (x : VE) : Prop := EntAt W x.1.1 x.1.2.1 x.1.2.2 x.2
abbrev PE := VE × VE
def pqX (x : PE) : Array Value := #[veV x.1, veV x.2]
def pqN (x : PE) : En × En := (x.1.2, x.2.2)
/-- what the iterator promises of the two entries: they read in the world wb. -/
def pqE (wb : World) (l : List En) (pre : List PE) (x : PE) (_ : Nat → Prop) (_ : World) : Prop := pre.length < l.length * l.length ∧ x.1.2 ∈ l ∧ x.2.2 ∈ l ∧ veAt wb x.1 ∧ veAt wb x.2
theorem prs_len {l : List En} {x : En} {k j : Nat} (hk : k < l.length) (hj : j < l.length) {pre : List PE} (h : pre.map pqN = ((l.take k).flatMap fun x => l.map fun y => (x, y)) ++ (l.take j).map (fun y => (x, y))) : pre.length < l.length * l.length := by
  have h1 := congrArg List.length h
  have h2 : ∀ m : List En, (m.flatMap fun x => l.map fun y => (x, y)).length = m.length * l.length := by
    intro m
    induction m with
    | nil => simp
    | cons y m ih => rw [List.flatMap_cons, List.length_append, ih, List.length_map, List.length_cons, Nat.add_mul]; omega
  rw [List.length_append, h2, List.length_map, List.length_map, List.length_take, List.length_take, Nat.min_eq_left (by omega), Nat.min_eq_left (by omega)] at h1
  have h3 : (k + 1) * l.length ≤ l.length * l.length := Nat.mul_le_mul_right _ hk
  rw [Nat.add_mul] at h3
  omega
set_option maxHeartbeats 4000000 in
set_option maxRecDepth 100000 in
theorem pairs_seq (bx : Nat) (v : Value) (l : List En) (wb w0 : World) (hv : EntsAt wb v l) (hb : Below wb.heap.size wb w0) (hc : w0.cell? ⟨bx, 0, none⟩ = some v) :
    SeqG Tryz.prog 148 #[.pointer (some ⟨bx, 0, none⟩)] pqX (pqE wb l) (fun xs => xs.map pqN = prsL l) (fun k => k < wb.heap.size ∨ k = bx) w0 := fun l' J Jx M0 W hW hM0 hJ hJx hY h0 => by
  have c1 := (hW.cell (World.block_lt_of_cell? _ _ hc)).trans hc
  have hbW := hb.trans (hW.mono hb.size)
  refine callsIn_of_wp Tryz.func148 rfl trivial ?_ rfl
  simp only [Tryz.ntmps148, List.size_toArray, List.length_cons, List.length_nil, Nat.reduceAdd, Nat.reduceSub, Array.replicate_succ, Array.replicate_zero, List.push_toArray, List.append_toArray, List.nil_append, List.cons_append]
  have HJ := hid hJ
  have HY := hid hY
  clear hJ hJx hY
  obtain ⟨la, lc, rfl, -, ll, -, HC⟩ := hv.open
  have HC' := hid HC
  have hl1 : bx < W.heap.size := World.block_lt_of_cell? _ _ c1
  have HST : Hid (J [] M0 W ∧ (∀ q, M0 q → wb.heap.size ≤ q ∧ q ≠ bx ∧ q < W.heap.size) ∧ Below wb.heap.size wb W ∧ W.cell? ⟨bx, 0, none⟩ = some (.slice la l.length lc)) :=
    hid ⟨h0, fun q hq => by
      have := hM0 q hq
      exact ⟨by have h := this.1; omega, fun h => this.1 (Or.inr h), this.2⟩, hbW, c1⟩
  clear HC hv h0 hM0 hW hb hc hbW
  gi_wp2
  clear c1
  gi_loopw [9] (fun kv wr => ∃ (k : Nat) (pre : List PE) (M : Nat → Prop), k ≤ l.length ∧ kv = .int .i64 k ∧ pre.map pqN = ((l.take k).flatMap fun x => l.map fun y => (x, y)) ∧ (J pre M wr ∧ (∀ q, M q → wb.heap.size ≤ q ∧ q ≠ bx ∧ q < wr.heap.size) ∧ Below wb.heap.size wb wr ∧ wr.cell? ⟨bx, 0, none⟩ = some (.slice la l.length lc))) (fun kv _ => l.length - (intOf kv).toNat)
  case atStart => exact ⟨0, [], M0, by omega, rfl, rfl, HST.out⟩
  case round =>
    clear HST
    rename World => w1
    obtain ⟨k, pre, M, hk, rfl, hpre, hJ1, hM1, hbr, cx⟩ := hrel
    have hsz := hbr.size
    have hbl := World.block_lt_of_cell? _ _ cx
    by_cases hlt : k < l.length
    · obtain ⟨b, o, vS, vu, vp, rfl, c0, c1, c2, c3, c4, he⟩ := HC'.out k hlt
      obtain ⟨sa, sc, rfl, -⟩ := he.s.open
      obtain ⟨ua, uc, rfl, -⟩ := he.u.open
      obtain ⟨pa, pc, rfl, -⟩ := he.p.open
      have d0 := (hbr.cell (World.block_lt_of_cell? _ _ c0)).trans c0
      have d1 := (hbr.cell (World.block_lt_of_cell? _ _ c1)).trans c1
      have d2 := (hbr.cell (World.block_lt_of_cell? _ _ c2)).trans c2
      have d3 := (hbr.cell (World.block_lt_of_cell? _ _ c3)).trans c3
      have d4 := (hbr.cell (World.block_lt_of_cell? _ _ c4)).trans c4
      have HXM := hid (List.getElem_mem hlt)
      have HNX : Hid (((l.take (k + 1)).flatMap fun x => l.map fun y => (x, y)) = ((l.take k).flatMap fun x => l.map fun y => (x, y)) ++ l.map fun y => (l[k], y)) := hid (by rw [List.take_succ_eq_append_getElem hlt, List.flatMap_append]; simp)
      have HPRE := hid hpre
      obtain ⟨x, hx⟩ : ∃ x, l[k] = x := ⟨_, rfl⟩
      rw [hx] at d0 d1 d2 d3 d4 he HXM HNX
      have HE := hid he
      have EB0 := EB.new w1 x (.slice sa x.says.length sc) (.slice ua x.uses.length uc) (.slice pa x.proof.length pc) 35
      obtain ⟨wa, hwa⟩ : ∃ wa, w1.alloc (.cells #[.string x.name, .string x.who, .slice sa x.says.length sc, .slice ua x.uses.length uc, .slice pa x.proof.length pc] 35) = wa := ⟨_, rfl⟩
      have hba : Below w1.heap.size w1 wa := hwa ▸ (Below.refl _ _).alloc (Nat.le_refl _) _
      have hsa : wa.heap.size = w1.heap.size + 1 := by rw [← hwa]; simp
      rw [hwa] at EB0
      have HST : Hid (J pre M wa ∧ (∀ q, M q → wb.heap.size ≤ q ∧ q ≠ bx ∧ q ≠ w1.heap.size ∧ q < wa.heap.size) ∧ Below wb.heap.size wb wa ∧ wa.cell? ⟨bx, 0, none⟩ = some (.slice (some ⟨b, o, none⟩) l.length lc) ∧ EB wa w1.heap.size x (.slice sa x.says.length sc) (.slice ua x.uses.length uc) (.slice pa x.proof.length pc)) :=
        hid ⟨HJ.out _ _ _ _ hJ1 hba, fun q hq => by have := hM1 q hq; exact ⟨this.1, this.2.1, by omega, by omega⟩, hbr.trans (hba.mono hsz), (hba.cell hbl).trans cx, EB0⟩
      have HWA := hid hwa
      have hbl2 : bx ≠ w1.heap.size := by have h : bx < w1.heap.size := hbl; omega
      have cxa := HST.out.2.2.2.1
      rw [← hwa] at cxa
      clear hpre hJ1 hM1 c0 c1 c2 c3 c4 he EB0 hba hx hwa hsa hbr hbl
      gi_wp2
      clear cxa d0 d1 d2 d3 d4 cx
      gi_loopw [15] (fun jv wr => ∃ (j : Nat) (pre' : List PE) (M' : Nat → Prop), j ≤ l.length ∧ jv = .int .i64 j ∧ pre'.map pqN = ((l.take k).flatMap fun x => l.map fun y => (x, y)) ++ (l.take j).map (fun y => (x, y)) ∧ (J pre' M' wr ∧ (∀ q, M' q → wb.heap.size ≤ q ∧ q ≠ bx ∧ q ≠ w1.heap.size ∧ q < wr.heap.size) ∧ Below wb.heap.size wb wr ∧ wr.cell? ⟨bx, 0, none⟩ = some (.slice (some ⟨b, o, none⟩) l.length lc) ∧ EB wr w1.heap.size x (.slice sa x.says.length sc) (.slice ua x.uses.length uc) (.slice pa x.proof.length pc))) (fun jv _ => l.length - (intOf jv).toNat)
      case atStart => exact ⟨0, pre, M, by omega, rfl, by rw [HPRE.out]; simp, by rw [HWA.out]; exact HST.out⟩
      case round =>
        clear HST HPRE
        obtain ⟨j, pre', M', hj, rfl, hpre', hJ2, hM2, hbr2, cx2, hEB⟩ := hrel
        have hsz2 := hbr2.size
        have hbl2' := World.block_lt_of_cell? _ _ cx2
        have hbl3 := World.block_lt_of_cell? _ _ hEB.c0
        by_cases hltj : j < l.length
        · obtain ⟨b', o', yS, yu, yp, hbo, f0, f1, f2, f3, f4, hy'⟩ := HC'.out j hltj
          obtain ⟨rfl, rfl⟩ : b = b' ∧ o = o' := by simpa using hbo
          obtain ⟨ta, tc, rfl, -⟩ := hy'.s.open
          obtain ⟨va, vc, rfl, -⟩ := hy'.u.open
          obtain ⟨qa, qc, rfl, -⟩ := hy'.p.open
          have e0 := (hbr2.cell (World.block_lt_of_cell? _ _ f0)).trans f0
          have e1 := (hbr2.cell (World.block_lt_of_cell? _ _ f1)).trans f1
          have e2 := (hbr2.cell (World.block_lt_of_cell? _ _ f2)).trans f2
          have e3 := (hbr2.cell (World.block_lt_of_cell? _ _ f3)).trans f3
          have e4 := (hbr2.cell (World.block_lt_of_cell? _ _ f4)).trans f4
          have HYM := hid (List.getElem_mem hltj)
          have HNY : Hid ((l.take (j + 1)).map (fun y => (x, y)) = (l.take j).map (fun y => (x, y)) ++ [(x, l[j])]) := hid (by rw [List.take_succ_eq_append_getElem hltj, List.map_append]; rfl)
          obtain ⟨y, hyy⟩ : ∃ y, l[j] = y := ⟨_, rfl⟩
          rw [hyy] at e0 e1 e2 e3 e4 hy' HYM HNY
          have EBY := EB.new wr y (.slice ta y.says.length tc) (.slice va y.uses.length vc) (.slice qa y.proof.length qc) 35
          obtain ⟨wc, hwc⟩ : ∃ wc, wr.alloc (.cells #[.string y.name, .string y.who, .slice ta y.says.length tc, .slice va y.uses.length vc, .slice qa y.proof.length qc] 35) = wc := ⟨_, rfl⟩
          have hbc : Below wr.heap.size wr wc := hwc ▸ (Below.refl _ _).alloc (Nat.le_refl _) _
          have hsc : wc.heap.size = wr.heap.size + 1 := by rw [← hwc]; simp
          have EBX : EB wc w1.heap.size x (.slice sa x.says.length sc) (.slice ua x.uses.length uc) (.slice pa x.proof.length pc) := hEB.below hbc
          have HEX := hid EBX
          rw [hwc] at EBY
          obtain ⟨x0, x1, x2, x3, x4⟩ := EBX
          obtain ⟨y0, y1, y2, y3, y4⟩ := EBY
          rw [← hwc] at x0 x1 x2 x3 x4 y0 y1 y2 y3 y4
          obtain ⟨fn, tmps, assign, body, hy, hR⟩ := HY.out pre' (((.slice sa x.says.length sc, .slice ua x.uses.length uc, .slice pa x.proof.length pc), x), ((.slice ta y.says.length tc, .slice va y.uses.length vc, .slice qa y.proof.length qc), y)) M' wc (HJ.out _ _ _ _ hJ2 hbc) ⟨prs_len hlt hltj hpre', HXM.out, HYM.out, HE.out, hy'⟩
          dsimp only [pqX, veV] at hy
          have HRR := hid hR
          have HWC := hid hwc
          rw [← hwc] at hy
          have HP2 := hid hpre'
          have HM2 := hid (fun q (hq : M' q) => (show wb.heap.size ≤ q ∧ q ≠ bx ∧ q ≠ w1.heap.size ∧ q < wr.heap.size from hM2 q hq))
          have HB2 := hid (hbr2.trans (hbc.mono hsz2))
          have HCX := hid ((hbc.cell hbl2').trans cx2)
          have HSC := hid hsc
          have HL := hid (show bx < wr.heap.size ∧ w1.heap.size < wr.heap.size from ⟨hbl2', hbl3⟩)
          clear hR hwc hsc hpre' hJ2 hM2 hbr2 cx2 hEB f0 f1 f2 f3 f4 hy' hyy hbc hbo hbl2' hbl3
          gi_wp2
          rw [HWC.out]
          refine HRR.out.mono ?_
          rintro e W3 ⟨M3, hM3, hM3b, hkb, ⟨rfl, hJ3⟩ | ⟨rfl, hJx3⟩⟩
          · have hbb3 : Below wb.heap.size wb W3 := HB2.out.trans (hkb.below HB2.out.size (fun q hq => (HM2.out q hq).1))
            have hsc := HSC.out
            have hl := HL.out
            have HST3 : Hid (J (pre' ++ [(((.slice sa x.says.length sc, .slice ua x.uses.length uc, .slice pa x.proof.length pc), x), ((.slice ta y.says.length tc, .slice va y.uses.length vc, .slice qa y.proof.length qc), y))]) M3 W3 ∧ (∀ q, M3 q → wb.heap.size ≤ q ∧ q ≠ bx ∧ q ≠ w1.heap.size ∧ q < W3.heap.size) ∧ Below wb.heap.size wb W3 ∧ W3.cell? ⟨bx, 0, none⟩ = some (.slice (some ⟨b, o, none⟩) l.length lc) ∧ EB W3 w1.heap.size x (.slice sa x.says.length sc) (.slice ua x.uses.length uc) (.slice pa x.proof.length pc)) := by
              refine hid ⟨hJ3, fun q hq => ?_, hbb3, (World.cell?_of_block (hkb.same bx (by omega) (fun h => (HM2.out _ h).2.1 rfl))).trans HCX.out, HEX.out.block (hkb.same _ (by omega) (fun h => (HM2.out _ h).2.2.1 rfl))⟩
              have hqb := hM3b q hq
              rcases hM3 q hq with h1 | h1
              · have := HM2.out q h1
                exact ⟨this.1, this.2.1, this.2.2.1, hqb⟩
              · exact ⟨by omega, by omega, by omega, hqb⟩
            clear hJ3 hM3 hM3b hkb hbb3 hsc
            gi_wp2
            go_roundw
            case rel => exact ⟨j + 1, _, M3, by omega, by go_num, by rw [List.map_append, HP2.out, HNY.out, List.append_assoc]; rfl, HST3.out⟩
            case measure => simp [intOf]; omega
          · gi_wp2
            refine bodyPost_ret (results_none rfl _ _ _) rfl ?_
            exact ⟨⟨_, rfl⟩, .inr ⟨_, M3, hJx3⟩⟩
        · have hjl : j = l.length := by omega
          subst hjl
          rw [List.take_of_length_le (Nat.le_refl _), ← HNX.out] at hpre'
          have HST2 : Hid (J pre' M' wr ∧ (∀ q, M' q → wb.heap.size ≤ q ∧ q ≠ bx ∧ q < wr.heap.size) ∧ Below wb.heap.size wb wr ∧ wr.cell? ⟨bx, 0, none⟩ = some (.slice (some ⟨b, o, none⟩) l.length lc)) := hid ⟨hJ2, fun q hq => by have := hM2 q hq; exact ⟨this.1, this.2.1, this.2.2.2⟩, hbr2, cx2⟩
          have HP2 := hid hpre'
          clear hpre' hJ2 hM2 hbr2 cx2 hEB
          gi_wp2
          go_roundw
          case rel => exact ⟨k + 1, pre', M', by omega, by go_num, HP2.out, HST2.out⟩
          case measure => simp [intOf]; omega
    · have hkl : k = l.length := by omega
      subst hkl
      rw [List.take_of_length_le (Nat.le_refl _)] at hpre
      have HJ1 := hid hJ1
      have HPRE := hid hpre
      clear hJ1 hpre
      gi_wp2
      go_end0
      first | exact ⟨⟨_, rfl⟩, .inl ⟨pre, M, HPRE.out, HJ1.out⟩⟩ | exact ⟨⟨_, rfl⟩, .inl ⟨pre, HPRE.out, M, HJ1.out⟩⟩
theorem carry_pairs (a : Option Addr) (n c : Nat) (w : World) :
    Calls Tryz.prog 89 #[.slice a n c] w fun e w' => e = .returned (.func (.func 148) #[] #[.pointer (some ⟨w.heap.size, 0, none⟩)]) ∧ w.alloc (.cells #[.slice a n c] 24) = w' := by
  go_enter Tryz.func89, Tryz.ntmps89
  go_wp2
  go_ret
  exact ⟨rfl, rfl⟩
end Go.Proofs.YtpflkjldapmgdaaGreat
namespace Go.Proofs.YtpflkjldapmgdaaGreat
open Go Go.RowKit Go.Maps
/-- a list that holds what the entries xs say and what the pairs ps are detached to. -/
def RwQ (s : Sg) (xs : List En) (ps : List (En × En)) (raw : List (List Int)) : Prop := ∀ t, t ∈ raw ↔ (∃ x ∈ xs, t = x.says) ∨ ∃ p ∈ ps, DetR s p.1.says p.2.says (t, 0)
theorem RwQ.nil (s : Sg) : RwQ s [] [] [] := fun t => by simp
theorem RwQ.say {s : Sg} {xs : List En} {ps : List (En × En)} {raw : List (List Int)} (h : RwQ s xs ps raw) (x : En) : RwQ s (xs ++ [x]) ps (raw ++ [x.says]) := fun t => by
  rw [List.mem_append, h t, List.mem_singleton]
  constructor
  · rintro ((⟨y, hy, e⟩ | h) | e)
    · exact Or.inl ⟨y, by simp [hy], e⟩
    · exact Or.inr h
    · exact Or.inl ⟨x, by simp, e⟩
  · rintro (⟨y, hy, e⟩ | h)
    · rcases List.mem_append.1 hy with hy | hy
      · exact Or.inl (Or.inl ⟨y, hy, e⟩)
      · rw [List.mem_singleton] at hy; subst hy; exact Or.inr e
    · exact Or.inl (Or.inr h)
theorem RwQ.yes {s : Sg} {xs : List En} {ps : List (En × En)} {raw : List (List Int)} (h : RwQ s xs ps raw) {p : En × En} {t0 : List Int} (hd : DetR s p.1.says p.2.says (t0, 0)) : RwQ s xs (ps ++ [p]) (raw ++ [t0]) := fun t => by
  rw [List.mem_append, h t, List.mem_singleton]
  constructor
  · rintro ((h | ⟨q, hq, e⟩) | e)
    · exact Or.inl h
    · exact Or.inr ⟨q, by simp [hq], e⟩
    · subst e; exact Or.inr ⟨p, by simp, hd⟩
  · rintro (h | ⟨q, hq, e⟩)
    · exact Or.inl (Or.inl h)
    · rcases List.mem_append.1 hq with hq | hq
      · exact Or.inl (Or.inr ⟨q, hq, e⟩)
      · rw [List.mem_singleton] at hq
        subst hq
        have := e.unique hd
        cases this
        exact Or.inr rfl
theorem RwQ.no {s : Sg} {xs : List En} {ps : List (En × En)} {raw : List (List Int)} (h : RwQ s xs ps raw) {p : En × En} {y : List Int × Int} (hd : DetR s p.1.says p.2.says y) (hy : y.2 ≠ 0) : RwQ s xs (ps ++ [p]) raw := fun t => by
  rw [h t]
  constructor
  · rintro (h | ⟨q, hq, e⟩)
    · exact Or.inl h
    · exact Or.inr ⟨q, by simp [hq], e⟩
  · rintro (h | ⟨q, hq, e⟩)
    · exact Or.inl h
    · rcases List.mem_append.1 hq with hq | hq
      · exact Or.inr ⟨q, hq, e⟩
      · rw [List.mem_singleton] at hq
        subst hq
        have := hd.unique e
        rw [this] at hy
        exact absurd rfl hy
/-- what Derived answers. -/
def DrvA (s : Sg) (l : List En) (L : List (List Int)) (e : Int) : Prop := (libB s l = false ∧ L = [] ∧ e = 1) ∨ (libB s l = true ∧ e = 0 ∧ L.Pairwise (fun a b => cmpL a b < 0) ∧ ∀ t, t ∈ L ↔ (∃ x ∈ l, t = x.says) ∨ ∃ p ∈ prsL l, DetR s p.1.says p.2.says (t, 0))
theorem DrvA.unique {s : Sg} {l : List En} {L M : List (List Int)} {e f : Int} (h : DrvA s l L e) (k : DrvA s l M f) : L = M ∧ e = f := by
  rcases h with ⟨h1, rfl, rfl⟩ | ⟨h1, rfl, h2, h3⟩
  · rcases k with ⟨-, rfl, rfl⟩ | ⟨k1, -⟩
    · exact ⟨rfl, rfl⟩
    · rw [h1] at k1; cases k1
  · rcases k with ⟨k1, -⟩ | ⟨-, rfl, k2, k3⟩
    · rw [h1] at k1; cases k1
    · exact ⟨asc_unique (R := fun a b => cmpL a b < 0) cmpL_irr (fun h k => cmpL_trans h k) h2 k2 fun x => by rw [h3, k3], rfl⟩
theorem DrvA.of_raw {s : Sg} {l : List En} (h : libB s l = true) {ps : List (En × En)} (hp : ps = prsL l) {raw : List (List Int)} (hr : RwQ s l ps raw) : DrvA s l (sortedL raw) 0 :=
  Or.inr ⟨h, rfl, sortedL_ss raw, fun t => by rw [sortedL_mem, hr t, hp]⟩
/-- a growing row of terms in the variable bo; the terms hold whatever the blocks of N do. -/
structure TrS (N : Nat → Prop) (W : World) (base bo : Nat) (raw : List (List Int)) (uo : Value) (vvs : List Value) : Prop where
  c : W.cell? ⟨bo, 0, none⟩ = some uo
  f : W.frozen? ⟨bo, 0, none⟩ = false
  top : W.ownsRow base 28 1 uo vvs.length vvs
  len : vvs.length = raw.length
  ne : ∀ q, uo.ownBlock = some q → q ≠ bo
  el : ∀ (i : Nat) (v : Value) (p : List Int), vvs[i]? = some v → raw[i]? = some p → Safe N (fun W => Ints W v p) W
theorem TrS.below {N : Nat → Prop} {W W' : World} {base bo : Nat} {raw : List (List Int)} {uo : Value} {vvs : List Value} (h : TrS N W base bo raw uo vvs) (hb : Below W.heap.size W W') : TrS N W' base bo raw uo vvs :=
  ⟨(hb.cell (World.block_lt_of_cell? _ _ h.c)).trans h.c, (hb.frozen (World.block_lt_of_cell? _ _ h.c)).trans h.f, owns_below h.top hb, h.len, h.ne, fun i v p h1 h2 => (h.el i v p h1 h2).grow hb⟩
theorem TrS.mono {N N' : Nat → Prop} {W : World} {base bo : Nat} {raw : List (List Int)} {uo : Value} {vvs : List Value} (h : TrS N W base bo raw uo vvs) (hN : ∀ k, N' k → N k ∨ W.heap.size ≤ k) : TrS N' W base bo raw uo vvs :=
  ⟨h.c, h.f, h.top, h.len, h.ne, fun i v p h1 h2 => (h.el i v p h1 h2).turn (Kb.refl _ _) hN⟩
/-- behind a turn of blocks that are neither the variable nor the row. -/
theorem TrS.turn {N N' R : Nat → Prop} {W W' : World} {base bo : Nat} {raw : List (List Int)} {uo : Value} {vvs : List Value} (h : TrS N W base bo raw uo vvs) (hk : Kb R W W') (hR : ∀ k, R k → N k) (hN : ∀ k, N' k → N k ∨ W.heap.size ≤ k) (hbo : ¬ R bo) (hu : ∀ q, uo.ownBlock = some q → ¬ R q) : TrS N' W' base bo raw uo vvs := by
  have e := hk.same _ (World.block_lt_of_cell? _ _ h.c) hbo
  exact ⟨(World.cell?_of_block e).trans h.c, (World.frozen?_of_block e).trans h.f, owns_frm2 h.top (fun q hq => hk.same q (h.top.lt q hq).2 (hu q hq)), h.len, h.ne, fun i v p h1 h2 => (h.el i v p h1 h2).turn (hk.mono (M' := N) (fun k _ hk => hR k hk)) hN⟩
/-- one more term, in memory that is new. -/
theorem TrS.push {N : Nat → Prop} {W W6 W7 : World} {base bo : Nat} {raw : List (List Int)} {uo : Value} {vvs : List Value} (h : TrS N W base bo raw uo vvs) (hN : ∀ k, N k → k < W.heap.size) (hNo : N bo) (hNu : ∀ q, uo.ownBlock = some q → N q) (hbb : bo < base ∨ base ≤ bo) (hb : Below W.heap.size W W6) {x : List Int} {v : Value}
    (hv : W6.ownsRow W.heap.size 3 1 v x.length (x.map (Value.int .i64))) (hx : x.length ≤ 1000) {g cap n : Nat} (hn : vvs.length = n)
    (hown : W7.ownsRow base 28 1 (.slice (some ⟨g, 0, none⟩) (n + 1) cap) (n + 1) (vvs ++ [v])) (hg : W6.grownBy W7 uo.ownBlock) (hat : uo.ownBlock = some g ∨ W6.heap.size ≤ g) (hlt : g < W7.heap.size) :
    TrS (fun k => N k ∨ k = g) (W7.setCell ⟨bo, 0, none⟩ (.slice (some ⟨g, 0, none⟩) (n + 1) cap)) base bo (raw ++ [x]) (.slice (some ⟨g, 0, none⟩) (n + 1) cap) (vvs ++ [v]) ∧
      Kb (fun q => q = bo ∨ uo.ownBlock = some q) W (W7.setCell ⟨bo, 0, none⟩ (.slice (some ⟨g, 0, none⟩) (n + 1) cap)) ∧ (N g ∨ W.heap.size ≤ g) ∧ g < (W7.setCell ⟨bo, 0, none⟩ (.slice (some ⟨g, 0, none⟩) (n + 1) cap)).heap.size := by
  subst hn
  have hs6 := hb.size
  have hs7 := hg.size
  have hbl := World.block_lt_of_cell? _ _ h.c
  have hbl' : bo < W.heap.size := hbl
  have k6 : Kb (fun q => uo.ownBlock = some q) W6 W7 := ⟨hg.os, hg.tape, hg.output, hg.size, fun q hq hne => hg.block q hq (fun e => hne e.symm)⟩
  have k7 : Kb (fun q => uo.ownBlock = some q) W W7 := (Kb.of_below hb).trans k6 (fun q hq => Or.inl hq)
  have kf : Kb (fun q => q = bo ∨ uo.ownBlock = some q) W (W7.setCell ⟨bo, 0, none⟩ (.slice (some ⟨g, 0, none⟩) (vvs.length + 1) cap)) := (k7.mono (M' := fun q => q = bo ∨ uo.ownBlock = some q) (fun k _ hk => Or.inr hk)).trans (Kb.setCell (M := fun q => q = bo ∨ uo.ownBlock = some q) _ (Or.inl rfl)) (fun k hk => Or.inl hk)
  have kfN : Kb N W (W7.setCell ⟨bo, 0, none⟩ (.slice (some ⟨g, 0, none⟩) (vvs.length + 1) cap)) := kf.mono (fun k _ hk => by
    rcases hk with rfl | hk
    · exact hNo
    · exact hNu k hk)
  have hsz : (W7.setCell ⟨bo, 0, none⟩ (.slice (some ⟨g, 0, none⟩) (vvs.length + 1) cap)).heap.size = W7.heap.size := by simp [World.setCell]
  have hgne : g ≠ bo := by
    rcases hat with ha | ha
    · exact h.ne g ha
    · omega
  have e7 : W7.heap[bo]? = W.heap[bo]? := k7.same _ hbl' (fun e => h.ne bo e rfl)
  have c7 : W7.cell? ⟨bo, 0, none⟩ = some uo := (World.cell?_of_block e7).trans h.c
  have hgN : N g ∨ W.heap.size ≤ g := by
    rcases hat with ha | ha
    · exact Or.inl (hNu g ha)
    · exact Or.inr (by omega)
  refine ⟨⟨World.cell?_setCell_same' _ _ _ (by rw [c7]; rfl), (World.frozen?_setCell _ _ _ _).trans ((World.frozen?_of_block e7).trans h.f), ?_, by simp [h.len], fun q hq => ?_, fun i v' p hv' hp => ?_⟩, kf, hgN, by rw [hsz]; exact hlt⟩
  · refine owns_frm2 (by simpa using hown) (fun k hk => Below.heap_setCell _ _ _ _ (fun e => ?_))
    have h1 : g = k := by simpa [Value.ownBlock] using hk
    have h2 : k = bo := e
    exact hgne (h1.trans h2)
  · have h1 : g = q := by simpa [Value.ownBlock] using hq
    exact h1 ▸ hgne
  · have hsub : ∀ k, (N k ∨ k = g) → N k ∨ W.heap.size ≤ k := fun k hk => by
      rcases hk with hk | rfl
      · exact Or.inl hk
      · exact hgN
    rcases Nat.lt_or_ge i vvs.length with h1 | h1
    · rw [List.getElem?_append_left h1] at hv'
      rw [List.getElem?_append_left (by rw [← h.len]; exact h1)] at hp
      exact (h.el i v' p hv' hp).turn kfN hsub
    · rw [List.getElem?_append_right h1] at hv'
      rw [List.getElem?_append_right (by rw [← h.len]; exact h1), ← h.len] at hp
      obtain ⟨j, hj⟩ : ∃ j, i - vvs.length = j := ⟨_, rfl⟩
      rw [hj] at hv' hp
      cases j with
      | succ j => simp at hv'
      | zero =>
        simp at hv' hp
        subst hv' hp
        intro W' hk'
        refine ints_own hv hx fun q h1 h2 => ?_
        have hnu : ¬ (uo.ownBlock = some q) := fun e => by have := hN q (hNu q e); omega
        have hng : q ≠ g := by
          rcases hat with ha | ha
          · exact fun e => hnu (by rw [e]; exact ha)
          · omega
        rw [hk'.same q (by rw [hsz]; omega) (fun e => by
          rcases e with e | e
          · have := hN q e; omega
          · exact hng e), Below.heap_setCell _ _ _ _ (fun e => by have : q = bo := e; omega), k6.same q h2 hnu]
/-- what is derived so far, in a variable of the caller's own, over a range over the pairs. -/
structure DrvI (s : Sg) (xs : List En) (wb : World) (B base bo bs : Nat) (vs : Value) (pre : List PE) (M : Nat → Prop) (W : World) : Prop where
  out : ∃ raw uo vvs, RwQ s xs (pre.map pqN) raw ∧ raw.length ≤ 60 + pre.length ∧ (∀ t ∈ raw, t.length ≤ 60) ∧ TrS (fun k => M k ∨ k = B + 1) W base bo raw uo vvs ∧ ∀ q, uo.ownBlock = some q → M q
  cs : W.cell? ⟨bs, 0, none⟩ = some vs
  bel : Below wb.heap.size wb W
  mem : M bo
  nm : ¬ M bs
theorem DrvI.grw {s : Sg} {xs : List En} {wb : World} {B base bo bs : Nat} {vs : Value} (hB : wb.heap.size ≤ B) (h1 : bo < B) (h2 : bs < B) (pre : List PE) : Grw B (DrvI s xs wb B base bo bs vs pre) where
  grow := fun M W W' h hb => by
    obtain ⟨⟨raw, uo, vvs, a1, a2, a3, a4, a5⟩, b, c, d, e⟩ := h
    exact ⟨⟨raw, uo, vvs, a1, a2, a3, a4.below hb, a5⟩, (hb.cell (World.block_lt_of_cell? _ _ b)).trans b, c.trans (hb.mono c.size), d, e⟩
  turn := fun M W o o' _ _ h hm => by
    obtain ⟨⟨raw, uo, vvs, a1, a2, a3, a4, a5⟩, b, c, d, e⟩ := h
    have hk : Kb (fun q => q = B + 1) W (W.putObj (B + 1) o') := Kb.put (M := fun q => q = B + 1) _ rfl
    exact ⟨⟨raw, uo, vvs, a1, a2, a3, a4.turn hk (fun k h => Or.inr h) (fun k h => Or.inl h) (fun h => by have h : bo = B + 1 := h; omega) (fun q hq h => hm (h ▸ a5 q hq)), a5⟩, (World.cell?_of_block (hk.same bs (World.block_lt_of_cell? _ _ b) (fun h => by have h : bs = B + 1 := h; omega))).trans b,
      c.trans ⟨hk.os, hk.tape, hk.output, hk.size, fun q hq => hk.same q (Nat.lt_of_lt_of_le hq c.size) (fun h => by have h : q = B + 1 := h; omega)⟩, d, e⟩
theorem DrvI.skip {s : Sg} {xs : List En} {wb : World} {B base bo bs : Nat} {vs : Value} {pre : List PE} {M : Nat → Prop} {W : World} (h : DrvI s xs wb B base bo bs vs pre M W) {x : PE} {y : List Int × Int} (hd : DetR s (pqN x).1.says (pqN x).2.says y) (hy : y.2 ≠ 0) : DrvI s xs wb B base bo bs vs (pre ++ [x]) M W := by
  obtain ⟨⟨raw, uo, vvs, a1, a2, a3, a4, a5⟩, b, c, d, e⟩ := h
  refine ⟨⟨raw, uo, vvs, ?_, by rw [List.length_append]; exact Nat.le_trans a2 (by omega), a3, a4, a5⟩, b, c, d, e⟩
  rw [List.map_append]
  exact a1.no hd hy
theorem DrvI.push {s : Sg} {xs : List En} {wb : World} {B base bo bs : Nat} {vs : Value} {pre : List PE} {M : Nat → Prop} {W W6 W7 : World} (h : DrvI s xs wb B base bo bs vs pre M W) (hB : wb.heap.size ≤ B) (h1 : bo < B) (hwo : wb.heap.size ≤ base) (hbw : wb.heap.size ≤ bo) (hbb : bo < base ∨ base ≤ bo) (h2 : bs < B) (hBW : B + 1 < W.heap.size) (hMl : ∀ q, M q → q < W.heap.size)
    {raw : List (List Int)} {uo : Value} {vvs : List Value} (a1 : RwQ s xs (pre.map pqN) raw) (a2 : raw.length ≤ 60 + pre.length) (a3 : ∀ t ∈ raw, t.length ≤ 60) (a4 : TrS (fun k => M k ∨ k = B + 1) W base bo raw uo vvs) (a5 : ∀ q, uo.ownBlock = some q → M q)
    {x : PE} {t0 : List Int} (hd : DetR s (pqN x).1.says (pqN x).2.says (t0, 0)) (ht : t0.length ≤ 60) (hb : Below W.heap.size W W6) {v : Value} (hv : W6.ownsRow W.heap.size 3 1 v t0.length (t0.map (Value.int .i64)))
    {g cap n : Nat} (hn : vvs.length = n) (hown : W7.ownsRow base 28 1 (.slice (some ⟨g, 0, none⟩) (n + 1) cap) (n + 1) (vvs ++ [v])) (hg : W6.grownBy W7 uo.ownBlock) (hat : uo.ownBlock = some g ∨ W6.heap.size ≤ g) (hlt : g < W7.heap.size) :
    ∃ M' : Nat → Prop, (∀ q, M' q → (M q ∨ W.heap.size ≤ q) ∧ q < (W7.setCell ⟨bo, 0, none⟩ (.slice (some ⟨g, 0, none⟩) (n + 1) cap)).heap.size) ∧
      Kb (fun q => M q ∨ W.heap.size ≤ q) W (W7.setCell ⟨bo, 0, none⟩ (.slice (some ⟨g, 0, none⟩) (n + 1) cap)) ∧
      DrvI s xs wb B base bo bs vs (pre ++ [x]) M' (W7.setCell ⟨bo, 0, none⟩ (.slice (some ⟨g, 0, none⟩) (n + 1) cap)) := by
  obtain ⟨-, b, c, d, e⟩ := h
  obtain ⟨p1, p2, -, p4⟩ := TrS.push a4 (fun k hk => by
    rcases hk with hk | rfl
    · exact hMl k hk
    · omega) (Or.inl d) (fun q hq => Or.inl (a5 q hq)) hbb hb hv (by omega) hn hown hg hat hlt
  have p3 : M g ∨ W.heap.size ≤ g := by
    rcases hat with h | h
    · exact Or.inl (a5 g h)
    · exact Or.inr (Nat.le_trans hb.size h)
  have hf := p2.size
  have pM : Kb M W (W7.setCell ⟨bo, 0, none⟩ (.slice (some ⟨g, 0, none⟩) (n + 1) cap)) := p2.mono (fun k _ hk => by
    rcases hk with rfl | hk
    · exact d
    · exact a5 k hk)
  have hbs : bs < W.heap.size := by omega
  refine ⟨fun q => M q ∨ q = g, fun q hq => ?_, pM.mono (fun k _ hk => Or.inl hk), ⟨⟨raw ++ [t0], _, _, ?_, by rw [List.length_append, List.length_append]; simp; omega, fun t ht' => ?_, p1.mono (fun k hk => ?_), fun q hq => ?_⟩, (World.cell?_of_block (pM.same bs hbs e)).trans b, ?_, Or.inl d, fun h => ?_⟩⟩
  · rcases hq with hq | rfl
    · exact ⟨Or.inl hq, by have := hMl q hq; omega⟩
    · exact ⟨p3, p4⟩
  · rw [List.map_append]
    exact a1.yes hd
  · rcases List.mem_append.1 ht' with h | h
    · exact a3 t h
    · rw [List.mem_singleton] at h; subst h; exact ht
  · rcases hk with (hk | hk) | hk
    · exact Or.inl (Or.inl (Or.inl hk))
    · exact Or.inl (Or.inr hk)
    · exact Or.inl (Or.inl (Or.inr hk))
  · have h9 : g = q := by simpa [Value.ownBlock] using hq
    exact Or.inr h9.symm
  · refine c.trans ⟨pM.os, pM.tape, pM.output, pM.size, fun q hq => p2.same q (Nat.lt_of_lt_of_le hq c.size) (fun h => ?_)⟩
    rcases h with h | h
    · omega
    · have := (a4.top.lt q h).1; omega
  · rcases h with h | h
    · exact e h
    · subst h
      rcases p3 with h | h
      · exact e h
      · omega
end Go.Proofs.YtpflkjldapmgdaaGreat
namespace Go.Proofs.YtpflkjldapmgdaaGreat
open Go Go.RowKit Go.Maps
/-- the cells of pairs of names. -/
def pC (L : List N2) : List Value := L.flatMap fun p => [.string p.1, .string p.2]
theorem pC_append (L M : List N2) : pC (L ++ M) = pC L ++ pC M := by unfold pC; rw [List.flatMap_append]
instance : Inhabited N2 := ⟨(ByteArray.empty, ByteArray.empty)⟩
end Go.Proofs.YtpflkjldapmgdaaGreat
namespace Go.Proofs.YtpflkjldapmgdaaGreat
open Go Go.RowKit Go.Maps Go.Shelf
attribute [local go_sem] Oper.semAt_some
/-- the pairs of names that are put out behind some pairs of entries. -/
def eqL (s : Sg) (pre : List PE) : List N2 := ((pre.map pqN).filter (eqsB s)).map nm2
theorem eqL_snoc (s : Sg) (pre : List PE) (x : PE) : eqL s (pre ++ [x]) = eqL s pre ++ (if eqsB s (pqN x) then [nm2 (pqN x)] else []) := by
  unfold eqL
  rw [List.map_append, List.filter_append, List.map_append]
  congr 1
  cases h : eqsB s (pqN x) <;> simp [h]
structure EqvI (s : Sg) (wb : World) (B bo bs : Nat) (vs : Value) (pre : List PE) (M : Nat → Prop) (W : World) : Prop where
  out : ∃ uo, W.cell? ⟨bo, 0, none⟩ = some uo ∧ W.ownsRow B 52 2 uo (eqL s pre).length (pC (eqL s pre)) ∧ ∀ q, uo.ownBlock = some q → M q
  free : W.frozen? ⟨bo, 0, none⟩ = false
  cs : W.cell? ⟨bs, 0, none⟩ = some vs
  bel : Below wb.heap.size wb W
  mem : M bo
theorem EqvI.kb {s : Sg} {wb : World} {B bo bs : Nat} {vs : Value} {pre : List PE} {M T : Nat → Prop} {W W' : World} (h : EqvI s wb B bo bs vs pre M W) (hk : Kb T W W') (ho : ¬ T bo) (hs : ¬ T bs) (hr : ∀ q, M q → B ≤ q → ¬ T q) (hw : ∀ q, q < wb.heap.size → ¬ T q) : EqvI s wb B bo bs vs pre M W' := by
  obtain ⟨⟨uo, a1, a2, a3⟩, a4, a5, a6, a7⟩ := h
  have e1 := hk.same _ (World.block_lt_of_cell? _ _ a1) ho
  have e2 := hk.same _ (World.block_lt_of_cell? _ _ a5) hs
  exact ⟨⟨uo, cell_same a1 e1, ownsRow_frm a2 (fun q hq => hk.same q (a2.lt q hq).2 (hr q (a3 q hq) (a2.lt q hq).1)), a3⟩, (World.frozen?_of_block e1).trans a4, cell_same a5 e2, a6.trans ⟨hk.os, hk.tape, hk.output, hk.size, fun q hq => hk.same q (Nat.lt_of_lt_of_le hq a6.size) (hw q hq)⟩, a7⟩
theorem EqvI.grw {s : Sg} {wb : World} {B bo bs : Nat} {vs : Value} (hB : wb.heap.size ≤ B) (h1 : bo < B) (h2 : bs < B) (pre : List PE) : Grw B (EqvI s wb B bo bs vs pre) where
  grow := fun M W W' h hb => h.kb (T := fun _ => False) (Kb.of_below hb) (fun h => h) (fun h => h) (fun _ _ _ h => h) (fun _ _ h => h)
  turn := fun M W o o' _ _ h hm => h.kb (T := fun q => q = B + 1) (Kb.put (M := fun q => q = B + 1) _ rfl) (fun h => by omega) (fun h => by omega) (fun q hq _ h => hm (h ▸ hq)) (fun q hq h => by omega)
theorem EqvI.skip {s : Sg} {wb : World} {B bo bs : Nat} {vs : Value} {pre : List PE} {M : Nat → Prop} {W : World} (h : EqvI s wb B bo bs vs pre M W) {x : PE} (hx : eqsB s (pqN x) = false) : EqvI s wb B bo bs vs (pre ++ [x]) M W := by
  obtain ⟨⟨uo, a1, a2, a3⟩, a4, a5, a6, a7⟩ := h
  have e : eqL s (pre ++ [x]) = eqL s pre := by rw [eqL_snoc, hx]; simp
  exact ⟨⟨uo, a1, by rw [e]; exact a2, a3⟩, a4, a5, a6, a7⟩
theorem EqvI.push {s : Sg} {wb : World} {B bo bs : Nat} {vs : Value} {pre : List PE} {M : Nat → Prop} {W W6 W7 : World} {uo : Value} (h : EqvI s wb B bo bs vs pre M W) {x : PE} (hx : eqsB s (pqN x) = true)
    (hB : wb.heap.size ≤ B) (h1 : bo < B) (h2 : bs < B) (hBW : B ≤ W.heap.size) (hne : bs ≠ bo) (hwo : wb.heap.size ≤ bo) (hMl : ∀ q, M q → q < W.heap.size)
    (c0 : W.cell? ⟨bo, 0, none⟩ = some uo) (hrow : W.ownsRow B 52 2 uo (eqL s pre).length (pC (eqL s pre))) (hM : ∀ q, uo.ownBlock = some q → M q) (hb : Below W.heap.size W W6)
    {g cap n : Nat} (hn : (eqL s pre).length = n) (hown : W7.ownsRow B 52 2 (.slice (some ⟨g, 0, none⟩) (n + 1) cap) (n + 1) (pC (eqL s pre) ++ [.string (pqN x).1.name, .string (pqN x).2.name])) (hg : W6.grownBy W7 uo.ownBlock) (hat : uo.ownBlock = some g ∨ g = W6.heap.size) (hlt : g < W7.heap.size) :
    ∃ M' : Nat → Prop, (∀ q, M' q → (M q ∨ W.heap.size ≤ q) ∧ q < (W7.setCell ⟨bo, 0, none⟩ (.slice (some ⟨g, 0, none⟩) (n + 1) cap)).heap.size) ∧
      Kb (fun q => M q ∨ W.heap.size ≤ q) W (W7.setCell ⟨bo, 0, none⟩ (.slice (some ⟨g, 0, none⟩) (n + 1) cap)) ∧
      EqvI s wb B bo bs vs (pre ++ [x]) M' (W7.setCell ⟨bo, 0, none⟩ (.slice (some ⟨g, 0, none⟩) (n + 1) cap)) := by
  have hs67 := hg.size
  have hs06 := hb.size
  have k7 : Kb (fun q => (M q ∧ B ≤ q) ∨ W.heap.size ≤ q) W W7 := (Kb.of_below hb).trans (Kb.grown (M := fun q => (M q ∧ B ≤ q) ∨ W.heap.size ≤ q) hg (fun q hq => Or.inl (Or.inl ⟨hM q hq, (hrow.lt q hq).1⟩))) (fun q hq => by rcases hq with hq | hq; exact Or.inl (Or.inl hq); exact Or.inl (Or.inr hq))
  have kf : Kb (fun q => q = bo ∨ (M q ∧ B ≤ q) ∨ W.heap.size ≤ q) W (W7.setCell ⟨bo, 0, none⟩ (.slice (some ⟨g, 0, none⟩) (n + 1) cap)) :=
    (k7.mono (M' := fun q => q = bo ∨ (M q ∧ B ≤ q) ∨ W.heap.size ≤ q) (fun q _ hq => Or.inr hq)).trans (Kb.setCell (M := fun q => q = bo) _ rfl) (fun q hq => Or.inl (Or.inl hq))
  have hbol : bo < W.heap.size := by omega
  have e0 : W7.heap[bo]? = W.heap[bo]? := k7.same _ hbol (fun h => by omega)
  have c7 : W7.cell? ⟨bo, 0, none⟩ = some uo := cell_same c0 e0
  obtain ⟨-, a4, a5, a6, a7⟩ := h
  have e2 := kf.same _ (World.block_lt_of_cell? _ _ a5) (fun h => by have h' : bs = bo ∨ (M bs ∧ B ≤ bs) ∨ W.heap.size ≤ bs := h; omega)
  have hsz : (W7.setCell ⟨bo, 0, none⟩ (.slice (some ⟨g, 0, none⟩) (n + 1) cap)).heap.size = W7.heap.size := by simp [World.setCell]
  have hel : eqL s (pre ++ [x]) = eqL s pre ++ [nm2 (pqN x)] := by rw [eqL_snoc, hx]; rfl
  have hlen : (eqL s (pre ++ [x])).length = n + 1 := by rw [hel, List.length_append, hn]; rfl
  have hgB := hown.lt g rfl
  refine ⟨fun q => M q ∨ (W.heap.size ≤ q ∧ q < W7.heap.size), fun q hq => ?_, kf.mono fun q _ hq => ?_, ⟨⟨_, World.cell?_setCell_same' _ _ _ (by rw [c7]; rfl), ?_, fun q hq => ?_⟩, (World.frozen?_setCell _ _ _ _).trans ((World.frozen?_of_block e0).trans a4), cell_same a5 e2,
    a6.trans ⟨kf.os, kf.tape, kf.output, kf.size, fun q hq => kf.same q (Nat.lt_of_lt_of_le hq a6.size) (fun h => by omega)⟩, Or.inl a7⟩⟩
  · rw [hsz]
    rcases hq with hq | hq
    · exact ⟨Or.inl hq, by have := hMl q hq; omega⟩
    · exact ⟨Or.inr hq.1, hq.2⟩
  · rcases hq with rfl | hq | hq
    · exact Or.inl a7
    · exact Or.inl hq.1
    · exact Or.inr hq
  · rw [hlen, hel, pC_append]
    refine ownsRow_frm hown fun q hq => Below.heap_setCell _ _ _ _ (fun e => ?_)
    have h8 : q = bo := e
    have := (hown.lt q hq).1
    omega
  · have h9 : g = q := by simpa [Value.ownBlock] using hq
    subst h9
    rcases hat with h | h
    · exact Or.inl (hM g h)
    · exact Or.inr ⟨by omega, hlt⟩
theorem prsL_len (l : List En) : (prsL l).length = l.length * l.length := by
  have h2 : ∀ m : List En, (m.flatMap fun x => l.map fun y => (x, y)).length = m.length * l.length := by
    intro m
    induction m with
    | nil => simp
    | cons y m ih => rw [List.flatMap_cons, List.length_append, ih, List.length_map, List.length_cons, Nat.add_mul]; omega
  exact h2 l
/-- a row of pairs of names. -/
def PrsAt (w : World) (v : Value) (L : List N2) : Prop := RowK w v 2 L.length (pC L)
theorem PrsAt.below {w w' : World} {v : Value} {L : List N2} (h : PrsAt w v L) (hb : Below w.heap.size w w') : PrsAt w' v L := RowK.below h hb
theorem PrsAt.nil (w : World) : PrsAt w (.slice none 0 0) [] := ⟨rfl, none, 0, rfl, Nat.le_refl _, by simp, fun _ => rfl, fun j u hj => by simp [pC] at hj⟩
theorem ent_slices {w : World} {vS vU vP : Value} {x : En} (h : EntAt w vS vU vP x) : ∃ a1 k1 a2 k2 a3 k3, vS = .slice a1 x.says.length k1 ∧ vU = .slice a2 x.uses.length k2 ∧ vP = .slice a3 x.proof.length k3 := by
  obtain ⟨a1, k1, h1, -⟩ := h.s.open
  obtain ⟨a2, k2, h2, -⟩ := h.u.open
  obtain ⟨a3, k3, h3, -⟩ := h.p.open
  exact ⟨a1, k1, a2, k2, a3, k3, h1, h2, h3⟩
/-- the box of a value that is handed to the body, behind the loop's record's turn. -/
theorem EB.turned {w w' : World} {b l : Nat} {x : En} {vS vU vP : Value} (h : EB w b x vS vU vP) (hr : RecT l w w') (hne : b ≠ l) : EB w' b x vS vU vP := by
  obtain ⟨o, rfl⟩ := hr
  exact h.block (World.putObj_heap_other (fun e => hne (by omega)))
end Go.Proofs.YtpflkjldapmgdaaGreat
