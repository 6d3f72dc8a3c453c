/-
  WHAT IT HOLDS: contracts of ranked and Ranked of package find with their comparisons. Conditions: the arguments read as data; a small sign.
  WHAT IT HOLDS: contracts of Ranked of package find, of closeness and Closeness of the reference of layer 5, and of the law's symbols. Conditions: the arguments read as data; a small sign.
-/
import Derived.Test.YtldgkidojepdlaaZRFindRanks27
import Derived.Test.YtldgkidojepdlaaZRFindRanks19
import Derived.Test.YtldgkidojepdlaaZRFindRanks17
import Derived.Test.YtldgkidojepdlaaZRFindRanks37
import Derived.Test.YtldgkidojepdlaaZRFindRanks40
import Derived.Test.YtldgkidojepdlaaZRFindRanks2
import Derived.Test.YtldgkidojepdlaaZRFindRanks41
namespace Go.Proofs.Ytldgkidojepdlaa
open Go Go.RowKit Go.Maps Go.Shelf
/-- how close two terms are. -/
def closN (s : Sg) (a q : List Int) : Nat := symN (comW s a q []).1
theorem closN_le (s : Sg) (a q : List Int) : closN s a q ≤ a.length := by
  have h1 := symN_le (comW s a q []).1
  have h2 := (comW_len s a q []).1
  unfold closN; omega
def rnkT (s : Sg) (q x : List Int) : Int := (x.length : Int) - 1000 * (closN s x q : Int)
def ordT (s : Sg) (q x y : List Int) : Int := orI (cpI (closN s y q) (closN s x q)) (cpI x.length y.length)
theorem ordT_lt {s : Sg} {q x y : List Int} (hx : x.length ≤ 60) (hy : y.length ≤ 60) : ordT s q x y < 0 ↔ rnkT s q x < rnkT s q y := by
  unfold ordT orI cpI rnkT
  by_cases h1 : (closN s y q : Int) < (closN s x q : Int)
  · rw [if_pos h1, if_pos (by decide)]
    constructor
    · intro _; omega
    · intro _; decide
  · rw [if_neg h1]
    by_cases h2 : (closN s x q : Int) < (closN s y q : Int)
    · rw [if_pos h2, if_pos (by decide)]
      constructor
      · intro h; exact absurd h (by decide)
      · intro h; omega
    · rw [if_neg h2, if_neg (by simp)]
      by_cases h3 : (x.length : Int) < (y.length : Int)
      · rw [if_pos h3]
        constructor
        · intro _; omega
        · intro _; decide
      · rw [if_neg h3]
        constructor
        · intro h
          exfalso
          split at h <;> omega
        · intro h; omega
theorem chain2 {P : Program} {f : FuncId} {args : Array Value} {WB W : World} {v : Value} (hb : Below WB.heap.size WB W) (h : Calls P f args W fun e w' => e = .returned v ∧ Below W.heap.size W w') : Calls P f args W fun e w' => e = .returned v ∧ Below W.heap.size W w' ∧ Below WB.heap.size WB w' :=
  h.mono fun _ _ ⟨h1, h2⟩ => ⟨h1, h2, hb.trans (h2.mono hb.size)⟩
theorem cmp_Or_lit (a b : Int) (c : Nat) (w : World) (T : TypeId) :
    Calls Try.prog 44 #[.slice (some ⟨w.heap.size, 0, none⟩) 2 c] (w.alloc (.cells #[.int .i64 a, .int .i64 b] T)) fun e w' => e = .returned (.int .i64 (orI a b)) ∧ w.alloc (.cells #[.int .i64 a, .int .i64 b] T) = w' :=
  cmp_Or a b w.heap.size 0 c _ (by rw [World.cell?_alloc_new]; rfl) (by rw [World.cell?_alloc_new]; rfl)
set_option maxHeartbeats 2000000 in
theorem find_Ranked1 (ps pq : Nat) (vs vq vx vy : Value) (s : Sg) (q x y : List Int) (w : World) (hs : SignAt w vs s) (hq : Ints w vq q) (hx : Ints w vx x) (hy : Ints w vy y) (cs : w.cell? ⟨ps, 0, none⟩ = some vs) (cq : w.cell? ⟨pq, 0, none⟩ = some vq)
    (hsl : 1 ≤ s.length) (hsl2 : s.length ≤ 12) (tq : IsT s 12 q) (tx : IsT s 12 x) (ty : IsT s 12 y) (lq : q.length ≤ 60) (lx : x.length ≤ 60) (ly : y.length ≤ 60) :
    Calls Try.prog 43 #[vx, vy, .pointer (some ⟨ps, 0, none⟩), .pointer (some ⟨pq, 0, none⟩)] w fun e w' => e = .returned (.int .i64 (ordT s q x y)) ∧ Below w.heap.size w w' := by
  have HY := hid (fun (X : World) (hX : Below w.heap.size w X) => chain2 hX (unify_Common s vs vy vq y q X hsl hsl2 ty tq (hs.below hX) (hy.below hX) (hq.below hX) (by omega) (by omega)))
  have HX := hid (fun (X : World) (hX : Below w.heap.size w X) => chain2 hX (unify_Common s vs vx vq x q X hsl hsl2 tx tq (hs.below hX) (hx.below hX) (hq.below hX) (by omega) (by omega)))
  obtain ⟨sa, sc, rfl, -⟩ := hs.open
  obtain ⟨qa, qc, rfl, -⟩ := hq.open
  obtain ⟨xa, xc, rfl, -⟩ := hx.open
  obtain ⟨ya, yc, rfl, -⟩ := hy.open
  have hcy : closN s y q ≤ 60 := by have := closN_le s y q; omega
  have hcx : closN s x q ≤ 60 := by have := closN_le s x q; omega
  change Hid (∀ X : World, Below w.heap.size w X → Calls _ _ _ X fun e w' => e = .returned (.int .i64 (closN s y q)) ∧ Below X.heap.size X w' ∧ Below w.heap.size w w') at HY
  change Hid (∀ X : World, Below w.heap.size w X → Calls _ _ _ X fun e w' => e = .returned (.int .i64 (closN s x q)) ∧ Below X.heap.size X w' ∧ Below w.heap.size w w') at HX
  have HO : Hid (orI (cpI (closN s y q) (closN s x q)) (cpI x.length y.length) = ordT s q x y) := hid rfl
  obtain ⟨cy, hcy'⟩ : ∃ cy, closN s y q = cy := ⟨_, rfl⟩
  obtain ⟨cx, hcx'⟩ : ∃ cx, closN s x q = cx := ⟨_, rfl⟩
  rw [hcy'] at HY HO
  rw [hcx'] at HX HO
  clear hs hq hx hy tq tx ty hcy' hcx'
  go_enter Try.func43, Try.ntmps43
  go_wp2
  go_region_held3 (fun w' => w'.cell? ⟨ps, 0, none⟩ = some (.slice sa s.length sc) ∧ w'.cell? ⟨pq, 0, none⟩ = some (.slice qa q.length qc))
    (first | exact ⟨by assumption, by assumption⟩ | go_keep)
    (first
    | (go_at_call 46; (with_reducible refine (HY.out _ (Below.drew (Below.refl _ _))).mono ?_); rintro e w1 ⟨rfl, hb1, gb1⟩
       have cs := (hb1.cell (World.block_lt_of_cell? _ _ cs)).trans cs
       have cq := (hb1.cell (World.block_lt_of_cell? _ _ cq)).trans cq)
    | (go_at_call 46; (with_reducible refine (HX.out _ gb1).mono ?_); rintro e w2 ⟨rfl, hb2, gb2⟩
       have cs := (hb2.cell (World.block_lt_of_cell? _ _ cs)).trans cs
       have cq := (hb2.cell (World.block_lt_of_cell? _ _ cq)).trans cq)
    | (go_at_call 45; refine (cmp_Compare _ _ _).mono ?_; rintro e w3 ⟨rfl, rfl⟩)
    | (go_at_call 44; refine (cmp_Or_lit _ _ _ _ _).mono ?_; rintro e w4 ⟨rfl, rfl⟩))
  have hB := gb2.alloc gb2.size (.cells #[.int .i64 (cpI cy cx), .int .i64 (cpI x.length y.length)] 3)
  have HB := hid hB
  clear hB hb1 gb1 hb2 gb2 cs cq
  go_wp2
  go_ret
  exact ⟨by rw [HO.out]; rfl, HB.out⟩
def cfL (s : Sg) (q : List Int) (l : List (List Int)) (i j : Int) : Int := ordT s q (l.getD i.toNat []) (l.getD j.toNat [])
def rkL (s : Sg) (q : List Int) (l : List (List Int)) (i : Int) : Int := rnkT s q (l.getD i.toNat [])
def fnO (ps pq : Nat) : Value := .func (.func 43) #[] #[.pointer (some ⟨ps, 0, none⟩), .pointer (some ⟨pq, 0, none⟩)]
set_option maxHeartbeats 2000000 in
theorem find_ranked1 (ps pq po pl : Nat) (vs vq vl : Value) (s : Sg) (q : List Int) (l : List (List Int)) (w : World) (i j : Int) (hs : SignAt w vs s) (hq : Ints w vq q) (hl : Terms w vl l) (cs : w.cell? ⟨ps, 0, none⟩ = some vs) (cq : w.cell? ⟨pq, 0, none⟩ = some vq)
    (co : w.cell? ⟨po, 0, none⟩ = some (fnO ps pq)) (cl : w.cell? ⟨pl, 0, none⟩ = some vl) (hsl : 1 ≤ s.length) (hsl2 : s.length ≤ 12) (tq : IsT s 12 q) (lq : q.length ≤ 60) (hT : ∀ x ∈ l, IsT s 12 x ∧ x.length ≤ 60)
    (i0 : 0 ≤ i) (i1 : i < l.length) (j0 : 0 ≤ j) (j1 : j < l.length) :
    Calls Try.prog 72 #[.int .i64 i, .int .i64 j, .pointer (some ⟨po, 0, none⟩), .pointer (some ⟨pl, 0, none⟩)] w fun e w' => e = .returned (.int .i64 (cfL s q l i j)) ∧ Below w.heap.size w w' := by
  obtain ⟨a, rfl⟩ : ∃ a : Nat, i = a := ⟨i.toNat, by omega⟩
  obtain ⟨b, rfl⟩ : ∃ b : Nat, j = b := ⟨j.toNat, by omega⟩
  have ha : a < l.length := by omega
  have hb : b < l.length := by omega
  have HF : Hid (cfL s q l a b = ordT s q l[a] l[b]) := hid (by
    unfold cfL
    simp [List.getD_eq_getElem?_getD, ha, hb])
  have ta := hT l[a] (List.getElem_mem ha)
  have tb := hT l[b] (List.getElem_mem hb)
  obtain ⟨la, lc, rfl, -, -, -, LC⟩ := hl.open
  obtain ⟨bb, bo, va, rfl, ca, ra⟩ := LC a ha
  obtain ⟨bb', bo', vb, he, cb, rb⟩ := LC b hb
  cases he
  have HO := hid (fun (X : World) (hX : Below w.heap.size w X) => find_Ranked1 ps pq vs vq va vb s q l[a] l[b] X (hs.below hX) (hq.below hX) (ra.below hX) (rb.below hX) ((hX.cell (World.block_lt_of_cell? _ _ cs)).trans cs) ((hX.cell (World.block_lt_of_cell? _ _ cq)).trans cq) hsl hsl2 tq ta.1 tb.1 lq ta.2 tb.2)
  obtain ⟨xa, xc, rfl, -⟩ := ra.open
  obtain ⟨ya, yc, rfl, -⟩ := rb.open
  obtain ⟨n1, hn1⟩ : ∃ n1, l[a].length = n1 := ⟨_, rfl⟩
  obtain ⟨n2, hn2⟩ : ∃ n2, l[b].length = n2 := ⟨_, rfl⟩
  rw [hn1] at HO ca
  rw [hn2] at HO cb
  have co' : w.cell? ⟨po, 0, none⟩ = some (.func (.func 43) #[] #[.pointer (some ⟨ps, 0, none⟩), .pointer (some ⟨pq, 0, none⟩)]) := co
  have p1 : (0 : Int) ≤ (a : Int) := by omega
  have p2 : (a : Int) < (l.length : Int) := by omega
  have p3 : (0 : Int) ≤ (b : Int) := by omega
  have p4 : (b : Int) < (l.length : Int) := by omega
  clear hs hq hl cs cq co tq hT ta tb LC ra rb hn1 hn2 i0 i1 j0 j1
  go_enter Try.func72, Try.ntmps72
  go_wp2
  go_region_held3 (fun w' => w'.cell? ⟨po, 0, none⟩ = some (.func (.func 43) #[] #[.pointer (some ⟨ps, 0, none⟩), .pointer (some ⟨pq, 0, none⟩)]) ∧ w'.cell? ⟨pl, 0, none⟩ = some (.slice (some ⟨bb, bo, none⟩) l.length lc) ∧ w'.cell? ⟨bb, bo + a, none⟩ = some (.slice xa n1 xc) ∧ w'.cell? ⟨bb, bo + b, none⟩ = some (.slice ya n2 yc))
    (first | exact ⟨by assumption, by assumption, by assumption, by assumption⟩ | go_keep)
    (first
    | (go_at_call 43; refine (HO.out _ (Below.drew (Below.refl _ _))).mono ?_; rintro e w1 ⟨rfl, hb1⟩
       have co' := (hb1.cell (World.block_lt_of_cell? _ _ co')).trans co'
       have cl := (hb1.cell (World.block_lt_of_cell? _ _ cl)).trans cl
       have ca := (hb1.cell (World.block_lt_of_cell? _ _ ca)).trans ca
       have cb := (hb1.cell (World.block_lt_of_cell? _ _ cb)).trans cb))
  have HB := hid ((Below.drew (Below.refl w.heap.size w)).trans (hb1.mono (Nat.le_refl _)))
  clear hb1 co' cl ca cb
  go_wp2
  go_ret
  exact ⟨by rw [HF.out]; rfl, HB.out⟩
/-- the statements by closeness. -/
def RankP (s : Sg) (q : List Int) (l : List (List Int)) (Z : List Int) : Prop := Z.Perm (seg 0 l.length) ∧ SoR (rkL s q l) Z
set_option maxHeartbeats 2000000 in
set_option maxRecDepth 100000 in
theorem find_ranked (ps pq : Nat) (vs vq vl : Value) (s : Sg) (q : List Int) (l : List (List Int)) (w : World) (hs : SignAt w vs s) (hq : Ints w vq q) (hl : Terms w vl l) (cs : w.cell? ⟨ps, 0, none⟩ = some vs) (cq : w.cell? ⟨pq, 0, none⟩ = some vq)
    (hsl : 1 ≤ s.length) (hsl2 : s.length ≤ 12) (tq : IsT s 12 q) (lq : q.length ≤ 60) (hT : ∀ x ∈ l, IsT s 12 x ∧ x.length ≤ 60) (hl0 : 0 < l.length) (hl1 : l.length ≤ 1000) :
    Calls Try.prog 42 #[vl, fnO ps pq] w fun e w' => ∃ u Z, RankP s q l Z ∧ e = .returned u ∧ w'.ownsRow w.heap.size 3 1 u Z.length (Z.map (Value.int .i64)) ∧ Below w.heap.size w w' := by
  have HS := hid hs
  have HQ := hid hq
  have HL := hid hl
  have HT := hid hT
  have CS := hid cs
  have CQ := hid cq
  obtain ⟨la, lc, rfl, -⟩ := hl.open
  obtain ⟨b1, b2, b3⟩ := boxes2 w (.slice la l.length lc) (fnO ps pq) 24 72
  have HB3 := hid b3
  have HC1 := hid b1
  have HC2 := hid b2
  obtain ⟨W2, hW2⟩ : ∃ W2, (w.alloc (.cells #[.slice la l.length lc] 24)).alloc (.cells #[fnO ps pq] 72) = W2 := ⟨_, rfl⟩
  have hsz2 : W2.heap.size = w.heap.size + 1 + 1 := by rw [← hW2]; simp
  rw [hW2] at HB3 HC1 HC2 b1
  have hszA : w.heap.size + 2 ≤ W2.heap.size := by omega
  have hszB : W2.heap.size ≤ w.heap.size + 2 := by omega
  unfold fnO at hW2
  have HW2 := hid hW2
  clear hs hq hl hT cs cq b2 b3 hW2 hsz2
  unfold fnO
  go_enter Try.func42, Try.ntmps42
  go_wp2
  rw [HW2.out]
  clear HW2 b1
  go_loopw [5, 9] (fun u i wr => ∃ k : Nat, k ≤ l.length ∧ i = .int .i64 k ∧ wr.ownsRow W2.heap.size 3 1 u (seg 0 k).length ((seg 0 k).map (Value.int .i64)) ∧ Below W2.heap.size W2 wr) (fun _ i _ => l.length - (intOf i).toNat)
  case atStart => exact ⟨0, by omega, rfl, World.ownsRow_nil _ _ _ _, Below.refl _ _⟩
  case round =>
    obtain ⟨k, hk, rfl, hown, hb⟩ := hrel
    have hsz := hb.size
    by_cases hlt : k < l.length
    · have hb1 : Below wr.heap.size wr (wr.alloc (.cells #[.int .i64 k] 3)) := (Below.refl _ _).alloc (Nat.le_refl _) _
      have HOWN := hid (owns_below hown hb1)
      have HB := hid (hb.trans (hb1.mono hsz))
      have hob := hid (fun q hq => (hown.lt q hq).1)
      have HSRC := hid (row_one_new wr (.int .i64 k) 3)
      have HLEN := hid (seg_len 0 k)
      have HAS := hid (seg_add 0 k 1)
      clear hown hb hb1
      go_wp2_with (at_builtin; refine wpList_append_row rfl _ _ 34 rfl W2.heap.size 3 el_int Try.underlying34 rfl (by decide) _ _ _ rfl HOWN.out _ 1 [.int .i64 k] rfl HSRC.out (by simp [Value.oneCell']) (by rw [HLEN.out]; omega) (by rw [HLEN.out]; omega) (by simp; omega) ?_; intro v' w4 hown4 hgrow4 _)
      go_roundw
      case rel =>
        refine ⟨k + 1, by omega, by go_num, ?_, HB.out.grown hgrow4 (by have := HB.out.size; omega) hob.out⟩
        rw [HAS.out]
        simpa [seg] using hown4
      case measure => simp [intOf]; omega
    · have hkl : k = l.length := by omega
      subst hkl
      have hown' := hown
      rw [seg_len] at hown'
      obtain ⟨g, cap, rfl, hg1, -⟩ := owns_some hown' (by omega)
      have hglt := hown'.lt g rfl
      have hD : Dat W2.heap.size g l.length cap (seg 0 l.length) wr := ⟨seg_len _ _, hown'⟩
      have hw2 : Below w.heap.size w wr := HB3.out.trans (hb.mono HB3.out.size)
      have hkb : ∀ W, Kb (fun k => k = g) wr W → Below w.heap.size w W := fun W hW => hw2.trans (hW.below (by omega) (fun k hk => by omega))
      have hcl : ∀ {a : Addr} {v : Value} W, a.block < W2.heap.size → W2.cell? a = some v → Kb (fun k => k = g) wr W → W.cell? a = some v := fun W h1 h2 hW => (World.cell?_of_block (hW.same _ (by omega) (by omega))).trans ((hb.cell h1).trans h2)
      have hc : CmpOK (.pointer (some ⟨w.heap.size + 1, 0, none⟩)) (.pointer (some ⟨w.heap.size, 0, none⟩)) (cfL s q l) (rkL s q l) l.length g wr := by
        refine ⟨fun x y x0 x1 y0 y1 => ?_, fun W hW x y x0 x1 y0 y1 => ?_⟩
        · unfold cfL rkL
          have hx : x.toNat < l.length := by omega
          have hy : y.toNat < l.length := by omega
          refine ordT_lt ?_ ?_
          · rw [List.getD_eq_getElem?_getD, List.getElem?_eq_getElem hx]; exact (HT.out _ (List.getElem_mem hx)).2
          · rw [List.getD_eq_getElem?_getD, List.getElem?_eq_getElem hy]; exact (HT.out _ (List.getElem_mem hy)).2
        · have hB := hkb W hW
          exact find_ranked1 ps pq (w.heap.size + 1) w.heap.size vs vq _ s q l W x y (HS.out.below hB) (HQ.out.below hB) (HL.out.below hB) ((hB.cell (World.block_lt_of_cell? _ _ CS.out)).trans CS.out) ((hB.cell (World.block_lt_of_cell? _ _ CQ.out)).trans CQ.out)
            (hcl W (by show w.heap.size + 1 < _; omega) HC2.out hW) (hcl W (by show w.heap.size < _; omega) HC1.out hW) hsl hsl2 tq lq HT.out x0 x1 y0 y1
      have HST := hid (sl_SortStable W2.heap.size g l.length cap _ _ (cfL s q l) (rkL s q l) l.length wr hl1 (Nat.le_refl _) hc hD)
      have HKB := hid hkb
      clear hown hown' hD hw2 hkb hcl hc hb
      go_wp2_with fail
      refine HST.out.mono ?_
      rintro e w5 ⟨Z, rfl, hp, hs, hd, hk5⟩
      have HB5 := hid (HKB.out w5 hk5)
      have HP := hid (show RankP s q l Z from ⟨hp, hs⟩)
      have hzl : Z.length = l.length := by rw [hp.length_eq, seg_len]
      have HO5 := hid (show w5.ownsRow w.heap.size 3 1 (.slice (some ⟨g, 0, none⟩) l.length cap) Z.length (Z.map (Value.int .i64)) from owns_base (by have := hd.2; rw [hzl]; simpa using this) (by omega))
      clear hp hs hd hk5 hzl HST
      go_wp2
      go_ret
      exact ⟨_, Z, HP.out, rfl, HO5.out, HB5.out⟩
end Go.Proofs.Ytldgkidojepdlaa
namespace Go.Proofs.Ytldgkidojepdlaa
open Go Go.RowKit Go.Maps Go.Shelf
/-- what Ranked answers. -/
def RankQ (s : Sg) (l : List (List Int)) (q : List Int) (x : List Int × Int) : Prop := if shelfB s l && termB s q then x.2 = 0 ∧ RankP s q l x.1 else x = ([], 1)
theorem RankP.unique {s : Sg} {q : List Int} {l : List (List Int)} {Z Y : List Int} (h : RankP s q l Z) (k : RankP s q l Y) : Z = Y :=
  (h.1.trans k.1.symm).eq_of_pairwise (le := Lt (rkL s q l)) (fun a b _ _ h1 h2 => (Lt.irr (h1.trans h2)).elim) h.2 k.2
theorem RankQ.unique {s : Sg} {l : List (List Int)} {q : List Int} {x y : List Int × Int} (h : RankQ s l q x) (k : RankQ s l q y) : x = y := by
  unfold RankQ at h k
  split at h
  · rename_i hh
    rw [if_pos hh] at k
    exact Prod.ext (h.2.unique k.2) (h.1.trans k.1.symm)
  · rename_i hh
    rw [if_neg hh] at k
    rw [h, k]
theorem shf_facts {s : Sg} {l : List (List Int)} (h : shelfB s l = true) : signB s = true ∧ 1 ≤ s.length ∧ s.length ≤ 12 ∧ 1 ≤ l.length ∧ l.length ≤ 60 ∧ ∀ x ∈ l, IsT s 12 x ∧ x.length ≤ 60 := by
  unfold shelfB at h
  simp only [Bool.and_eq_true] at h
  have h1 := signB_len h.1.1
  have h2 := inB_true.1 h.1.2
  refine ⟨h.1.1, h1.1, h1.2, by omega, by omega, fun x hx => ?_⟩
  have h3 := h.2
  unfold allB at h3
  rw [List.all_eq_true] at h3
  have h4 := h3 x hx
  exact ⟨termB_T h4, (termB_facts h4).2.2.2⟩
set_option maxHeartbeats 2000000 in
theorem find_RankedF (vs vl vq : Value) (s : Sg) (l : List (List Int)) (q : List Int) (w : World) (hs : SignAt w vs s) (hl : Terms w vl l) (hq : Ints w vq q) (hs1 : s.length ≤ 1000) :
    Calls Try.prog 16 #[vs, vl, vq] w fun e w' => ∃ u x, RankQ s l q x ∧ e = .returned (.tuple #[u, .int .i64 x.2]) ∧ w'.ownsRow w.heap.size 3 1 u x.1.length (x.1.map (Value.int .i64)) ∧ Below w.heap.size w w' := by
  obtain ⟨b1, b2, b3⟩ := boxes2 w vs vq 23 37
  have HFV := hid (fun (X : World) (hX : Below w.heap.size w X) => find_Valid vs vl s l X (hs.below hX) (hl.below hX) hs1)
  have HTV := hid (fun (X : World) (hX : Below w.heap.size w X) => term_Valid' vs vq s q X (hs.below hX) (hq.below hX) hs1)
  have HS := hid hs
  have HL := hid hl
  have HQ := hid hq
  obtain ⟨sa, sc, es, -⟩ := hs.open
  obtain ⟨la, lc, el, -⟩ := hl.open
  obtain ⟨qa, qc, eq, -⟩ := hq.open
  subst es el eq
  obtain ⟨W2, hW2⟩ : ∃ W2, (w.alloc (.cells #[.slice sa s.length sc] 23)).alloc (.cells #[.slice qa q.length qc] 37) = W2 := ⟨_, rfl⟩
  rw [hW2] at b1 b2 b3
  have HB := hid b3
  have HW2 := hid hW2
  clear hs hl hq b3 hW2
  cases h1 : shelfB s l
  · have HR : Hid (RankQ s l q ([], 1)) := hid (by unfold RankQ; rw [h1]; simp)
    rw [h1] at HFV
    clear h1
    go_enter Try.func16, Try.ntmps16
    go_wp2_with fail
    rw [HW2.out]
    refine (HFV.out _ HB.out).mono ?_
    rintro e w1 ⟨rfl, hb1⟩
    have HB1 := hid (HB.out.trans (hb1.mono HB.out.size))
    clear hb1
    go_wp2
    go_ret2
    exact ⟨_, ([], 1), HR.out, rfl, World.ownsRow_nil _ _ _ _, HB1.out⟩
  · obtain ⟨f1, f2, f3, f4, f5, f6⟩ := shf_facts h1
    rw [h1] at HFV
    cases h2 : termB s q
    · have HR : Hid (RankQ s l q ([], 1)) := hid (by unfold RankQ; rw [h1, h2]; simp)
      rw [h2] at HTV
      clear h1 h2 f1 f6
      go_enter Try.func16, Try.ntmps16
      go_wp2_with fail
      rw [HW2.out]
      refine (HFV.out _ HB.out).mono ?_
      rintro e w1 ⟨rfl, hb1⟩
      have HB1 := hid (HB.out.trans (hb1.mono HB.out.size))
      have d1 := (hb1.cell (World.block_lt_of_cell? _ _ b1)).trans b1
      have d2 := (hb1.cell (World.block_lt_of_cell? _ _ b2)).trans b2
      clear hb1 b1 b2
      go_wp2_with fail
      refine (HTV.out _ HB1.out).mono ?_
      rintro e w2 ⟨rfl, hb2⟩
      have HB2 := hid (HB1.out.trans (hb2.mono HB1.out.size))
      clear hb2 d1 d2
      go_wp2
      go_ret2
      exact ⟨_, ([], 1), HR.out, rfl, World.ownsRow_nil _ _ _ _, HB2.out⟩
    · have HR : Hid (∀ Z, RankP s q l Z → RankQ s l q (Z, 0)) := hid (fun Z hZ => by unfold RankQ; rw [h1, h2]; simpa using hZ)
      have tq := termB_T h2
      have lq := (termB_facts h2).2.2.2
      rw [h2] at HTV
      have HT6 := hid f6
      clear h1 h2 f1 f6
      go_enter Try.func16, Try.ntmps16
      go_wp2_with fail
      rw [HW2.out]
      refine (HFV.out _ HB.out).mono ?_
      rintro e w1 ⟨rfl, hb1⟩
      have HB1 := hid (HB.out.trans (hb1.mono HB.out.size))
      have d1 := (hb1.cell (World.block_lt_of_cell? _ _ b1)).trans b1
      have d2 := (hb1.cell (World.block_lt_of_cell? _ _ b2)).trans b2
      clear hb1 b1 b2
      go_wp2_with fail
      refine (HTV.out _ HB1.out).mono ?_
      rintro e w2 ⟨rfl, hb2⟩
      have HB2 := hid (HB1.out.trans (hb2.mono HB1.out.size))
      have d1 := (hb2.cell (World.block_lt_of_cell? _ _ d1)).trans d1
      have d2 := (hb2.cell (World.block_lt_of_cell? _ _ d2)).trans d2
      have HRK := hid (find_ranked w.heap.size (w.heap.size + 1) _ _ _ s q l w2 (HS.out.below HB2.out) (HQ.out.below HB2.out) (HL.out.below HB2.out) d1 d2 f2 f3 tq lq HT6.out (by omega) (by omega))
      unfold fnO at HRK
      clear hb2 d1 d2 tq
      go_wp2_with fail
      refine HRK.out.mono ?_
      rintro e w3 ⟨u, Z, hz, rfl, ho, hb3⟩
      have HQZ := hid (HR.out Z hz)
      have HO := hid (owns_base ho HB2.out.size)
      have HB3 := hid (HB2.out.trans (hb3.mono HB2.out.size))
      clear hz ho hb3
      go_wp2
      go_ret2
      exact ⟨_, (Z, 0), HQZ.out, rfl, HO.out, HB3.out⟩
set_option maxHeartbeats 1000000 in
theorem ref5_closeness (vs va vb : Value) (s : Sg) (a b : List Int) (w : World) (hs : SignAt w vs s) (ra : Ints w va a) (rb : Ints w vb b) (ha : IsT s 12 a) (hb : IsT s 12 b) (hsl : s.length ≤ 12) (hs0 : 0 < s.length) (hla : a.length ≤ 60) (hlb : b.length ≤ 60) :
    Calls Try.prog 48 #[vs, va, vb] w fun e w' => e = .returned (.int .i64 (closN s a b)) ∧ Below w.heap.size w w' := by
  have HC := hid (ref2_Common vs va vb s a b w hs ra rb ha hb hsl hs0 hla hlb)
  have hcl := (comW_len s a b []).1
  unfold closN
  obtain ⟨L, hL⟩ : ∃ L, (comW s a b []).1 = L := ⟨_, rfl⟩
  rw [hL] at HC hcl
  rw [hL]
  clear hs ra rb ha hb hL
  go_enter Try.func48, Try.ntmps48
  go_wp2_with fail
  refine HC.out.mono ?_
  rintro e w1 ⟨u, rfl, hown, hb1⟩
  obtain ⟨ua, uc, rfl, -, -, -, UC⟩ := (Ints.of_owns hown (by omega)).open
  have UC := hid UC
  have HB := hid hb1
  clear hown hb1
  go_wp2
  go_loop [8, 9] (fun c i => ∃ k : Nat, k ≤ L.length ∧ i = .int .i64 k ∧ c = .int .i64 (symN (L.take k) : Nat)) (fun _ i => L.length - (intOf i).toNat)
  case atStart => exact ⟨0, by omega, rfl, by simp [symN]⟩
  case round =>
    obtain ⟨k, hk, rfl, rfl⟩ := hrel
    by_cases hlt : k < L.length
    · obtain ⟨b, o, rfl, hc⟩ := UC.out k hlt
      have hsn := symN_snoc (L.take k) L[k]
      rw [← List.take_succ_eq_append_getElem hlt] at hsn
      have hle := symN_le (L.take k)
      have hle2 : (L.take k).length ≤ k := List.length_take_le _ _
      obtain ⟨x, hx⟩ : ∃ x, L[k] = x := ⟨_, rfl⟩
      obtain ⟨c, hcc⟩ : ∃ c, symN (L.take k) = c := ⟨_, rfl⟩
      rw [hx] at hc hsn
      rw [hcc] at hsn hle
      rw [hcc]
      have hck : c ≤ k := by omega
      have HSN := hid hsn
      clear hsn hle hle2 hx hcc
      by_cases h0 : 0 ≤ x
      · have hd0 : decide (0 ≤ x) = true := by simpa using h0
        go_wp2
        go_round
        case rel => exact ⟨k + 1, by omega, by go_num, by rw [HSN.out, if_pos h0]; go_num⟩
        case measure => simp [intOf]; omega
      · have hd0 : decide (0 ≤ x) = false := by simpa using h0
        go_wp2
        go_round
        case rel => exact ⟨k + 1, by omega, by go_num, by rw [HSN.out, if_neg h0]; rfl⟩
        case measure => simp [intOf]; omega
    · have hkl : L.take k = L := List.take_of_length_le (by omega)
      rw [hkl]
      clear hkl
      go_wp2
      go_ret
      exact ⟨rfl, HB.out⟩
set_option maxHeartbeats 400000 in
theorem ref5_Closeness (vs vt vq : Value) (s : Sg) (t q : List Int) (w : World) (hs : SignAt w vs s) (ht : Ints w vt t) (hq : Ints w vq q) :
    Calls Try.prog 21 #[vs, vt, vq] w fun e w' => e = .returned (.tuple #[.int .i64 (closeB s t q).1, .int .i64 (closeB s t q).2]) ∧ Below w.heap.size w w' := by
  have HT := hid (ref1_Valid vs vt s t w hs ht)
  have HQ := hid (fun n => ref1_Valid vs vq s q (w.drewN n) (hs.drewN n) (hq.drewN n))
  cases h1 : termB s t
  · have HF : Hid (closeB s t q = (0, 1)) := hid (by unfold closeB; rw [h1]; rfl)
    rw [h1] at HT
    clear h1
    go_enter Try.func21, Try.ntmps21
    go_wp2_with fail
    refine HT.out.mono ?_
    rintro e w1 ⟨rfl, n, rfl⟩
    go_wp2
    go_ret2
    exact ⟨by rw [HF.out]; rfl, below_self_drewN w n⟩
  · rw [h1] at HT
    cases h2 : termB s q
    · have HF : Hid (closeB s t q = (0, 1)) := hid (by unfold closeB; rw [h1, h2]; rfl)
      rw [h2] at HQ
      clear h1 h2
      go_enter Try.func21, Try.ntmps21
      go_wp2_with fail
      refine HT.out.mono ?_
      rintro e w1 ⟨rfl, n, rfl⟩
      go_wp2_with fail
      refine (HQ.out n).mono ?_
      rintro e w2 ⟨rfl, k, rfl⟩
      go_wp2
      go_ret2
      exact ⟨by rw [HF.out]; rfl, by first | exact below_self_drewN w (n + k) | exact below_drewN (below_self_drewN w n) k⟩
    · obtain ⟨f1, f2, f3, f4⟩ := termB_facts h1
      obtain ⟨_, _, _, f5⟩ := termB_facts h2
      have hT := termB_T h1
      have hQ := termB_T h2
      have HF : Hid (closeB s t q = ((closN s t q : Int), 0)) := hid (by unfold closeB closN; rw [h1, h2]; rfl)
      have HC := hid (fun (X : World) (hX : Below w.heap.size w X) => ref5_closeness vs vt vq s t q X (hs.below hX) (ht.below hX) (hq.below hX) hT hQ f3 (by omega) f4 f5)
      rw [h2] at HQ
      rw [HF.out]
      clear h1 h2 hT hQ f1
      go_enter Try.func21, Try.ntmps21
      go_wp2_with fail
      refine HT.out.mono ?_
      rintro e w1 ⟨rfl, n, rfl⟩
      go_wp2_with fail
      refine (HQ.out n).mono ?_
      rintro e w2 ⟨rfl, k, rfl⟩
      have hb := below_self_drewN w (n + k)
      go_wp2_with fail
      refine (HC.out _ hb).mono ?_
      rintro e w3 ⟨rfl, hb3⟩
      have HB := hid (hb.trans (hb3.mono hb.size))
      clear hb hb3
      go_wp2
      go_ret2
      exact ⟨rfl, HB.out⟩
theorem law5_symbols (v : Value) (L : List Int) (w : World) (hv : Ints w v L) :
    Calls Try.prog 22 #[v] w fun e w' => e = .returned (.int .i64 (symN L : Nat)) ∧ w = w' := by
  obtain ⟨ua, uc, rfl, -, hul, -, UC⟩ := hv.open
  have UC := hid UC
  clear hv
  go_enter Try.func22, Try.ntmps22
  go_wp2
  go_loop [3, 4] (fun c i => ∃ k : Nat, k ≤ L.length ∧ i = .int .i64 k ∧ c = .int .i64 (symN (L.take k) : Nat)) (fun _ i => L.length - (intOf i).toNat)
  case atStart => exact ⟨0, by omega, rfl, by simp [symN]⟩
  case round =>
    obtain ⟨k, hk, rfl, rfl⟩ := hrel
    by_cases hlt : k < L.length
    · obtain ⟨b, o, rfl, hc⟩ := UC.out k hlt
      have hsn := symN_snoc (L.take k) L[k]
      rw [← List.take_succ_eq_append_getElem hlt] at hsn
      have hle := symN_le (L.take k)
      have hle2 : (L.take k).length ≤ k := List.length_take_le _ _
      obtain ⟨x, hx⟩ : ∃ x, L[k] = x := ⟨_, rfl⟩
      obtain ⟨c, hcc⟩ : ∃ c, symN (L.take k) = c := ⟨_, rfl⟩
      rw [hx] at hc hsn
      rw [hcc] at hsn hle
      rw [hcc]
      have hck : c ≤ k := by omega
      have HSN := hid hsn
      clear hsn hle hle2 hx hcc
      by_cases h0 : 0 ≤ x
      · have hd0 : decide (0 ≤ x) = true := by simpa using h0
        go_wp2
        go_round
        case rel => exact ⟨k + 1, by omega, by go_num, by rw [HSN.out, if_pos h0]; go_num⟩
        case measure => simp [intOf]; omega
      · have hd0 : decide (0 ≤ x) = false := by simpa using h0
        go_wp2
        go_round
        case rel => exact ⟨k + 1, by omega, by go_num, by rw [HSN.out, if_neg h0]; rfl⟩
        case measure => simp [intOf]; omega
    · have hkl : L.take k = L := List.take_of_length_le (by omega)
      rw [hkl]
      clear hkl
      go_wp2
      go_ret
      exact ⟨rfl, rfl⟩
end Go.Proofs.Ytldgkidojepdlaa
