/-
  WHAT IT HOLDS: contract of solve of package unify's solver: it ends with most general binds, or there is no unifier. Conditions: the solver reads as data and is empty; both are terms of at most 60 numbers; a valid sign.
  WHAT IT HOLDS: contracts of named and apart of package unify, and of full of its solver. Conditions: the arguments read as data; numbers are small.
-/
import Derived.Deep.RegionLaw
import Derived.Test.YtmpjaakkjhmpmaaGreatDoorZRShortCites17
import Derived.Test.YtmpjaakkjhmpmaaGreatDoorZRShortCites6
import Derived.Test.YtmpjaakkjhmpmaaGreatDoorZRShortCites16
namespace Go.Proofs.YtmpjaakkjhmpmaaGreatDoor
open Go Go.RowKit Go.Maps
abbrev ET := VT × VT
def eCells (st : List ET) : List Value := st.flatMap fun e => [e.1.1, e.2.1]
def ePrs (st : List ET) : List Pr := st.map fun e => (e.1.2, e.2.2)
theorem eCells_len (st : List ET) : (eCells st).length = st.length * 2 := by
  induction st with
  | nil => rfl
  | cons e r ih => simp [eCells] at ih ⊢; omega
theorem eCells_append (a b : List ET) : eCells (a ++ b) = eCells a ++ eCells b := by simp [eCells]
theorem ePrs_append (a b : List ET) : ePrs (a ++ b) = ePrs a ++ ePrs b := by simp [ePrs]
theorem eCells_top (st : List ET) (e : ET) : (eCells (st ++ [e]))[st.length * 2]? = some e.1.1 ∧ (eCells (st ++ [e]))[st.length * 2 + 1]? = some e.2.1 := by
  rw [eCells_append]
  have h := eCells_len st
  constructor
  · rw [List.getElem?_append_right (by omega), h]; simp [eCells]
  · rw [List.getElem?_append_right (by omega), h]
    rw [show st.length * 2 + 1 - st.length * 2 = 1 by omega]; rfl
/-- the arguments of a part, as slices of it. -/
def ents (pb po : Nat) : Nat → List (List Int) → List VT
  | _, [] => []
  | o, z :: zs => (.slice (some ⟨pb, po + o, none⟩) z.length z.length, z) :: ents pb po (o + z.length) zs
theorem ents_len (pb po : Nat) : ∀ (zs : List (List Int)) (o : Nat), (ents pb po o zs).length = zs.length
  | [], _ => rfl
  | z :: zs, o => by simp [ents, ents_len pb po zs]
theorem ents_snd (pb po : Nat) : ∀ (zs : List (List Int)) (o : Nat), (ents pb po o zs).map Prod.snd = zs
  | [], _ => rfl
  | z :: zs, o => by simp [ents, ents_snd pb po zs]
theorem ents_get (pb po : Nat) : ∀ (zs : List (List Int)) (o k : Nat) (h : k < zs.length), (ents pb po o zs)[k]? = some (.slice (some ⟨pb, po + (o + (zs.take k).flatten.length), none⟩) zs[k].length zs[k].length, zs[k])
  | [], _, _, h => by simp at h
  | z :: zs, o, 0, _ => by simp [ents]
  | z :: zs, o, k + 1, h => by
    have := ents_get pb po zs (o + z.length) k (by simpa using h)
    simp only [ents, List.getElem?_cons_succ, this, List.take_succ_cons, List.flatten_cons, List.length_append, List.getElem_cons_succ]
    rw [show o + z.length + (zs.take k).flatten.length = o + (z.length + (zs.take k).flatten.length) by omega]
theorem ents_ints {w : World} {pb po n cap : Nat} {t : List Int} (h : Ints w (.slice (some ⟨pb, po, none⟩) n cap) t) : ∀ (zs : List (List Int)) (o : Nat) (r : List Int), t.drop o = zs.flatten ++ r → ∀ e ∈ ents pb po o zs, Ints w e.1 e.2
  | [], _, _, _, e, he => by cases he
  | z :: zs, o, r, hd, e, he => by
    rw [List.flatten_cons, List.append_assoc] at hd
    rcases List.mem_cons.1 he with rfl | he
    · exact h.sub hd (Nat.le_refl _)
    · exact ents_ints h zs (o + z.length) r (drop_more hd) e he
theorem zip_prs {xs ys : List VT} : ePrs (xs.zip ys) = (xs.map Prod.snd).zip (ys.map Prod.snd) := by
  unfold ePrs
  rw [List.zip_map]
  apply List.map_congr_left
  intro e _
  rfl
theorem owns_take {w : World} {base : Nat} {e : TypeId} {k : Nat} {g : Nat} {n cap : Nat} {xs ys : List Value} {m : Nat} (h : w.ownsRow base e k (.slice (some ⟨g, 0, none⟩) n cap) n (xs ++ ys)) (hm : m ≤ n) (hx : xs.length = m * k) : w.ownsRow base e k (.slice (some ⟨g, 0, none⟩) m cap) m xs := by
  obtain ⟨h1, h2⟩ := h
  refine ⟨hx, ?_⟩
  rcases h2 with ⟨h2, _⟩ | ⟨g', cap', cur, r1, r2, r3, r4, r5, r6, r7⟩
  · cases h2
  · simp only [Value.slice.injEq, Option.some.injEq, Addr.mk.injEq] at r1
    obtain ⟨⟨rfl, _⟩, _, rfl⟩ := r1
    refine Or.inr ⟨_, _, cur, rfl, r2, r3, by omega, r5, r6, ?_⟩
    have : cur.toList.take (m * k) = (cur.toList.take (n * k)).take (m * k) := by
      rw [List.take_take, Nat.min_eq_left (Nat.mul_le_mul_right k hm)]
    rw [this, r7, ← hx, List.take_left]
theorem owns_cell {w : World} {base : Nat} {e : TypeId} {k : Nat} {g : Nat} {n cap : Nat} {xs : List Value} (h : w.ownsRow base e k (.slice (some ⟨g, 0, none⟩) n cap) n xs) {j : Nat} {u : Value} (hj : xs[j]? = some u) : w.cell? ⟨g, j, none⟩ = some u := by
  obtain ⟨h1, h2⟩ := h
  rcases h2 with ⟨h2, _⟩ | ⟨g', cap', cur, r1, r2, r3, r4, r5, r6, r7⟩
  · cases h2
  · simp only [Value.slice.injEq, Option.some.injEq, Addr.mk.injEq] at r1
    obtain ⟨⟨rfl, _⟩, _, rfl⟩ := r1
    rw [cell_of_row w _ j cur e (0, 0) r3]
    rw [← r7, List.getElem?_take] at hj
    split at hj
    · simpa using hj
    · cases hj
theorem grown_drewN {w w' : World} {r : Option Nat} (h : w.grownBy w' r) (n : Nat) : w.grownBy (w'.drewN n) r := grown_trans h (grown_of_below (below_self_drewN _ _))
theorem T_lt24 {s : Sg} {t : List Int} (h : IsT s 24 t) : ∀ z ∈ t, z < s.length := by
  intro z hz
  rcases h.range z hz with h | h <;> omega
theorem row_two (w : World) (x y : Value) (t : TypeId) : RowK (w.alloc (.cells #[x, y] t)) (.slice (some ⟨w.heap.size, 0, none⟩) 1 1) 2 1 [x, y] := by
  refine ⟨rfl, _, _, rfl, Nat.le_refl _, by omega, (fun h => by cases h), fun j u hj => ⟨_, _, rfl, ?_⟩⟩
  rw [World.cell?_alloc_new]
  match j with
  | 0 => simpa using hj
  | 1 => simpa using hj
  | j + 2 => simp at hj
theorem zip_get {α β : Type} {xs : List α} {ys : List β} {zs : List (α × β)} (h : xs.zip ys = zs) {k : Nat} {x : α} {y : β} (hx : xs[k]? = some x) (hy : ys[k]? = some y) : zs[k]? = some (x, y) := by
  subst h
  simp [List.getElem?_zip_eq_some, hx, hy]
theorem eCells_next (st : List ET) {EN : List ET} {k : Nat} {e : ET} (h : EN[k]? = some e) : eCells (st ++ EN.take (k + 1)) = eCells (st ++ EN.take k) ++ [e.1.1, e.2.1] := by
  have hl := (List.getElem?_eq_some_iff.1 h)
  obtain ⟨h1, h2⟩ := hl
  rw [List.take_succ_eq_append_getElem h1, h2, ← List.append_assoc, eCells_append (st ++ EN.take k)]
  rfl
theorem below_self_drew (w : World) : Below w.heap.size w w.drew := (Below.refl _ _).drew
theorem _root_.Go.World.grownBy.trans_below' {w w' w2 : World} {r : Option Nat} (h : w.grownBy w' r) (k : Below w'.heap.size w' w2) : w.grownBy w2 r := grown_trans h (grown_of_below k)
theorem el_two : ElemAt Tryz.prog 224 (.agg #[.slice none 0 0, .slice none 0 0]) 2 48 := by unfold ElemAt; kernel_rfl
set_option maxHeartbeats 2000000 in
set_option maxRecDepth 100000 in
theorem unify_solve (px bm : Nat) (vs va vb : Value) (s : Sg) (M0 : Int → Option VT) (a b : List Int) (w : World) (hsg : signB s = true) (hT : IsT s 24 a) (hU : IsT s 24 b) (hla : a.length ≤ 60) (hlb : b.length ≤ 60) (ra : Ints w va a) (rb : Ints w vb b)
    (hS : SolvW w px bm vs s M0) (hM0 : mOf M0 = noM) :
    Calls Tryz.prog 192 #[.pointer (some ⟨px, 0, none⟩), va, vb] w fun e w' => w.grownBy w' (some bm) ∧ ((e = .returned (.bool false) ∧ NoU s a b) ∨
      (e = .returned (.bool true) ∧ ∃ M n, TMap w' bm n M ∧ Mgu s a b (mOf M) ∧ ∀ x v l, M x = some (v, l) → Ints w v l)) := by
  obtain ⟨sa, sc, hse, -, -, -, SC⟩ := hS.sgn.open
  subst hse
  have hs1 := signB_len hsg
  obtain ⟨sb, so, rfl, -⟩ := SC 0 (by omega)
  have HSC := hid SC
  clear SC
  have hbm : bm < w.heap.size := by obtain ⟨n, h⟩ := hS.map; exact h.lt
  obtain ⟨aa, ac, hae, -⟩ := ra.open
  subst hae
  obtain ⟨ba, bc, hbe, -⟩ := rb.open
  subst hbe
  have HRA := hid ra
  have HRB := hid rb
  have HI0 := hid (UInv.start hT hU hla hlb)
  have HS := hid hS
  have HM0 := hid hM0
  have HSG := hid hsg
  clear ra rb hT hU hS hM0 hsg
  go_enter Tryz.func192, Tryz.ntmps192
  have HOW0 := hid (World.ownsRow_lit (base := w.heap.size) (e := 224) (size := 2) w #[.slice aa a.length ac, .slice ba b.length bc] 1 (Nat.le_refl _) (by simp [maxLen]) rfl)
  go_wp2
  go_loopg [7] (meas (mOf M0) [(a, b)]) (fun k lv wr => ∃ (st : List ET) (M : Int → Option VT) (cnt : Nat), k = meas (mOf M) (ePrs st) ∧ UInv s a b (mOf M) (ePrs st) ∧ TMap wr bm cnt M ∧ (∀ x v l, M x = some (v, l) → Ints w v l) ∧ (∀ e ∈ st, Ints w e.1.1 e.1.2 ∧ Ints w e.2.1 e.2.2) ∧
      wr.ownsRow w.heap.size 224 2 lv st.length (eCells st) ∧ w.grownBy wr (some bm))
  case atStart =>
    obtain ⟨n0, hn0⟩ := HS.out.map
    refine ⟨[((.slice aa a.length ac, a), (.slice ba b.length bc, b))], M0, n0, rfl, ?_, hn0.alloc _, HS.out.its, by simpa using ⟨HRA.out, HRB.out⟩, HOW0.out, World.grownBy_alloc _ _ _⟩
    have := HI0.out
    rw [← HM0.out] at this
    exact this
  case round =>
    clear HOW0
    obtain ⟨st, M, cnt, rfl, hI, hM, hMi, hE, hown, hg⟩ := hrel
    obtain ⟨n0, hTM0⟩ := HS.out.map
    have HTM0 := hid hTM0
    have hgs := hg.size
    have HI := hid hI
    have HMI := hid hMi
    have HE := hid hE
    have hlen := hI.len
    clear hI hMi hE
    rcases List.eq_nil_or_concat st with rfl | ⟨st0, ⟨⟨vx, tx⟩, ⟨vy, ty⟩⟩, rfl⟩
    · have hlv : ∃ q c, u7 = .slice q 0 c := by
        rcases hown.2 with ⟨h, _⟩ | ⟨g, cap, _, h, _⟩
        · exact ⟨_, _, h⟩
        · exact ⟨_, _, h⟩
      obtain ⟨lq, lc, rfl⟩ := hlv
      have HEND : Hid (Mgu s a b (mOf M)) := hid HI.out.done
      clear hown
      go_wp2
      go_ret
      exact ⟨hg, Or.inr ⟨rfl, M, cnt, hM, HEND.out, HMI.out⟩⟩
    · have hs1 : (st0 ++ [((vx, tx), (vy, ty))]).length = st0.length + 1 := by simp
      simp only [List.concat_eq_append] at *
      rw [hs1] at hown
      obtain ⟨g, cap, rfl, hg0, hgc⟩ := owns_some hown (by omega)
      have hct := owns_cell hown (j := st0.length * 2) (eCells_top st0 ((vx, tx), (vy, ty))).1
      have hct2 := owns_cell hown (j := st0.length * 2 + 1) (eCells_top st0 ((vx, tx), (vy, ty))).2
      rw [eCells_append] at hown
      have hown0 := owns_take hown (m := st0.length) (by omega) (eCells_len st0)
      have hlen0 : st0.length ≤ 5000 := by rw [ePrs_append] at hlen; simp [ePrs] at hlen; omega
      have HOWN := hid hown0
      have HTM := hid hM
      have HHS := hid hs1
      clear hown hown0 hs1 hM hTM0
      have hlast := HE.out ((vx, tx), (vy, ty)) (by simp)
      obtain ⟨xa, xc, hxe, -⟩ := hlast.1.open
      obtain ⟨ya, yc, hye, -⟩ := hlast.2.open
      simp only at hxe hye
      subst hxe hye
      have HPX := hid hlast.1
      have HPY := hid hlast.2
      have HPRS := hid (HI.out.prs (tx, ty) (by simp [ePrs]))
      have hTMr := HTM.out
      have hSr : SolvW wr px bm (.slice (some ⟨sb, so, none⟩) s.length sc) s M := ⟨HTM0.out.cell rfl hg HS.out.c0, HTM0.out.cell rfl hg HS.out.c1, HTM0.out.signAt rfl hg HS.out.sgn, ⟨cnt, hTMr⟩, fun x v l h => HTM0.out.ints rfl hg (HMI.out x v l h)⟩
      have hkx := HTM0.out.ints rfl hg HPX.out
      have hky := HTM0.out.ints rfl hg HPY.out
      have HLX := hid (fun W (hb : Below wr.heap.size wr W) => unify_look px bm _ _ s M tx W (hSr.below hb) HI.out.ok (hkx.below hb) HPRS.out.1)
      have HLY := hid (fun W (hb : Below wr.heap.size wr W) => unify_look px bm _ _ s M ty W (hSr.below hb) HI.out.ok (hky.below hb) HPRS.out.2.1)
      obtain ⟨r, hr, hr24⟩ := HI.out.ok.rank
      obtain ⟨y1, y2, y3⟩ := lookT_ok HMI.out HI.out.ok hr 25 _ ty HPY.out HPRS.out.2.1 HPRS.out.2.2.2 (fun z _ _ => by have := hr24 z; omega)
      obtain ⟨x1, x2, x3⟩ := lookT_ok HMI.out HI.out.ok hr 25 _ tx HPX.out HPRS.out.1 HPRS.out.2.2.1 (fun z _ _ => by have := hr24 z; omega)
      obtain ⟨⟨vp, tp⟩, hP⟩ : ∃ z, lookT M 25 (.slice xa tx.length xc, tx) = z := ⟨_, rfl⟩
      obtain ⟨⟨vq, tq⟩, hQ⟩ : ∃ z, lookT M 25 (.slice ya ty.length yc, ty) = z := ⟨_, rfl⟩
      rw [hP] at x1 x2 x3 HLX
      rw [hQ] at y1 y2 y3 HLY
      simp only at x1 x2 x3 y1 y2 y3
      obtain ⟨cp, rp, rfl⟩ : ∃ c r, tp = c :: r := by
        cases tp with
        | nil => exact absurd rfl x2.T.nonempty
        | cons c r => exact ⟨c, r, rfl⟩
      obtain ⟨cq, rq, rfl⟩ : ∃ c r, tq = c :: r := by
        cases tq with
        | nil => exact absurd rfl y2.T.nonempty
        | cons c r => exact ⟨c, r, rfl⟩
      obtain ⟨pa, pc, hpe, p1, p2, -, PC⟩ := x1.open
      obtain ⟨qa, qc, hqe, q1, q2, -, QC⟩ := y1.open
      subst hpe hqe
      obtain ⟨pb, po, rfl, hcp⟩ := PC 0 (by simp)
      obtain ⟨qb, qo, rfl, hcq⟩ := QC 0 (by simp)
      simp only [Nat.add_zero, List.getElem_cons_zero] at hcp hcq
      have hcp1 := HTM0.out.cell rfl hg hcp
      have hcq1 := HTM0.out.cell rfl hg hcq
      have HCP := hid hcp1
      have HCQ := hid hcq1
      have hpl : (cp :: rp).length ≤ 60 := x2.len
      have hql : (cq :: rq).length ≤ 60 := y2.len
      have hpr := x2.T.range cp (by simp)
      have hqr := y2.T.range cq (by simp)
      have HX1 := hid x1
      have HX2 := hid x2
      have HX3 := hid (x3 cp rfl)
      have HY1 := hid y1
      have HY2 := hid y2
      have HY3 := hid (y3 cq rfl)
      have HSW := hid hSr
      clear hP hQ PC QC hcp hcq hr hr24 x1 x2 x3 y1 y2 y3 hkx hky hTMr hlast
      go_wp2_with fail
      have hb1 : Below wr.heap.size wr (wr.alloc (.cells #[.slice xa tx.length xc, .slice ya ty.length yc] 224)) := (Below.refl _ _).alloc (Nat.le_refl _) _
      have ht0 : (wr.alloc (.cells #[.slice xa tx.length xc, .slice ya ty.length yc] 224)).cell? ⟨wr.heap.size, 0, none⟩ = some (.slice xa tx.length xc) := by rw [World.cell?_alloc_new]; rfl
      have ht1 : (wr.alloc (.cells #[.slice xa tx.length xc, .slice ya ty.length yc] 224)).cell? ⟨wr.heap.size, 1, none⟩ = some (.slice ya ty.length yc) := by rw [World.cell?_alloc_new]; rfl
      have hsz1 : (wr.alloc (.cells #[.slice xa tx.length xc, .slice ya ty.length yc] 224)).heap.size = wr.heap.size + 1 := by simp
      generalize wr.alloc (.cells #[.slice xa tx.length xc, .slice ya ty.length yc] 224) = W1 at *
      have hcp2 := (hb1.cell (World.block_lt_of_cell? _ _ hcp1)).trans hcp1
      have hcq2 := (hb1.cell (World.block_lt_of_cell? _ _ hcq1)).trans hcq1
      have hc12 := (hb1.cell (World.block_lt_of_cell? _ _ HSW.out.c1)).trans HSW.out.c1
      have hc02 := (hb1.cell (World.block_lt_of_cell? _ _ HSW.out.c0)).trans HSW.out.c0
      have HB1 := hid hb1
      have HSZ := hid hsz1
      clear hb1 hcp1 hcq1 hct hct2 hSr hsz1
      go_quiet ((first | (go_at_call 212; with_reducible exact Calls.quiet_of (HLX.out _ (below_drewN HB1.out _))) | (go_at_call 212; with_reducible exact Calls.quiet_of (HLY.out _ (below_drewN HB1.out _)))))
      clear HLX HLY ht0 ht1
      by_cases hq0 : cq < 0
      · obtain ⟨hrq0, -⟩ := HY2.out.T.head_var hq0
        subst hrq0
        have dq : decide (cq < 0) = true := by simpa using hq0
        by_cases hp0 : cp = cq
        · subst hp0
          obtain ⟨hrp0, -⟩ := HX2.out.T.head_var hq0
          subst hrp0
          have dpq : (cp == cp) = true := by simp
          have hIA := HI.out
          rw [ePrs_append] at hIA
          have HSTEP := hid (hIA.drop HX2.out HY2.out)
          have HE0 : Hid (∀ e ∈ st0, Ints w e.1.1 e.1.2 ∧ Ints w e.2.1 e.2.2) := hid fun e he => HE.out e (by simp [he])
          clear hIA
          go_wp2_with fail
          go_quiet (fail)
          go_wp2_with fail
          go_roundg (meas (mOf M) (ePrs st0))
          case measure => rw [ePrs_append]; exact HSTEP.out.2
          case rel =>
            exact ⟨st0, M, cnt, rfl, HSTEP.out.1, HTM.out.belowS (below_drewN (below_drewN HB1.out _) _), HMI.out, HE0.out, owns_below HOWN.out (below_drewN (below_drewN HB1.out _) _), grown_trans hg (grown_of_below (below_drewN (below_drewN HB1.out _) _))⟩
        · have dpq : (cp == cq) = false := by simpa using hp0
          have hv24 : -24 ≤ cq := by omega
          have hIA := HI.out
          rw [ePrs_append] at hIA
          have hmv := HY3.out hq0
          have HOC := hid (fun (hr : Reach (mOf M) (cp :: rp) cq) => hIA.occurs (Or.inr ⟨HY2.out, HX2.out⟩) hq0 hmv (fun z hz hh => by simp at hh; subst hh; exact ⟨hp0, HX3.out hz⟩) hr)
          have HBI := hid (fun (hr : ¬ Reach (mOf M) (cp :: rp) cq) => hIA.bind (Or.inr ⟨HY2.out, HX2.out⟩) hq0 hmv hr)
          have hxc := HX1.out
          have hbw : Below wr.heap.size wr W1 := HB1.out
          have HCO := hid (fun n => unify_comes px bm _ _ s M cq (cp :: rp) (W1.drewN n) hq0 (by omega) HI.out.ok HX2.out.T hpl ((HTM0.out.ints rfl hg HX1.out).below (below_drewN HB1.out _)) (HSW.out.below (below_drewN HB1.out _)))
          have HE0 : Hid (∀ e ∈ st0, Ints w e.1.1 e.1.2 ∧ Ints w e.2.1 e.2.2) := hid fun e he => HE.out e (by simp [he])
          clear hIA hmv hxc hbw hp0
          go_wp2_with fail
          go_quiet (fail)
          go_wp2_with fail
          refine (HCO.out _).mono ?_
          rintro e w3 ⟨bb, rfl, hbb, hb3'⟩
          have hb3 : Below wr.heap.size wr w3 := (below_drewN HB1.out _).trans (hb3'.mono (by show _ ≤ W1.heap.size; exact HB1.out.size))
          cases bb with
          | true =>
            have HEND : Hid (NoU s a b) := hid (HOC.out (hbb.1 rfl))
            have HGG : Hid (w.grownBy w3 (some bm)) := hid (grown_trans hg (grown_of_below hb3))
            clear hbb hb3' hb3
            go_wp2
            go_ret
            exact ⟨HGG.out, Or.inl ⟨rfl, HEND.out⟩⟩
          | false =>
            have hstep := HBI.out (fun hr => by simpa using hbb.2 hr)
            have hM3 := HTM.out.belowS hb3
            have hg3 : w.grownBy w3 (some bm) := grown_trans hg (grown_of_below hb3)
            have hc13 := (hb3.cell (World.block_lt_of_cell? _ _ HSW.out.c1)).trans HSW.out.c1
            have hq3 := (hb3.cell (World.block_lt_of_cell? _ _ HCQ.out)).trans HCQ.out
            have hown3 := owns_below HOWN.out hb3
            have HKEY := int_key cq (wf_small (by omega) (by omega))
            obtain ⟨w5, hup', hM5, hg5⟩ := hM3.drew.run_update (int_keyed Tryz.underlying3) eI_inj Tryz.underlying153 cq ((.slice (some ⟨pb, po, none⟩) (rp.length + 1) pc, cp :: rp) : VT) HKEY
            have hup : (Instr.mapUpdate 153 (.map (some bm)) (.int .i64 cq) (.slice (some ⟨pb, po, none⟩) (rp.length + 1) pc)).run Tryz.prog w3.drew = .ok () w5 := hup'
            have hg5' : w3.grownBy w5 (some bm) := grown_trans (grown_of_below (below_self_drew w3)) hg5
            have HMU := hid (mOf_upd M cq (.slice (some ⟨pb, po, none⟩) (rp.length + 1) pc) (cp :: rp))
            have hc15 := hM3.cell rfl hg5' hc13
            have hq5 := hM3.cell rfl hg5' hq3
            have HSTEP := hid hstep
            have HG5 := hid (grown_trans hg3 hg5')
            have HM5 := hid hM5
            have HO5 := hid (owns_grown hown3 hg5' (fun q hq => by cases hq; exact hbm))
            have HI5 : Hid (∀ x v l, (fun y => if y = cq then some ((.slice (some ⟨pb, po, none⟩) (rp.length + 1) pc, cp :: rp) : VT) else M y) x = some (v, l) → Ints w v l) := hid (by
              intro x v l hx
              by_cases e : x = cq
              · subst e
                simp at hx
                obtain ⟨rfl, rfl⟩ := hx
                exact HX1.out
              · simp only [if_neg e] at hx
                exact HMI.out x v l hx)
            clear hbb hb3' hb3 hM3 hg3 hup' HKEY hstep hown3 hM5 hg5 hg5'
            go_wp2_with fail
            go_region_held3 (fun w' => w'.cell? ⟨px, 1, none⟩ = some (.map (some bm)) ∧ w'.cell? ⟨qb, qo, none⟩ = some (.int .i64 cq)) (first | exact ⟨by assumption, by assumption⟩ | go_keep) (fail)
            go_wp2
            go_roundg (meas (updM (mOf M) cq (cp :: rp)) (ePrs st0))
            case measure => rw [ePrs_append]; exact HSTEP.out.2
            case rel => exact ⟨st0, _, _, by rw [HMU.out], by rw [HMU.out]; exact HSTEP.out.1, HM5.out, HI5.out, HE0.out, HO5.out, HG5.out⟩
      · have hq0' : 0 ≤ cq := by omega
        by_cases hp0 : cp < 0
        · obtain ⟨hrp0, -⟩ := HX2.out.T.head_var hp0
          subst hrp0
          have dq : decide (cq < 0) = false := by simpa using hq0'
          have dp : decide (cp < 0) = true := by simpa using hp0
          have dpq : (cq == cp) = false := by simp; omega
          have hv24 : -24 ≤ cp := by omega
          have hIA := HI.out
          rw [ePrs_append] at hIA
          have hmv := HX3.out hp0
          have HOC := hid (fun (hr : Reach (mOf M) (cq :: rq) cp) => hIA.occurs (Or.inl ⟨HX2.out, HY2.out⟩) hp0 hmv (fun z hz hh => by simp at hh; omega) hr)
          have HBI := hid (fun (hr : ¬ Reach (mOf M) (cq :: rq) cp) => hIA.bind (Or.inl ⟨HX2.out, HY2.out⟩) hp0 hmv hr)
          have HCO := hid (fun n => unify_comes px bm _ _ s M cp (cq :: rq) (W1.drewN n) hp0 (by omega) HI.out.ok HY2.out.T hql ((HTM0.out.ints rfl hg HY1.out).below (below_drewN HB1.out _)) (HSW.out.below (below_drewN HB1.out _)))
          have HE0 : Hid (∀ e ∈ st0, Ints w e.1.1 e.1.2 ∧ Ints w e.2.1 e.2.2) := hid fun e he => HE.out e (by simp [he])
          clear hIA hmv
          go_wp2_with fail
          go_quiet (fail)
          go_wp2_with fail
          refine (HCO.out _).mono ?_
          rintro e w3 ⟨bb, rfl, hbb, hb3'⟩
          have hb3 : Below wr.heap.size wr w3 := (below_drewN HB1.out _).trans (hb3'.mono (by show _ ≤ W1.heap.size; exact HB1.out.size))
          cases bb with
          | true =>
            have HEND : Hid (NoU s a b) := hid (HOC.out (hbb.1 rfl))
            have HGG : Hid (w.grownBy w3 (some bm)) := hid (grown_trans hg (grown_of_below hb3))
            clear hbb hb3' hb3
            go_wp2
            go_ret
            exact ⟨HGG.out, Or.inl ⟨rfl, HEND.out⟩⟩
          | false =>
            have hstep := HBI.out (fun hr => by simpa using hbb.2 hr)
            have hM3 := HTM.out.belowS hb3
            have hg3 : w.grownBy w3 (some bm) := grown_trans hg (grown_of_below hb3)
            have hc13 := (hb3.cell (World.block_lt_of_cell? _ _ HSW.out.c1)).trans HSW.out.c1
            have hq3 := (hb3.cell (World.block_lt_of_cell? _ _ HCP.out)).trans HCP.out
            have hown3 := owns_below HOWN.out hb3
            have HKEY := int_key cp (wf_small (by omega) (by omega))
            obtain ⟨w5, hup', hM5, hg5⟩ := hM3.drew.run_update (int_keyed Tryz.underlying3) eI_inj Tryz.underlying153 cp ((.slice (some ⟨qb, qo, none⟩) (rq.length + 1) qc, cq :: rq) : VT) HKEY
            have hup : (Instr.mapUpdate 153 (.map (some bm)) (.int .i64 cp) (.slice (some ⟨qb, qo, none⟩) (rq.length + 1) qc)).run Tryz.prog w3.drew = .ok () w5 := hup'
            have hg5' : w3.grownBy w5 (some bm) := grown_trans (grown_of_below (below_self_drew w3)) hg5
            have HMU := hid (mOf_upd M cp (.slice (some ⟨qb, qo, none⟩) (rq.length + 1) qc) (cq :: rq))
            have hc15 := hM3.cell rfl hg5' hc13
            have hq5 := hM3.cell rfl hg5' hq3
            have HSTEP := hid hstep
            have HG5 := hid (grown_trans hg3 hg5')
            have HM5 := hid hM5
            have HO5 := hid (owns_grown hown3 hg5' (fun q hq => by cases hq; exact hbm))
            have HI5 : Hid (∀ x v l, (fun y => if y = cp then some ((.slice (some ⟨qb, qo, none⟩) (rq.length + 1) qc, cq :: rq) : VT) else M y) x = some (v, l) → Ints w v l) := hid (by
              intro x v l hx
              by_cases e : x = cp
              · subst e
                simp at hx
                obtain ⟨rfl, rfl⟩ := hx
                exact HY1.out
              · simp only [if_neg e] at hx
                exact HMI.out x v l hx)
            clear hbb hb3' hb3 hM3 hg3 hup' HKEY hstep hown3 hM5 hg5 hg5'
            go_wp2_with fail
            go_region_held3 (fun w' => w'.cell? ⟨px, 1, none⟩ = some (.map (some bm)) ∧ w'.cell? ⟨pb, po, none⟩ = some (.int .i64 cp)) (first | exact ⟨by assumption, by assumption⟩ | go_keep) (fail)
            go_wp2
            go_roundg (meas (updM (mOf M) cp (cq :: rq)) (ePrs st0))
            case measure => rw [ePrs_append]; exact HSTEP.out.2
            case rel => exact ⟨st0, _, _, by rw [HMU.out], by rw [HMU.out]; exact HSTEP.out.1, HM5.out, HI5.out, HE0.out, HO5.out, HG5.out⟩
        · have hp0' : 0 ≤ cp := by omega
          have dp : decide (cp < 0) = false := by simpa using hp0'
          have dq : decide (cq < 0) = false := by simpa using hq0'
          by_cases hpq : cp = cq
          · subst hpq
            have b4 : (cp != cp) = false := by simp
            obtain ⟨c, xs, hc1, hrp, hcs, hxl, hxT⟩ := HX2.out.T.head_app hp0'
            obtain ⟨c', ys, hc2, hrq, _, hyl, hyT⟩ := HY2.out.T.head_app hp0'
            have hcc : c' = c := by omega
            subst hcc
            subst hc1
            have hlxy : xs.length = ys.length := by omega
            obtain ⟨sb', so', hse', hsc1, hsc2, -⟩ := HSC.out c' hcs
            simp only [Option.some.injEq, Addr.mk.injEq] at hse'
            obtain ⟨rfl, rfl, -⟩ := hse'
            have har : s[c'].2 = (xs.length : Int) := by rw [hxl]; unfold arOf; rw [if_neg (by omega)]; simp [hcs]
            rw [har] at hsc2
            have hsc3 := (HB1.out.cell (World.block_lt_of_cell? _ _ (HTM0.out.cell rfl hg hsc2))).trans (HTM0.out.cell rfl hg hsc2)
            have hx3 := signB_ar' HSG.out c'
            have hi0 : (0 : Int) ≤ (c' : Int) ∧ (c' : Int) < (s.length : Int) := by omega
            have hxl3 : xs.length ≤ 3 := by omega
            have HXT := hid hxT
            have HYT := hid hyT
            have HLXY := hid hlxy
            have hxp := hid (show (List.drop 1 ((c' : Int) :: rp)) = xs.flatten ++ [] by simp [hrp])
            have hyp := hid (show (List.drop 1 ((c' : Int) :: rq)) = ys.flatten ++ [] by simp [hrq])
            have HEX := hid (ents_ints HX1.out xs 1 [] hxp.out)
            have HEY := hid (ents_ints HY1.out ys 1 [] hyp.out)
            have hIA := HI.out
            rw [ePrs_append] at hIA
            have hstep := hIA.args HSG.out (by rw [← hrp]; exact HX2.out) (by rw [← hrq]; exact HY2.out) hxl hyl hxT hyT
            have HSTEP := hid hstep
            have HRP := hid hrp
            have HRQ := hid hrq
            have hbW1 := HB1.out
            have hgW1 : w.grownBy W1 (some bm) := grown_trans hg (grown_of_below hbW1)
            have hTMW : TMap W1 bm cnt M := HTM.out.belowS hbW1
            have hOW := owns_below HOWN.out hbW1
            have HGW := hid hgW1
            have HTW := hid hTMW
            have HOW := hid hOW
            have hszw := hgW1.size
            clear hxl hyl hlxy hxT hyT har hsc1 hsc2 hstep hIA hrp hrq hbW1 hgW1 hTMW hOW HOWN HTM HB1 HSZ
            go_wp2_with fail
            go_quiet (fail)
            go_wp2_with fail
            go_quiet (fail)
            go_wp2_with fail
            go_quiet (fail)
            go_wp2_with fail
            obtain ⟨EN, hEN⟩ : ∃ EN, (ents pb po 1 xs).zip (ents qb qo 1 ys) = EN := ⟨_, rfl⟩
            have HEN := hid hEN
            clear hEN
            go_loopg [7, 11, 12, 58] xs.length (fun k2 lv iv jv kv wr2 => ∃ k, k ≤ xs.length ∧ k2 = xs.length - k ∧ kv = .int .i64 k ∧ iv = .int .i64 ((1 + (xs.take k).flatten.length : Nat) : Int) ∧ jv = .int .i64 ((1 + (ys.take k).flatten.length : Nat) : Int) ∧
              wr2.ownsRow w.heap.size 224 2 lv (st0.length + k) (eCells (st0 ++ EN.take k)) ∧ TMap wr2 bm cnt M ∧ w.grownBy wr2 (some bm))
            case atStart =>
              refine ⟨0, by omega, by omega, rfl, rfl, rfl, by simpa using owns_below HOW.out (below_drewN (below_drewN (below_self_drewN W1 _) _) _), HTW.out.belowS (below_drewN (below_drewN (below_self_drewN W1 _) _) _), grown_trans HGW.out (grown_of_below (below_drewN (below_drewN (below_self_drewN W1 _) _) _))⟩
            case round =>
              clear HGW HTW HOW hcp2 hcq2 hc12 hc02 hsc3 hlen hgs hg
              obtain ⟨k, hk, rfl, rfl, rfl, rfl, hown, hTM, hg⟩ := hrel
              have hszr := hg.size
              by_cases hlt : k < xs.length
              · have hlty : k < ys.length := by have := HLXY.out; omega
                have hdz := drop_flat (c := c') hlt
                rw [← HRP.out] at hdz
                have hdu := drop_flat (c := c') hlty
                rw [← HRQ.out] at hdu
                have hIz := flat_next xs hlt
                have hIu := flat_next ys hlty
                obtain ⟨I, hI⟩ : ∃ x, 1 + (xs.take k).flatten.length = x := ⟨_, rfl⟩
                obtain ⟨J, hJ⟩ : ∃ x, 1 + (ys.take k).flatten.length = x := ⟨_, rfl⟩
                have hez := ents_get pb po xs 1 k hlt
                have heu := ents_get qb qo ys 1 k hlty
                rw [hI] at hdz hIz hez
                rw [hJ] at hdu hIu heu
                have hzk := HXT.out xs[k] (List.getElem_mem hlt)
                have huk := HYT.out ys[k] (List.getElem_mem hlty)
                have hzl := congrArg List.length hdz
                have hul := congrArg List.length hdu
                rw [List.length_drop, List.length_append] at hzl hul
                have hz0 := hzk.ne
                have hu0 := huk.ne
                have c02 := HTM0.out.cell rfl hg HS.out.c0
                have hs2 := HTM0.out.signAt rfl hg HS.out.sgn
                have hx2 := HTM0.out.ints rfl hg HX1.out
                have hy2 := HTM0.out.ints rfl hg HY1.out
                have HAX := hid (fun W (hb : Below wr.heap.size wr W) => (show Calls Tryz.prog 214 #[.agg #[.slice (some ⟨sb, so, none⟩) s.length sc], .slice (some ⟨pb, po, none⟩) (rp.length + 1) pc, .int .i64 I] W (fun e w' => e = .returned (.int .i64 ((I : Int) + (xs[k].length : Int))) ∧ Below wr.heap.size wr w')
                  from (unify_gafter _ _ s 24 ((c' : Int) :: rp) xs[k] _ I W (hs2.below hb) (hx2.below hb) hzk hdz (T_lt24 HX2.out.T) (by omega) (by omega)).mono fun e w' h => ⟨by rw [h.1]; push_cast; rfl, hb.trans (h.2.mono hb.size)⟩))
                have HAY := hid (fun W (hb : Below wr.heap.size wr W) => (show Calls Tryz.prog 214 #[.agg #[.slice (some ⟨sb, so, none⟩) s.length sc], .slice (some ⟨qb, qo, none⟩) (rq.length + 1) qc, .int .i64 J] W (fun e w' => e = .returned (.int .i64 ((J : Int) + (ys[k].length : Int))) ∧ Below wr.heap.size wr w')
                  from (unify_gafter _ _ s 24 ((c' : Int) :: rq) ys[k] _ J W (hs2.below hb) (hy2.below hb) huk hdu (T_lt24 HY2.out.T) (by omega) (by omega)).mono fun e w' h => ⟨by rw [h.1]; push_cast; rfl, hb.trans (h.2.mono hb.size)⟩))
                have HIZ := hid hIz
                have HIU := hid hIu
                have HEZ := hid hez
                have HEU := hid heu
                have hI1 : 1 ≤ I := by omega
                have hJ1 : 1 ≤ J := by omega
                have HI1 := hid hI
                have HJ1 := hid hJ
                have HOWN := hid hown
                have HTM := hid hTM
                have HG := hid hg
                rw [hI, hJ]
                clear hzk huk hdz hdu hIz hIu hez heu hI hJ hs2 hx2 hy2 hown hTM hg
                go_wp2_with fail
                go_region_held3 (fun w' => w'.cell? ⟨px, 0, none⟩ = some (.slice (some ⟨sb, so, none⟩) s.length sc)) (first | assumption | go_keep) (first
                  | (go_at_call 214; with_reducible refine (HAX.out _ (by first | exact (Below.refl _ _).drew | exact hbY | exact hbY.drew)).mono ?_; rintro e w4 ⟨rfl, hbX⟩; have c4 := (hbX.cell (World.block_lt_of_cell? _ _ c02)).trans c02; have hbZ := hbX)
                  | (go_at_call 214; with_reducible refine (HAY.out _ (by first | exact (Below.refl _ _).drew | exact hbX | exact hbX.drew)).mono ?_; rintro e w5 ⟨rfl, hbY⟩; have c5 := (hbY.cell (World.block_lt_of_cell? _ _ c02)).trans c02; have hbZ := hbY))
                have hOW5 := owns_below HOWN.out hbZ
                have hTM5 := HTM.out.belowS hbZ
                have hg5 : w.grownBy w5 (some bm) := grown_trans HG.out (grown_of_below hbZ)
                have hsz5 := hg5.size
                have HENK := hid (zip_get HEN.out HEZ.out HEU.out)
                have HNX := hid (eCells_next st0 HENK.out)
                have e1 : (0 : Int) ≤ (I : Int) + (xs[k].length : Int) ∧ (I : Int) + (xs[k].length : Int) ≤ (pc : Int) := by simp at p1; simp at hzl; omega
                have e2 : I ≤ ((I : Int) + (xs[k].length : Int)).toNat := by omega
                have e3 : ((I : Int) + (xs[k].length : Int)).toNat - I = xs[k].length := by omega
                have g1 : (0 : Int) ≤ (J : Int) + (ys[k].length : Int) ∧ (J : Int) + (ys[k].length : Int) ≤ (qc : Int) := by simp at q1; simp at hul; omega
                have g2 : J ≤ ((J : Int) + (ys[k].length : Int)).toNat := by omega
                have g3 : ((J : Int) + (ys[k].length : Int)).toNat - J = ys[k].length := by omega
                have e4 : (I : Int) + (xs[k].length : Int) ≤ max ((I : Int) + (xs[k].length : Int)) 0 := by omega
                have e5 : ¬ ((I : Int) + (xs[k].length : Int)).toNat = I := by omega
                have g4 : (J : Int) + (ys[k].length : Int) ≤ max ((J : Int) + (ys[k].length : Int)) 0 := by omega
                have g5 : ¬ ((J : Int) + (ys[k].length : Int)).toNat = J := by omega
                have hob : ∀ q, u7.ownBlock = some q → w.heap.size ≤ q := fun q hq => (HOWN.out.lt q hq).1
                have HROW := hid (row_two w5 (.slice (some ⟨pb, po + I, none⟩) xs[k].length xs[k].length) (.slice (some ⟨qb, qo + J, none⟩) ys[k].length ys[k].length) 224)
                have hk3 : st0.length + k ≤ 6000 := by omega
                clear hbZ hbX hbY c4 c5 hzl hul
                go_wp2_with fail
                go_region_law (first | (refine step_append_row rfl (.tmp 74) (.tmp 86) 225 rfl w.heap.size 224 el_two Tryz.underlying225 rfl (by decide) u7 _ _ rfl (hOW5.alloc _) _ 1 [.slice (some ⟨pb, po + I, none⟩) xs[k].length xs[k].length, .slice (some ⟨qb, qo + J, none⟩) ys[k].length ys[k].length] rfl HROW.out (by simp [Value.oneCell']) (by omega) (by omega) (by simp; omega) ?_; intro v6 w6 hown6 hg6))
                have hg6' : w5.grownBy w6 u7.ownBlock := grown_trans ((World.grownBy_alloc _ _ _).trans_below' (below_self_drew _)) hg6
                have hg7 : w.grownBy w6 (some bm) := grown_own hg5 hg6' hob
                have hTM6 : TMap w6 bm cnt M := hTM5.kept hg6' (fun e => by have := hob bm e.symm; omega)
                clear hg6 hg6' hOW5 hTM5 hg5
                go_wp2
                go_roundg (xs.length - (k + 1))
                case measure => omega
                case rel =>
                  refine ⟨k + 1, by omega, rfl, by go_num, by rw [HIZ.out]; go_num, by rw [HIU.out]; go_num, ?_, hTM6, hg7⟩
                  rw [HNX.out]
                  exact hown6
              · have hkx : k = xs.length := by omega
                have HFIN : Hid (UInv s a b (mOf M) (ePrs (st0 ++ EN)) ∧ meas (mOf M) (ePrs (st0 ++ EN)) < meas (mOf M) (ePrs (st0 ++ [((.slice xa tx.length xc, tx), (.slice ya ty.length yc, ty))]))) := hid (by
                  have h := HSTEP.out
                  rw [ePrs_append, ePrs_append, ← HEN.out, zip_prs, ents_snd, ents_snd]
                  exact h)
                have hel : EN.length = xs.length := by rw [← HEN.out]; simp [ents_len]; have := HLXY.out; omega
                rw [hkx, ← hel, List.take_of_length_le (Nat.le_refl _)] at hown
                have HEE : Hid (∀ e ∈ st0 ++ EN, Ints w e.1.1 e.1.2 ∧ Ints w e.2.1 e.2.2) := hid (by
                  intro e he
                  rcases List.mem_append.1 he with he | he
                  · exact HE.out e (by simp [he])
                  · rw [← HEN.out] at he
                    exact ⟨HEX.out _ (List.of_mem_zip (by exact he : (e.1, e.2) ∈ _)).1, HEY.out _ (List.of_mem_zip (by exact he : (e.1, e.2) ∈ _)).2⟩)
                have HOF : Hid (wr.ownsRow w.heap.size 224 2 u7 (st0 ++ EN).length (eCells (st0 ++ EN))) := hid (by rw [List.length_append]; exact hown)
                clear hown hkx hel
                go_wp2
                go_roundg (meas (mOf M) (ePrs (st0 ++ EN)))
                case measure => exact HFIN.out.2
                case rel => exact ⟨st0 ++ EN, M, cnt, rfl, HFIN.out.1, hTM, HMI.out, HEE.out, HOF.out, hg⟩
          · have b4 : (cp != cq) = true := by simpa using hpq
            have HEND : Hid (NoU s a b) := hid (UInv.clash (L := ePrs st0) (by have := HI.out; rw [ePrs_append] at this; exact this) HX2.out HY2.out hp0' hq0' hpq)
            go_wp2_with fail
            go_quiet (fail)
            go_wp2_with fail
            go_quiet (fail)
            go_wp2_with fail
            go_ret
            exact ⟨grown_drewN (grown_drewN (grown_trans hg (grown_of_below HB1.out)) _) _, Or.inl ⟨rfl, HEND.out⟩⟩
end Go.Proofs.YtmpjaakkjhmpmaaGreatDoor
namespace Go.Proofs.YtmpjaakkjhmpmaaGreatDoor
open Go Go.RowKit Go.Maps
def namL (t : List Int) (k : Nat) : List Int := (t.take k).map (numV (varsF [] (t.take k)))
theorem namL_all (t : List Int) {k : Nat} (h : t.length ≤ k) : namL t k = canonL t := by
  unfold namL canonL
  rw [List.take_of_length_le h]
theorem namL_step (t : List Int) {k : Nat} (h : k < t.length) : namL t (k + 1) = namL t k ++ [numV (varsF [] (t.take (k + 1))) t[k]] := by
  have e1 : (t.take k).map (numV (varsF [] (t.take (k + 1)))) = (t.take k).map (numV (varsF [] (t.take k))) := by
    apply List.map_congr_left
    intro n hn
    rw [List.take_succ_eq_append_getElem h, varsF_append]
    exact numV_stable' _ _ fun hn0 => (varsF_mem _ _ _).2 (Or.inr ⟨hn, hn0⟩)
  unfold namL
  conv => lhs; rw [List.take_succ_eq_append_getElem h, List.map_append, ← List.take_succ_eq_append_getElem h]
  rw [e1]
  rfl
set_option maxHeartbeats 1000000 in
set_option maxRecDepth 100000 in
theorem unify_named (v : Value) (t : List Int) (w : World) (ht : Ints w v t) (hl : t.length ≤ 1000) (hr : ∀ x ∈ t, -1000000 ≤ x ∧ x ≤ 1000000) :
    Calls Tryz.prog 194 #[v] w fun e w' => ∃ u, e = .returned (.tuple #[u, .bool (decide ((varsF [] t).length ≤ 12))]) ∧ w'.ownsRow w.heap.size 3 1 u (canonL t).length ((canonL t).map (Value.int .i64)) ∧ Below w.heap.size w w' := by
  obtain ⟨ta, tcap, rfl, ht1, ht2, -, TC⟩ := ht.open
  have TC' := hid TC
  have HR := hid hr
  have hmm := @run_makeMap Tryz.prog
  clear TC ht hr
  go_enter Tryz.func194, Tryz.ntmps194
  go_wp2_with fail
  clear hmm
  have HB0 : Hid (Below w.heap.size w (w.alloc (.map #[] 0))) := hid ((Below.refl _ _).alloc (Nat.le_refl _) _)
  have HM0 : Hid (NMap (w.alloc (.map #[] 0)) w.heap.size []) := hid (by
    have := MapK.made Tryz.prog 3 eI eI w
    unfold NMap
    rw [numM_nil]
    exact this)
  go_loopw [5, 13] (fun ov kv wr => ∃ k : Nat, k ≤ t.length ∧ kv = .int .i64 k ∧ wr.ownsRow (w.heap.size + 1) 3 1 ov k ((namL t k).map (Value.int .i64)) ∧ NMap wr w.heap.size (varsF [] (t.take k)) ∧ Below w.heap.size w wr) (fun _ kv _ => t.length - (intOf kv).toNat)
  case atStart => exact ⟨0, by omega, rfl, World.ownsRow_nil _ _ _ _, by simpa [varsF] using HM0.out, HB0.out⟩
  case round =>
    clear HM0 HB0
    obtain ⟨k, hk, rfl, hown, hm, hb⟩ := hrel
    have hbs := hb.size
    have hmlt := hm.lt
    by_cases hlt : k < t.length
    · obtain ⟨tb, to, rfl, hc0⟩ := TC'.out k hlt
      have hcell := (hb.cell (World.block_lt_of_cell? _ _ hc0)).trans hc0
      have hrk := HR.out t[k] (List.getElem_mem hlt)
      have HV := hid (varsF_take t hlt)
      have HNS := hid (namL_step t hlt)
      obtain ⟨x, hx⟩ : ∃ x, t[k] = x := ⟨_, rfl⟩
      rw [hx] at hcell hrk HV HNS
      have HX := hid hx
      clear hc0 hx
      by_cases hn : 0 ≤ x
      · have hge : decide (x < 0) = false := by simp; omega
        have HNV : Hid (numV (varsF [] (t.take (k + 1))) x = x) := hid (by unfold numV; rw [if_neg (by omega)])
        have HOWN := hid hown
        have HM := hid hm
        clear hown hm
        go_wp2_with (at_builtin; refine wpList_append_row rfl _ _ 34 rfl (w.heap.size + 1) 3 el_int Tryz.underlying34 rfl (by decide) _ _ _ rfl (HOWN.out.alloc _) _ 1 [.int .i64 x] rfl (row_one_new _ _ _) (oneCell_one rfl) (by omega) (by omega) (by simp; omega) ?_; intro v' w4 hown4 hgrow4 _)
        have hob : ∀ q, u5.ownBlock = some q → w.heap.size + 1 ≤ q := fun q hq => (HOWN.out.lt q hq).1
        go_roundw
        case rel => exact ⟨k + 1, by omega, by go_num, by rw [HNS.out, HNV.out, List.map_append]; exact hown4, by rw [HV.out, if_neg (by omega)]; exact (HM.out.alloc _).kept hgrow4 (fun e => by have := hob _ e.symm; omega), (hb.alloc hbs _).grown hgrow4 (by simp; omega) (fun q hq => by have := hob q hq; omega)⟩
        case measure => simp [intOf]; omega
      · have hge : decide (x < 0) = true := by simp; omega
        have hkey := int_key x (wf_small hrk.1 hrk.2)
        have hvl := varsF_take_len t k
        obtain ⟨vs, hvs⟩ : ∃ vs, varsF [] (t.take k) = vs := ⟨_, rfl⟩
        rw [hvs] at hm hvl HV
        have HKEY := hid hkey
        have HOWN := hid hown
        clear hkey hown
        by_cases hv : x ∈ vs
        · have HY := hid (numM_yes hv)
          have hV2 : varsF [] (t.take (k + 1)) = vs := by rw [HV.out, if_neg (by simp [hv])]
          have HNV : Hid (numV (varsF [] (t.take (k + 1))) x = -(vs.idxOf x : Int) - 1) := hid (by rw [hV2]; unfold numV; rw [if_pos (by omega)])
          have HV2 := hid hV2
          have HM := hid hm
          clear hv hV2 hvs hm
          go_wp2_with (first
            | (at_lookup; refine wpList_lookup_mapK rfl _ _ 125 true rfl (int_keyed Tryz.underlying3) eI_inj Tryz.underlying125 (zero_int _) rfl HM.out x rfl HKEY.out (.tuple #[.int .i64 (-(vs.idxOf x : Int) - 1), .bool true]) (by rw [HY.out]; rfl) ?_)
            | (at_lookup; refine wpList_lookup_mapK rfl _ _ 125 false rfl (int_keyed Tryz.underlying3) eI_inj Tryz.underlying125 (zero_int _) rfl HM.out x rfl HKEY.out (.int .i64 (-(vs.idxOf x : Int) - 1)) (by rw [HY.out]; rfl) ?_)
            | (at_builtin; refine wpList_append_row rfl _ _ 34 rfl (w.heap.size + 1) 3 el_int Tryz.underlying34 rfl (by decide) _ _ _ rfl (HOWN.out.alloc _) _ 1 [.int .i64 (-(vs.idxOf x : Int) - 1)] rfl (row_one_new _ _ _) (oneCell_one rfl) (by omega) (by omega) (by simp; omega) ?_; intro v' w4 hown4 hgrow4 _))
          have hob : ∀ q, u5.ownBlock = some q → w.heap.size + 1 ≤ q := fun q hq => (HOWN.out.lt q hq).1
          go_roundw
          case rel => exact ⟨k + 1, by omega, by go_num, by rw [HNS.out, HNV.out, List.map_append]; exact hown4, by rw [HV2.out]; exact (HM.out.alloc _).kept hgrow4 (fun e => by have := hob _ e.symm; omega), (hb.alloc hbs _).grown hgrow4 (by simp; omega) (fun q hq => by have := hob q hq; omega)⟩
          case measure => simp [intOf]; omega
        · have HN := hid (numM_no hv)
          have HI := hid (numM_ins hv)
          have hV2 : varsF [] (t.take (k + 1)) = vs ++ [x] := by rw [HV.out, if_pos ⟨by omega, hv⟩]
          have HNV : Hid (numV (varsF [] (t.take (k + 1))) x = -(vs.length : Int) - 1) := hid (by
            rw [hV2]; unfold numV; rw [if_pos (by omega), List.idxOf_append, if_neg hv]; simp)
          have HNM : Hid (numM (vs ++ [x]) x = some (-(vs.length : Int) - 1)) := hid (by
            rw [numM_yes (by simp), List.idxOf_append, if_neg hv]; simp)
          have HV2 := hid hV2
          have hlen := fun ty => hm.run_len Tryz.underlying125 ty
          have HM := hid hm
          clear hv hV2 hvs hm
          go_wp2_with (first
            | (at_lookup; refine wpList_lookup_mapK rfl _ _ 125 true rfl (int_keyed Tryz.underlying3) eI_inj Tryz.underlying125 (zero_int _) rfl HM.out x rfl HKEY.out (.tuple #[.int .i64 0, .bool false]) (by rw [HN.out]; rfl) ?_)
            | (go_at_call 216; refine (unify_code _ _ (by omega) (by omega)).mono ?_; rintro e w' ⟨rfl, rfl⟩)
            | (at_mapUpdate; refine wpList_update_mapK rfl _ _ _ 125 rfl (int_keyed Tryz.underlying3) eI_inj Tryz.underlying125 rfl HM.out x (-(vs.length : Int) - 1) rfl rfl HKEY.out ?_; intro w2 hm2' hg2; have HM2 : Hid (NMap w2 w.heap.size (vs ++ [x])) := hid (nmap_ins HN.out HI.out hm2'); have HOWN2 := hid (owns_grown HOWN.out hg2 (fun q hq => by cases hq; omega)); have hb2 : Below w.heap.size w w2 := hb.grown hg2 hbs (fun q hq => by cases hq; exact Nat.le_refl _); have hbs2 := hg2.size; clear hm2')
            | (at_lookup; refine wpList_lookup_mapK rfl _ _ 125 false rfl (int_keyed Tryz.underlying3) eI_inj Tryz.underlying125 (zero_int _) rfl HM2.out x rfl HKEY.out (.int .i64 (-(vs.length : Int) - 1)) (by rw [HNM.out]; rfl) ?_)
            | (at_builtin; refine wpList_append_row rfl _ _ 34 rfl (w.heap.size + 1) 3 el_int Tryz.underlying34 rfl (by decide) _ _ _ rfl (HOWN2.out.alloc _) _ 1 [.int .i64 (-(vs.length : Int) - 1)] rfl (row_one_new _ _ _) (oneCell_one rfl) (by omega) (by omega) (by simp; omega) ?_; intro v' w4 hown4 hgrow4 _))
          have hob : ∀ q, u5.ownBlock = some q → w.heap.size + 1 ≤ q := fun q hq => (HOWN.out.lt q hq).1
          go_roundw
          case rel => exact ⟨k + 1, by omega, by go_num, by rw [HNS.out, HNV.out, List.map_append]; exact hown4, by rw [HV2.out]; exact (HM2.out.alloc _).kept hgrow4 (fun e => by have := hob _ e.symm; omega), (hb2.alloc hb2.size _).grown hgrow4 (by simp; omega) (fun q hq => by have := hob q hq; omega)⟩
          case measure => simp [intOf]; omega
    · have hkt : k = t.length := by omega
      have HE := hid (namL_all t (k := k) (by omega))
      have HL := canonL_len t
      rw [HE.out] at hown
      have HV : Hid (varsF [] (t.take k) = varsF [] t) := hid (by rw [List.take_of_length_le (by omega)])
      rw [HV.out] at hm
      have hlen := fun ty => hm.run_len Tryz.underlying125 ty
      have HOW := hid hown
      clear hown
      go_wp2
      go_ret2
      refine ⟨_, ?_, by rw [HL, ← hkt]; exact owns_base HOW.out (by omega), hb⟩
      show Ending.returned (.tuple #[u5, .bool (decide (((varsF [] t).length : Int) ≤ 12))]) = _
      rw [show decide (((varsF [] t).length : Int) ≤ 12) = decide ((varsF [] t).length ≤ 12) from decide_eq_decide.2 (by omega)]
end Go.Proofs.YtmpjaakkjhmpmaaGreatDoor
