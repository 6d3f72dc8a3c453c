/-
  WHAT IT HOLDS: contract of Solve of the reference's solver (layer 2). Conditions: the solver reads as data; both are terms of at most 60 numbers; a valid sign.
-/
import Derived.Deep.RegionHeld3
import Derived.Test.YtmpjaakkjhmpmaaGreatDoorZRShortLemmas19
namespace Go.Proofs.YtmpjaakkjhmpmaaGreatDoor
open Go Go.RowKit Go.Maps
theorem boo_zero : Boo #[.bool false, .bool false, .bool false, .bool false, .bool false, .bool false, .bool false, .bool false, .bool false, .bool false, .bool false, .bool false, .bool false, .bool false, .bool false, .bool false, .bool false, .bool false, .bool false, .bool false, .bool false, .bool false, .bool false, .bool false] (fun _ => false) := by
  refine ⟨rfl, fun v hv => ?_⟩
  show ((List.replicate 24 (Value.bool false)).toArray)[v]? = _
  rw [List.getElem?_toArray, List.getElem?_replicate, if_pos hv]
theorem RSol.keepI {w w' : World} {px : Nat} {vs : Value} {s : Sg} {T : TT} (h : RSol w px vs s T) (hg : w.grownBy w' (some px)) {v : Value} {l : List Int} (hx : Ints w v l) : Ints w' v l := h.arr.keepInts rfl hg hx
theorem RSol.set {w : World} {px : Nat} {vs : Value} {s : Sg} {T : TT} (h : RSol w px vs s T) {v : Nat} (hv : v < 24) {x : Addr} {n c : Nat} {l : List Int} (hu : Ints w (.slice (some x) n c) l) :
    RSol (w.setCell ⟨px, 1 + v, none⟩ (.slice (some x) n c)) px vs s (fun y => if y = v then some (.slice (some x) n c, l) else T y) ∧ w.grownBy (w.setCell ⟨px, 1 + v, none⟩ (.slice (some x) n c)) (some px) := by
  have hset := h.arr.set hv hu
  refine ⟨⟨?_, hset.1, h.arr.keepSign rfl hset.2 h.sgn, fun y hy => ?_⟩, hset.2⟩
  · rw [World.cell?_setCell_other]
    · exact h.c0
    · intro e; simp at e
  · rw [if_neg (by omega)]; exact h.out y hy
theorem T_lt24r {s : Sg} {t : List Int} (h : IsT s 24 t) : ∀ z ∈ t, z < s.length := by
  intro z hz
  rcases h.range z hz with h | h <;> omega
def SolvePost (s : Sg) (px : Nat) (vs : Value) (T : TT) (a b : List Int) (w : World) (e : Ending) (w' : World) : Prop :=
  ∃ T', RSol w' px vs s T' ∧ w.grownBy w' (some px) ∧ ((e = .returned (.bool true) ∧ SolOK s (mR T) a b (mR T')) ∨ (e = .returned (.bool false) ∧ SolNo s (mR T) a b))
theorem SolvePost.bool {s : Sg} {px : Nat} {vs : Value} {T : TT} {a b : List Int} {w : World} {e : Ending} {w' : World} (h : SolvePost s px vs T a b w e w') : ∃ (z : Bool) (T' : TT), e = .returned (.bool z) ∧ RSol w' px vs s T' ∧ w.grownBy w' (some px) ∧ (z = true → SolOK s (mR T) a b (mR T')) ∧ (z = false → SolNo s (mR T) a b) := by
  obtain ⟨T', h1, h2, ⟨rfl, h4⟩ | ⟨rfl, h4⟩⟩ := h
  · exact ⟨true, T', rfl, h1, h2, fun _ => h4, fun h => by cases h⟩
  · exact ⟨false, T', rfl, h1, h2, fun h => (by cases h), fun _ => h4⟩
set_option maxHeartbeats 4000000 in
set_option maxRecDepth 100000 in
/-- the first is a variable that is not bound. -/
theorem ref2_SolveV (px : Nat) (vs va vb : Value) (s : Sg) (T : TT) (a b : List Int) (w : World) (hS : RSol w px vs s T) (hm : MOK s (mR T)) (hT : IsT s 24 a) (hU : IsT s 24 b) (hla : a.length ≤ 60) (hlb : b.length ≤ 60) (ra : Ints w va a) (rb : Ints w vb b)
    (hhd : ∀ y, (lookT (MT T) 25 (va, a)).2.head? = some y → y < 0) :
    Calls Tryz.prog 196 #[.pointer (some ⟨px, 0, none⟩), va, vb] w (SolvePost s px vs T a b w) := by
  have HLX := hid (ref2_look px vs va s T a w hS hm ra hT)
  have HLY := hid (fun n => ref2_look px vs vb s T b (w.drewN n) (hS.below (below_self_drewN w n)) hm (rb.drewN n) hU)
  obtain ⟨r, hr, hr24⟩ := hm.rank
  rw [← mOf_MT] at hr
  have hm' : MOK s (mOf (MT T)) := by rw [mOf_MT]; exact hm
  obtain ⟨x1, x2, x3⟩ := lookT_ok hS.its hm' hr 25 va a ra hT hla (fun z _ _ => by have := hr24 z; omega)
  obtain ⟨y1, y2, y3⟩ := lookT_ok hS.its hm' hr 25 vb b rb hU hlb (fun z _ _ => by have := hr24 z; omega)
  obtain ⟨⟨vp, tp⟩, hP⟩ : ∃ z, lookT (MT T) 25 (va, a) = z := ⟨_, rfl⟩
  obtain ⟨⟨vq, tq⟩, hQ⟩ : ∃ z, lookT (MT T) 25 (vb, b) = z := ⟨_, rfl⟩
  rw [hP] at x1 x2 x3 HLX hhd
  rw [hQ] at y1 y2 y3 HLY
  rw [mOf_MT] at x2 x3 y2 y3
  simp only at x1 x2 x3 y1 y2 y3 hhd
  obtain ⟨cp, rp, rfl⟩ : ∃ c r, tp = c :: r := by
    cases tp with
    | nil => exact absurd rfl x2.T.nonempty
    | cons c r => exact ⟨c, r, rfl⟩
  obtain ⟨cq, rq, rfl⟩ : ∃ c r, tq = c :: r := by
    cases tq with
    | nil => exact absurd rfl y2.T.nonempty
    | cons c r => exact ⟨c, r, rfl⟩
  have hp0 : cp < 0 := hhd cp rfl
  obtain ⟨hrp0, hv24⟩ := x2.T.head_var hp0
  subst hrp0
  obtain ⟨pa, pc, hpe, p1, p2, -, PC⟩ := x1.open
  obtain ⟨qa, qc, hqe, q1, q2, -, QC⟩ := y1.open
  subst hpe hqe
  obtain ⟨pb, po, rfl, hcp⟩ := PC 0 (by simp)
  obtain ⟨qb, qo, rfl, hcq⟩ := QC 0 (by simp)
  simp only [Nat.add_zero, List.getElem_cons_zero] at hcp hcq
  obtain ⟨v, hv⟩ := Int.eq_ofNat_of_zero_le (show 0 ≤ -cp - 1 by omega)
  have hv24' : v < 24 := by omega
  have hvb1 : (0 : Int) ≤ (v : Int) := by omega
  have hvb2 : (v : Int) < 24 := by omega
  have hmv := x3 cp rfl hp0
  have hql : (cq :: rq).length ≤ 60 := y2.len
  have HX1 := hid x1
  have HX2 := hid x2
  have HY1 := hid y1
  have HY2 := hid y2
  have HY3 := hid (y3 cq rfl)
  have HS := hid hS
  have HM := hid hm
  have dp : decide (cp < 0) = true := by simpa using hp0
  have HMV := hid hmv
  have HV := hid hv
  clear hP hQ PC QC hr hr24 x1 x2 x3 y1 y2 y3 hS hm hm' hhd ra rb hT hU hmv
  by_cases hpq : cp = cq
  · subst hpq
    obtain ⟨hrq0, -⟩ := HY2.out.T.head_var hp0
    subst hrq0
    have dpq : (cp == cp) = true := by simp
    have HEND : Hid (SolOK s (mR T) a b (mR T)) := hid ((SolOK.same HM.out [cp]).looked HX2.out HY2.out)
    go_enter Tryz.func196, Tryz.ntmps196
    go_wp2_with fail
    refine HLX.out.mono ?_
    rintro e w1 ⟨rfl, n1, rfl⟩
    go_wp2_with fail
    refine (HLY.out _).mono ?_
    rintro e w2 ⟨rfl, n2, rfl⟩
    go_wp2_with fail
    go_quiet (fail)
    go_wp2_with fail
    go_ret
    exact ⟨T, HS.out.below (below_drewN (below_self_drewN w _) _), grown_of_below (below_drewN (below_self_drewN w _) _), Or.inl ⟨rfl, HEND.out⟩⟩
  · have dpq : (cq == cp) = false := by simp; omega
    have HOC := hid (fun (hr : Reach (mR T) (cq :: rq) cp) => ((SolNo.occurs HM.out hp0 HMV.out HY2.out.T (fun z hz hh => by simp at hh; subst hh; exact ⟨fun e => hpq e.symm, HY3.out hz⟩) hr).looked HX2.out HY2.out : SolNo s (mR T) a b))
    have HBI := hid (fun (hr : ¬ Reach (mR T) (cq :: rq) cp) => ((SolOK.bind HM.out hv24 hp0 HMV.out HY2.out.T HY2.out.len hr).looked HX2.out HY2.out : SolOK s (mR T) a b _))
    have hwr1 : IntKind.i64.wrap (-cp) = -cp := IntWalk.i64_in _ ⟨by omega, by omega⟩
    have hwr2 : IntKind.i64.wrap (-cp - 1) = v := by rw [hv]; exact IntWalk.i64_in _ ⟨by omega, by omega⟩
    have HW1 := hid hwr1
    have HW2 := hid hwr2
    clear hpq hwr1 hwr2 hv
    go_enter Tryz.func196, Tryz.ntmps196
    go_wp2_with fail
    refine HLX.out.mono ?_
    rintro e w1 ⟨rfl, n1, rfl⟩
    go_wp2_with fail
    refine (HLY.out _).mono ?_
    rintro e w2 ⟨rfl, n2, rfl⟩
    go_wp2_with fail
    go_quiet (fail)
    have hwr1 := HW1.out
    have hwr2 := HW2.out
    have hcpA : ∀ n o, ((w.drewN n).alloc o).cell? ⟨pb, po, none⟩ = some (.int .i64 cp) := fun n o => cell_alloc_keep o hcp
    go_wp2_with fail
    clear hwr1 hwr2
    have hbA : ∀ n o, Below w.heap.size w ((w.drewN n).alloc o) := fun n o => (below_self_drewN w n).alloc (by simp) o
    have hAV : ∀ n, ArrV ((w.drewN n).alloc (.cells #[.bool false, .bool false, .bool false, .bool false, .bool false, .bool false, .bool false, .bool false, .bool false, .bool false, .bool false, .bool false, .bool false, .bool false, .bool false, .bool false, .bool false, .bool false, .bool false, .bool false, .bool false, .bool false, .bool false, .bool false] 230)) w.heap.size #[.bool false, .bool false, .bool false, .bool false, .bool false, .bool false, .bool false, .bool false, .bool false, .bool false, .bool false, .bool false, .bool false, .bool false, .bool false, .bool false, .bool false, .bool false, .bool false, .bool false, .bool false, .bool false, .bool false, .bool false] := fun n => ⟨_, (MapKept.heap_alloc (w.drewN n) _).1⟩
    refine Calls.mono (ref2_occurs px w.heap.size vs s T cp v hp0 HV.out (by omega) w HS.out HM.out (Nat.le_refl _) (cntD (fun _ => false) + 1) (fun _ => false) (cq :: rq) _ _ _ (by omega) HY2.out.T HY2.out.len HY1.out (hbA _ _) (hAV _) boo_zero) ?_
    clear hcpA hbA hAV
    rintro e w3 ⟨hB3, ⟨rfl, hr⟩ | ⟨rfl, D', cs', -, -, hF⟩⟩
    · have HEND := hid (HOC.out hr)
      have HB3 := hid hB3
      clear hr hB3
      go_wp2
      go_ret
      exact ⟨T, HS.out.below HB3.out, grown_of_below HB3.out, Or.inr ⟨rfl, HEND.out⟩⟩
    · have HEND := hid (HBI.out hF.no)
      have hS3 := (HS.out.below hB3).below (below_self_drewN w3 1)
      have hc3 := (hB3.cell (World.block_lt_of_cell? _ _ hcp)).trans hcp
      have hcl := hS3.arr.cell hv24'
      have hfr := hS3.arr.frozen (1 + v)
      have hset := hS3.set hv24' ((HY1.out.below hB3).below (below_self_drewN w3 1))
      have hc5 : ((w3.drewN 1).setCell ⟨px, 1 + v, none⟩ (.slice (some ⟨qb, qo, none⟩) (cq :: rq).length qc)).cell? ⟨pb, po, none⟩ = some (.int .i64 cp) := hS3.arr.keep rfl hset.2 hc3 (fun x n c h => by cases h)
      have hc5' : (w3.drew.setCell ⟨px, 1 + v, none⟩ (.slice (some ⟨qb, qo, none⟩) (rq.length + 1) qc)).cell? ⟨pb, po, none⟩ = some (.int .i64 cp) := hc5
      have hcl' : w3.drew.cell? ⟨px, 1 + v, none⟩ = some (sV (T v)) := hcl
      have hfr' : w3.drew.frozen? ⟨px, 1 + v, none⟩ = false := hfr
      have hclw : w3.cell? ⟨px, 1 + v, none⟩ = some (sV (T v)) := hcl
      have hfrw : w3.frozen? ⟨px, 1 + v, none⟩ = false := hfr
      have HSET := hid hset
      have HMR := hid (mR_set T hp0 HV.out (.slice (some ⟨qb, qo, none⟩) (cq :: rq).length qc) (cq :: rq))
      have HG3 := hid ((grown_of_below (hB3.trans ((below_self_drewN w3 1).mono hB3.size)) : w.grownBy (w3.drewN 1) (some px)))
      have hwr1 := HW1.out
      have hwr2 := HW2.out
      clear hF hB3 hS3 hcl hfr hset hc5
      go_wp2_with fail
      go_region_held3 (fun w' => w'.cell? ⟨pb, po, none⟩ = some (.int .i64 cp)) (first | assumption | go_keep) (fail)
      clear hwr1 hwr2
      go_wp2
      go_ret
      exact ⟨_, HSET.out.1, grown_trans HG3.out HSET.out.2, Or.inl ⟨rfl, by rw [HMR.out]; exact HEND.out⟩⟩
set_option maxHeartbeats 8000000 in
set_option maxRecDepth 100000 in
theorem ref2_Solve (px : Nat) (vs : Value) (s : Sg) (hsg : signB s = true) : ∀ (N : Nat) (a b : List Int) (va vb : Value) (T : TT) (w : World), meas1 (mR T) a < N → RSol w px vs s T → MOK s (mR T) → IsT s 24 a → IsT s 24 b → a.length ≤ 60 → b.length ≤ 60 → Ints w va a → Ints w vb b →
    Calls Tryz.prog 196 #[.pointer (some ⟨px, 0, none⟩), va, vb] w (SolvePost s px vs T a b w) := by
  intro N
  induction N with
  | zero => intro a b va vb T w h; omega
  | succ N ih =>
    intro a b va vb T w hN hS hm hT hU hla hlb ra rb
    by_cases hvar : ∀ y, (lookT (MT T) 25 (va, a)).2.head? = some y → y < 0
    · exact ref2_SolveV px vs va vb s T a b w hS hm hT hU hla hlb ra rb hvar
    have HLX := hid (ref2_look px vs va s T a w hS hm ra hT)
    have HLY := hid (fun n => ref2_look px vs vb s T b (w.drewN n) (hS.below (below_self_drewN w n)) hm (rb.drewN n) hU)
    obtain ⟨r, hr, hr24⟩ := hm.rank
    rw [← mOf_MT] at hr
    have hm' : MOK s (mOf (MT T)) := by rw [mOf_MT]; exact hm
    obtain ⟨x1, x2, x3⟩ := lookT_ok hS.its hm' hr 25 va a ra hT hla (fun z _ _ => by have := hr24 z; omega)
    obtain ⟨y1, y2, y3⟩ := lookT_ok hS.its hm' hr 25 vb b rb hU hlb (fun z _ _ => by have := hr24 z; omega)
    obtain ⟨⟨vp, tp⟩, hP⟩ : ∃ z, lookT (MT T) 25 (va, a) = z := ⟨_, rfl⟩
    obtain ⟨⟨vq, tq⟩, hQ⟩ : ∃ z, lookT (MT T) 25 (vb, b) = z := ⟨_, rfl⟩
    rw [hP] at x1 x2 x3 HLX
    rw [hQ] at y1 y2 y3 HLY
    rw [mOf_MT] at x2 x3 y2 y3
    simp only at x1 x2 x3 y1 y2 y3
    obtain ⟨cp, rp, rfl⟩ : ∃ c r, tp = c :: r := by
      cases tp with
      | nil => exact absurd rfl x2.T.nonempty
      | cons c r => exact ⟨c, r, rfl⟩
    obtain ⟨cq, rq, rfl⟩ : ∃ c r, tq = c :: r := by
      cases tq with
      | nil => exact absurd rfl y2.T.nonempty
      | cons c r => exact ⟨c, r, rfl⟩
    rw [hP] at hvar
    have hp0 : ¬ cp < 0 := fun h => hvar (fun y hy => by simp at hy; omega)
    have hp0' : 0 ≤ cp := by omega
    obtain ⟨pa, pc, hpe, p1, p2, -, PC⟩ := x1.open
    obtain ⟨qa, qc, hqe, q1, q2, -, QC⟩ := y1.open
    subst hpe hqe
    obtain ⟨pb, po, rfl, hcp⟩ := PC 0 (by simp)
    obtain ⟨qb, qo, rfl, hcq⟩ := QC 0 (by simp)
    simp only [Nat.add_zero, List.getElem_cons_zero] at hcp hcq
    have hpl : (cp :: rp).length ≤ 60 := x2.len
    have hql : (cq :: rq).length ≤ 60 := y2.len
    have hsl := signB_len hsg
    have hpr := x2.T.range cp (by simp)
    have HX1 := hid x1
    have HX2 := hid x2
    have HY1 := hid y1
    have HY2 := hid y2
    have HY3 := hid (y3 cq rfl)
    have HS := hid hS
    have HM := hid hm
    have dp : decide (cp < 0) = false := by simpa using hp0'
    have IH := hid ih
    have HN := hid hN
    have HSG := hid hsg
    clear hP hQ PC QC hr hr24 x1 x2 x3 y1 y2 y3 hS hm hm' hvar ra rb hT hU ih hN
    by_cases hq0 : cq < 0
    · have dq : decide (cq < 0) = true := by simpa using hq0
      obtain ⟨hrq0, hq24⟩ := HY2.out.T.head_var hq0
      subst hrq0
      have hMTq : MT T cq = none := by
        have h := HY3.out hq0
        rw [← mOf_MT] at h
        simpa [mOf] using h
      have HV := hid (fun n => ref2_SolveV px vs _ _ s T [cq] (cp :: rp) (w.drewN n) (HS.out.below (below_self_drewN w n)) HM.out HY2.out.T HX2.out.T HY2.out.len HX2.out.len (HY1.out.drewN n) (HX1.out.drewN n) (fun y hy => by rw [lookT_none _ hMTq] at hy; simp at hy; omega))
      have HFIN := hid (fun (n : Nat) (e : Ending) (w' : World) (h : SolvePost s px vs T [cq] (cp :: rp) (w.drewN n) e w') => (show SolvePost s px vs T a b w e w' from by
        obtain ⟨T', h1, h2, h3⟩ := h
        refine ⟨T', h1, grown_trans (grown_of_below (below_self_drewN w n)) h2, ?_⟩
        rcases h3 with ⟨h3, h4⟩ | ⟨h3, h4⟩
        · exact Or.inl ⟨h3, h4.swap.looked HX2.out HY2.out⟩
        · exact Or.inr ⟨h3, h4.swap.looked HX2.out HY2.out⟩))
      clear hMTq
      go_enter Tryz.func196, Tryz.ntmps196
      go_wp2_with fail
      refine HLX.out.mono ?_
      rintro e w1 ⟨rfl, n1, rfl⟩
      go_wp2_with fail
      refine (HLY.out _).mono ?_
      rintro e w2 ⟨rfl, n2, rfl⟩
      go_wp2_with fail
      go_quiet (fail)
      go_wp2_with fail
      refine (HV.out _).mono ?_
      intro e w3 hpost
      have hpost2 := HFIN.out _ _ _ hpost
      obtain ⟨T', h1, h2, ⟨rfl, h4⟩ | ⟨rfl, h4⟩⟩ := hpost2
      · have H1 := hid h1
        have H2 := hid h2
        have H4 := hid h4
        clear hpost h1 h2 h4
        go_wp2
        go_ret
        exact ⟨T', H1.out, H2.out, Or.inl ⟨rfl, H4.out⟩⟩
      · have H1 := hid h1
        have H2 := hid h2
        have H4 := hid h4
        clear hpost h1 h2 h4
        go_wp2
        go_ret
        exact ⟨T', H1.out, H2.out, Or.inr ⟨rfl, H4.out⟩⟩
    · have hq0' : 0 ≤ cq := by omega
      have dq : decide (cq < 0) = false := by simpa using hq0'
      by_cases hpq : cp = cq
      · subst hpq
        have b4 : (cp != cp) = false := by simp
        obtain ⟨c, xs, hc1, hrp, hcs, hxl, hxT⟩ := HX2.out.T.head_app hp0'
        obtain ⟨c', ys, hc2, hrq, _, hyl, hyT⟩ := HY2.out.T.head_app hp0'
        have hcc : c' = c := by omega
        subst hcc
        subst hc1
        have hlxy : xs.length = ys.length := by omega
        have har := signB_ar' HSG.out c'
        have hxl3 : xs.length ≤ 3 := by omega
        have hdx : (((c' : Int) :: rp).drop 0) = (c' : Int) :: xs.flatten ++ [] := by simp [hrp]
        have hdy : (((c' : Int) :: rq).drop 0) = (c' : Int) :: ys.flatten ++ [] := by simp [hrq]
        obtain ⟨sa, sc, hse, -⟩ := HS.out.sgn.open
        have hargx : ∀ (X : World), Below w.heap.size w X → Calls Tryz.prog 165 #[vs, .slice (some ⟨pb, po, none⟩) (rp.length + 1) pc, .int .i64 0] X fun e w' => ∃ u, e = .returned u ∧ w'.ownsRow X.heap.size 3 1 u (startL 0 xs xs.length).length ((startL 0 xs xs.length).map (Value.int .i64)) ∧ Below w.heap.size w w' :=
          fun X hX => Calls.mono (ref1_Arguments vs _ s 24 _ [] c' xs 0 X (HS.out.sgn.below hX) (HX1.out.below hX) hcs hxl hxT hdx (T_lt24r HX2.out.T) (by omega)) (fun e w' ⟨u, h1, h2, h3⟩ => ⟨u, h1, h2, hX.trans (h3.mono hX.size)⟩)
        have hargy : ∀ (X : World), Below w.heap.size w X → Calls Tryz.prog 165 #[vs, .slice (some ⟨qb, qo, none⟩) (rq.length + 1) qc, .int .i64 0] X fun e w' => ∃ u, e = .returned u ∧ w'.ownsRow X.heap.size 3 1 u (startL 0 ys ys.length).length ((startL 0 ys ys.length).map (Value.int .i64)) ∧ Below X.heap.size X w' :=
          fun X hX => ref1_Arguments vs _ s 24 _ [] c' ys 0 X (HS.out.sgn.below hX) (HY1.out.below hX) hcs hyl hyT hdy (T_lt24r HY2.out.T) (by omega)
        have hpx := fun k (hk : k < xs.length) => drop_part hdx hk
        have hpy := fun k (hk : k < ys.length) => drop_part hdy hk
        have HARGX := hid hargx
        have HARGY := hid hargy
        have HPX := hid hpx
        have HPY := hid hpy
        have HXT := hid hxT
        have HYT := hid hyT
        have HLXY := hid hlxy
        have HRP := hid hrp
        have HRQ := hid hrq
        have hc0 := HS.out.c0
        have hi0 : (0 : Int) ≤ (c' : Int) := by omega
        subst hse
        clear hxl hyl hxT hyT hlxy hdx hdy hargx hargy hpx hpy hrp hrq har hc2 dp dq hq0 hq0' hp0 hp0'
        have dp : decide ((c' : Int) < 0) = false := by simp
        go_enter Tryz.func196, Tryz.ntmps196
        go_wp2_with fail
        refine HLX.out.mono ?_
        rintro e w1 ⟨rfl, n1, rfl⟩
        go_wp2_with fail
        refine (HLY.out _).mono ?_
        rintro e w2 ⟨rfl, n2, rfl⟩
        go_wp2_with fail
        go_quiet (fail)
        go_wp2_with fail
        go_quiet (fail)
        go_wp2_with fail
        have hBd : ∀ n, Below w.heap.size w (w.drewN n) := fun n => below_self_drewN w n
        go_region_held3 (fun w' => w'.cell? ⟨px, 0, none⟩ = some (.slice sa s.length sc)) (first | assumption | go_keep)
          (first
            | (go_at_call 165; with_reducible refine (HARGX.out _ (hBd _)).mono ?_; rintro e w3 ⟨ux, rfl, ox, hb3⟩; have d3 := (hb3.cell (World.block_lt_of_cell? _ _ hc0)).trans hc0)
            | (go_at_call 165; with_reducible refine (HARGY.out _ hb3).mono ?_; rintro e w4 ⟨uy, rfl, oy, hb4'⟩; have hb4 := hb3.trans (hb4'.mono hb3.size); have d4 := (hb4.cell (World.block_lt_of_cell? _ _ hc0)).trans hc0))
        have hla := startL_len 0 xs xs.length
        have hlb := startL_len 0 ys ys.length
        have iux : Ints w4 ux (startL 0 xs xs.length) := (Ints.of_owns ox (by omega)).below hb4'
        have iuy : Ints w4 uy (startL 0 ys ys.length) := Ints.of_owns oy (by rw [hlb]; have := HLXY.out; omega)
        obtain ⟨xa, xcap, hxe, -⟩ := iux.open
        subst hxe
        obtain ⟨ya, ycap, hye, -⟩ := iuy.open
        subst hye
        rw [hla] at iux
        rw [hlb] at iuy
        have HIX := hid iux
        have HIY := hid iuy
        have HB4 := hid hb4
        have HS4 := hid (HS.out.below hb4)
        rw [hla, hlb]
        clear iux iuy ox oy hb4' hb3 hb4 d3 d4 hla hlb HARGX HARGY hcp hcq
        go_wp2_with fail
        go_loopg [10] xs.length (fun k2 kv wr => ∃ (k : Nat) (T' : TT), k ≤ xs.length ∧ k2 = xs.length - k ∧ kv = .int .i64 k ∧ RSol wr px (.slice sa s.length sc) s T' ∧ SolArgs s (mR T) xs ys k (mR T') ∧ w4.grownBy wr (some px))
        case atStart => exact ⟨0, T, by omega, by omega, rfl, HS4.out, SolArgs.zero HM.out xs ys, World.grownBy.refl _ _⟩
        case round =>
          obtain ⟨k, T', hk, rfl, rfl, hSr, hA, hg⟩ := hrel
          have hgw : w.grownBy wr (some px) := grown_trans (grown_of_below HB4.out) hg
          by_cases hlt : k < xs.length
          · have hlty : k < ys.length := by have := HLXY.out; omega
            obtain ⟨_, _, hxe2, -, -, -, IXC⟩ := (HS4.out.keepI hg HIX.out).open
            obtain ⟨_, _, hye2, -, -, -, IYC⟩ := (HS4.out.keepI hg HIY.out).open
            have hkx : k < (startL 0 xs xs.length).length := by rw [startL_len]; exact hlt
            have hky : k < (startL 0 ys ys.length).length := by rw [startL_len]; exact hlty
            obtain ⟨xb, xo, hxa, hcx⟩ := IXC k hkx
            obtain ⟨yb, yo, hya, hcy⟩ := IYC k hky
            simp only [Value.slice.injEq] at hxe2 hye2
            rw [← hxe2.1] at hxa
            rw [← hye2.1] at hya
            subst hxa hya
            rw [startL_get 0 xs hlt hkx] at hcx
            rw [startL_get 0 ys hlty hky] at hcy
            have hdx := HPX.out k hlt
            have hdy := HPY.out k hlty
            obtain ⟨I, hI⟩ : ∃ x, 0 + 1 + (xs.take k).flatten.length = x := ⟨_, rfl⟩
            obtain ⟨J, hJ⟩ : ∃ x, 0 + 1 + (ys.take k).flatten.length = x := ⟨_, rfl⟩
            rw [hI] at hcx hdx
            rw [hJ] at hcy hdy
            have hzk := HXT.out xs[k] (List.getElem_mem hlt)
            have huk := HYT.out ys[k] (List.getElem_mem hlty)
            have hzl := congrArg List.length hdx
            have hul := congrArg List.length hdy
            rw [List.length_drop, List.length_append] at hzl hul
            have hz0 := hzk.ne
            have hu0 := huk.ne
            have hc0r := hSr.c0
            have HPAX := hid (show ∀ (X : World), Below wr.heap.size wr X → Calls Tryz.prog 164 #[.slice sa s.length sc, .slice (some ⟨pb, po, none⟩) (rp.length + 1) pc, .int .i64 I] X fun e w' => ∃ u, e = .returned u ∧ w'.ownsRow X.heap.size 3 1 u xs[k].length (xs[k].map (Value.int .i64)) ∧ Below X.heap.size X w' from fun X hX => ref1_Part _ _ s 24 ((c' : Int) :: rp) xs[k] _ I X (hSr.sgn.below hX) ((HS.out.keepI hgw HX1.out).below hX) hzk hdx (T_lt24r HX2.out.T) (by omega) (by omega))
            have HPAY := hid (show ∀ (X : World), Below wr.heap.size wr X → Calls Tryz.prog 164 #[.slice sa s.length sc, .slice (some ⟨qb, qo, none⟩) (rq.length + 1) qc, .int .i64 J] X fun e w' => ∃ u, e = .returned u ∧ w'.ownsRow X.heap.size 3 1 u ys[k].length (ys[k].map (Value.int .i64)) ∧ Below X.heap.size X w' from fun X hX => ref1_Part _ _ s 24 ((c' : Int) :: rq) ys[k] _ J X (hSr.sgn.below hX) ((HS.out.keepI hgw HY1.out).below hX) huk hdy (T_lt24r HY2.out.T) (by omega) (by omega))
            have hmeas : meas1 (mR T') xs[k] < N := by
              have h1 := meas1_arg (by rw [← HRP.out]; exact HX2.out) hA hlt (by omega)
              have h2 := HN.out
              omega
            have HIH := hid (fun (X : World) (u1 u2 : Value) (hX : RSol X px (.slice sa s.length sc) s T') (r1 : Ints X u1 xs[k]) (r2 : Ints X u2 ys[k]) => IH.out xs[k] ys[k] u1 u2 T' X hmeas hX hA.1 hzk huk (by omega) (by omega) r1 r2)
            have HNEXT := hid (fun m2 (h : SolOK s (mR T') xs[k] ys[k] m2) => hA.next hlt hlty h)
            have HNO := hid (fun (h : SolNo s (mR T') xs[k] ys[k]) => ((by rw [HRP.out, HRQ.out] ; exact SolArgs.no hA HLXY.out HXT.out HYT.out hlt hlty h : SolNo s (mR T) ((c' : Int) :: rp) ((c' : Int) :: rq)).looked HX2.out HY2.out))
            have hzl60 : xs[k].length ≤ 60 := by omega
            have hul60 : ys[k].length ≤ 60 := by omega
            have HSR := hid hSr
            have hkb1 : (0 : Int) ≤ (k : Int) := by omega
            have hkb2 : (k : Int) < (xs.length : Int) := by omega
            have hkb3 : (k : Int) < (ys.length : Int) := by omega
            clear hzk huk hdx hdy hzl hul hA hSr IXC IYC hkx hky hxe2 hye2 hmeas hI hJ
            go_wp2_with fail
            go_region_held3 (fun w' => w'.cell? ⟨px, 0, none⟩ = some (.slice sa s.length sc) ∧ w'.cell? ⟨xb, xo + k, none⟩ = some (.int .i64 I) ∧ w'.cell? ⟨yb, yo + k, none⟩ = some (.int .i64 J)) (first | exact ⟨by assumption, by assumption, by assumption⟩ | go_keep)
              (first
                | (go_at_call 164; with_reducible refine (HPAX.out _ (by first | exact (Below.refl _ _).drew)).mono ?_; rintro e w5 ⟨ux, rfl, ox, hb5'⟩; have hb5 : Below wr.heap.size wr w5 := (Below.refl wr.heap.size wr).drew.trans (hb5'.mono (by simp)); have d1 := (hb5.cell (World.block_lt_of_cell? _ _ hc0r)).trans hc0r; have d2 := (hb5.cell (World.block_lt_of_cell? _ _ hcx)).trans hcx; have d3 := (hb5.cell (World.block_lt_of_cell? _ _ hcy)).trans hcy)
                | (go_at_call 164; with_reducible refine (HPAY.out _ (by first | exact hb5)).mono ?_; rintro e w6 ⟨uy, rfl, oy, hb6'⟩; have hb6 := hb5.trans (hb6'.mono hb5.size); have d1 := (hb6.cell (World.block_lt_of_cell? _ _ hc0r)).trans hc0r; have d2 := (hb6.cell (World.block_lt_of_cell? _ _ hcx)).trans hcx; have d3 := (hb6.cell (World.block_lt_of_cell? _ _ hcy)).trans hcy)
                | (go_at_call 196; refine (HIH.out _ _ _ (HSR.out.below hb6) ((Ints.of_owns ox (by omega)).below hb6') (Ints.of_owns oy (by omega))).mono ?_; intro e w7 hpost; obtain ⟨z, T7, hz7, hS7, hg7, hok, hno⟩ := hpost.bool; subst hz7; have e1 := hS7.c0; have e2 := (HSR.out.below hb6).arr.keep rfl hg7 d2 (fun x n c h => by cases h); have e3 := (HSR.out.below hb6).arr.keep rfl hg7 d3 (fun x n c h => by cases h)))
            have HG7 := hid (grown_trans hg (grown_trans (grown_of_below hb6) hg7))
            have HS7 := hid hS7
            have HOK := hid hok
            have HNO2 := hid hno
            clear hpost hg7 hS7 hok hno d1 d2 d3 e1 e2 e3 hb5 hb6 hb5' hb6' ox oy
            cases z with
            | true =>
              have HA2 := hid (HNEXT.out _ (HOK.out rfl))
              go_wp2
              go_roundg (xs.length - (k + 1))
              case measure => omega
              case rel => exact ⟨k + 1, T7, by omega, rfl, by go_num, HS7.out, HA2.out, HG7.out⟩
            | false =>
              have HEND := hid (HNO.out (HNO2.out rfl))
              go_wp2
              go_ret
              exact ⟨T7, HS7.out, grown_trans (grown_of_below HB4.out) HG7.out, Or.inr ⟨rfl, HEND.out⟩⟩
          · have hkx : k = xs.length := by omega
            have HEND : Hid (SolOK s (mR T) a b (mR T')) := hid (by
              rw [hkx] at hA
              have := hA.done (c := c') HLXY.out HXT.out HYT.out
              rw [← HRP.out, ← HRQ.out] at this
              exact this.looked HX2.out HY2.out)
            have HSR := hid hSr
            clear hA hkx hSr
            go_wp2
            go_ret
            exact ⟨T', HSR.out, hgw, Or.inl ⟨rfl, HEND.out⟩⟩
      · have b4 : (cp != cq) = true := by simpa using hpq
        have HEND : Hid (SolNo s (mR T) a b) := hid ((SolNo.clash hp0' hq0' hpq).looked HX2.out HY2.out)
        go_enter Tryz.func196, Tryz.ntmps196
        go_wp2_with fail
        refine HLX.out.mono ?_
        rintro e w1 ⟨rfl, n1, rfl⟩
        go_wp2_with fail
        refine (HLY.out _).mono ?_
        rintro e w2 ⟨rfl, n2, rfl⟩
        go_wp2_with fail
        go_quiet (fail)
        go_wp2_with fail
        go_quiet (fail)
        go_wp2_with fail
        go_ret
        exact ⟨T, HS.out.below (below_drewN (below_self_drewN w _) _), grown_of_below (below_drewN (below_self_drewN w _) _), Or.inr ⟨rfl, HEND.out⟩⟩
end Go.Proofs.YtmpjaakkjhmpmaaGreatDoor
