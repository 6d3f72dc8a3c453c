/-
  WHAT IT HOLDS: contracts of three, Conflicts and Merged of package blame and of the reference of layer 9. Conditions: the arguments read as data; small signs, small libraries.
-/
import Derived.Test.YtlbjbmpkaniojaaGreatZRBlameMerges39
import Derived.Test.YtlbjbmpkaniojaaGreatZRBlameMerges43
import Derived.Test.YtlbjbmpkaniojaaGreatZRBlameMerges42
namespace Go.Proofs.YtlbjbmpkaniojaaGreat
open Go Go.RowKit Go.Maps
def thrB (s : Sg) (base a b : List En) : Bool := edB s base && (edB s a && edB s b)
def thrE (s : Sg) (base a b : List En) : Int := if thrB s base a b = true then 0 else 1
theorem thr_yes {s : Sg} {base a b : List En} (h : edB s base = true) (h1 : edB s a = true) (h2 : edB s b = true) : thrB s base a b = true ∧ thrE s base a b = 0 := by
  unfold thrE thrB
  rw [h, h1, h2]
  exact ⟨rfl, rfl⟩
theorem thr_no {s : Sg} {base a b : List En} (h : edB s base = false ∨ edB s a = false ∨ edB s b = false) : thrB s base a b = false ∧ thrE s base a b = 1 := by
  unfold thrE thrB
  rcases h with h | h | h <;> rw [h] <;> simp
theorem cnf_no {s : Sg} {base a b : List En} (h : thrB s base a b = false) : cnfL s base a b = ([], 1) := by
  unfold cnfL; unfold thrB at h; rw [h]; rfl
theorem cnf_yes {s : Sg} {base a b : List En} (h : thrB s base a b = true) : cnfL s base a b = (badM base a b, 0) := by
  unfold cnfL; unfold thrB at h; rw [h]; rfl
theorem mrg_no {s : Sg} {base a b : List En} (h : thrB s base a b = false) : mrgL s base a b = ([], 1) := by
  unfold mrgL; unfold thrB at h; rw [h]; rfl
theorem mrg_yes {s : Sg} {base a b : List En} (h : thrB s base a b = true) : mrgL s base a b = (if 0 < (badM base a b).length then ([], 10) else if 60 < (outB base a b (mrgN base a b)).length then ([], 4) else (outB base a b (mrgN base a b), 0)) := by
  unfold mrgL; unfold thrB at h; rw [h]; rfl
theorem thr_of {s : Sg} {base a b : List En} (h : thrB s base a b = true) : edB s base = true ∧ edB s a = true ∧ edB s b = true := by
  unfold thrB at h
  rw [Bool.and_eq_true, Bool.and_eq_true] at h
  exact ⟨h.1, h.2.1, h.2.2⟩
def CnfQ (R : List Nm × Int) (w : World) (e : Ending) (w' : World) : Prop := ∃ u, e = .returned (.tuple #[u, .int .i64 R.2]) ∧ TxtsAt w' u R.1 ∧ Below w.heap.size w w'
theorem CnfQ.no {R : List Nm × Int} {w w' : World} {er : Int} (hR : R = ([], er)) (h : Below w.heap.size w w') : CnfQ R w (.returned (.tuple #[.slice none 0 0, .int .i64 er])) w' := by
  subst hR; exact ⟨_, rfl, TxtsAt.nil _, h⟩
theorem CnfQ.yes {R : List Nm × Int} {w w' : World} {u : Value} {l : List Nm} (hR : R = (l, 0)) (hu : TxtsAt w' u l) (h : Below w.heap.size w w') : CnfQ R w (.returned (.tuple #[u, .int .i64 0])) w' := by
  subst hR; exact ⟨_, rfl, hu, h⟩
def MrdQ (R : List En × Int) (w : World) (e : Ending) (w' : World) : Prop := ∃ u, e = .returned (.tuple #[u, .int .i64 R.2]) ∧ EntsAt w' u R.1 ∧ Below w.heap.size w w'
theorem MrdQ.no {R : List En × Int} {w w' : World} {er : Int} (hR : R = ([], er)) (h : Below w.heap.size w w') : MrdQ R w (.returned (.tuple #[.slice none 0 0, .int .i64 er])) w' := by
  subst hR; exact ⟨_, rfl, EntsAt.nil _, h⟩
theorem MrdQ.yes {R : List En × Int} {w w' : World} {u : Value} {l : List En} (hR : R = (l, 0)) (hu : EntsAt w' u l) (h : Below w.heap.size w w') : MrdQ R w (.returned (.tuple #[u, .int .i64 0])) w' := by
  subst hR; exact ⟨_, rfl, hu, h⟩
set_option maxHeartbeats 4000000 in
set_option maxRecDepth 100000 in
theorem blame_three (vs v0 v1 v2 : Value) (s : Sg) (base a b : List En) (w : World) (hs : SignAt w vs s) (h0 : EntsAt w v0 base) (h1 : EntsAt w v1 a) (h2 : EntsAt w v2 b) (hs1 : s.length ≤ 1000) (l0 : base.length ≤ 1000) (l1 : a.length ≤ 1000) (l2 : b.length ≤ 1000) :
    Calls Tryz.prog 102 #[vs, v0, v1, v2] w fun e w' => e = .returned (.int .i64 (thrE s base a b)) ∧ Below w.heap.size w w' := by
  have HE0 := hid (blame_Edition vs v0 s base w hs h0 hs1 l0)
  have HE1 := hid (fun (X : World) (hX : Below w.heap.size w X) => blame_Edition vs v1 s a X (hs.below hX) (h1.below hX) hs1 l1)
  have HE2 := hid (fun (X : World) (hX : Below w.heap.size w X) => blame_Edition vs v2 s b X (hs.below hX) (h2.below hX) hs1 l2)
  obtain ⟨sp, sc, rfl, -⟩ := hs.open
  obtain ⟨p0, c0, rfl, -⟩ := h0.open
  obtain ⟨p1, c1, rfl, -⟩ := h1.open
  obtain ⟨p2, c2, rfl, -⟩ := h2.open
  clear hs h0 h1 h2 hs1 l0 l1 l2
  cases g0 : edB s base
  · have HF := hid (thr_no (a := a) (b := b) (Or.inl g0))
    rw [g0] at HE0
    clear g0
    go_enter Tryz.func102, Tryz.ntmps102
    go_wp2_with fail
    refine HE0.out.mono ?_
    rintro e w1 ⟨rfl, hb1⟩
    go_wp2
    go_ret
    exact ⟨by first | exact congrArg (fun z : Int => Ending.returned (.int .i64 z)) HF.out.2.symm | exact congrArg (fun z : Bool => Ending.returned (.bool z)) HF.out.1.symm, hb1⟩
  rw [g0] at HE0
  have G0 := hid g0
  clear g0
  cases g1 : edB s a
  · have HF := hid (thr_no (base := base) (b := b) (Or.inr (Or.inl g1)))
    simp only [g1] at HE1
    clear g1
    go_enter Tryz.func102, Tryz.ntmps102
    go_wp2_with fail
    refine HE0.out.mono ?_
    rintro e w1 ⟨rfl, hb1⟩
    have HB1 := hid hb1
    have K1 := hid (HE1.out w1 hb1)
    clear hb1
    go_wp2_with fail
    refine K1.out.mono ?_
    rintro e w2 ⟨rfl, hb2⟩
    go_wp2
    go_ret
    exact ⟨by first | exact congrArg (fun z : Int => Ending.returned (.int .i64 z)) HF.out.2.symm | exact congrArg (fun z : Bool => Ending.returned (.bool z)) HF.out.1.symm, HB1.out.trans (hb2.mono HB1.out.size)⟩
  simp only [g1] at HE1
  have G1 := hid g1
  clear g1
  cases g2 : edB s b
  · have HF := hid (thr_no (base := base) (a := a) (Or.inr (Or.inr g2)))
    simp only [g2] at HE2
    clear g2
    go_enter Tryz.func102, Tryz.ntmps102
    go_wp2_with fail
    refine HE0.out.mono ?_
    rintro e w1 ⟨rfl, hb1⟩
    have HB1 := hid hb1
    have K1 := hid (HE1.out w1 hb1)
    clear hb1
    go_wp2_with fail
    refine K1.out.mono ?_
    rintro e w2 ⟨rfl, hb2⟩
    have HB2 := hid (HB1.out.trans (hb2.mono HB1.out.size))
    have K2 := hid (HE2.out w2 HB2.out)
    clear hb2
    go_wp2_with fail
    refine K2.out.mono ?_
    rintro e w3 ⟨rfl, hb3⟩
    go_wp2
    go_ret
    exact ⟨by first | exact congrArg (fun z : Int => Ending.returned (.int .i64 z)) HF.out.2.symm | exact congrArg (fun z : Bool => Ending.returned (.bool z)) HF.out.1.symm, HB2.out.trans (hb3.mono HB2.out.size)⟩
  have HF := hid (thr_yes G0.out G1.out g2)
  simp only [g2] at HE2
  clear g2
  go_enter Tryz.func102, Tryz.ntmps102
  go_wp2_with fail
  refine HE0.out.mono ?_
  rintro e w1 ⟨rfl, hb1⟩
  have HB1 := hid hb1
  have K1 := hid (HE1.out w1 hb1)
  clear hb1
  go_wp2_with fail
  refine K1.out.mono ?_
  rintro e w2 ⟨rfl, hb2⟩
  have HB2 := hid (HB1.out.trans (hb2.mono HB1.out.size))
  have K2 := hid (HE2.out w2 HB2.out)
  clear hb2
  go_wp2_with fail
  refine K2.out.mono ?_
  rintro e w3 ⟨rfl, hb3⟩
  go_wp2
  go_ret
  exact ⟨by first | exact congrArg (fun z : Int => Ending.returned (.int .i64 z)) HF.out.2.symm | exact congrArg (fun z : Bool => Ending.returned (.bool z)) HF.out.1.symm, HB2.out.trans (hb3.mono HB2.out.size)⟩
set_option maxHeartbeats 4000000 in
set_option maxRecDepth 100000 in
theorem ref9_three (vs v0 v1 v2 : Value) (s : Sg) (base a b : List En) (w : World) (hs : SignAt w vs s) (h0 : EntsAt w v0 base) (h1 : EntsAt w v1 a) (h2 : EntsAt w v2 b) (hs1 : s.length ≤ 1000) (l0 : base.length ≤ 1000) (l1 : a.length ≤ 1000) (l2 : b.length ≤ 1000) :
    Calls Tryz.prog 104 #[vs, v0, v1, v2] w fun e w' => e = .returned (.bool (thrB s base a b)) ∧ Below w.heap.size w w' := by
  have HE0 := hid (ref9_Edition vs v0 s base w hs h0 hs1 l0)
  have HE1 := hid (fun (X : World) (hX : Below w.heap.size w X) => ref9_Edition vs v1 s a X (hs.below hX) (h1.below hX) hs1 l1)
  have HE2 := hid (fun (X : World) (hX : Below w.heap.size w X) => ref9_Edition vs v2 s b X (hs.below hX) (h2.below hX) hs1 l2)
  obtain ⟨sp, sc, rfl, -⟩ := hs.open
  obtain ⟨p0, c0, rfl, -⟩ := h0.open
  obtain ⟨p1, c1, rfl, -⟩ := h1.open
  obtain ⟨p2, c2, rfl, -⟩ := h2.open
  clear hs h0 h1 h2 hs1 l0 l1 l2
  cases g0 : edB s base
  · have HF := hid (thr_no (a := a) (b := b) (Or.inl g0))
    rw [g0] at HE0
    clear g0
    go_enter Tryz.func104, Tryz.ntmps104
    go_wp2_with fail
    refine HE0.out.mono ?_
    rintro e w1 ⟨rfl, hb1⟩
    go_wp2
    go_ret
    exact ⟨by first | exact congrArg (fun z : Int => Ending.returned (.int .i64 z)) HF.out.2.symm | exact congrArg (fun z : Bool => Ending.returned (.bool z)) HF.out.1.symm, hb1⟩
  rw [g0] at HE0
  have G0 := hid g0
  clear g0
  cases g1 : edB s a
  · have HF := hid (thr_no (base := base) (b := b) (Or.inr (Or.inl g1)))
    simp only [g1] at HE1
    clear g1
    go_enter Tryz.func104, Tryz.ntmps104
    go_wp2_with fail
    refine HE0.out.mono ?_
    rintro e w1 ⟨rfl, hb1⟩
    have HB1 := hid hb1
    have K1 := hid (HE1.out w1 hb1)
    clear hb1
    go_wp2_with fail
    refine K1.out.mono ?_
    rintro e w2 ⟨rfl, hb2⟩
    go_wp2
    go_ret
    exact ⟨by first | exact congrArg (fun z : Int => Ending.returned (.int .i64 z)) HF.out.2.symm | exact congrArg (fun z : Bool => Ending.returned (.bool z)) HF.out.1.symm, HB1.out.trans (hb2.mono HB1.out.size)⟩
  simp only [g1] at HE1
  have G1 := hid g1
  clear g1
  cases g2 : edB s b
  · have HF := hid (thr_no (base := base) (a := a) (Or.inr (Or.inr g2)))
    simp only [g2] at HE2
    clear g2
    go_enter Tryz.func104, Tryz.ntmps104
    go_wp2_with fail
    refine HE0.out.mono ?_
    rintro e w1 ⟨rfl, hb1⟩
    have HB1 := hid hb1
    have K1 := hid (HE1.out w1 hb1)
    clear hb1
    go_wp2_with fail
    refine K1.out.mono ?_
    rintro e w2 ⟨rfl, hb2⟩
    have HB2 := hid (HB1.out.trans (hb2.mono HB1.out.size))
    have K2 := hid (HE2.out w2 HB2.out)
    clear hb2
    go_wp2_with fail
    refine K2.out.mono ?_
    rintro e w3 ⟨rfl, hb3⟩
    go_wp2
    go_ret
    exact ⟨by first | exact congrArg (fun z : Int => Ending.returned (.int .i64 z)) HF.out.2.symm | exact congrArg (fun z : Bool => Ending.returned (.bool z)) HF.out.1.symm, HB2.out.trans (hb3.mono HB2.out.size)⟩
  have HF := hid (thr_yes G0.out G1.out g2)
  simp only [g2] at HE2
  clear g2
  go_enter Tryz.func104, Tryz.ntmps104
  go_wp2_with fail
  refine HE0.out.mono ?_
  rintro e w1 ⟨rfl, hb1⟩
  have HB1 := hid hb1
  have K1 := hid (HE1.out w1 hb1)
  clear hb1
  go_wp2_with fail
  refine K1.out.mono ?_
  rintro e w2 ⟨rfl, hb2⟩
  have HB2 := hid (HB1.out.trans (hb2.mono HB1.out.size))
  have K2 := hid (HE2.out w2 HB2.out)
  clear hb2
  go_wp2_with fail
  refine K2.out.mono ?_
  rintro e w3 ⟨rfl, hb3⟩
  go_wp2
  go_ret
  exact ⟨by first | exact congrArg (fun z : Int => Ending.returned (.int .i64 z)) HF.out.2.symm | exact congrArg (fun z : Bool => Ending.returned (.bool z)) HF.out.1.symm, HB2.out.trans (hb3.mono HB2.out.size)⟩
set_option maxHeartbeats 4000000 in
set_option maxRecDepth 100000 in
theorem blame_Conflicts (vs v0 v1 v2 : Value) (s : Sg) (base a b : List En) (w : World) (hs : SignAt w vs s) (h0 : EntsAt w v0 base) (h1 : EntsAt w v1 a) (h2 : EntsAt w v2 b) (hs1 : s.length ≤ 1000) (l0 : base.length ≤ 1000) (l1 : a.length ≤ 1000) (l2 : b.length ≤ 1000) :
    Calls Tryz.prog 47 #[vs, v0, v1, v2] w fun e w' => CnfQ (cnfL s base a b) w e w' := by
  have HT := hid (blame_three vs v0 v1 v2 s base a b w hs h0 h1 h2 hs1 l0 l1 l2)
  have HM := hid (fun (h : thrB s base a b = true) (X : World) (hX : Below w.heap.size w X) => blame_merged v0 v1 v2 s base a b X (h0.below hX) (h1.below hX) (h2.below hX) (thr_of h).1 (thr_of h).2.1 (thr_of h).2.2)
  obtain ⟨sp, sc, rfl, -⟩ := hs.open
  obtain ⟨p0, c0, rfl, -⟩ := h0.open
  obtain ⟨p1, c1, rfl, -⟩ := h1.open
  obtain ⟨p2, c2, rfl, -⟩ := h2.open
  clear hs h0 h1 h2 hs1 l0 l1 l2
  cases g0 : thrB s base a b
  · have HF := hid (cnf_no g0)
    (try unfold thrE at HT)
    rw [g0] at HT
    clear g0 HM
    go_enter Tryz.func47, Tryz.ntmps47
    go_wp2_with fail
    refine HT.out.mono ?_
    rintro e w1 ⟨rfl, hb1⟩
    go_wp2
    go_ret2
    exact CnfQ.no HF.out hb1
  have HF := hid (cnf_yes g0)
  have HM1 := hid (HM.out g0)
  (try unfold thrE at HT)
  rw [g0] at HT
  clear g0 HM
  go_enter Tryz.func47, Tryz.ntmps47
  go_wp2_with fail
  refine HT.out.mono ?_
  rintro e w1 ⟨rfl, hb1⟩
  have HB1 := hid hb1
  have K1 := hid (HM1.out w1 hb1)
  clear hb1
  go_wp2_with fail
  refine K1.out.mono ?_
  rintro e w2 ⟨u1, u2, rfl, hu1, hu2, hb2⟩
  have HB2 := hid (HB1.out.trans (hb2.mono HB1.out.size))
  have HU2 := hid hu2
  obtain ⟨q1, d1, rfl, -⟩ := hu1.open
  obtain ⟨q2, d2, rfl, -⟩ := hu2.open
  clear hu1 hu2 hb2
  go_wp2
  go_ret2
  exact CnfQ.yes HF.out HU2.out HB2.out
set_option maxHeartbeats 4000000 in
set_option maxRecDepth 100000 in
theorem ref9_Conflicts (vs v0 v1 v2 : Value) (s : Sg) (base a b : List En) (w : World) (hs : SignAt w vs s) (h0 : EntsAt w v0 base) (h1 : EntsAt w v1 a) (h2 : EntsAt w v2 b) (hs1 : s.length ≤ 1000) (l0 : base.length ≤ 1000) (l1 : a.length ≤ 1000) (l2 : b.length ≤ 1000) :
    Calls Tryz.prog 48 #[vs, v0, v1, v2] w fun e w' => CnfQ (cnfL s base a b) w e w' := by
  have HT := hid (ref9_three vs v0 v1 v2 s base a b w hs h0 h1 h2 hs1 l0 l1 l2)
  have HM := hid (fun (h : thrB s base a b = true) (X : World) (hX : Below w.heap.size w X) => ref9_merge v0 v1 v2 s base a b X (h0.below hX) (h1.below hX) (h2.below hX) (thr_of h).1 (thr_of h).2.1 (thr_of h).2.2)
  obtain ⟨sp, sc, rfl, -⟩ := hs.open
  obtain ⟨p0, c0, rfl, -⟩ := h0.open
  obtain ⟨p1, c1, rfl, -⟩ := h1.open
  obtain ⟨p2, c2, rfl, -⟩ := h2.open
  clear hs h0 h1 h2 hs1 l0 l1 l2
  cases g0 : thrB s base a b
  · have HF := hid (cnf_no g0)
    (try unfold thrE at HT)
    rw [g0] at HT
    clear g0 HM
    go_enter Tryz.func48, Tryz.ntmps48
    go_wp2_with fail
    refine HT.out.mono ?_
    rintro e w1 ⟨rfl, hb1⟩
    go_wp2
    go_ret2
    exact CnfQ.no HF.out hb1
  have HF := hid (cnf_yes g0)
  have HM1 := hid (HM.out g0)
  (try unfold thrE at HT)
  rw [g0] at HT
  clear g0 HM
  go_enter Tryz.func48, Tryz.ntmps48
  go_wp2_with fail
  refine HT.out.mono ?_
  rintro e w1 ⟨rfl, hb1⟩
  have HB1 := hid hb1
  have K1 := hid (HM1.out w1 hb1)
  clear hb1
  go_wp2_with fail
  refine K1.out.mono ?_
  rintro e w2 ⟨u1, u2, rfl, hu1, hu2, hb2⟩
  have HB2 := hid (HB1.out.trans (hb2.mono HB1.out.size))
  have HU2 := hid hu2
  obtain ⟨q1, d1, rfl, -⟩ := hu1.open
  obtain ⟨q2, d2, rfl, -⟩ := hu2.open
  clear hu1 hu2 hb2
  go_wp2
  go_ret2
  exact CnfQ.yes HF.out HU2.out HB2.out
set_option maxHeartbeats 4000000 in
set_option maxRecDepth 100000 in
theorem blame_Merged (vs v0 v1 v2 : Value) (s : Sg) (base a b : List En) (w : World) (hs : SignAt w vs s) (h0 : EntsAt w v0 base) (h1 : EntsAt w v1 a) (h2 : EntsAt w v2 b) (hs1 : s.length ≤ 1000) (l0 : base.length ≤ 1000) (l1 : a.length ≤ 1000) (l2 : b.length ≤ 1000) :
    Calls Tryz.prog 49 #[vs, v0, v1, v2] w fun e w' => MrdQ (mrgL s base a b) w e w' := by
  have HT := hid (blame_three vs v0 v1 v2 s base a b w hs h0 h1 h2 hs1 l0 l1 l2)
  have HM := hid (fun (h : thrB s base a b = true) (X : World) (hX : Below w.heap.size w X) => blame_merged v0 v1 v2 s base a b X (h0.below hX) (h1.below hX) (h2.below hX) (thr_of h).1 (thr_of h).2.1 (thr_of h).2.2)
  obtain ⟨sp, sc, rfl, -⟩ := hs.open
  obtain ⟨p0, c0, rfl, -⟩ := h0.open
  obtain ⟨p1, c1, rfl, -⟩ := h1.open
  obtain ⟨p2, c2, rfl, -⟩ := h2.open
  clear hs h0 h1 h2 hs1 l0 l1 l2
  cases g0 : thrB s base a b
  · have HF := hid (mrg_no g0)
    (try unfold thrE at HT)
    rw [g0] at HT
    clear g0 HM
    go_enter Tryz.func49, Tryz.ntmps49
    go_wp2_with fail
    refine HT.out.mono ?_
    rintro e w1 ⟨rfl, hb1⟩
    go_wp2
    go_ret2
    exact MrdQ.no HF.out hb1
  have HF := hid (mrg_yes g0)
  have HEQ := hid (outR_eq (base := base) (a := a) (b := b) (ns := mrgN base a b))
  have HM1 := hid (HM.out g0)
  (try unfold thrE at HT)
  rw [g0] at HT
  clear g0 HM
  unfold badM at HF HM1
  obtain ⟨B, hB⟩ : ∃ B, (mrgN base a b).filter (bdN base a b) = B := ⟨_, rfl⟩
  obtain ⟨O, hO⟩ : ∃ O, outB base a b (mrgN base a b) = O := ⟨_, rfl⟩
  obtain ⟨P, hP⟩ : ∃ P, outB base a b (mrgN base a b) = P := ⟨_, rfl⟩
  have HPO : Hid (B = [] → P = O) := hid (fun h => by subst hP hO; first | rfl | exact HEQ.out (hB.trans h))
  rw [hB, hO] at HF
  simp only [hB, hP] at HM1
  clear hB hO hP HEQ
  go_enter Tryz.func49, Tryz.ntmps49
  go_wp2_with fail
  refine HT.out.mono ?_
  rintro e w1 ⟨rfl, hb1⟩
  have HB1 := hid hb1
  have K1 := hid (HM1.out w1 hb1)
  clear hb1
  go_wp2_with fail
  refine K1.out.mono ?_
  rintro e w2 ⟨u1, u2, rfl, hu1, hu2, hb2⟩
  have HB2 := hid (HB1.out.trans (hb2.mono HB1.out.size))
  have HU1 := hid hu1
  obtain ⟨q1, d1, rfl, -⟩ := hu1.open
  obtain ⟨q2, d2, rfl, -⟩ := hu2.open
  clear hu1 hu2 hb2
  by_cases z1 : 0 < B.length
  case pos =>
    have HR := hid (HF.out.trans (if_pos z1))
    go_wp2
    go_ret2
    exact MrdQ.no HR.out HB2.out
  have HR := hid (HF.out.trans (if_neg z1))
  have HPE := hid (HPO.out (List.length_eq_zero_iff.1 (by omega)))
  rw [← HPE.out] at HR
  by_cases z2 : 60 < P.length
  case pos =>
    have HR2 := hid (HR.out.trans (if_pos z2))
    go_wp2
    go_ret2
    exact MrdQ.no HR2.out HB2.out
  have HR2 := hid (HR.out.trans (if_neg z2))
  go_wp2
  go_ret2
  exact MrdQ.yes HR2.out HU1.out HB2.out
set_option maxHeartbeats 4000000 in
set_option maxRecDepth 100000 in
theorem ref9_Merged (vs v0 v1 v2 : Value) (s : Sg) (base a b : List En) (w : World) (hs : SignAt w vs s) (h0 : EntsAt w v0 base) (h1 : EntsAt w v1 a) (h2 : EntsAt w v2 b) (hs1 : s.length ≤ 1000) (l0 : base.length ≤ 1000) (l1 : a.length ≤ 1000) (l2 : b.length ≤ 1000) :
    Calls Tryz.prog 50 #[vs, v0, v1, v2] w fun e w' => MrdQ (mrgL s base a b) w e w' := by
  have HT := hid (ref9_three vs v0 v1 v2 s base a b w hs h0 h1 h2 hs1 l0 l1 l2)
  have HM := hid (fun (h : thrB s base a b = true) (X : World) (hX : Below w.heap.size w X) => ref9_merge v0 v1 v2 s base a b X (h0.below hX) (h1.below hX) (h2.below hX) (thr_of h).1 (thr_of h).2.1 (thr_of h).2.2)
  obtain ⟨sp, sc, rfl, -⟩ := hs.open
  obtain ⟨p0, c0, rfl, -⟩ := h0.open
  obtain ⟨p1, c1, rfl, -⟩ := h1.open
  obtain ⟨p2, c2, rfl, -⟩ := h2.open
  clear hs h0 h1 h2 hs1 l0 l1 l2
  cases g0 : thrB s base a b
  · have HF := hid (mrg_no g0)
    (try unfold thrE at HT)
    rw [g0] at HT
    clear g0 HM
    go_enter Tryz.func50, Tryz.ntmps50
    go_wp2_with fail
    refine HT.out.mono ?_
    rintro e w1 ⟨rfl, hb1⟩
    go_wp2
    go_ret2
    exact MrdQ.no HF.out hb1
  have HF := hid (mrg_yes g0)
  have HEQ := hid (outR_eq (base := base) (a := a) (b := b) (ns := mrgN base a b))
  have HM1 := hid (HM.out g0)
  (try unfold thrE at HT)
  rw [g0] at HT
  clear g0 HM
  unfold badM at HF HM1
  obtain ⟨B, hB⟩ : ∃ B, (mrgN base a b).filter (bdN base a b) = B := ⟨_, rfl⟩
  obtain ⟨O, hO⟩ : ∃ O, outB base a b (mrgN base a b) = O := ⟨_, rfl⟩
  obtain ⟨P, hP⟩ : ∃ P, outR base a b (mrgN base a b) = P := ⟨_, rfl⟩
  have HPO : Hid (B = [] → P = O) := hid (fun h => by subst hP hO; first | rfl | exact HEQ.out (hB.trans h))
  rw [hB, hO] at HF
  simp only [hB, hP] at HM1
  clear hB hO hP HEQ
  go_enter Tryz.func50, Tryz.ntmps50
  go_wp2_with fail
  refine HT.out.mono ?_
  rintro e w1 ⟨rfl, hb1⟩
  have HB1 := hid hb1
  have K1 := hid (HM1.out w1 hb1)
  clear hb1
  go_wp2_with fail
  refine K1.out.mono ?_
  rintro e w2 ⟨u1, u2, rfl, hu1, hu2, hb2⟩
  have HB2 := hid (HB1.out.trans (hb2.mono HB1.out.size))
  have HU1 := hid hu1
  obtain ⟨q1, d1, rfl, -⟩ := hu1.open
  obtain ⟨q2, d2, rfl, -⟩ := hu2.open
  clear hu1 hu2 hb2
  by_cases z1 : 0 < B.length
  case pos =>
    have HR := hid (HF.out.trans (if_pos z1))
    go_wp2
    go_ret2
    exact MrdQ.no HR.out HB2.out
  have HR := hid (HF.out.trans (if_neg z1))
  have HPE := hid (HPO.out (List.length_eq_zero_iff.1 (by omega)))
  rw [← HPE.out] at HR
  by_cases z2 : 60 < P.length
  case pos =>
    have HR2 := hid (HR.out.trans (if_pos z2))
    go_wp2
    go_ret2
    exact MrdQ.no HR2.out HB2.out
  have HR2 := hid (HR.out.trans (if_neg z2))
  go_wp2
  go_ret2
  exact MrdQ.yes HR2.out HU1.out HB2.out
end Go.Proofs.YtlbjbmpkaniojaaGreat
