/-
  WHAT IT HOLDS: contracts of carried and Carried of package tongue. Conditions: the arguments read as data; small signs.
  WHAT IT HOLDS: the plain law of TopCarriedUnify: what is unified, and whether, is carried by a dictionary that is one to one. No program in sight.
  WHAT IT HOLDS: the walk of the law TopCarriedUnify.
  WHAT IT HOLDS: contracts of Ranked of package find, of closeness and Closeness of the reference of layer 5, and of the law's symbols. Conditions: the arguments read as data; a small sign.
  WHAT IT HOLDS: the plain law of TopCarriedShelves: what meets, has, is a base and is close is carried by a dictionary that is one to one. No program in sight.
-/
import Derived.Test.YtldgkidojepdlaaGreatZRTopCarriedShelves28
import Derived.Test.YtldgkidojepdlaaGreatZRTopCarriedShelves24
import Derived.Test.YtldgkidojepdlaaGreatZRTopCarriedShelves23
import Derived.Test.YtldgkidojepdlaaGreatZRTopCarriedShelves22
import Derived.Test.YtldgkidojepdlaaGreatZRTopCarriedShelves3
import Derived.Test.YtldgkidojepdlaaGreatZRTopCarriedShelves34
import Derived.Test.YtldgkidojepdlaaGreatZRTopCarriedShelves45
import Derived.Test.YtldgkidojepdlaaGreatZRTopCarriedShelves39
import Derived.Test.YtldgkidojepdlaaGreatZRTopCarriedShelves33
import Derived.Test.YtldgkidojepdlaaGreatZRTopCarriedShelves10
namespace Go.Proofs.YtldgkidojepdlaaGreat
open Go Go.RowKit Go.Maps Go.Shelf
theorem boxF2 (w : World) (x : Value) (tx : TypeId) (W : World) (hb : Below (w.alloc (.cells #[x] tx)).heap.size (w.alloc (.cells #[x] tx)) W) : W.cell? ⟨w.heap.size, 0, none⟩ = some x ∧ W.frozen? ⟨w.heap.size, 0, none⟩ = false := by
  have k1 := cell_new1 w x tx
  have l1 := World.block_lt_of_cell? _ _ k1
  exact ⟨(hb.cell l1).trans k1, by rw [hb.frozen (p := ⟨w.heap.size, 0, none⟩) l1]; exact (Boxed.new w tx x).frozen⟩
theorem box5c (w : World) (x1 x2 x3 x4 x5 : Value) (t1 t2 t3 t4 t5 : TypeId) {W : World} (hW : ((((w.alloc (.cells #[x1] t1)).alloc (.cells #[x2] t2)).alloc (.cells #[x3] t3)).alloc (.cells #[x4] t4)).alloc (.cells #[x5] t5) = W) :
    Below w.heap.size w W ∧ W.heap.size = w.heap.size + 5 ∧ W.cell? ⟨w.heap.size, 0, none⟩ = some x1 ∧ W.cell? ⟨w.heap.size + 1, 0, none⟩ = some x2 ∧ W.cell? ⟨w.heap.size + 1 + 1, 0, none⟩ = some x3 ∧
      (W.cell? ⟨w.heap.size + 1 + 1 + 1, 0, none⟩ = some x4 ∧ W.frozen? ⟨w.heap.size + 1 + 1 + 1, 0, none⟩ = false) ∧ W.cell? ⟨w.heap.size + 1 + 1 + 1 + 1, 0, none⟩ = some x5 := by
  have k1 := cell_new1 w x1 t1
  have k2 := cell_new1 (w.alloc (.cells #[x1] t1)) x2 t2
  have k3 := cell_new1 ((w.alloc (.cells #[x1] t1)).alloc (.cells #[x2] t2)) x3 t3
  have k4 := boxF2 (((w.alloc (.cells #[x1] t1)).alloc (.cells #[x2] t2)).alloc (.cells #[x3] t3)) x4 t4 W (by rw [← hW]; exact (Below.refl _ _).alloc (Nat.le_refl _) _)
  have k5 := cell_new1 ((((w.alloc (.cells #[x1] t1)).alloc (.cells #[x2] t2)).alloc (.cells #[x3] t3)).alloc (.cells #[x4] t4)) x5 t5
  simp only [World.size_alloc] at k2 k3 k4 k5
  refine ⟨?_, ?_, ?_, ?_, ?_, k4, ?_⟩
  · rw [← hW]; exact ((((((Below.refl _ _).alloc (Nat.le_refl _) _).alloc (by simp) _).alloc (by simp; omega) _).alloc (by simp; omega) _).alloc (by simp; omega) _)
  · rw [← hW]; simp only [World.size_alloc]
  · rw [← hW]; exact cell_alloc_keep _ (cell_alloc_keep _ (cell_alloc_keep _ (cell_alloc_keep _ k1)))
  · rw [← hW]; exact cell_alloc_keep _ (cell_alloc_keep _ (cell_alloc_keep _ k2))
  · rw [← hW]; exact cell_alloc_keep _ (cell_alloc_keep _ k3)
  · rw [← hW]; exact k5
set_option maxHeartbeats 1000000 in
set_option maxRecDepth 100000 in
theorem tongue_carried (vs vd vt : Value) (s b : Sg) (d : Dic) (t : List Int) (w : World) (hs : SignAt w vs s) (hT : Ints w vt t) (hd : BindsAt w vd d) (hok : DicOK s b d) (ht : IsT s 12 t) (hl : t.length ≤ 60) :
    Calls Tryz.prog 19 #[vs, vd, vt] w fun e w' => ∃ u, e = .returned u ∧ w'.ownsRow w.heap.size 3 1 u (carL s d t).length ((carL s d t).map (Value.int .i64)) ∧ Below w.heap.size w w' := by
  have HC := hid (fun (W : World) (hb : Below w.heap.size w W) => tongue_carried1 (w.heap.size + 1 + 1) (w.heap.size + 1 + 1 + 1) w.heap.size (w.heap.size + 1 + 1 + 1 + 1) (w.heap.size + 1) vt vs vd s b d t w hs hT hd hok ⟨by omega, by omega, by omega, by omega⟩ (by omega) hl ht 0 [] W (by simp) hb)
  obtain ⟨ta, tc, rfl, -⟩ := hT.open
  obtain ⟨sa, sc, rfl, -⟩ := hs.open
  obtain ⟨da, dc, rfl, -⟩ := hd.open
  clear hs hT hd hok ht
  obtain ⟨W, hW⟩ : ∃ W, (((((w.alloc (.cells #[.slice sa s.length sc] 23)).alloc (.cells #[.slice da d.length dc] 24)).alloc (.cells #[.slice ta t.length tc] 29)).alloc (.cells #[.int .i64 0] 3)).alloc (.cells #[fnCr (w.heap.size + 1 + 1) (w.heap.size + 1 + 1 + 1) w.heap.size (w.heap.size + 1 + 1 + 1 + 1) (w.heap.size + 1)] 72)) = W := ⟨_, rfl⟩
  obtain ⟨b0, bsz, b1, b2, b3, b4, b5⟩ := box5c w _ _ _ _ _ _ _ _ _ _ hW
  have hc := HC.out W b0 ⟨b3, b1, b5, b2, b4.1, b4.2⟩
  have HCC := hid hc
  have HB0 := hid b0
  unfold fnCr at hW
  have HW := hid hW
  have hsz : w.heap.size + 5 ≤ W.heap.size := by omega
  clear hc HC b0 b1 b2 b3 b4 b5 bsz hW
  go_enter Tryz.func19, Tryz.ntmps19
  go_wp2_with fail
  rw [HW.out]
  refine HCC.out.mono ?_
  rintro e w1 ⟨u, rfl, hown, hg, -⟩
  have HO := hid (owns_base hown (show w.heap.size ≤ W.heap.size by omega))
  have HB := hid (HB0.out.grown hg (by omega) (fun q hq => by cases hq; omega))
  clear hown hg
  go_wp2
  go_ret
  exact ⟨_, rfl, HO.out, HB.out⟩
/-- what Carried answers. -/
def carD (a b : Sg) (d : Dic) (t : List Int) : List Int × Int := if dicB a b d && termB a t then (carL a d t, 0) else ([], 1)
set_option maxHeartbeats 1000000 in
theorem tongue_Carried (va vb vd vt : Value) (a b : Sg) (d : Dic) (t : List Int) (w : World) (ha : SignAt w va a) (hb : SignAt w vb b) (hd : BindsAt w vd d) (hT : Ints w vt t) (ha1 : a.length ≤ 1000) (hb1 : b.length ≤ 1000) :
    Calls Tryz.prog 8 #[va, vb, vd, vt] w fun e w' => ∃ u, e = .returned (.tuple #[u, .int .i64 (carD a b d t).2]) ∧ w'.ownsRow w.heap.size 3 1 u (carD a b d t).1.length ((carD a b d t).1.map (Value.int .i64)) ∧ Below w.heap.size w w' := by
  have HV := hid (tongue_Valid va vb vd a b d w ha hb hd ha1 hb1)
  have HT := hid (fun (X : World) (hX : Below w.heap.size w X) => term_Valid' va vt a t X (ha.below hX) (hT.below hX) ha1)
  cases h1 : dicB a b d
  · have HD : Hid (carD a b d t = ([], 1)) := hid (by unfold carD; rw [h1]; rfl)
    rw [h1] at HV
    rw [HD.out]
    clear h1
    go_enter Tryz.func8, Tryz.ntmps8
    go_wp2_with fail
    refine HV.out.mono ?_
    rintro e w1 ⟨rfl, hb1⟩
    go_wp2
    go_ret2
    exact ⟨_, rfl, World.ownsRow_nil _ _ _ _, hb1⟩
  · cases h2 : termB a t
    · have HD : Hid (carD a b d t = ([], 1)) := hid (by unfold carD; rw [h1, h2]; rfl)
      rw [h1] at HV
      rw [h2] at HT
      rw [HD.out]
      clear h1 h2
      go_enter Tryz.func8, Tryz.ntmps8
      go_wp2_with fail
      refine HV.out.mono ?_
      rintro e w1 ⟨rfl, hb1⟩
      go_wp2_with fail
      refine (HT.out _ hb1).mono ?_
      rintro e w2 ⟨rfl, hb2⟩
      go_wp2
      go_ret2
      exact ⟨_, rfl, World.ownsRow_nil _ _ _ _, hb1.trans (hb2.mono hb1.size)⟩
    · have HD : Hid (carD a b d t = (carL a d t, 0)) := hid (by unfold carD; rw [h1, h2]; rfl)
      obtain ⟨-, -, -, f4⟩ := termB_facts h2
      have HCR := hid (fun (X : World) (hX : Below w.heap.size w X) => tongue_carried va vd vt a b d t X (ha.below hX) (hT.below hX) (hd.below hX) (dicB_ok h1) (termB_T h2) f4)
      rw [h1] at HV
      rw [h2] at HT
      rw [HD.out]
      clear h1 h2
      go_enter Tryz.func8, Tryz.ntmps8
      go_wp2_with fail
      refine HV.out.mono ?_
      rintro e w1 ⟨rfl, hb1⟩
      go_wp2_with fail
      refine (HT.out _ hb1).mono ?_
      rintro e w2 ⟨rfl, hb2⟩
      have HB2 := hid (hb1.trans (hb2.mono hb1.size))
      clear hb1 hb2
      go_wp2_with fail
      refine (HCR.out _ HB2.out).mono ?_
      rintro e w3 ⟨u, rfl, hown, hb3⟩
      have HO := hid (owns_base hown HB2.out.size)
      have HB3 := hid (HB2.out.trans (hb3.mono HB2.out.size))
      clear hown hb3
      go_wp2
      go_ret2
      exact ⟨_, rfl, HO.out, HB3.out⟩
end Go.Proofs.YtldgkidojepdlaaGreat
namespace Go.Proofs.YtldgkidojepdlaaGreat
open Go Go.RowKit Go.Maps
theorem car_term {a b : Sg} {d : Dic} (hd : DicOK a b d) {p : List Int} (hp : termB a p = true) : termB b (carL a d p) = true := by
  obtain ⟨-, -, -, f4⟩ := termB_facts hp
  exact T_termB hd.sb (carL_T hd (termB_T hp)) (by rw [carL_len hd (termB_T hp)]; exact f4)
theorem car_vars_len {a b : Sg} {d : Dic} (hd : DicOK a b d) {m : Int} {t : List Int} (h : IsT a m t) : (varsF [] (carL a d t)).length = (varsF [] t).length := by
  have h1 : ∀ x, x ∈ varsF [] (carL a d t) ↔ x ∈ varsF [] t := by
    intro x
    rw [varsF_mem, varsF_mem]
    constructor
    · rintro (h0 | ⟨h1, h2⟩)
      · simp at h0
      · exact Or.inr ⟨(carL_neg hd h h2).1 h1, h2⟩
    · rintro (h0 | ⟨h1, h2⟩)
      · simp at h0
      · exact Or.inr ⟨(carL_neg hd h h2).2 h1, h2⟩
  have key : ∀ (l k : List Int), l.Nodup → k.Nodup → (∀ x ∈ l, x ∈ k) → l.length ≤ k.length := by
    intro l
    induction l with
    | nil => intro k _ _ _; simp
    | cons y l ih =>
      intro k h1 h2 h3
      have hy := h3 y (by simp)
      obtain ⟨g1, g2⟩ := List.nodup_cons.1 h1
      have := ih (k.erase y) g2 (h2.erase _) (fun x hx => (List.Nodup.mem_erase_iff h2).2 ⟨fun e => g1 (e ▸ hx), h3 x (by simp [hx])⟩)
      rw [List.length_erase_of_mem hy] at this
      have : 0 < k.length := List.length_pos_of_mem hy
      simp; omega
  have a1 := varsF_nodup (carL a d t) [] (by simp)
  have a2 := varsF_nodup t [] (by simp)
  exact Nat.le_antisymm (key _ _ a1 a2 fun x hx => (h1 x).1 hx) (key _ _ a2 a1 fun x hx => (h1 x).2 hx)
theorem car_madeB {a b : Sg} {d : Dic} (hd : DicOK a b d) {m : Int} {t : List Int} (h : IsT a m t) : madeB (carL a d t) = madeB t := by
  unfold madeB
  rw [carL_len hd h, car_vars_len hd h]
theorem car_unified {a b : Sg} {d : Dic} (h1 : oneB a b d = true) {p q : List Int} (hp : termB a p = true) (hq : termB a q = true) {x y : List Int × Int} (hx : UnifR a p q x) (hy : UnifR b (carL a d p) (carL a d q) y) :
    x.2 = y.2 ∧ (x.2 = 0 → termB a x.1 = true ∧ alikeB b y.1 (carL a d x.1) = true) := by
  have hd := oneB_ok h1
  have hp' := car_term hd.toDicOK hp
  have hq' := car_term hd.toDicOK hq
  have tp := (termB_T hp).mono (m' := 24) (by omega)
  have tq := (termB_T hq).mono (m' := 24) (by omega)
  unfold UnifR at hx hy
  rw [hp, hq, Bool.true_and, if_pos rfl] at hx
  rw [hp', hq', Bool.true_and, if_pos rfl] at hy
  rcases hx with ⟨n1, rfl⟩ | ⟨m, hm, hx⟩
  · rcases hy with ⟨n2, rfl⟩ | ⟨m', hm', hy⟩
    · exact ⟨rfl, fun h => by simp at h⟩
    · exact (hm'.not_no ((car_NoU hd tp tq).2 n1)).elim
  · rcases hy with ⟨n2, rfl⟩ | ⟨m', hm', hy⟩
    · exact (hm.not_no ((car_NoU hd tp tq).1 n2)).elim
    · have hc := car_mgu hd tp tq tp hm hm'
      have tF := fw_T hm.1 tp
      have hb : madeB (fw m' (carL a d p)) = madeB (fw m p) := (madeB_canon hc).trans (car_madeB hd.toDicOK tF)
      rcases hx with ⟨g1, rfl⟩ | ⟨g1, rfl⟩
      · rw [g1] at hb
        rcases hy with ⟨g2, rfl⟩ | ⟨g2, rfl⟩
        · have t1 := made_term hd.sa tF g1
          have t2 := made_term hd.sb (fw_T hm'.1 (carL_T hd.toDicOK tp)) g2
          refine ⟨rfl, fun _ => ⟨t1, ?_⟩⟩
          unfold alikeB
          rw [t2, car_term hd.toDicOK t1, Bool.true_and, Bool.true_and, decide_eq_true_eq, canonL_canon, car_canon hd.toDicOK tF]
          exact hc
        · rw [g2] at hb; cases hb
      · rw [g1] at hb
        rcases hy with ⟨g2, rfl⟩ | ⟨g2, rfl⟩
        · rw [g2] at hb; cases hb
        · exact ⟨rfl, fun h => by simp at h⟩
theorem car_uniQ {a b : Sg} {d : Dic} (h1 : oneB a b d = true) {p q : List Int} (hp : termB a p = true) (hq : termB a q = true) : UniQ b (carL a d p) (carL a d q) ↔ UniQ a p q := by
  have hd := oneB_ok h1
  have tp := (termB_T hp).mono (m' := 24) (by omega)
  have tq := (termB_T hq).mono (m' := 24) (by omega)
  unfold UniQ
  rw [car_NoU hd tp tq, car_term hd.toDicOK hp, car_term hd.toDicOK hq, hp, hq]
theorem car_uniA {a b : Sg} {d : Dic} (h1 : oneB a b d = true) {p q : List Int} (hp : termB a p = true) (hq : termB a q = true) : ∃ z, (∀ z', UniA a p q z' → z' = z) ∧ (∀ z', UniA b (carL a d p) (carL a d q) z' → z' = z) := by
  by_cases h : UniQ a p q
  · refine ⟨true, fun z' hz => hz.2 h, fun z' hz => hz.2 ((car_uniQ h1 hp hq).2 h)⟩
  · refine ⟨false, fun z' hz => ?_, fun z' hz => ?_⟩
    · cases z'
      · rfl
      · exact absurd (hz.1 rfl) h
    · cases z'
      · rfl
      · exact absurd ((car_uniQ h1 hp hq).1 (hz.1 rfl)) h
theorem car_instB {a b : Sg} {d : Dic} (h1 : oneB a b d = true) {p q : List Int} (hp : termB a p = true) (hq : termB a q = true) : instB b (carL a d p) (carL a d q) = instB a p q := by
  have hd := oneB_ok h1
  rw [Bool.eq_iff_iff, instB_iff, instB_iff, car_inst hd (termB_T hp) (termB_T hq), car_term hd.toDicOK hp, car_term hd.toDicOK hq, hp, hq]
end Go.Proofs.YtldgkidojepdlaaGreat
namespace Go.Proofs.YtldgkidojepdlaaGreat
open Go Go.RowKit Go.Maps
def tradeB (a b : Sg) (d : Dic) : Bool := d.all (fun w => decide (w.2.length ≤ 40)) && (smallB a [] && smallB b [] && decide (d.length ≤ 40))
theorem trade_no {a b : Sg} {d : Dic} {k : Nat} (hk : k < d.length) (h : ¬ d[k].2.length ≤ 40) : tradeB a b d = false := by
  unfold tradeB
  have : d.all (fun w => decide (w.2.length ≤ 40)) = false := by
    rw [List.all_eq_false]
    exact ⟨d[k], List.getElem_mem hk, by simpa using h⟩
  rw [this, Bool.false_and]
theorem trade_all {a b : Sg} {d : Dic} (h : ∀ j (hj : j < d.length), d[j].2.length ≤ 40) : tradeB a b d = (smallB a [] && smallB b [] && decide (d.length ≤ 40)) := by
  unfold tradeB
  have : d.all (fun w => decide (w.2.length ≤ 40)) = true := by
    rw [List.all_eq_true]
    intro x hx
    obtain ⟨i, hi, rfl⟩ := List.getElem_of_mem hx
    simpa using h i hi
  rw [this, Bool.true_and]
theorem terms_nilT (w : World) : Terms w (.slice none 0 0) [] := ⟨[], ⟨by simp, none, 0, rfl, Nat.le_refl _, by simp, fun _ => rfl, by simp⟩, rfl, fun i u t h => by simp at h⟩
theorem sign_nilT (w : World) : SignAt w (.slice none 0 0) [] := ⟨⟨rfl, none, 0, rfl, Nat.le_refl _, by simp, fun _ => rfl, by simp [symCells]⟩, by simp⟩
set_option maxHeartbeats 1000000 in
theorem top_trade (va vb vd : Value) (a b : Sg) (d : Dic) (w : World) (ha : SignAt w va a) (hb : SignAt w vb b) (hd : BindsAt w vd d) :
    Calls Tryz.prog 4 #[.agg #[va, vb, vd]] w fun e w' => e = .returned (.bool (tradeB a b d)) ∧ Below w.heap.size w w' := by
  have hA := fun (T : TypeId) => (Below.refl w.heap.size w).alloc (Nat.le_refl _) (.cells #[va, vb, vd] T)
  have hbx := Box3.new w va vb vd 26
  have HSA := hid (law1_Small va (.slice none 0 0) a [] _ (ha.below (hA 26)) (terms_nilT _))
  have HSB := hid (law1_Small vb (.slice none 0 0) b [] _ (hb.below (hA 26)) (terms_nilT _))
  have HB1 := hid (hA 26)
  have hd1 := hd.below (hA 26)
  obtain ⟨aa, ac, rfl, -⟩ := ha.open
  obtain ⟨ba, bc, rfl, -⟩ := hb.open
  obtain ⟨da, dc, rfl, -, hdl, -, DC⟩ := hd1.open
  have DC := hid DC
  clear ha hb hd hd1 hA
  obtain ⟨c0, c1, c2⟩ := hbx
  go_enter Tryz.func4, Tryz.ntmps4
  go_wp2
  generalize w.alloc (.cells #[.slice aa a.length ac, .slice ba b.length bc, .slice da d.length dc] 26) = W at *
  go_loop [3] (fun i => ∃ k : Nat, k ≤ d.length ∧ i = .int .i64 k ∧ ∀ j (hj : j < d.length), j < k → d[j].2.length ≤ 40) (fun i => d.length - (intOf i).toNat)
  case atStart => exact ⟨0, by omega, rfl, by simp⟩
  case round =>
    obtain ⟨k, hk, rfl, hrel⟩ := hrel
    have HR := hid hrel
    clear hrel
    by_cases hlt : k < d.length
    · obtain ⟨cb, co, u, rfl, -, c20, i0⟩ := DC.out k hlt
      obtain ⟨ua, uc, rfl, -, hul, -⟩ := i0.open
      have HNO := hid (fun h => trade_no (a := a) (b := b) hlt h)
      have HK := hid (rfl : d[k].2.length = d[k].2.length)
      obtain ⟨n, hn⟩ : ∃ n, d[k].2.length = n := ⟨_, rfl⟩
      rw [hn] at c20 HNO hul
      have HN := hid hn
      clear hn i0 HK
      by_cases h40 : n ≤ 40
      · have q1 : decide ((40 : Int) < (n : Int)) = false := by simp; omega
        go_wp2
        go_round
        case rel =>
          refine ⟨k + 1, by omega, by go_num, fun q hq hqk => ?_⟩
          by_cases hqq : q = k
          · subst hqq; rw [HN.out]; exact h40
          · exact HR.out q hq (by omega)
        case measure => simp [intOf]; omega
      · have q1 : decide ((40 : Int) < (n : Int)) = true := by simp; omega
        have HF := hid (HNO.out h40)
        clear h40
        go_wp2
        go_ret
        exact ⟨ret_bool HF.out.symm, HB1.out⟩
    · have HALL := hid (trade_all (a := a) (b := b) (d := d) fun j hj => HR.out j hj (by omega))
      have hkl : k = d.length := by omega
      subst hkl
      cases h1 : smallB a []
      · rw [h1] at HSA
        have H1 := hid h1
        clear h1
        go_wp2_with fail
        refine HSA.out.mono ?_
        rintro e w1 ⟨rfl, rfl⟩
        go_wp2
        go_ret
        exact ⟨ret_bool (by rw [HALL.out, H1.out]; rfl), HB1.out⟩
      · rw [h1] at HSA
        have H1 := hid h1
        clear h1
        cases h2 : smallB b []
        · rw [h2] at HSB
          have H2 := hid h2
          clear h2
          go_wp2_with fail
          refine HSA.out.mono ?_
          rintro e w1 ⟨rfl, rfl⟩
          go_wp2_with fail
          refine HSB.out.mono ?_
          rintro e w1 ⟨rfl, rfl⟩
          go_wp2
          go_ret
          exact ⟨ret_bool (by rw [HALL.out, H1.out, H2.out]; rfl), HB1.out⟩
        · rw [h2] at HSB
          have H2 := hid h2
          clear h2
          go_wp2_with fail
          refine HSA.out.mono ?_
          rintro e w1 ⟨rfl, rfl⟩
          go_wp2_with fail
          refine HSB.out.mono ?_
          rintro e w1 ⟨rfl, rfl⟩
          go_wp2
          go_ret
          exact ⟨ret_bool (by rw [HALL.out, H1.out, H2.out, Bool.eq_iff_iff]; simp; omega), HB1.out⟩
theorem trade_len {a b : Sg} {d : Dic} (h : tradeB a b d = true) : a.length ≤ 40 ∧ b.length ≤ 40 ∧ d.length ≤ 40 := by
  unfold tradeB smallB at h
  simp at h
  omega
theorem carD_ok {a b : Sg} {d : Dic} {t : List Int} (h : (carD a b d t).2 = 0) : termB a t = true ∧ (carD a b d t).1 = carL a d t := by
  unfold carD at h ⊢
  by_cases hh : (dicB a b d && termB a t) = true
  · rw [if_pos hh]
    simp only [Bool.and_eq_true] at hh
    exact ⟨hh.2, rfl⟩
  · rw [if_neg hh] at h
    simp at h
theorem below_chain {A X Y Z : World} (h : Below A.heap.size A X) (h1 : Below X.heap.size X Y) (h2 : Below Y.heap.size Y Z) : Below A.heap.size A Z ∧ Below X.heap.size X Z := by
  have h3 := h1.trans (h2.mono h1.size)
  exact ⟨h.trans (h3.mono h.size), h3⟩
theorem below_chain0 {A X Y : World} (h : Below A.heap.size A X) (h1 : Below X.heap.size X Y) : Below A.heap.size A Y := h.trans (h1.mono h.size)
theorem oneB_dic {a b : Sg} {d : Dic} (h : oneB a b d = true) : dicB a b d = true := by
  unfold oneB at h
  simp only [Bool.and_eq_true] at h
  exact h.1
end Go.Proofs.YtldgkidojepdlaaGreat
namespace Go.Proofs.YtldgkidojepdlaaGreat
open Go Go.RowKit Go.Maps Go.Shelf
/-- what Ranked answers. -/
def RankQ (s : Sg) (l : List (List Int)) (q : List Int) (x : List Int × Int) : Prop := if shelfB s l && termB s q then x.2 = 0 ∧ RankP s q l x.1 else x = ([], 1)
theorem RankP.unique {s : Sg} {q : List Int} {l : List (List Int)} {Z Y : List Int} (h : RankP s q l Z) (k : RankP s q l Y) : Z = Y :=
  (h.1.trans k.1.symm).eq_of_pairwise (le := Lt (rkL s q l)) (fun a b _ _ h1 h2 => (Lt.irr (h1.trans h2)).elim) h.2 k.2
theorem RankQ.unique {s : Sg} {l : List (List Int)} {q : List Int} {x y : List Int × Int} (h : RankQ s l q x) (k : RankQ s l q y) : x = y := by
  unfold RankQ at h k
  split at h
  · rename_i hh
    rw [if_pos hh] at k
    exact Prod.ext (h.2.unique k.2) (h.1.trans k.1.symm)
  · rename_i hh
    rw [if_neg hh] at k
    rw [h, k]
theorem shf_facts {s : Sg} {l : List (List Int)} (h : shelfB s l = true) : signB s = true ∧ 1 ≤ s.length ∧ s.length ≤ 12 ∧ 1 ≤ l.length ∧ l.length ≤ 60 ∧ ∀ x ∈ l, IsT s 12 x ∧ x.length ≤ 60 := by
  unfold shelfB at h
  simp only [Bool.and_eq_true] at h
  have h1 := signB_len h.1.1
  have h2 := inB_true.1 h.1.2
  refine ⟨h.1.1, h1.1, h1.2, by omega, by omega, fun x hx => ?_⟩
  have h3 := h.2
  unfold allB at h3
  rw [List.all_eq_true] at h3
  have h4 := h3 x hx
  exact ⟨termB_T h4, (termB_facts h4).2.2.2⟩
set_option maxHeartbeats 2000000 in
theorem find_RankedF (vs vl vq : Value) (s : Sg) (l : List (List Int)) (q : List Int) (w : World) (hs : SignAt w vs s) (hl : Terms w vl l) (hq : Ints w vq q) (hs1 : s.length ≤ 1000) :
    Calls Tryz.prog 13 #[vs, vl, vq] w fun e w' => ∃ u x, RankQ s l q x ∧ e = .returned (.tuple #[u, .int .i64 x.2]) ∧ w'.ownsRow w.heap.size 3 1 u x.1.length (x.1.map (Value.int .i64)) ∧ Below w.heap.size w w' := by
  obtain ⟨b1, b2, b3⟩ := boxes2 w vs vq 23 29
  have HFV := hid (fun (X : World) (hX : Below w.heap.size w X) => find_Valid vs vl s l X (hs.below hX) (hl.below hX) hs1)
  have HTV := hid (fun (X : World) (hX : Below w.heap.size w X) => term_Valid' vs vq s q X (hs.below hX) (hq.below hX) hs1)
  have HS := hid hs
  have HL := hid hl
  have HQ := hid hq
  obtain ⟨sa, sc, es, -⟩ := hs.open
  obtain ⟨la, lc, el, -⟩ := hl.open
  obtain ⟨qa, qc, eq, -⟩ := hq.open
  subst es el eq
  obtain ⟨W2, hW2⟩ : ∃ W2, (w.alloc (.cells #[.slice sa s.length sc] 23)).alloc (.cells #[.slice qa q.length qc] 29) = W2 := ⟨_, rfl⟩
  rw [hW2] at b1 b2 b3
  have HB := hid b3
  have HW2 := hid hW2
  clear hs hl hq b3 hW2
  cases h1 : shelfB s l
  · have HR : Hid (RankQ s l q ([], 1)) := hid (by unfold RankQ; rw [h1]; simp)
    rw [h1] at HFV
    clear h1
    go_enter Tryz.func13, Tryz.ntmps13
    go_wp2_with fail
    rw [HW2.out]
    refine (HFV.out _ HB.out).mono ?_
    rintro e w1 ⟨rfl, hb1⟩
    have HB1 := hid (HB.out.trans (hb1.mono HB.out.size))
    clear hb1
    go_wp2
    go_ret2
    exact ⟨_, ([], 1), HR.out, rfl, World.ownsRow_nil _ _ _ _, HB1.out⟩
  · obtain ⟨f1, f2, f3, f4, f5, f6⟩ := shf_facts h1
    rw [h1] at HFV
    cases h2 : termB s q
    · have HR : Hid (RankQ s l q ([], 1)) := hid (by unfold RankQ; rw [h1, h2]; simp)
      rw [h2] at HTV
      clear h1 h2 f1 f6
      go_enter Tryz.func13, Tryz.ntmps13
      go_wp2_with fail
      rw [HW2.out]
      refine (HFV.out _ HB.out).mono ?_
      rintro e w1 ⟨rfl, hb1⟩
      have HB1 := hid (HB.out.trans (hb1.mono HB.out.size))
      have d1 := (hb1.cell (World.block_lt_of_cell? _ _ b1)).trans b1
      have d2 := (hb1.cell (World.block_lt_of_cell? _ _ b2)).trans b2
      clear hb1 b1 b2
      go_wp2_with fail
      refine (HTV.out _ HB1.out).mono ?_
      rintro e w2 ⟨rfl, hb2⟩
      have HB2 := hid (HB1.out.trans (hb2.mono HB1.out.size))
      clear hb2 d1 d2
      go_wp2
      go_ret2
      exact ⟨_, ([], 1), HR.out, rfl, World.ownsRow_nil _ _ _ _, HB2.out⟩
    · have HR : Hid (∀ Z, RankP s q l Z → RankQ s l q (Z, 0)) := hid (fun Z hZ => by unfold RankQ; rw [h1, h2]; simpa using hZ)
      have tq := termB_T h2
      have lq := (termB_facts h2).2.2.2
      rw [h2] at HTV
      have HT6 := hid f6
      clear h1 h2 f1 f6
      go_enter Tryz.func13, Tryz.ntmps13
      go_wp2_with fail
      rw [HW2.out]
      refine (HFV.out _ HB.out).mono ?_
      rintro e w1 ⟨rfl, hb1⟩
      have HB1 := hid (HB.out.trans (hb1.mono HB.out.size))
      have d1 := (hb1.cell (World.block_lt_of_cell? _ _ b1)).trans b1
      have d2 := (hb1.cell (World.block_lt_of_cell? _ _ b2)).trans b2
      clear hb1 b1 b2
      go_wp2_with fail
      refine (HTV.out _ HB1.out).mono ?_
      rintro e w2 ⟨rfl, hb2⟩
      have HB2 := hid (HB1.out.trans (hb2.mono HB1.out.size))
      have d1 := (hb2.cell (World.block_lt_of_cell? _ _ d1)).trans d1
      have d2 := (hb2.cell (World.block_lt_of_cell? _ _ d2)).trans d2
      have HRK := hid (find_ranked w.heap.size (w.heap.size + 1) _ _ _ s q l w2 (HS.out.below HB2.out) (HQ.out.below HB2.out) (HL.out.below HB2.out) d1 d2 f2 f3 tq lq HT6.out (by omega) (by omega))
      unfold fnO at HRK
      clear hb2 d1 d2 tq
      go_wp2_with fail
      refine HRK.out.mono ?_
      rintro e w3 ⟨u, Z, hz, rfl, ho, hb3⟩
      have HQZ := hid (HR.out Z hz)
      have HO := hid (owns_base ho HB2.out.size)
      have HB3 := hid (HB2.out.trans (hb3.mono HB2.out.size))
      clear hz ho hb3
      go_wp2
      go_ret2
      exact ⟨_, (Z, 0), HQZ.out, rfl, HO.out, HB3.out⟩
end Go.Proofs.YtldgkidojepdlaaGreat
namespace Go.Proofs.YtldgkidojepdlaaGreat
open Go Go.RowKit Go.Maps
theorem carL_apar {a b : Sg} {d : Dic} (hd : DicOK a b d) {q : List Int} (h : IsT a 12 q) : aparL (carL a d q) = carL a d (aparL q) := by
  rw [aparL_sub, aparL_sub, carL_sub (q := 24) hd h fun n hn h0 => .var _ (by have := h.vars n hn h0; omega) (by omega)]
  exact subL_congr fun n _ h0 => (carL_var _ _ (by omega)).symm
theorem car_meets {a b : Sg} {d : Dic} (h1 : oneB a b d = true) {t q : List Int} (ht : termB a t = true) (hq : termB a q = true) : MeetsQ b (carL a d t) (carL a d q) ↔ MeetsQ a t q := by
  have hd := oneB_ok h1
  unfold MeetsQ
  rw [carL_apar hd.toDicOK (termB_T hq), car_NoU hd ((termB_T ht).mono (by omega)) (aparL_T (termB_T hq)), car_term hd.toDicOK ht, car_term hd.toDicOK hq, ht, hq]
theorem symN_neg (l : List Int) : symN l + (l.filter fun n => decide (n < 0)).length = l.length := by
  unfold symN
  induction l with
  | nil => rfl
  | cons x l ih =>
    by_cases h : x < 0
    · rw [List.filter_cons_of_neg (by simpa using h), List.filter_cons_of_pos (by simpa using h), List.length_cons, List.length_cons]; omega
    · rw [List.filter_cons_of_pos (by simp; omega), List.filter_cons_of_neg (by simpa using h), List.length_cons, List.length_cons]; omega
theorem car_sym {a b : Sg} {d : Dic} (hd : DicOK a b d) {m : Int} {t : List Int} (h : IsT a m t) : symN (carL a d t) = symN t := by
  have h1 := symN_neg t
  have h2 := symN_neg (carL a d t)
  rw [carL_len hd h, (carL_vars hd h).length_eq] at h2
  omega
theorem symN_appendK (a b : List Int) : symN (a ++ b) = symN a + symN b := by simp [symN, List.filter_append]
theorem symN_subK (σ : Int → List Int) : ∀ (a : List Int), symN a ≤ symN (subL σ a)
  | [] => Nat.zero_le _
  | n :: a => by
    have ih := symN_subK σ a
    by_cases h : n < 0
    · rw [subL_cons_var σ h, symN_appendK]
      have : symN (n :: a) = symN a := by simp [symN, show ¬ (0 : Int) ≤ n from by omega]
      omega
    · rw [subL_cons_app σ (by omega)]
      have e1 : ∀ l, symN (n :: l) = symN l + 1 := fun l => by simp [symN, show (0 : Int) ≤ n from by omega]
      rw [e1, e1]; omega
theorem symN_instK {s : Sg} {q : Int} {a b : List Int} (h : Inst s q a b) : symN a ≤ symN b := by
  obtain ⟨σ, -, rfl⟩ := h
  exact symN_subK σ a
/-- a term whose variables are few is one of few variables. -/
theorem IsT.few {s : Sg} {m m' : Int} {t : List Int} (h : IsT s m t) (hv : ∀ n ∈ t, n < 0 → -m' ≤ n) : IsT s m' t := by
  induction h with
  | var n h1 h2 => exact .var n (hv n (by simp) h2) h2
  | app c us h1 h2 h3 ih => exact .app c us h1 h2 fun x hx => ih x hx fun n hn h0 => hv n (by simp; exact Or.inr ⟨x, hx, hn⟩) h0
theorem sub_mem {σ : Int → List Int} {t : List Int} {n k : Int} (hn : n ∈ t) (h0 : n < 0) (hk : k ∈ σ n) : k ∈ subL σ t := by
  unfold subL
  exact List.mem_flatMap.2 ⟨n, hn, by rw [if_pos h0]; exact hk⟩
theorem Inst.few {s : Sg} {q m : Int} {t u : List Int} (h : Inst s q t u) (hu : IsT s m u) : Inst s m t u := by
  obtain ⟨σ, hσ, rfl⟩ := h
  exact ⟨σ, fun n hn h0 => (hσ n hn h0).few fun k hk hk0 => hu.vars k (sub_mem hn h0 hk) hk0, rfl⟩
theorem Inst.car {a b : Sg} {d : Dic} (hd : DicOK a b d) {q m : Int} {t u : List Int} (h : Inst a q t u) (ht : IsT a m t) : Inst b q (carL a d t) (carL a d u) := by
  obtain ⟨σ, hσ, rfl⟩ := h
  exact ⟨fun n => carL a d (σ n), fun n hn h0 => carL_T hd (hσ n ((carL_neg hd ht h0).1 hn) h0), (carL_sub hd ht hσ).symm⟩
theorem car_clos {a b : Sg} {d : Dic} (h1 : oneB a b d = true) {t q : List Int} (ht : termB a t = true) (hq : termB a q = true) : closN b (carL a d t) (carL a d q) = closN a t q := by
  have hd := oneB_ok h1
  obtain ⟨-, -, ha, hl⟩ := termB_facts ht
  obtain ⟨-, -, hb, hl'⟩ := termB_facts (car_term hd.toDicOK ht)
  have tt := termB_T ht
  have tq := termB_T hq
  have ct := carL_T hd.toDicOK tt
  have cq := carL_T hd.toDicOK tq
  obtain ⟨J1, J2, J3, J4⟩ := join_facts ha tt tq hl
  obtain ⟨K1, K2, K3, K4⟩ := join_facts hb ct cq hl'
  have l1 := K4 _ ((J2.few tt).car hd.toDicOK J1) ((J3.few tq).car hd.toDicOK J1)
  obtain ⟨j, hj, e⟩ := carL_onto hd K1
  rw [← e] at K2 K3
  have m1 := (car_inst hd hj (tt.mono (by omega))).1 K2
  have m2 := (car_inst hd hj (tq.mono (by omega))).1 K3
  have l2 := symN_instK (J4 _ (m1.few tt) (m2.few tq))
  have l1' := symN_instK l1
  rw [car_sym hd.toDicOK J1] at l1'
  have e2 : symN (comW b (carL a d t) (carL a d q) []).1 = symN j := by rw [← e]; exact car_sym hd.toDicOK hj
  unfold closN
  omega
theorem any_prs {s : Sg} {m : Int} {t : List Int} (h : IsT s m t) (P : List Int → Prop) (p : List Int) : (∃ x ∈ prs s [p] t, P x.2) ↔ ∃ i, i < t.length ∧ P (tk s 1 (t.drop i)) := by
  constructor
  · rintro ⟨x, hx, hp⟩
    obtain ⟨i, hi, rfl⟩ := List.getElem_of_mem hx
    rw [prs_get] at hp
    exact ⟨i, by rw [prs_len h] at hi; exact hi, hp⟩
  · rintro ⟨i, hi, hp⟩
    have hi' : i < (prs s [p] t).length := by rw [prs_len h]; exact hi
    exact ⟨_, List.getElem_mem hi', by rw [prs_get]; exact hp⟩
theorem any_prs_F {s : Sg} {m : Int} (P : List Int → Prop) : ∀ (ps zs : List (List Int)), ps.length = zs.length → (∀ z ∈ zs, IsT s m z) → ((∃ x ∈ prs s ps zs.flatten, P x.2) ↔ ∃ z ∈ zs, ∃ x ∈ prs s [[]] z, P x.2)
  | [], [], _, _ => by simp [prs_nil]
  | [], _ :: _, h, _ => by simp at h
  | _ :: _, [], h, _ => by simp at h
  | p :: ps, z :: zs, h, hT => by
    have hz := hT z (by simp)
    rw [List.flatten_cons, prs_T hz]
    have ih := any_prs_F P ps zs (by simpa using h) fun y hy => hT y (by simp [hy])
    have e : (∃ x ∈ prs s [p] z, P x.2) ↔ ∃ x ∈ prs s [[]] z, P x.2 := (any_prs hz P p).trans (any_prs hz P []).symm
    constructor
    · rintro ⟨x, hx, hp⟩
      rcases List.mem_append.1 hx with hx | hx
      · exact ⟨z, by simp, e.1 ⟨x, hx, hp⟩⟩
      · obtain ⟨y, hy, hh⟩ := ih.1 ⟨x, hx, hp⟩
        exact ⟨y, by simp [hy], hh⟩
    · rintro ⟨y, hy, hh⟩
      rcases List.mem_cons.1 hy with rfl | hy
      · obtain ⟨x, hx, hp⟩ := e.2 hh
        exact ⟨x, List.mem_append_left _ hx, hp⟩
      · obtain ⟨x, hx, hp⟩ := ih.2 ⟨y, hy, hh⟩
        exact ⟨x, List.mem_append_right _ hx, hp⟩
/-- something is true of a part. -/
def HasP (s : Sg) (P : List Int → Prop) (t : List Int) : Prop := ∃ x ∈ prs s [[]] t, P x.2
theorem hasP_var {s : Sg} {P : List Int → Prop} {n : Int} (h : n < 0) : HasP s P [n] ↔ P [n] := by
  unfold HasP; rw [prs_var h]; simp
theorem hasP_app {s : Sg} {m : Int} {P : List Int → Prop} {c : Nat} {us : List (List Int)} (h1 : c < s.length) (h2 : (us.length : Int) = arOf s c) (h3 : ∀ x ∈ us, IsT s m x) : HasP s P ((c : Int) :: us.flatten) ↔ P ((c : Int) :: us.flatten) ∨ ∃ z ∈ us, HasP s P z := by
  unfold HasP
  rw [prs_app h1 h2 h3, ← any_prs_F P (pushW [] us.length) us (by simp [pushW]) h3]
  constructor
  · rintro ⟨x, hx, hp⟩
    rcases List.mem_cons.1 hx with rfl | hx
    · exact Or.inl hp
    · exact Or.inr ⟨x, hx, hp⟩
  · rintro (hp | ⟨x, hx, hp⟩)
    · exact ⟨_, List.mem_cons_self, hp⟩
    · exact ⟨x, List.mem_cons_of_mem _ hx, hp⟩
theorem hasB_iff {s : Sg} {q t : List Int} : hasB s q t = true ↔ HasP s (fun u => instB s q u = true) t := by
  unfold hasB whrL HasP
  rw [decide_eq_true_eq, List.length_map, List.length_pos_iff_exists_mem]
  constructor
  · rintro ⟨x, hx⟩
    obtain ⟨h1, h2⟩ := List.mem_filter.1 hx
    exact ⟨x, h1, h2⟩
  · rintro ⟨x, h1, h2⟩
    exact ⟨x, List.mem_filter.2 ⟨h1, h2⟩⟩
theorem car_hasP {a b : Sg} {d : Dic} (hd : DicOK a b d) {P P' : List Int → Prop} (hP : ∀ u, IsT a 12 u → u.length ≤ 60 → (P' (carL a d u) ↔ P u)) {t : List Int} (h : IsT a 12 t) : t.length ≤ 60 → (HasP b P' (carL a d t) ↔ HasP a P t) := by
  induction h with
  | var n h1 h2 =>
    intro hl
    have := hP [n] (.var n h1 h2) (by simp)
    rw [carL_var _ _ h2] at this ⊢
    rw [hasP_var h2, hasP_var h2, this]
  | app c us h1 h2 h3 ih =>
    intro hl
    have hself := hP _ (IsT.app c us h1 h2 h3) hl
    rw [hasP_app h1 h2 h3, ← hself, carL_app h2 h3]
    obtain ⟨to, l, e, w1, w2, w3, w4, -⟩ := hd.at h1
    rw [e]
    unfold putW
    have hp := pick_perm w4 (us.map (carL a d)) [] (by simp; omega)
    have hT : ∀ z ∈ l.map (fun k => (us.map (carL a d)).getD k.toNat []), IsT b 12 z := by
      intro z hz
      obtain ⟨x, hx, rfl⟩ := List.mem_map.1 (hp.mem_iff.1 hz)
      exact carL_T hd (h3 x hx)
    rw [hasP_app w1 (by simp; omega) hT]
    simp only [List.length_cons] at hl
    have key : (∃ z ∈ l.map (fun k => (us.map (carL a d)).getD k.toNat []), HasP b P' z) ↔ ∃ z ∈ us, HasP a P z := by
      constructor
      · rintro ⟨z, hz, hh⟩
        obtain ⟨x, hx, rfl⟩ := List.mem_map.1 (hp.mem_iff.1 hz)
        exact ⟨x, hx, (ih x hx (by have := flat_mem_le hx; omega)).1 hh⟩
      · rintro ⟨x, hx, hh⟩
        exact ⟨_, hp.mem_iff.2 (List.mem_map.2 ⟨x, hx, rfl⟩), (ih x hx (by have := flat_mem_le hx; omega)).2 hh⟩
    rw [key]
theorem car_hasB {a b : Sg} {d : Dic} (h1 : oneB a b d = true) {q t : List Int} (hq : termB a q = true) (ht : termB a t = true) : hasB b (carL a d q) (carL a d t) = hasB a q t := by
  have hd := oneB_ok h1
  rw [Bool.eq_iff_iff, hasB_iff, hasB_iff]
  refine car_hasP hd.toDicOK (fun u hu hl => ?_) (termB_T ht) (termB_facts ht).2.2.2
  rw [car_instB h1 hq (T_termB hd.sa hu hl)]
theorem carL_nil (s : Sg) (d : Dic) : carL s d [] = [] := rfl
theorem car_getD (s : Sg) (d : Dic) (l : List (List Int)) (i : Nat) : (l.map (carL s d)).getD i [] = carL s d (l.getD i []) := by
  rw [List.getD_eq_getElem?_getD, List.getD_eq_getElem?_getD, List.getElem?_map]
  cases l[i]? <;> simp [carL_nil]
theorem car_shelf {a b : Sg} {d : Dic} (hd : DicOK a b d) {l : List (List Int)} (hl : ∀ t ∈ l, termB a t = true) : shelfB b (l.map (carL a d)) = shelfB a l := by
  unfold shelfB
  have e1 : allB a l = true := List.all_eq_true.2 hl
  have e2 : allB b (l.map (carL a d)) = true := by
    refine List.all_eq_true.2 fun x hx => ?_
    obtain ⟨t, ht, rfl⟩ := List.mem_map.1 hx
    exact car_term hd (hl t ht)
  rw [hd.sa, hd.sb, e1, e2, List.length_map]
theorem car_search {a b : Sg} {d : Dic} (hd : DicOK a b d) {l : List (List Int)} {q : List Int} (hl : ∀ t ∈ l, termB a t = true) (hq : termB a q = true) {f g : List Int → Bool} (h : ∀ t ∈ l, g (carL a d t) = f t) :
    searchB b (l.map (carL a d)) (carL a d q) ((l.map (carL a d)).map g) = searchB a l q (l.map f) := by
  unfold searchB
  rw [car_shelf hd hl, hq, car_term hd hq, List.map_map]
  have : l.map (g ∘ carL a d) = l.map f := List.map_congr_left fun t ht => h t ht
  rw [this]
theorem car_base {a b : Sg} {d : Dic} (h1 : oneB a b d = true) {l : List (List Int)} (hl : ∀ t ∈ l, termB a t = true) : basQ b (l.map (carL a d)) = basQ a l := by
  have hd := oneB_ok h1
  unfold basQ
  rw [car_shelf hd.toDicOK hl]
  have hg : ∀ k, k < l.length → termB a (l.getD k []) = true := by
    intro k hk
    rw [List.getD_eq_getElem?_getD, List.getElem?_eq_getElem hk]
    exact hl _ (List.getElem_mem hk)
  have : basB b (l.map (carL a d)) = basB a l := by
    unfold basB
    rw [List.length_map]
    refine List.map_congr_left fun i hi => ?_
    have hi' := List.mem_range.1 hi
    unfold basOne
    rw [List.length_map, Bool.eq_iff_iff, List.all_eq_true, List.all_eq_true]
    refine forall_congr' fun k => forall_congr' fun hk => ?_
    have hk' := List.mem_range.1 hk
    have t1 := hg k hk'
    have t2 := hg i hi'
    rw [car_getD, car_getD]
    have e1 : underB b (carL a d (l.getD k [])) (carL a d (l.getD i [])) = underB a (l.getD k []) (l.getD i []) := by
      unfold underB
      rw [car_instB h1 t1 t2, car_instB h1 t2 t1]
    have e2 : decide (canonL (carL a d (l.getD k [])) = canonL (carL a d (l.getD i []))) = decide (canonL (l.getD k []) = canonL (l.getD i [])) := by
      have c1 := carL_T hd.toDicOK (termB_T t1)
      have c2 := carL_T hd.toDicOK (termB_T t2)
      rw [decide_eq_decide, alike_iff c1 c2, alike_iff (termB_T t1) (termB_T t2), car_inst hd (termB_T t1) (termB_T t2), car_inst hd (termB_T t2) (termB_T t1)]
    rw [e1, e2]
  rw [this]
theorem car_rank {a b : Sg} {d : Dic} (h1 : oneB a b d = true) {l : List (List Int)} {q : List Int} (hl : ∀ t ∈ l, termB a t = true) (hq : termB a q = true) {x y : List Int × Int} (hx : RankQ a l q x) (hy : RankQ b (l.map (carL a d)) (carL a d q) y) : x = y := by
  have hd := oneB_ok h1
  refine hx.unique ?_
  unfold RankQ at hy ⊢
  rw [car_shelf hd.toDicOK hl, car_term hd.toDicOK hq] at hy
  rw [hq]
  have e : rkL b (carL a d q) (l.map (carL a d)) = rkL a q l := by
    funext i
    unfold rkL rnkT
    rw [car_getD]
    cases hi : l[i.toNat]? with
    | none =>
      rw [List.getD_eq_getElem?_getD, hi]
      show ((carL a d []).length : Int) - 1000 * (closN b (carL a d []) (carL a d q) : Int) = _
      rw [carL_nil]
      unfold closN
      rw [comW_nil]
      show _ = (([] : List Int).length : Int) - 1000 * (symN (comW a [] q []).1 : Int)
      rw [comW_nil]
    | some t =>
      rw [List.getD_eq_getElem?_getD, hi]
      have ht : termB a t = true := hl t (List.mem_of_getElem? hi)
      show ((carL a d t).length : Int) - 1000 * (closN b (carL a d t) (carL a d q) : Int) = (t.length : Int) - 1000 * (closN a t q : Int)
      rw [carL_len hd.toDicOK (termB_T ht), car_clos h1 ht hq]
  have e2 : ∀ Z, RankP b (carL a d q) (l.map (carL a d)) Z ↔ RankP a q l Z := by
    intro Z
    unfold RankP
    rw [e, List.length_map]
  simpa only [e2] using hy
end Go.Proofs.YtldgkidojepdlaaGreat
