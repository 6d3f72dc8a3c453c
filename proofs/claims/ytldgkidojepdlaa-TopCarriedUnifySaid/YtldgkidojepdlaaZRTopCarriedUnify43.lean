/-
  WHAT IT HOLDS: contracts of carried and Carried of package tongue. Conditions: the arguments read as data; small signs.
  WHAT IT HOLDS: the plain law of TopCarriedUnify: what is unified, and whether, is carried by a dictionary that is one to one. No program in sight.
-/
import Derived.Test.YtldgkidojepdlaaZRTopCarriedUnify42
import Derived.Test.YtldgkidojepdlaaZRTopCarriedUnify28
import Derived.Test.YtldgkidojepdlaaZRTopCarriedUnify27
import Derived.Test.YtldgkidojepdlaaZRTopCarriedUnify26
namespace Go.Proofs.Ytldgkidojepdlaa
open Go Go.RowKit Go.Maps Go.Shelf
theorem boxF2 (w : World) (x : Value) (tx : TypeId) (W : World) (hb : Below (w.alloc (.cells #[x] tx)).heap.size (w.alloc (.cells #[x] tx)) W) : W.cell? ⟨w.heap.size, 0, none⟩ = some x ∧ W.frozen? ⟨w.heap.size, 0, none⟩ = false := by
  have k1 := cell_new1 w x tx
  have l1 := World.block_lt_of_cell? _ _ k1
  exact ⟨(hb.cell l1).trans k1, by rw [hb.frozen (p := ⟨w.heap.size, 0, none⟩) l1]; exact (Boxed.new w tx x).frozen⟩
theorem box5 (w : World) (x1 x2 x3 x4 x5 : Value) (t1 t2 t3 t4 t5 : TypeId) {W : World} (hW : ((((w.alloc (.cells #[x1] t1)).alloc (.cells #[x2] t2)).alloc (.cells #[x3] t3)).alloc (.cells #[x4] t4)).alloc (.cells #[x5] t5) = W) :
    Below w.heap.size w W ∧ W.heap.size = w.heap.size + 5 ∧ W.cell? ⟨w.heap.size, 0, none⟩ = some x1 ∧ W.cell? ⟨w.heap.size + 1, 0, none⟩ = some x2 ∧ W.cell? ⟨w.heap.size + 1 + 1, 0, none⟩ = some x3 ∧
      (W.cell? ⟨w.heap.size + 1 + 1 + 1, 0, none⟩ = some x4 ∧ W.frozen? ⟨w.heap.size + 1 + 1 + 1, 0, none⟩ = false) ∧ W.cell? ⟨w.heap.size + 1 + 1 + 1 + 1, 0, none⟩ = some x5 := by
  have k1 := cell_new1 w x1 t1
  have k2 := cell_new1 (w.alloc (.cells #[x1] t1)) x2 t2
  have k3 := cell_new1 ((w.alloc (.cells #[x1] t1)).alloc (.cells #[x2] t2)) x3 t3
  have k4 := boxF2 (((w.alloc (.cells #[x1] t1)).alloc (.cells #[x2] t2)).alloc (.cells #[x3] t3)) x4 t4 W (by rw [← hW]; exact (Below.refl _ _).alloc (Nat.le_refl _) _)
  have k5 := cell_new1 ((((w.alloc (.cells #[x1] t1)).alloc (.cells #[x2] t2)).alloc (.cells #[x3] t3)).alloc (.cells #[x4] t4)) x5 t5
  simp only [World.size_alloc] at k2 k3 k4 k5
  refine ⟨?_, ?_, ?_, ?_, ?_, k4, ?_⟩
  · rw [← hW]; exact ((((((Below.refl _ _).alloc (Nat.le_refl _) _).alloc (by simp) _).alloc (by simp; omega) _).alloc (by simp; omega) _).alloc (by simp; omega) _)
  · rw [← hW]; simp only [World.size_alloc]
  · rw [← hW]; exact cell_alloc_keep _ (cell_alloc_keep _ (cell_alloc_keep _ (cell_alloc_keep _ k1)))
  · rw [← hW]; exact cell_alloc_keep _ (cell_alloc_keep _ (cell_alloc_keep _ k2))
  · rw [← hW]; exact cell_alloc_keep _ (cell_alloc_keep _ k3)
  · rw [← hW]; exact k5
set_option maxHeartbeats 1000000 in
set_option maxRecDepth 100000 in
theorem tongue_carried (vs vd vt : Value) (s b : Sg) (d : Dic) (t : List Int) (w : World) (hs : SignAt w vs s) (hT : Ints w vt t) (hd : BindsAt w vd d) (hok : DicOK s b d) (ht : IsT s 12 t) (hl : t.length ≤ 60) :
    Calls Try.prog 53 #[vs, vd, vt] w fun e w' => ∃ u, e = .returned u ∧ w'.ownsRow w.heap.size 3 1 u (carL s d t).length ((carL s d t).map (Value.int .i64)) ∧ Below w.heap.size w w' := by
  have HC := hid (fun (W : World) (hb : Below w.heap.size w W) => tongue_carried1 (w.heap.size + 1 + 1) (w.heap.size + 1 + 1 + 1) w.heap.size (w.heap.size + 1 + 1 + 1 + 1) (w.heap.size + 1) vt vs vd s b d t w hs hT hd hok ⟨by omega, by omega, by omega, by omega⟩ (by omega) hl ht 0 [] W (by simp) hb)
  obtain ⟨ta, tc, rfl, -⟩ := hT.open
  obtain ⟨sa, sc, rfl, -⟩ := hs.open
  obtain ⟨da, dc, rfl, -⟩ := hd.open
  clear hs hT hd hok ht
  obtain ⟨W, hW⟩ : ∃ W, (((((w.alloc (.cells #[.slice sa s.length sc] 23)).alloc (.cells #[.slice da d.length dc] 47)).alloc (.cells #[.slice ta t.length tc] 37)).alloc (.cells #[.int .i64 0] 3)).alloc (.cells #[fnCr (w.heap.size + 1 + 1) (w.heap.size + 1 + 1 + 1) w.heap.size (w.heap.size + 1 + 1 + 1 + 1) (w.heap.size + 1)] 105)) = W := ⟨_, rfl⟩
  obtain ⟨b0, bsz, b1, b2, b3, b4, b5⟩ := box5 w _ _ _ _ _ _ _ _ _ _ hW
  have hc := HC.out W b0 ⟨b3, b1, b5, b2, b4.1, b4.2⟩
  have HCC := hid hc
  have HB0 := hid b0
  unfold fnCr at hW
  have HW := hid hW
  have hsz : w.heap.size + 5 ≤ W.heap.size := by omega
  clear hc HC b0 b1 b2 b3 b4 b5 bsz hW
  go_enter Try.func53, Try.ntmps53
  go_wp2_with fail
  rw [HW.out]
  refine HCC.out.mono ?_
  rintro e w1 ⟨u, rfl, hown, hg, -⟩
  have HO := hid (owns_base hown (show w.heap.size ≤ W.heap.size by omega))
  have HB := hid (HB0.out.grown hg (by omega) (fun q hq => by cases hq; omega))
  clear hown hg
  go_wp2
  go_ret
  exact ⟨_, rfl, HO.out, HB.out⟩
/-- what Carried answers. -/
def carD (a b : Sg) (d : Dic) (t : List Int) : List Int × Int := if dicB a b d && termB a t then (carL a d t, 0) else ([], 1)
set_option maxHeartbeats 1000000 in
theorem tongue_Carried (va vb vd vt : Value) (a b : Sg) (d : Dic) (t : List Int) (w : World) (ha : SignAt w va a) (hb : SignAt w vb b) (hd : BindsAt w vd d) (hT : Ints w vt t) (ha1 : a.length ≤ 1000) (hb1 : b.length ≤ 1000) :
    Calls Try.prog 25 #[va, vb, vd, vt] w fun e w' => ∃ u, e = .returned (.tuple #[u, .int .i64 (carD a b d t).2]) ∧ w'.ownsRow w.heap.size 3 1 u (carD a b d t).1.length ((carD a b d t).1.map (Value.int .i64)) ∧ Below w.heap.size w w' := by
  have HV := hid (tongue_Valid va vb vd a b d w ha hb hd ha1 hb1)
  have HT := hid (fun (X : World) (hX : Below w.heap.size w X) => term_Valid' va vt a t X (ha.below hX) (hT.below hX) ha1)
  cases h1 : dicB a b d
  · have HD : Hid (carD a b d t = ([], 1)) := hid (by unfold carD; rw [h1]; rfl)
    rw [h1] at HV
    rw [HD.out]
    clear h1
    go_enter Try.func25, Try.ntmps25
    go_wp2_with fail
    refine HV.out.mono ?_
    rintro e w1 ⟨rfl, hb1⟩
    go_wp2
    go_ret2
    exact ⟨_, rfl, World.ownsRow_nil _ _ _ _, hb1⟩
  · cases h2 : termB a t
    · have HD : Hid (carD a b d t = ([], 1)) := hid (by unfold carD; rw [h1, h2]; rfl)
      rw [h1] at HV
      rw [h2] at HT
      rw [HD.out]
      clear h1 h2
      go_enter Try.func25, Try.ntmps25
      go_wp2_with fail
      refine HV.out.mono ?_
      rintro e w1 ⟨rfl, hb1⟩
      go_wp2_with fail
      refine (HT.out _ hb1).mono ?_
      rintro e w2 ⟨rfl, hb2⟩
      go_wp2
      go_ret2
      exact ⟨_, rfl, World.ownsRow_nil _ _ _ _, hb1.trans (hb2.mono hb1.size)⟩
    · have HD : Hid (carD a b d t = (carL a d t, 0)) := hid (by unfold carD; rw [h1, h2]; rfl)
      obtain ⟨-, -, -, f4⟩ := termB_facts h2
      have HCR := hid (fun (X : World) (hX : Below w.heap.size w X) => tongue_carried va vd vt a b d t X (ha.below hX) (hT.below hX) (hd.below hX) (dicB_ok h1) (termB_T h2) f4)
      rw [h1] at HV
      rw [h2] at HT
      rw [HD.out]
      clear h1 h2
      go_enter Try.func25, Try.ntmps25
      go_wp2_with fail
      refine HV.out.mono ?_
      rintro e w1 ⟨rfl, hb1⟩
      go_wp2_with fail
      refine (HT.out _ hb1).mono ?_
      rintro e w2 ⟨rfl, hb2⟩
      have HB2 := hid (hb1.trans (hb2.mono hb1.size))
      clear hb1 hb2
      go_wp2_with fail
      refine (HCR.out _ HB2.out).mono ?_
      rintro e w3 ⟨u, rfl, hown, hb3⟩
      have HO := hid (owns_base hown HB2.out.size)
      have HB3 := hid (HB2.out.trans (hb3.mono HB2.out.size))
      clear hown hb3
      go_wp2
      go_ret2
      exact ⟨_, rfl, HO.out, HB3.out⟩
end Go.Proofs.Ytldgkidojepdlaa
namespace Go.Proofs.Ytldgkidojepdlaa
open Go Go.RowKit Go.Maps
theorem car_term {a b : Sg} {d : Dic} (hd : DicOK a b d) {p : List Int} (hp : termB a p = true) : termB b (carL a d p) = true := by
  obtain ⟨-, -, -, f4⟩ := termB_facts hp
  exact T_termB hd.sb (carL_T hd (termB_T hp)) (by rw [carL_len hd (termB_T hp)]; exact f4)
theorem car_vars_len {a b : Sg} {d : Dic} (hd : DicOK a b d) {m : Int} {t : List Int} (h : IsT a m t) : (varsF [] (carL a d t)).length = (varsF [] t).length := by
  have h1 : ∀ x, x ∈ varsF [] (carL a d t) ↔ x ∈ varsF [] t := by
    intro x
    rw [varsF_mem, varsF_mem]
    constructor
    · rintro (h0 | ⟨h1, h2⟩)
      · simp at h0
      · exact Or.inr ⟨(carL_neg hd h h2).1 h1, h2⟩
    · rintro (h0 | ⟨h1, h2⟩)
      · simp at h0
      · exact Or.inr ⟨(carL_neg hd h h2).2 h1, h2⟩
  have key : ∀ (l k : List Int), l.Nodup → k.Nodup → (∀ x ∈ l, x ∈ k) → l.length ≤ k.length := by
    intro l
    induction l with
    | nil => intro k _ _ _; simp
    | cons y l ih =>
      intro k h1 h2 h3
      have hy := h3 y (by simp)
      obtain ⟨g1, g2⟩ := List.nodup_cons.1 h1
      have := ih (k.erase y) g2 (h2.erase _) (fun x hx => (List.Nodup.mem_erase_iff h2).2 ⟨fun e => g1 (e ▸ hx), h3 x (by simp [hx])⟩)
      rw [List.length_erase_of_mem hy] at this
      have : 0 < k.length := List.length_pos_of_mem hy
      simp; omega
  have a1 := varsF_nodup (carL a d t) [] (by simp)
  have a2 := varsF_nodup t [] (by simp)
  exact Nat.le_antisymm (key _ _ a1 a2 fun x hx => (h1 x).1 hx) (key _ _ a2 a1 fun x hx => (h1 x).2 hx)
theorem car_madeB {a b : Sg} {d : Dic} (hd : DicOK a b d) {m : Int} {t : List Int} (h : IsT a m t) : madeB (carL a d t) = madeB t := by
  unfold madeB
  rw [carL_len hd h, car_vars_len hd h]
theorem car_unified {a b : Sg} {d : Dic} (h1 : oneB a b d = true) {p q : List Int} (hp : termB a p = true) (hq : termB a q = true) {x y : List Int × Int} (hx : UnifR a p q x) (hy : UnifR b (carL a d p) (carL a d q) y) :
    x.2 = y.2 ∧ (x.2 = 0 → termB a x.1 = true ∧ alikeB b y.1 (carL a d x.1) = true) := by
  have hd := oneB_ok h1
  have hp' := car_term hd.toDicOK hp
  have hq' := car_term hd.toDicOK hq
  have tp := (termB_T hp).mono (m' := 24) (by omega)
  have tq := (termB_T hq).mono (m' := 24) (by omega)
  unfold UnifR at hx hy
  rw [hp, hq, Bool.true_and, if_pos rfl] at hx
  rw [hp', hq', Bool.true_and, if_pos rfl] at hy
  rcases hx with ⟨n1, rfl⟩ | ⟨m, hm, hx⟩
  · rcases hy with ⟨n2, rfl⟩ | ⟨m', hm', hy⟩
    · exact ⟨rfl, fun h => by simp at h⟩
    · exact (hm'.not_no ((car_NoU hd tp tq).2 n1)).elim
  · rcases hy with ⟨n2, rfl⟩ | ⟨m', hm', hy⟩
    · exact (hm.not_no ((car_NoU hd tp tq).1 n2)).elim
    · have hc := car_mgu hd tp tq tp hm hm'
      have tF := fw_T hm.1 tp
      have hb : madeB (fw m' (carL a d p)) = madeB (fw m p) := (madeB_canon hc).trans (car_madeB hd.toDicOK tF)
      rcases hx with ⟨g1, rfl⟩ | ⟨g1, rfl⟩
      · rw [g1] at hb
        rcases hy with ⟨g2, rfl⟩ | ⟨g2, rfl⟩
        · have t1 := made_term hd.sa tF g1
          have t2 := made_term hd.sb (fw_T hm'.1 (carL_T hd.toDicOK tp)) g2
          refine ⟨rfl, fun _ => ⟨t1, ?_⟩⟩
          unfold alikeB
          rw [t2, car_term hd.toDicOK t1, Bool.true_and, Bool.true_and, decide_eq_true_eq, canonL_canon, car_canon hd.toDicOK tF]
          exact hc
        · rw [g2] at hb; cases hb
      · rw [g1] at hb
        rcases hy with ⟨g2, rfl⟩ | ⟨g2, rfl⟩
        · rw [g2] at hb; cases hb
        · exact ⟨rfl, fun h => by simp at h⟩
theorem car_uniQ {a b : Sg} {d : Dic} (h1 : oneB a b d = true) {p q : List Int} (hp : termB a p = true) (hq : termB a q = true) : UniQ b (carL a d p) (carL a d q) ↔ UniQ a p q := by
  have hd := oneB_ok h1
  have tp := (termB_T hp).mono (m' := 24) (by omega)
  have tq := (termB_T hq).mono (m' := 24) (by omega)
  unfold UniQ
  rw [car_NoU hd tp tq, car_term hd.toDicOK hp, car_term hd.toDicOK hq, hp, hq]
theorem car_uniA {a b : Sg} {d : Dic} (h1 : oneB a b d = true) {p q : List Int} (hp : termB a p = true) (hq : termB a q = true) : ∃ z, (∀ z', UniA a p q z' → z' = z) ∧ (∀ z', UniA b (carL a d p) (carL a d q) z' → z' = z) := by
  by_cases h : UniQ a p q
  · refine ⟨true, fun z' hz => hz.2 h, fun z' hz => hz.2 ((car_uniQ h1 hp hq).2 h)⟩
  · refine ⟨false, fun z' hz => ?_, fun z' hz => ?_⟩
    · cases z'
      · rfl
      · exact absurd (hz.1 rfl) h
    · cases z'
      · rfl
      · exact absurd ((car_uniQ h1 hp hq).1 (hz.1 rfl)) h
theorem car_instB {a b : Sg} {d : Dic} (h1 : oneB a b d = true) {p q : List Int} (hp : termB a p = true) (hq : termB a q = true) : instB b (carL a d p) (carL a d q) = instB a p q := by
  have hd := oneB_ok h1
  rw [Bool.eq_iff_iff, instB_iff, instB_iff, car_inst hd (termB_T hp) (termB_T hq), car_term hd.toDicOK hp, car_term hd.toDicOK hq, hp, hq]
end Go.Proofs.Ytldgkidojepdlaa
