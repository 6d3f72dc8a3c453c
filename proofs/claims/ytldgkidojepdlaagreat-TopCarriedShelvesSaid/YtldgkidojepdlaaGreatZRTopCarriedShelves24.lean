/-
  WHAT IT HOLDS: plain theory of terms carried by a dictionary: what a valid dictionary is, what it makes of a term, that a one-to-one dictionary carries substitutions, instances and unifiers there and back. No program in sight.
-/
import Derived.Test.YtldgkidojepdlaaGreatZRTopCarriedShelves2
import Derived.Test.YtldgkidojepdlaaGreatZRTopCarriedShelves1
namespace Go.Proofs.YtldgkidojepdlaaGreat
/-- a way: the symbol that one becomes, and where its arguments come from. -/
abbrev Wy := Int × List Int
abbrev Dic := List Wy
def ascL (n : Nat) : List Int := (List.range n).map (fun (i : Nat) => (i : Int))
theorem ascL_len (n : Nat) : (ascL n).length = n := by simp [ascL]
theorem ascL_mem {n : Nat} {x : Int} : x ∈ ascL n ↔ 0 ≤ x ∧ x < n := by
  unfold ascL
  rw [List.mem_map]
  constructor
  · rintro ⟨i, hi, rfl⟩
    have := List.mem_range.1 hi
    omega
  · rintro ⟨h1, h2⟩
    exact ⟨x.toNat, List.mem_range.2 (by omega), by omega⟩
theorem ascL_nodup (n : Nat) : (ascL n).Nodup := by
  unfold ascL
  rw [List.nodup_iff_pairwise_ne, List.pairwise_map]
  refine List.Pairwise.imp ?_ List.pairwise_lt_range
  intro a b h; omega
/-- numbers are an order of the numbers below their number. -/
def ordB (l : List Int) : Bool := l.isPerm (ascL l.length)
theorem ordB_iff {l : List Int} : ordB l = true ↔ l.Perm (ascL l.length) := by unfold ordB; exact List.isPerm_iff
theorem ordB_mem {l : List Int} (h : ordB l = true) {x : Int} : x ∈ l ↔ 0 ≤ x ∧ x < l.length := by
  rw [(ordB_iff.1 h).mem_iff, ascL_mem]
theorem ordB_nodup {l : List Int} (h : ordB l = true) : l.Nodup := (ordB_iff.1 h).nodup_iff.2 (ascL_nodup _)
def wayB (a b : Sg) (d : Dic) (i : Nat) : Bool :=
  match d[i]? with
  | some w => inB w.1 0 (b.length - 1) && decide (arOf b w.1 = arOf a i) && decide ((w.2.length : Int) = arOf a i) && ordB w.2
  | none => false
/-- a valid dictionary. -/
def dicB (a b : Sg) (d : Dic) : Bool :=
  signB a && signB b && decide (d.length = a.length) && (match d[0]? with | some w => decide (w.1 = 0) && decide (w.2 = [0, 1]) | none => false) && (List.range d.length).all (wayB a b d)
def oneB (a b : Sg) (d : Dic) : Bool := dicB a b d && (decide (a.length = b.length) && decide (d.map (·.1)).Nodup)
structure DicOK (a b : Sg) (d : Dic) : Prop where
  sa : signB a = true
  sb : signB b = true
  len : d.length = a.length
  way : ∀ i (h : i < d.length), (0 ≤ d[i].1 ∧ d[i].1 < b.length) ∧ arOf b d[i].1 = arOf a i ∧ (d[i].2.length : Int) = arOf a i ∧ ordB d[i].2 = true
theorem dicB_ok {a b : Sg} {d : Dic} (h : dicB a b d = true) : DicOK a b d := by
  unfold dicB at h
  simp only [Bool.and_eq_true, decide_eq_true_eq, List.all_eq_true, List.mem_range] at h
  obtain ⟨⟨⟨⟨h1, h2⟩, h3⟩, -⟩, h5⟩ := h
  refine ⟨h1, h2, h3, fun i hi => ?_⟩
  have := h5 i hi
  unfold wayB at this
  rw [List.getElem?_eq_getElem hi] at this
  simp only [Bool.and_eq_true, decide_eq_true_eq] at this
  obtain ⟨⟨⟨w1, w2⟩, w3⟩, w4⟩ := this
  have := inB_true.1 w1
  exact ⟨by omega, w2, w3, w4⟩
/-- the first terms of a list. -/
def cutL (s : Sg) : Nat → List Int → List (List Int)
  | 0, _ => []
  | k + 1, l => l.take (pLen s l 1) :: cutL s k (l.drop (pLen s l 1))
theorem cutL_flat {s : Sg} {m : Int} : ∀ (as : List (List Int)) (r : List Int), (∀ a ∈ as, IsT s m a) → cutL s as.length (as.flatten ++ r) = as := by
  intro as
  induction as with
  | nil => intro r _; rfl
  | cons a as ih =>
    intro r h
    have e : pLen s ((a :: as).flatten ++ r) 1 = a.length := by
      rw [List.flatten_cons, List.append_assoc]
      exact pLen_T1 (h a (by simp)) _
    simp only [List.length_cons, cutL]
    rw [e, List.flatten_cons, List.append_assoc, List.take_left, List.drop_left, ih r fun x hx => h x (by simp [hx])]
def putW (w : Wy) (zs : List (List Int)) : List Int := w.1 :: (w.2.map fun k => zs.getD k.toNat []).flatten
def carF (s : Sg) (d : Dic) : Nat → List Int → List Int
  | 0, _ => []
  | _ + 1, [] => []
  | f + 1, n :: r => if n < 0 then [n] else putW (d.getD n.toNat (0, [])) ((cutL s (arOf s n).toNat r).map (carF s d f))
/-- what a dictionary makes of a term. -/
def carL (s : Sg) (d : Dic) (t : List Int) : List Int := carF s d t.length t
theorem flat_mem_le {a : List Int} : ∀ {as : List (List Int)}, a ∈ as → a.length ≤ as.flatten.length := by
  intro as
  induction as with
  | nil => intro h; simp at h
  | cons b as ih =>
    intro h
    rcases List.mem_cons.1 h with rfl | h
    · simp
    · have := ih h; simp; simp at this; omega
theorem carF_fuel {s : Sg} {d : Dic} {m : Int} {t : List Int} (h : IsT s m t) : ∀ f, t.length ≤ f → carF s d f t = carL s d t := by
  have key : ∀ f g, t.length ≤ f → t.length ≤ g → carF s d f t = carF s d g t := by
    induction h with
    | var n h1 h2 =>
      intro f g hf hg
      simp at hf hg
      obtain ⟨f, rfl⟩ : ∃ k, f = k + 1 := ⟨f - 1, by omega⟩
      obtain ⟨g, rfl⟩ : ∃ k, g = k + 1 := ⟨g - 1, by omega⟩
      simp [carF, h2]
    | app c as h1 h2 h3 ih =>
      intro f g hf hg
      simp only [List.length_cons] at hf hg
      obtain ⟨f, rfl⟩ : ∃ k, f = k + 1 := ⟨f - 1, by omega⟩
      obtain ⟨g, rfl⟩ : ∃ k, g = k + 1 := ⟨g - 1, by omega⟩
      have e : cutL s (arOf s (c : Int)).toNat as.flatten = as := by
        have := cutL_flat as [] h3
        rw [List.append_nil] at this
        rw [← h2]; exact this
      simp only [carF]
      rw [if_neg (by omega), if_neg (by omega), e]
      congr 1
      refine List.map_congr_left fun x hx => ih x hx f g ?_ ?_
      · have := flat_mem_le hx; omega
      · have := flat_mem_le hx; omega
  exact fun f hf => key f t.length hf (Nat.le_refl _)
theorem carL_var (s : Sg) (d : Dic) {n : Int} (h : n < 0) : carL s d [n] = [n] := by simp [carL, carF, h]
theorem carL_app {s : Sg} {d : Dic} {m : Int} {c : Nat} {as : List (List Int)} (h2 : (as.length : Int) = arOf s c) (h3 : ∀ a ∈ as, IsT s m a) :
    carL s d ((c : Int) :: as.flatten) = putW (d.getD c (0, [])) (as.map (carL s d)) := by
  have e : cutL s (arOf s (c : Int)).toNat as.flatten = as := by
    have := cutL_flat as [] h3
    rw [List.append_nil] at this
    rw [← h2]; exact this
  unfold carL
  simp only [List.length_cons, carF]
  rw [if_neg (by omega), e, Int.toNat_natCast]
  congr 1
  refine List.map_congr_left fun x hx => carF_fuel (h3 x hx) _ (flat_mem_le hx)
/-- what is put in order has what was there. -/
theorem pick_perm {l : List Int} (h : ordB l = true) {α : Type} (zs : List α) (e : α) (hl : zs.length = l.length) : (l.map fun k => zs.getD k.toNat e).Perm zs := by
  have h1 : (l.map fun k => zs.getD k.toNat e).Perm ((ascL l.length).map fun k => zs.getD k.toNat e) := (ordB_iff.1 h).map _
  have h2 : (ascL l.length).map (fun k => zs.getD k.toNat e) = zs := by
    unfold ascL
    rw [List.map_map]
    refine List.ext_getElem (by simp [hl]) fun i g1 g2 => ?_
    simp [List.getD_eq_getElem?_getD, List.getElem?_eq_getElem g2]
  rw [h2] at h1
  exact h1
theorem DicOK.at {a b : Sg} {d : Dic} (h : DicOK a b d) {c : Nat} (hc : c < a.length) : ∃ (to : Nat) (l : List Int), d.getD c (0, []) = ((to : Int), l) ∧ to < b.length ∧ arOf b to = arOf a c ∧ (l.length : Int) = arOf a c ∧ ordB l = true ∧ d[c]? = some ((to : Int), l) := by
  have hc' : c < d.length := by rw [h.len]; exact hc
  obtain ⟨⟨w1, w2⟩, w3, w4, w5⟩ := h.way c hc'
  obtain ⟨to, hto⟩ : ∃ to : Nat, d[c].1 = to := ⟨d[c].1.toNat, by omega⟩
  refine ⟨to, d[c].2, ?_, by omega, by rw [← hto]; exact w3, w4, w5, ?_⟩
  · rw [List.getD_eq_getElem?_getD, List.getElem?_eq_getElem hc', ← hto]; rfl
  · rw [List.getElem?_eq_getElem hc', ← hto]
theorem perm_flatten {α : Type} {l l' : List (List α)} (h : l.Perm l') : l.flatten.Perm l'.flatten := by
  induction h with
  | nil => exact List.Perm.refl _
  | cons x _ ih => simpa using ih.append_left x
  | swap x y l => simpa using (List.perm_append_comm_assoc y x l.flatten)
  | trans _ _ h1 h2 => exact h1.trans h2
theorem perm_flatten_map {α β : Type} (f g : α → List β) : ∀ (l : List α), (∀ a ∈ l, (f a).Perm (g a)) → (l.map f).flatten.Perm (l.map g).flatten := by
  intro l
  induction l with
  | nil => intro _; exact List.Perm.refl _
  | cons x l ih => intro h; simpa using (h x (by simp)).append (ih fun a ha => h a (by simp [ha]))
theorem carL_T {a b : Sg} {d : Dic} (hd : DicOK a b d) {m : Int} {t : List Int} (h : IsT a m t) : IsT b m (carL a d t) := by
  induction h with
  | var n h1 h2 => rw [carL_var _ _ h2]; exact .var n h1 h2
  | app c as h1 h2 h3 ih =>
    rw [carL_app h2 h3]
    obtain ⟨to, l, e, w1, w2, w3, w4, -⟩ := hd.at h1
    rw [e]
    unfold putW
    refine .app to _ w1 (by simp; omega) fun z hz => ?_
    have hp := pick_perm w4 (as.map (carL a d)) [] (by simp; omega)
    have hz' := hp.mem_iff.1 hz
    obtain ⟨x, hx, rfl⟩ := List.mem_map.1 hz'
    exact ih x hx
theorem carL_len {a b : Sg} {d : Dic} (hd : DicOK a b d) {m : Int} {t : List Int} (h : IsT a m t) : (carL a d t).length = t.length := by
  induction h with
  | var n h1 h2 => rw [carL_var _ _ h2]
  | app c as h1 h2 h3 ih =>
    rw [carL_app h2 h3]
    obtain ⟨to, l, e, w1, w2, w3, w4, -⟩ := hd.at h1
    rw [e]
    unfold putW
    have hp := perm_flatten (pick_perm w4 (as.map (carL a d)) [] (by simp; omega))
    simp only [List.length_cons, hp.length_eq, List.length_flatten, List.map_map]
    congr 2
    refine List.map_congr_left fun x hx => ?_
    exact ih x hx
theorem carL_vars {a b : Sg} {d : Dic} (hd : DicOK a b d) {m : Int} {t : List Int} (h : IsT a m t) : ((carL a d t).filter (fun n => decide (n < 0))).Perm (t.filter (fun n => decide (n < 0))) := by
  induction h with
  | var n h1 h2 => rw [carL_var _ _ h2]
  | app c as h1 h2 h3 ih =>
    rw [carL_app h2 h3]
    obtain ⟨to, l, e, w1, w2, w3, w4, -⟩ := hd.at h1
    rw [e]
    unfold putW
    have hp := perm_flatten (pick_perm w4 (as.map (carL a d)) [] (by simp; omega))
    rw [List.filter_cons_of_neg (by simp), List.filter_cons_of_neg (by simp)]
    refine (hp.filter _).trans ?_
    rw [List.filter_flatten, List.filter_flatten, List.map_map]
    exact perm_flatten_map _ _ as ih
theorem carL_neg {a b : Sg} {d : Dic} (hd : DicOK a b d) {m : Int} {t : List Int} (h : IsT a m t) {n : Int} (hn : n < 0) : n ∈ carL a d t ↔ n ∈ t := by
  have := (carL_vars hd h).mem_iff (a := n)
  simpa [List.mem_filter, hn] using this
theorem carL_sub {a b : Sg} {d : Dic} (hd : DicOK a b d) {σ : Int → List Int} {q m : Int} {t : List Int} (h : IsT a m t) (hσ : ∀ n ∈ t, n < 0 → IsT a q (σ n)) :
    carL a d (subL σ t) = subL (fun n => carL a d (σ n)) (carL a d t) := by
  induction h with
  | var n h1 h2 => rw [carL_var _ _ h2, subL_one, if_pos h2, subL_one, if_pos h2]
  | app c as h1 h2 h3 ih =>
    have hs : ∀ x ∈ as, ∀ n ∈ x, n < 0 → IsT a q (σ n) := fun x hx n hn h0 => hσ n (by simp; exact Or.inr ⟨x, hx, hn⟩) h0
    have h3' : ∀ z ∈ as.map (subL σ), IsT a q z := by
      intro z hz
      obtain ⟨x, hx, rfl⟩ := List.mem_map.1 hz
      exact (h3 x hx).sub (hs x hx)
    rw [subL_node, carL_app (by simpa using h2) h3', carL_app h2 h3]
    obtain ⟨to, l, e, w1, w2, w3, w4, -⟩ := hd.at h1
    rw [e]
    unfold putW
    rw [subL_cons_app _ (by omega), subL_flatten, List.map_map, List.map_map]
    congr 2
    refine List.map_congr_left fun k hk => ?_
    have hk' := (ordB_mem w4).1 hk
    have hkl : k.toNat < as.length := by omega
    simp only [Function.comp, List.getD_eq_getElem?_getD, List.getElem?_map, List.getElem?_eq_getElem hkl, Option.map_some, Option.getD_some]
    exact ih _ (List.getElem_mem hkl) (hs _ (List.getElem_mem hkl))
structure OneOK (a b : Sg) (d : Dic) : Prop extends DicOK a b d where
  same : a.length = b.length
  nd : (d.map (·.1)).Nodup
theorem oneB_ok {a b : Sg} {d : Dic} (h : oneB a b d = true) : OneOK a b d := by
  unfold oneB at h
  simp only [Bool.and_eq_true, decide_eq_true_eq] at h
  exact ⟨dicB_ok h.1, h.2.1, h.2.2⟩
theorem to_inj {a b : Sg} {d : Dic} (h : OneOK a b d) {i j : Nat} {x : Int} {l l' : List Int} (hi : d[i]? = some (x, l)) (hj : d[j]? = some (x, l')) : i = j := by
  have hi' := (List.getElem?_eq_some_iff.1 hi).1
  have hj' := (List.getElem?_eq_some_iff.1 hj).1
  have e1 : (d.map (·.1))[i]'(by simpa using hi') = x := by simp [(List.getElem?_eq_some_iff.1 hi).2]
  have e2 : (d.map (·.1))[j]'(by simpa using hj') = x := by simp [(List.getElem?_eq_some_iff.1 hj).2]
  exact (List.getElem_inj h.nd).1 (e1.trans e2.symm)
theorem pick_inj {l : List Int} (h : ordB l = true) {zs ys : List (List Int)} (h1 : zs.length = l.length) (h2 : ys.length = l.length) (e : (l.map fun k => zs.getD k.toNat []) = l.map fun k => ys.getD k.toNat []) : zs = ys := by
  refine List.ext_getElem (by omega) fun i g1 g2 => ?_
  have hm : (i : Int) ∈ l := (ordB_mem h).2 (by omega)
  have := (List.map_inj_left.1 e) _ hm
  simpa [List.getD_eq_getElem?_getD, List.getElem?_eq_getElem g1, List.getElem?_eq_getElem g2] using this
theorem map_eq_of {α β : Type} {f : α → β} : ∀ {as bs : List α}, (∀ x ∈ as, ∀ y ∈ bs, f x = f y → x = y) → as.map f = bs.map f → as = bs
  | [], [], _, _ => rfl
  | [], _ :: _, _, e => by simp at e
  | _ :: _, [], _, e => by simp at e
  | x :: as, y :: bs, h, e => by
    simp only [List.map_cons, List.cons.injEq] at e
    rw [h x (by simp) y (by simp) e.1, map_eq_of (fun x hx y hy => h x (by simp [hx]) y (by simp [hy])) e.2]
theorem carL_inj {a b : Sg} {d : Dic} (hd : OneOK a b d) {m : Int} {t : List Int} (h : IsT a m t) : ∀ {u : List Int}, IsT a m u → carL a d t = carL a d u → t = u := by
  induction h with
  | var n h1 h2 =>
    intro u hu e
    rw [carL_var _ _ h2] at e
    cases hu with
    | var k k1 k2 => rw [carL_var _ _ k2] at e; exact e
    | app c as k1 k2 k3 =>
      rw [carL_app k2 k3] at e
      obtain ⟨to, l, e', -⟩ := hd.toDicOK.at k1
      rw [e'] at e
      unfold putW at e
      have := (List.cons.inj e).1
      omega
  | app c as h1 h2 h3 ih =>
    intro u hu e
    rw [carL_app h2 h3] at e
    obtain ⟨to, l, e', w1, w2, w3, w4, w5⟩ := hd.toDicOK.at h1
    rw [e'] at e
    cases hu with
    | var k k1 k2 =>
      rw [carL_var _ _ k2] at e
      unfold putW at e
      have := (List.cons.inj e).1
      omega
    | app c' bs k1 k2 k3 =>
      rw [carL_app k2 k3] at e
      obtain ⟨to', l', e'', v1, v2, v3, v4, v5⟩ := hd.toDicOK.at k1
      rw [e''] at e
      unfold putW at e
      simp only [List.cons.injEq] at e
      obtain ⟨e1, e2⟩ := e
      rw [e1] at w5
      have hc := to_inj hd w5 v5
      subst hc
      rw [w5] at v5
      have hl : l = l' := congrArg Prod.snd (Option.some.inj v5)
      subst hl
      have T1 : ∀ z ∈ (l.map fun k => (as.map (carL a d)).getD k.toNat []), IsT b m z := by
        intro z hz
        have := (pick_perm w4 (as.map (carL a d)) [] (by simp; omega)).mem_iff.1 hz
        obtain ⟨x, hx, rfl⟩ := List.mem_map.1 this
        exact carL_T hd.toDicOK (h3 x hx)
      have T2 : ∀ z ∈ (l.map fun k => (bs.map (carL a d)).getD k.toNat []), IsT b m z := by
        intro z hz
        have := (pick_perm w4 (bs.map (carL a d)) [] (by simp; omega)).mem_iff.1 hz
        obtain ⟨x, hx, rfl⟩ := List.mem_map.1 this
        exact carL_T hd.toDicOK (k3 x hx)
      have := cut_unique _ _ [] [] T1 T2 (by simp) (by simpa using e2)
      have hz := pick_inj w4 (by simp; omega) (by simp; omega) this.1
      have hab : as = bs := map_eq_of (fun x hx y hy hxy => ih x hx (k3 y hy) hxy) hz
      rw [hab]
theorem nodup_full : ∀ (n : Nat) (l : List Int), l.Nodup → (∀ x ∈ l, 0 ≤ x ∧ x < n) → l.length = n → ∀ x : Int, 0 ≤ x → x < n → x ∈ l := by
  intro n
  induction n with
  | zero => intro l _ _ _ x h1 h2; omega
  | succ n ih =>
    intro l hn hb hl x h1 h2
    by_cases hm : (n : Int) ∈ l
    · by_cases hx : x = n
      · rw [hx]; exact hm
      · have := ih (l.erase n) (hn.erase _) (fun y hy => by
          have h := (List.Nodup.mem_erase_iff hn).1 hy
          have := hb y h.2
          have h3 := h.1
          omega) (by rw [List.length_erase_of_mem hm]; omega) x h1 (by omega)
        exact List.mem_of_mem_erase this
    · exfalso
      have h' : ∀ y ∈ l, 0 ≤ y ∧ y < n := fun y hy => by
        have := hb y hy
        have : y ≠ n := fun e => hm (e ▸ hy)
        omega
      cases l with
      | nil => simp at hl
      | cons z l =>
        have hz := h' z (by simp)
        have hnd := List.nodup_cons.1 hn
        exact hnd.1 (ih l hnd.2 (fun y hy => h' y (by simp [hy])) (by simpa using hl) z hz.1 hz.2)
theorem to_onto {a b : Sg} {d : Dic} (h : OneOK a b d) {j : Nat} (hj : j < b.length) : ∃ (i : Nat) (l : List Int), i < a.length ∧ d[i]? = some ((j : Int), l) := by
  have hm := nodup_full b.length (d.map (·.1)) h.nd (by
    intro x hx
    obtain ⟨w, hw, rfl⟩ := List.mem_map.1 hx
    obtain ⟨i, hi, rfl⟩ := List.getElem_of_mem hw
    exact (h.way i hi).1) (by simp [h.len, h.same]) j (by omega) (by omega)
  obtain ⟨w, hw, he⟩ := List.mem_map.1 hm
  obtain ⟨i, hi, rfl⟩ := List.getElem_of_mem hw
  refine ⟨i, d[i].2, by rw [← h.len]; exact hi, ?_⟩
  rw [List.getElem?_eq_getElem hi, ← he]
/-- each term of the other sign comes from one. -/
theorem carL_onto {a b : Sg} {d : Dic} (hd : OneOK a b d) {m : Int} {u : List Int} (h : IsT b m u) : ∃ t, IsT a m t ∧ carL a d t = u := by
  induction h with
  | var n h1 h2 => exact ⟨[n], .var n h1 h2, carL_var _ _ h2⟩
  | app j us h1 h2 h3 ih =>
    obtain ⟨i, l, hi, hdi⟩ := to_onto hd h1
    obtain ⟨to, l', e, w1, w2, w3, w4, w5⟩ := hd.toDicOK.at hi
    rw [hdi] at w5
    have e1 : (j : Int) = to := congrArg Prod.fst (Option.some.inj w5)
    have e2 : l = l' := congrArg Prod.snd (Option.some.inj w5)
    have e1' : j = to := by omega
    subst e2; subst e1'
    have hlu : us.length = l.length := by omega
    let f : Nat → List Int := fun p => if hp : p < us.length then Classical.choose (ih us[p] (List.getElem_mem hp)) else []
    have hf : ∀ p (hp : p < us.length), IsT a m (f p) ∧ carL a d (f p) = us[p] := by
      intro p hp
      have := Classical.choose_spec (ih us[p] (List.getElem_mem hp))
      simp only [f, hp, dif_pos]
      exact this
    let as : List (List Int) := (List.range l.length).map fun (q : Nat) => f (l.idxOf (q : Int))
    have hmem : ∀ q, q < l.length → l.idxOf (q : Int) < l.length := fun q hq => List.idxOf_lt_length_of_mem ((ordB_mem w4).2 ⟨by omega, by omega⟩)
    have has : ∀ x ∈ as, IsT a m x := by
      intro x hx
      obtain ⟨q, hq, rfl⟩ := List.mem_map.1 hx
      exact (hf _ (by have := hmem q (List.mem_range.1 hq); omega)).1
    have hal : (as.length : Int) = arOf a i := by simp [as]; exact w3
    refine ⟨(i : Int) :: as.flatten, .app i as hi hal has, ?_⟩
    rw [carL_app hal has, e]
    unfold putW
    show (j : Int) :: _ = (j : Int) :: us.flatten
    congr 2
    refine List.ext_getElem (by simp [hlu]) fun p g1 g2 => ?_
    have hp : p < l.length := by simpa using g1
    have hx := (ordB_mem w4).1 (List.getElem_mem hp)
    have hq : (l[p]).toNat < l.length := by omega
    rw [List.getElem_map, List.getD_eq_getElem?_getD, List.getElem?_map, List.getElem?_eq_getElem (by simpa [as] using hq)]
    simp only [Option.map_some, Option.getD_some, as, List.getElem_map, List.getElem_range]
    have e3 : ((l[p].toNat : Nat) : Int) = l[p] := by omega
    rw [e3, List.Nodup.idxOf_getElem (ordB_nodup w4) p hp]
    exact (hf p (by omega)).2
theorem carL_TS {a b : Sg} {d : Dic} (hd : DicOK a b d) {σ : Int → List Int} (h : TS a σ) : TS b (fun n => carL a d (σ n)) := by
  obtain ⟨q, hq⟩ := h
  exact ⟨q, fun v h1 h2 => carL_T hd (hq v h1 h2)⟩
theorem TS_lift {a b : Sg} {d : Dic} (hd : OneOK a b d) {τ : Int → List Int} (h : TS b τ) : ∃ σ, TS a σ ∧ ∀ v, -24 ≤ v → v < 0 → carL a d (σ v) = τ v := by
  obtain ⟨q, hq⟩ := h
  refine ⟨fun v => if hv : -24 ≤ v ∧ v < 0 then Classical.choose (carL_onto hd (hq v hv.1 hv.2)) else [], ⟨q, fun v h1 h2 => ?_⟩, fun v h1 h2 => ?_⟩
  · simp only [h1, h2, and_self, dif_pos]
    exact (Classical.choose_spec (carL_onto hd (hq v h1 h2))).1
  · simp only [h1, h2, and_self, dif_pos]
    exact (Classical.choose_spec (carL_onto hd (hq v h1 h2))).2
theorem subL_TS {s : Sg} {σ τ : Int → List Int} {t : List Int} (h : IsT s 24 t) (e : ∀ v, -24 ≤ v → v < 0 → σ v = τ v) : subL σ t = subL τ t := subL_congr fun n hn h0 => e n (h.vars n hn h0) h0
theorem carL_sub24 {a b : Sg} {d : Dic} (hd : DicOK a b d) {σ : Int → List Int} (hσ : TS a σ) {t : List Int} (h : IsT a 24 t) : carL a d (subL σ t) = subL (fun n => carL a d (σ n)) (carL a d t) := by
  obtain ⟨q, hq⟩ := hσ
  exact carL_sub hd h fun n hn h0 => hq n (h.vars n hn h0) h0
theorem subL_T24 {s : Sg} {σ : Int → List Int} (hσ : TS s σ) {t : List Int} (h : IsT s 24 t) : ∃ q, IsT s q (subL σ t) := by
  obtain ⟨q, hq⟩ := hσ
  exact ⟨q, h.sub fun n hn h0 => hq n (h.vars n hn h0) h0⟩
theorem car_unif {a b : Sg} {d : Dic} (hd : OneOK a b d) {x y : List Int} (hx : IsT a 24 x) (hy : IsT a 24 y) {σ : Int → List Int} (hσ : TS a σ) :
    subL (fun n => carL a d (σ n)) (carL a d x) = subL (fun n => carL a d (σ n)) (carL a d y) ↔ subL σ x = subL σ y := by
  rw [← carL_sub24 hd.toDicOK hσ hx, ← carL_sub24 hd.toDicOK hσ hy]
  constructor
  · intro e
    obtain ⟨q, hq⟩ := hσ
    exact carL_inj hd (m := q) (hx.sub fun n hn h0 => hq n (hx.vars n hn h0) h0) (hy.sub fun n hn h0 => hq n (hy.vars n hn h0) h0) e
  · intro e; rw [e]
theorem car_NoU {a b : Sg} {d : Dic} (hd : OneOK a b d) {x y : List Int} (hx : IsT a 24 x) (hy : IsT a 24 y) : NoU b (carL a d x) (carL a d y) ↔ NoU a x y := by
  constructor
  · intro h σ hσ e
    exact h _ (carL_TS hd.toDicOK hσ) ((car_unif hd hx hy hσ).2 e)
  · intro h τ hτ e
    obtain ⟨σ, hσ, hst⟩ := TS_lift hd hτ
    refine h σ hσ ((car_unif hd hx hy hσ).1 ?_)
    rw [subL_TS (carL_T hd.toDicOK hx) hst, subL_TS (carL_T hd.toDicOK hy) hst]
    exact e
theorem Inst.of_eq {s : Sg} {q : Int} {a b : List Int} {σ : Int → List Int} (hb : IsT s q b) (e : subL σ a = b) (hσ : ∀ n ∈ a, n < 0 → IsT s q (σ n)) : Inst s q a b := ⟨σ, hσ, e⟩
theorem car_inst {a b : Sg} {d : Dic} (hd : OneOK a b d) {q : Int} {x y : List Int} (hx : IsT a q x) (hy : IsT a q y) : Inst b q (carL a d x) (carL a d y) ↔ Inst a q x y := by
  constructor
  · rintro ⟨τ, hτ, e⟩
    have hτ' : ∀ n ∈ x, n < 0 → IsT b q (τ n) := fun n hn h0 => hτ n ((carL_neg hd.toDicOK hx h0).2 hn) h0
    let σ : Int → List Int := fun n => if hn : n ∈ x ∧ n < 0 then Classical.choose (carL_onto hd (hτ' n hn.1 hn.2)) else []
    have h1 : ∀ n ∈ x, n < 0 → IsT a q (σ n) ∧ carL a d (σ n) = τ n := by
      intro n hn h0
      have := Classical.choose_spec (carL_onto hd (hτ' n hn h0))
      simp only [σ, hn, h0, and_self, dif_pos]
      exact this
    refine ⟨σ, fun n hn h0 => (h1 n hn h0).1, ?_⟩
    refine carL_inj hd (hx.sub fun n hn h0 => (h1 n hn h0).1) hy ?_
    rw [carL_sub hd.toDicOK hx fun n hn h0 => (h1 n hn h0).1, ← e]
    exact subL_congr fun n hn h0 => (h1 n ((carL_neg hd.toDicOK hx h0).1 hn) h0).2
  · rintro ⟨σ, hσ, e⟩
    refine ⟨fun n => carL a d (σ n), fun n hn h0 => carL_T hd.toDicOK (hσ n ((carL_neg hd.toDicOK hx h0).1 hn) h0), ?_⟩
    rw [← carL_sub hd.toDicOK hx hσ, e]
/-- most general unifiers are carried. -/
theorem car_mgu {a b : Sg} {d : Dic} (hd : OneOK a b d) {x y t : List Int} {m m' : MM} (hx : IsT a 24 x) (hy : IsT a 24 y) (ht : IsT a 24 t) (h : Mgu a x y m) (h' : Mgu b (carL a d x) (carL a d y) m') :
    canonL (fw m' (carL a d t)) = canonL (carL a d (fw m t)) := by
  have T1 : IsT b 24 (fw m' (carL a d t)) := fw_T h'.1 (carL_T hd.toDicOK ht)
  have T0 : IsT a 24 (fw m t) := fw_T h.1 ht
  have T2 : IsT b 24 (carL a d (fw m t)) := carL_T hd.toDicOK T0
  refine inst_alike (s := b) (q := 24) ?_ ?_
  · -- the carried one is an instance of the other
    have hs := carL_TS hd.toDicOK (sg_TS h.1)
    have e := (car_unif hd hx hy (sg_TS h.1)).2 h.sol
    have g := h'.gen hs e (carL a d t)
    refine ⟨fun n => carL a d (sg m n), fun n hn h0 => carL_T hd.toDicOK (sg_T h.1 (T1.vars n hn h0) h0), ?_⟩
    rw [g, ← carL_sub24 hd.toDicOK (sg_TS h.1) ht, ← fw_sub h.1]
  · obtain ⟨σ, hσ, hst⟩ := TS_lift hd (sg_TS h'.1)
    have e : subL σ x = subL σ y := by
      refine (car_unif hd hx hy hσ).1 ?_
      rw [subL_TS (carL_T hd.toDicOK hx) hst, subL_TS (carL_T hd.toDicOK hy) hst]
      exact h'.sol
    have g := h.gen hσ e t
    refine ⟨sg m', fun n hn h0 => sg_T h'.1 (T2.vars n hn h0) h0, ?_⟩
    rw [fw_sub h'.1, ← subL_TS T2 hst, ← subL_TS (carL_T hd.toDicOK ht) hst, ← carL_sub24 hd.toDicOK hσ T0, ← carL_sub24 hd.toDicOK hσ ht, g]
/-- canonical forms of carried terms. -/
theorem car_canon {a b : Sg} {d : Dic} (hd : DicOK a b d) {m : Int} {t : List Int} (ht : IsT a m t) : canonL (carL a d (canonL t)) = canonL (carL a d t) := by
  have e : canonL t = subL (fun n => [numV (varsF [] t) n]) t := by
    unfold canonL subL
    rw [← List.flatMap_singleton' (List.map _ t), List.flatMap_map]
    congr 1
    funext n
    by_cases h : n < 0
    · rw [if_pos h]
    · rw [if_neg h]; unfold numV; rw [if_neg h]
  have hneg : ∀ n, n < 0 → numV (varsF [] t) n < 0 := fun n h => numV_neg.2 h
  rw [e, carL_sub (q := (varsF [] t).length + 1) hd ht ?_]
  · have e2 : subL (fun n => carL a d [numV (varsF [] t) n]) (carL a d t) = (carL a d t).map (fun n => if n < 0 then numV (varsF [] t) n else n) := by
      unfold subL
      rw [← List.flatMap_singleton' (List.map _ (carL a d t)), List.flatMap_map]
      congr 1
      funext n
      by_cases h : n < 0
      · rw [if_pos h, if_pos h]; exact carL_var _ _ (hneg n h)
      · rw [if_neg h, if_neg h]
    rw [e2]
    refine canonL_map (fun n _ h => by rw [if_pos h]; exact hneg n h) (fun n _ h => by rw [if_neg (by omega)]) (fun n hn k hk h1 h2 hh => ?_)
    rw [if_pos h1, if_pos h2] at hh
    exact numV_inj h1 h2 ((varsF_mem t [] n).2 (Or.inr ⟨(carL_neg hd ht h1).1 hn, h1⟩)) hh
  · intro n hn h0
    refine .var _ ?_ (hneg n h0)
    unfold numV
    rw [if_pos h0]
    have := List.idxOf_le_length (a := n) (l := varsF [] t)
    omega
end Go.Proofs.YtldgkidojepdlaaGreat
