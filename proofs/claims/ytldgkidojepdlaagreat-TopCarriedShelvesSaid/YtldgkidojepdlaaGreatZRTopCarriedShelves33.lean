/-
  WHAT IT HOLDS: contract of Groups of package find. Conditions: the arguments read as data; the shelf and the sign are small.
  WHAT IT HOLDS: contract of firsts of package find. Conditions: the arguments read as data; the shelf and the sign are small.
  WHAT IT HOLDS: the plain law of bases (FindBases): what Base and IsBase answer, that the base is one, least, and alike what each other base has. No program in sight. No condition.
  WHAT IT HOLDS: contract of Base of package find. Conditions: the arguments read as data; the shelf and the sign are small.
-/
import Derived.Test.YtldgkidojepdlaaGreatZRTopCarriedShelves32
import Derived.Test.YtldgkidojepdlaaGreatZRTopCarriedShelves30
import Derived.Test.YtldgkidojepdlaaGreatZRTopCarriedShelves31
namespace Go.Proofs.YtldgkidojepdlaaGreat
open Go Go.RowKit Go.Maps
theorem nodup_bound : ∀ (n : Nat) (l : List Int), l.Nodup → (∀ x ∈ l, -(n : Int) ≤ x ∧ x < 0) → l.length ≤ n := by
  intro n
  induction n with
  | zero => intro l _ h; cases l with
    | nil => simp
    | cons a l => have := h a (by simp); omega
  | succ n ih =>
    intro l hd h
    have h1 := ih (l.erase (-((n + 1 : Nat) : Int))) (hd.erase _) fun x hx => by
      have h2 := (List.Nodup.mem_erase_iff hd).1 hx
      have := h x h2.2
      have := h2.1
      omega
    have h3 := List.length_erase (a := (-((n + 1 : Nat) : Int))) (l := l)
    split at h3 <;> omega
theorem vars_le {s : Sg} {t : List Int} (h : IsT s 12 t) : (varsF [] t).length ≤ 12 :=
  nodup_bound 12 _ (varsF_nodup t [] (by simp)) fun x hx => by
    rcases (varsF_mem t [] x).1 hx with h1 | h1
    · simp at h1
    · have := h.vars x h1.1 h1.2
      omega
set_option maxRecDepth 100000 in
theorem find_Groups (vs vl : Value) (s : Sg) (l : List (List Int)) (w : World) (hs : SignAt w vs s) (hv : Terms w vl l) (hs1 : s.length ≤ 1000) (hl1 : l.length ≤ 1000) :
    Calls Tryz.prog 45 #[vs, vl] w fun e w' => Below w.heap.size w w' ∧ ((shelfB s l = false ∧ e = .returned (.tuple #[.slice none 0 0, .int .i64 1])) ∨
      (shelfB s l = true ∧ ∃ u vs', e = .returned (.tuple #[u, .int .i64 0]) ∧ NR w' w.heap.size 28 3 u vs' (grpL (l.map canonL) l.length))) := by
  have key := find_grouped 67 #[] (enters_of Tryz.func67 (by kernel_rfl) rfl) canonL vs vl s l w hs hv hs1 hl1 (fun h t ht => by
    obtain ⟨g1, g2, g3, g4, g5, g6⟩ := shelfB_facts h
    have hb : termB s t = true := by unfold allB at g4; exact List.all_eq_true.1 g4 t ht
    have hT := termB_T hb
    have hr := T_small hT (by omega)
    refine ⟨fun z hz => ?_, by rw [canonL_len]; exact hT.ne, by rw [canonL_len]; have := termB_facts hb; omega⟩
    obtain ⟨x, hx, rfl⟩ := List.mem_map.1 hz
    have := hr x hx
    unfold numV
    split
    · rename_i hx0
      have h2 := List.idxOf_lt_length_of_mem ((varsF_mem t [] x).2 (Or.inr ⟨hx, hx0⟩))
      have h3 : (varsF [] t).length ≤ 12 := vars_le hT
      omega
    · omega) (fun h t ht x W ix hsW => by
    obtain ⟨g1, g2, g3, g4, g5, g6⟩ := shelfB_facts h
    have hb : termB s t = true := by unfold allB at g4; exact List.all_eq_true.1 g4 t ht
    exact find_form vs x s t W hsW ix hs1 hb)
  have KEY := hid key
  clear key
  go_enter Tryz.func45, Tryz.ntmps45
  go_wp2_with fail
  refine KEY.out.mono ?_
  rintro e w1 ⟨hb, ⟨h1, rfl⟩ | ⟨h1, u, vs', rfl, hN⟩⟩
  · go_wp2
    go_ret2
    exact ⟨hb, Or.inl ⟨h1, rfl⟩⟩
  · have HN := hid hN
    clear hN
    go_wp2
    go_ret2
    exact ⟨hb, Or.inr ⟨h1, _, vs', rfl, HN.out⟩⟩
end Go.Proofs.YtldgkidojepdlaaGreat
namespace Go.Proofs.YtldgkidojepdlaaGreat
open Go Go.RowKit Go.Maps
def firstsL (l : List (List Int)) : List Int := (grpL (l.map canonL) l.length).map fun g => g.headD 0
theorem firstsL_len (l : List (List Int)) : (firstsL l).length ≤ l.length := by
  unfold firstsL
  rw [List.length_map, grpL_len]
  exact hdsL_len _ _
set_option maxHeartbeats 1000000 in
set_option maxRecDepth 100000 in
theorem find_firsts (vs vl : Value) (s : Sg) (l : List (List Int)) (w : World) (hs : SignAt w vs s) (hv : Terms w vl l) (hs1 : s.length ≤ 1000) (hl1 : l.length ≤ 1000) :
    Calls Tryz.prog 24 #[vs, vl] w fun e w' => Below w.heap.size w w' ∧ ((shelfB s l = false ∧ ∃ u, e = .returned (.tuple #[u, .int .i64 1])) ∨
      (shelfB s l = true ∧ ∃ u, e = .returned (.tuple #[u, .int .i64 0]) ∧ w'.ownsRow w.heap.size 3 1 u (firstsL l).length ((firstsL l).map (Value.int .i64)))) := by
  have HK := hid (find_Groups vs vl s l w hs hv hs1 hl1)
  clear hs hv
  go_enter Tryz.func24, Tryz.ntmps24
  go_wp2_with fail
  refine HK.out.mono ?_
  rintro e w1 ⟨hb, ⟨h1, rfl⟩ | ⟨h1, u, vs', rfl, hN⟩⟩
  · go_wp2
    go_loop [19] (fun i => i = .int .i64 0) (fun _ => 0)
    case atStart => rfl
    case round =>
      subst hrel
      go_wp2
      go_ret2
      exact ⟨hb, ⟨_, rfl⟩⟩
  · obtain ⟨gs, hgs⟩ : ∃ gs, grpL (l.map canonL) l.length = gs := ⟨_, rfl⟩
    have hfl : firstsL l = gs.map fun g => g.headD 0 := by unfold firstsL; rw [hgs]
    have hgl : gs.length ≤ l.length := by rw [← hgs, grpL_len]; exact hdsL_len _ _
    have hg0 : ∀ j (h : j < gs.length), 0 < gs[j].length := by
      intro j h
      subst hgs
      obtain ⟨_, k0, h2, _⟩ := grpL_first (by simp) h
      cases hq : (grpL (l.map canonL) l.length)[j] with
      | nil => rw [hq] at h2; simp at h2
      | cons => simp
    rw [hgs] at hN
    obtain ⟨L, hL⟩ : ∃ L, gs.length = L := ⟨_, rfl⟩
    have hushape : ∃ a' c', u = .slice a' L c' := by
      rcases hN.top.2 with ⟨z1, z2⟩ | ⟨g', c', cur, z1, _⟩
      · rw [hL] at z2; subst z2; exact ⟨none, 0, z1⟩
      · rw [hL] at z1; exact ⟨_, _, z1⟩
    obtain ⟨ua, uc, hue⟩ := hushape
    subst hue
    have HN := hid hN
    have HFL := hid hfl
    have HG0 := hid hg0
    have HL := hid hL
    rw [hL] at hgl
    have hsz1 := hb.size
    clear hN hfl hg0 hL hgs
    go_wp2
    go_loopw [8, 19] (fun v kv wr => ∃ k : Nat, k ≤ L ∧ kv = .int .i64 k ∧ wr.ownsRow w1.heap.size 3 1 v k (((gs.map fun g => g.headD 0).take k).map (Value.int .i64)) ∧ Below w1.heap.size w1 wr) (fun _ kv _ => L - (intOf kv).toNat)
    case atStart => exact ⟨0, by omega, rfl, World.ownsRow_nil _ _ _ _, Below.refl _ _⟩
    case round =>
      obtain ⟨k, hk, rfl, hown, hb2⟩ := hrel
      have hsz2 := hb2.size
      by_cases hlt : k < L
      · have hkg : k < gs.length := by have := HL.out; omega
        have hN2 := HN.out.below hb2
        obtain ⟨gU, hua⟩ : ∃ gU, ua = some ⟨gU, 0, none⟩ := by
          obtain ⟨g', c', h1, _⟩ := owns_some hN2.top (by omega)
          simp only [Value.slice.injEq] at h1
          exact ⟨g', h1.1⟩
        subst hua
        obtain ⟨gr, rc, hvj, -, hfst⟩ := hN2.rowAt hkg (HG0.out k hkg)
        have hct := (hN2.cellTop HL.out.symm hvj (World.grownBy.refl _ _)).1
        have hlen0 := HG0.out k hkg
        obtain ⟨m, hm⟩ : ∃ m, gs[k].length = m := ⟨_, rfl⟩
        have hx : ∃ x, gs[k][0]'hlen0 = x := ⟨_, rfl⟩
        obtain ⟨x, hx⟩ := hx
        rw [hx] at hfst
        rw [hm] at hct hlen0
        have HTK : Hid ((gs.map fun g => g.headD 0).take (k + 1) = (gs.map fun g => g.headD 0).take k ++ [x]) := hid (by
          rw [List.take_succ_eq_append_getElem (by simpa using hkg), List.getElem_map]
          congr 2
          rw [← hx, List.headD_eq_head?_getD, List.head?_eq_getElem?, List.getElem?_eq_getElem (by omega)]; rfl)
        have HOWN := hid hown
        clear hN2 hvj hm hx hown
        go_wp2_with (at_builtin; refine wpList_append_row rfl _ _ 28 rfl w1.heap.size 3 el_int Tryz.underlying28 rfl (by decide) _ _ _ rfl (HOWN.out.alloc _) _ 1 [.int .i64 x] rfl (row_one_new _ _ _) (oneCell_one rfl) (by omega) (by omega) (by simp; omega) ?_; intro v' w4 hown4 hgrow4 _)
        have hb4 : Below w1.heap.size w1 w4 := (hb2.alloc hsz2 _).grown hgrow4 (by simp; omega) (fun q hq => (HOWN.out.lt q hq).1)
        go_roundw
        case rel => exact ⟨k + 1, by omega, by go_num, by rw [HTK.out, List.map_append]; exact hown4, hb4⟩
        case measure => simp [intOf]; omega
      · have hkL : k = L := by omega
        have HT : Hid (wr.ownsRow w1.heap.size 3 1 u8 (firstsL l).length ((firstsL l).map (Value.int .i64))) := hid (by
          rw [HFL.out]
          have h9 := HL.out
          have e : (gs.map fun g => g.headD 0).take k = gs.map fun g => g.headD 0 := List.take_of_length_le (by simp; omega)
          rw [e] at hown
          rw [List.length_map, h9, ← hkL]
          exact hown)
        clear hown
        go_wp2
        go_ret2
        exact ⟨hb.trans (hb2.mono hsz1), Or.inr ⟨h1, _, rfl, owns_base HT.out hsz1⟩⟩
end Go.Proofs.YtldgkidojepdlaaGreat
namespace Go.Proofs.YtldgkidojepdlaaGreat
open Go Go.RowKit Go.Maps
/-- whether a statement stands in the first least base. -/
def basOne (s : Sg) (l : List (List Int)) (i : Nat) : Bool := (List.range l.length).all fun k => !(underB s (l.getD k []) (l.getD i []) || (decide (k < i) && decide (canonL (l.getD k []) = canonL (l.getD i []))))
def basB (s : Sg) (l : List (List Int)) : List Bool := (List.range l.length).map (basOne s l)
def basQ (s : Sg) (l : List (List Int)) : List Int × Int := if shelfB s l then (chosenL 0 (basB s l), 0) else ([], 1)
theorem basB_len (s : Sg) (l : List (List Int)) : (basB s l).length = l.length := by simp [basB]
theorem basB_get (s : Sg) (l : List (List Int)) {i : Nat} (h : i < (basB s l).length) : (basB s l)[i] = basOne s l i := by simp [basB]
/-- whether a statement has one above it. -/
def upB (s : Sg) (l : List (List Int)) (i : Int) : Bool := (overL s l (l.getD i.toNat [])).any id
theorem upB_iff {s : Sg} {l : List (List Int)} {i : Nat} : upB s l i = true ↔ ∃ t ∈ l, underB s t (l.getD i []) = true := by
  unfold upB overL
  rw [Int.toNat_natCast, List.any_map, List.any_eq_true]
  rfl
def hdOf (ks : List (List Int)) (n : Nat) : List Int := (grpL ks n).map fun g => g.headD 0
theorem headD_append {a b : List Int} (h : a ≠ []) : (a ++ b).headD 0 = a.headD 0 := by
  cases a with
  | nil => exact absurd rfl h
  | cons x r => rfl
theorem hdOf_succ {ks : List (List Int)} {n : Nat} (h : n < ks.length) : hdOf ks (n + 1) = hdOf ks n ++ if ks[n] ∈ hdsL ks n then [] else [(n : Int)] := by
  have old : (hdsL ks n).map (fun x => (clsL ks (n + 1) x).headD 0) = (hdsL ks n).map (fun x => (clsL ks n x).headD 0) := by
    refine List.map_congr_left fun x hx => ?_
    rw [clsL_succ h, headD_append (clsL_ne (Nat.le_of_lt h) hx)]
  unfold hdOf grpL
  rw [hdsL_succ h]
  simp only [List.map_map]
  by_cases hm : ks[n] ∈ hdsL ks n
  · rw [if_pos hm, if_pos hm, List.append_nil]
    exact old
  · rw [if_neg hm, if_neg hm, List.map_append]
    congr 1
    simp only [List.map_cons, List.map_nil, Function.comp_apply]
    rw [clsL_succ h, clsL_none hm]
    simp
theorem hdOf_zero (ks : List (List Int)) : hdOf ks 0 = [] := by simp [hdOf, grpL, hdsL, dedF]
theorem hds_not {ks : List (List Int)} {n : Nat} (h : n < ks.length) : ks[n] ∉ hdsL ks n ↔ ∀ k (hk : k < n), ks[k] ≠ ks[n] := by
  have hm : ks[n] ∈ hdsL ks n ↔ ks[n] ∈ ks.take n := by unfold hdsL; rw [dedF_mem]; simp
  rw [hm]
  constructor
  · intro h1 k hk he
    exact h1 (by rw [List.mem_take_iff_getElem]; exact ⟨k, by omega, he⟩)
  · intro h1 h2
    rw [List.mem_take_iff_getElem] at h2
    obtain ⟨k, hk, he⟩ := h2
    exact h1 k (by omega) he
theorem basOne_iff {s : Sg} {l : List (List Int)} {i : Nat} : basOne s l i = true ↔ (∀ t ∈ l, underB s t (l.getD i []) = false) ∧ ∀ k, k < i → k < l.length → canonL (l.getD k []) ≠ canonL (l.getD i []) := by
  unfold basOne
  rw [List.all_eq_true]
  constructor
  · intro h
    refine ⟨fun t ht => ?_, fun k hk hl he => ?_⟩
    · obtain ⟨k, hk, rfl⟩ := List.getElem_of_mem ht
      have := h k (by simpa using hk)
      simp only [Bool.not_eq_true', Bool.or_eq_false_iff] at this
      have h1 := this.1
      rwa [show l.getD k [] = l[k] by simp [List.getD, hk]] at h1
    · have := h k (by simpa using hl)
      simp only [Bool.not_eq_true', Bool.or_eq_false_iff, Bool.and_eq_false_iff, decide_eq_false_iff_not] at this
      rcases this.2 with h2 | h2
      · exact h2 hk
      · exact h2 he
  · rintro ⟨h1, h2⟩ k hk
    have hk' : k < l.length := by simpa using hk
    simp only [Bool.not_eq_true', Bool.or_eq_false_iff, Bool.and_eq_false_iff, decide_eq_false_iff_not]
    refine ⟨?_, ?_⟩
    · rw [show l.getD k [] = l[k] by simp [List.getD, hk']]
      exact h1 _ (List.getElem_mem hk')
    · by_cases hki : k < i
      · exact Or.inr (h2 k hki hk')
      · exact Or.inl hki
theorem bas_firsts (s : Sg) (l : List (List Int)) : ∀ n, n ≤ l.length → (hdOf (l.map canonL) n).filter (fun i => !upB s l i) = chosenL 0 ((basB s l).take n)
  | 0, _ => by rw [hdOf_zero]; simp [chosenL]
  | n + 1, h => by
    have hn : n < l.length := by omega
    have ih := bas_firsts s l n (by omega)
    have hb : n < (basB s l).length := by rw [basB_len]; omega
    rw [hdOf_succ (by simpa using hn), List.filter_append, ih, chosenL_take_succ hb, basB_get]
    congr 1
    have hnot := hds_not (ks := l.map canonL) (n := n) (by simpa using hn)
    by_cases hm : (l.map canonL)[n]'(by simpa using hn) ∈ hdsL (l.map canonL) n
    · rw [if_pos hm]
      have : basOne s l n = false := by
        rw [← Bool.not_eq_true]
        intro hc
        refine hnot.2 (fun k hk => ?_) hm
        have := (basOne_iff.1 hc).2 k hk (by omega)
        simpa [List.getD, hn, show k < l.length by omega] using this
      rw [this]; rfl
    · rw [if_neg hm]
      have h1 := hnot.1 hm
      have e : basOne s l n = !upB s l n := by
        rw [Bool.eq_iff_iff, basOne_iff, Bool.not_eq_true', ← Bool.not_eq_true, upB_iff]
        constructor
        · rintro ⟨h2, _⟩ ⟨t, ht, hu⟩
          rw [h2 t ht] at hu; cases hu
        · intro h2
          refine ⟨fun t ht => ?_, fun k hk hl he => ?_⟩
          · rw [← Bool.not_eq_true]; exact fun hu => h2 ⟨t, ht, hu⟩
          · refine h1 k hk ?_
            simpa [List.getD, hl, hn] using he
      rw [e]
      cases hu : upB s l n <;> simp [List.filter_cons, hu]
theorem bas_all (s : Sg) (l : List (List Int)) : (firstsL l).filter (fun i => !upB s l i) = chosenL 0 (basB s l) := by
  have := bas_firsts s l l.length (Nat.le_refl _)
  rw [List.take_of_length_le (by rw [basB_len]; omega)] at this
  exact this
def idxB (n : Nat) (b : List Int) (i : Nat) : Bool := inB (b.getD i 0) 0 ((n : Int) - 1) && (decide (i = 0) || decide (b.getD (i - 1) 0 < b.getD i 0))
def isbB (s : Sg) (l : List (List Int)) (b : List Int) : Bool := shelfB s l && ((List.range b.length).all (idxB l.length b) && l.all fun t => b.any fun k => instB s (l.getD k.toNat []) t)
theorem cnt_lt {α : Type} {P Q : α → Bool} : ∀ (l : List α), (∀ a ∈ l, P a = true → Q a = true) → (∃ a ∈ l, P a = false ∧ Q a = true) → l.countP P < l.countP Q
  | [], _, h => by obtain ⟨a, h, _⟩ := h; simp at h
  | x :: l, h, hx => by
    rw [List.countP_cons, List.countP_cons]
    have hle : l.countP P ≤ l.countP Q := List.countP_mono_left fun a ha hp => h a (by simp [ha]) hp
    rcases hx with ⟨a, ha, h1, h2⟩
    rcases List.mem_cons.1 ha with rfl | ha
    · rw [h1, h2]; simp; omega
    · have := cnt_lt l (fun a ha => h a (by simp [ha])) ⟨a, ha, h1, h2⟩
      by_cases hp : P x = true
      · rw [hp, h x (by simp) hp]; simp; omega
      · simp only [hp]
        split <;> simp_all <;> omega
/-- above each statement there is one that has none above it. -/
theorem top_of {s : Sg} {l : List (List Int)} : ∀ (m : Nat) (t : List Int), t ∈ l → l.length - l.countP (instB s t) ≤ m → termB s t = true → ∃ u ∈ l, instB s u t = true ∧ ∀ x ∈ l, underB s x u = false := by
  intro m
  induction m with
  | zero =>
    intro t ht hm hv
    refine ⟨t, ht, by rw [instB_refl]; exact hv, fun x hx => ?_⟩
    rw [← Bool.not_eq_true]
    intro hu
    unfold underB at hu
    simp only [Bool.and_eq_true, Bool.not_eq_true'] at hu
    have h1 := cnt_lt (P := instB s t) (Q := instB s x) l (fun a _ h => instB_trans hu.1 h) ⟨x, hx, hu.2, by rw [instB_refl]; exact (instB_iff.1 hu.1).1⟩
    have h2 := List.countP_le_length (p := instB s x) (l := l)
    omega
  | succ m ih =>
    intro t ht hm hv
    by_cases hx : ∃ x ∈ l, underB s x t = true
    · obtain ⟨x, hx, hu⟩ := hx
      unfold underB at hu
      simp only [Bool.and_eq_true, Bool.not_eq_true'] at hu
      have h1 := cnt_lt (P := instB s t) (Q := instB s x) l (fun a _ h => instB_trans hu.1 h) ⟨x, hx, hu.2, by rw [instB_refl]; exact (instB_iff.1 hu.1).1⟩
      have h2 := List.countP_le_length (p := instB s x) (l := l)
      obtain ⟨u, hu1, hu2, hu3⟩ := ih x hx (by omega) (instB_iff.1 hu.1).1
      exact ⟨u, hu1, instB_trans hu2 hu.1, hu3⟩
    · refine ⟨t, ht, by rw [instB_refl]; exact hv, fun x hx' => ?_⟩
      rw [← Bool.not_eq_true]
      exact fun hu => hx ⟨x, hx', hu⟩
theorem alike_canon {s : Sg} {a b : List Int} (ha : termB s a = true) (hb : termB s b = true) (h : canonL a = canonL b) : instB s a b = true ∧ instB s b a = true := by
  have : alikeB s a b = true := by unfold alikeB; rw [ha, hb, h]; simp
  exact alikeB_iff.1 this
theorem underB_alike {s : Sg} {x a b : List Int} (ha : termB s a = true) (hb : termB s b = true) (h : canonL a = canonL b) : underB s x a = underB s x b := by
  have hi := alike_canon ha hb h
  unfold underB
  have e1 : instB s x a = instB s x b := by
    rw [Bool.eq_iff_iff]; exact ⟨fun k => instB_trans k hi.1, fun k => instB_trans k hi.2⟩
  have e2 : instB s a x = instB s b x := by
    rw [Bool.eq_iff_iff]; exact ⟨fun k => instB_trans hi.2 k, fun k => instB_trans hi.1 k⟩
  rw [e1, e2]
theorem first_of {l : List (List Int)} {c : List Int} : ∀ (n k : Nat), k ≤ n → k < l.length → canonL (l.getD k []) = c → ∃ i, i ≤ k ∧ canonL (l.getD i []) = c ∧ ∀ j, j < i → canonL (l.getD j []) ≠ c := by
  intro n
  induction n with
  | zero =>
    intro k hk _ hc
    exact ⟨k, Nat.le_refl _, hc, fun j hj => by omega⟩
  | succ n ih =>
    intro k hk hl hc
    by_cases h : ∃ j, j < k ∧ canonL (l.getD j []) = c
    · obtain ⟨j, hj, he⟩ := h
      obtain ⟨i, hi, h1, h2⟩ := ih j (by omega) (by omega) he
      exact ⟨i, by omega, h1, h2⟩
    · exact ⟨k, Nat.le_refl _, hc, fun j hj he => h ⟨j, hj, he⟩⟩
theorem chosenL_memB : ∀ (bs : List Bool) (i k : Nat), ((k : Int) ∈ chosenL i bs) ↔ (i ≤ k ∧ bs[k - i]? = some true)
  | [], i, k => by simp [chosenL]
  | b :: bs, i, k => by
    have ih := chosenL_memB bs (i + 1) k
    have hgt : i + 1 ≤ k → (b :: bs)[k - i]? = bs[k - (i + 1)]? := fun h => by
      rw [show k - i = (k - (i + 1)) + 1 by omega, List.getElem?_cons_succ]
    have heq : k = i → (b :: bs)[k - i]? = some b := fun h => by rw [h, Nat.sub_self]; rfl
    cases b
    · simp only [chosenL, Bool.false_eq_true, if_false]
      rw [ih]
      constructor
      · rintro ⟨h1, h2⟩
        exact ⟨by omega, by rw [hgt h1]; exact h2⟩
      · rintro ⟨h1, h2⟩
        by_cases h : k = i
        · rw [heq h] at h2; simp at h2
        · exact ⟨by omega, by rw [← hgt (by omega)]; exact h2⟩
    · simp only [chosenL, if_true, List.mem_cons]
      rw [ih]
      constructor
      · rintro (h | ⟨h1, h2⟩)
        · exact ⟨by omega, heq (by omega)⟩
        · exact ⟨by omega, by rw [hgt h1]; exact h2⟩
      · rintro ⟨h1, h2⟩
        by_cases h : k = i
        · left; omega
        · exact Or.inr ⟨by omega, by rw [← hgt (by omega)]; exact h2⟩
theorem bas_get {s : Sg} {l : List (List Int)} {x : Int} (h : x ∈ chosenL 0 (basB s l)) : ∃ i : Nat, x = i ∧ i < l.length ∧ basOne s l i = true := by
  obtain ⟨i, rfl⟩ : ∃ i : Nat, x = i := by
    have hx : ∀ (bs : List Bool) (i : Nat), x ∈ chosenL i bs → 0 ≤ x := by
      intro bs
      induction bs with
      | nil => intro i h; simp [chosenL] at h
      | cons b r ih =>
        intro i h
        unfold chosenL at h
        split at h
        · rcases List.mem_cons.1 h with h | h
          · omega
          · exact ih _ h
        · exact ih _ h
    exact Int.eq_ofNat_of_zero_le (hx _ _ h)
  have h2 := (chosenL_memB _ _ _).1 h
  obtain ⟨h3, h4⟩ := List.getElem?_eq_some_iff.1 h2.2
  rw [basB_get] at h4
  rw [basB_len] at h3
  exact ⟨i, rfl, by simpa using h3, by simpa using h4⟩
theorem bas_put {s : Sg} {l : List (List Int)} {i : Nat} (hi : i < l.length) (h : basOne s l i = true) : (i : Int) ∈ chosenL 0 (basB s l) := by
  refine (chosenL_memB _ 0 i).2 ⟨Nat.zero_le _, ?_⟩
  have hb : i < (basB s l).length := by rw [basB_len]; exact hi
  rw [Nat.sub_zero, List.getElem?_eq_getElem hb, basB_get, h]
theorem chosen_sorted : ∀ (bs : List Bool) (i : Nat), (chosenL i bs).Pairwise (· < ·) ∧ ∀ x ∈ chosenL i bs, (i : Int) ≤ x
  | [], i => by simp [chosenL]
  | b :: r, i => by
    have ih := chosen_sorted r (i + 1)
    unfold chosenL
    cases b
    · simp only [Bool.false_eq_true, if_false]
      exact ⟨ih.1, fun x hx => by have := ih.2 x hx; omega⟩
    · simp only [if_true, List.pairwise_cons, List.mem_cons]
      exact ⟨⟨fun x hx => by have := ih.2 x hx; omega, ih.1⟩, fun x hx => by
        rcases hx with rfl | hx
        · omega
        · have := ih.2 x hx; omega⟩
theorem pairwise_lt {b : List Int} (h : b.Pairwise (· < ·)) {i : Nat} (hi : i + 1 < b.length) : b[i] < b[i + 1] := List.pairwise_iff_getElem.1 h i (i + 1) (by omega) hi (by omega)
theorem bas_isb {s : Sg} {l : List (List Int)} (h : shelfB s l = true) : isbB s l (chosenL 0 (basB s l)) = true := by
  obtain ⟨-, -, -, hall, -, -⟩ := shelfB_facts h
  have hT : ∀ t ∈ l, termB s t = true := by unfold allB at hall; exact List.all_eq_true.1 hall
  unfold isbB
  rw [h, Bool.true_and, Bool.and_eq_true, List.all_eq_true, List.all_eq_true]
  have hs := chosen_sorted (basB s l) 0
  refine ⟨fun i hi => ?_, fun t ht => ?_⟩
  · have hi' : i < (chosenL 0 (basB s l)).length := by simpa using hi
    have e : (chosenL 0 (basB s l)).getD i 0 = (chosenL 0 (basB s l))[i] := by simp [List.getD, hi']
    obtain ⟨k, hk, hkl, _⟩ := bas_get (List.getElem_mem hi')
    unfold idxB
    rw [Bool.and_eq_true, inB_true, e, hk]
    refine ⟨by omega, ?_⟩
    cases i with
    | zero => simp
    | succ i =>
      rw [← hk]
      have hlt := pairwise_lt hs.1 hi'
      have e1 : (chosenL 0 (basB s l)).getD i 0 = (chosenL 0 (basB s l))[i] := by simp [List.getD, show i < (chosenL 0 (basB s l)).length by omega]
      simp only [Nat.add_sub_cancel, Bool.or_eq_true, decide_eq_true_eq]
      right
      rw [e1]; exact hlt
  · obtain ⟨u, hu, h1, h2⟩ := top_of _ t ht (Nat.le_refl _) (hT t ht)
    obtain ⟨k, hk, rfl⟩ := List.getElem_of_mem hu
    have ek : l.getD k [] = l[k] := by simp [List.getD, hk]
    obtain ⟨i, hi, hc, hf⟩ := first_of k k (Nat.le_refl _) hk rfl
    have hil : i < l.length := by omega
    have ei : l.getD i [] = l[i] := by simp [List.getD, hil]
    rw [ek, ei] at hc
    rw [List.any_eq_true]
    refine ⟨(i : Int), bas_put hil (basOne_iff.2 ⟨fun x hx => ?_, fun j hj _ => ?_⟩), ?_⟩
    · rw [ei, underB_alike (hT _ (List.getElem_mem hil)) (hT _ (List.getElem_mem hk)) hc]
      exact h2 x hx
    · have := hf j hj
      rw [ek] at this
      rw [ei, hc]; exact this
    · rw [Int.toNat_natCast, ei]
      exact instB_trans (alike_canon (hT _ (List.getElem_mem hil)) (hT _ (List.getElem_mem hk)) hc).1 h1
theorem over_none {s : Sg} {l : List (List Int)} {i : Nat} (h : basOne s l i = true) : chosenL 0 (overL s l (l.getD i [])) = [] := by
  have h1 := (basOne_iff.1 h).1
  have h2 : ∀ (bs : List Bool) (j : Nat), (∀ b ∈ bs, b = false) → chosenL j bs = [] := by
    intro bs
    induction bs with
    | nil => intro j _; rfl
    | cons b r ih =>
      intro j hb
      unfold chosenL
      rw [hb b (by simp)]
      exact ih _ fun x hx => hb x (by simp [hx])
  refine h2 _ _ fun b hb => ?_
  obtain ⟨t, ht, rfl⟩ := List.mem_map.1 hb
  exact h1 t ht
/-- P5.4: each other base has one alike each statement of the base. -/
theorem bas_there {s : Sg} {l : List (List Int)} {b : List Int} (h : isbB s l b = true) {i : Nat} (hi : i < l.length) (hb : basOne s l i = true) : ∃ x ∈ b, ∃ k : Nat, x = k ∧ k < l.length ∧ alikeB s (l.getD k []) (l.getD i []) = true := by
  unfold isbB at h
  simp only [Bool.and_eq_true, List.all_eq_true] at h
  obtain ⟨h0, h1, h2⟩ := h
  have ei : l.getD i [] = l[i] := by simp [List.getD, hi]
  have h3 := h2 l[i] (List.getElem_mem hi)
  rw [List.any_eq_true] at h3
  obtain ⟨x, hx, hin⟩ := h3
  obtain ⟨q, hq, rfl⟩ := List.getElem_of_mem hx
  have h4 := h1 q (by simpa using hq)
  unfold idxB at h4
  rw [show b.getD q 0 = b[q] by simp [List.getD, hq], Bool.and_eq_true, inB_true] at h4
  obtain ⟨k, hk⟩ := Int.eq_ofNat_of_zero_le h4.1.1
  have hkl : k < l.length := by omega
  rw [hk, Int.toNat_natCast] at hin
  refine ⟨b[q], hx, k, hk, hkl, ?_⟩
  have h5 := (basOne_iff.1 hb).1 l[k] (List.getElem_mem hkl)
  have ek : l.getD k [] = l[k] := by simp [List.getD, hkl]
  rw [ek] at hin ⊢
  rw [ei] at h5 ⊢
  unfold underB at h5
  rw [hin, Bool.true_and, Bool.not_eq_false'] at h5
  exact alikeB_iff.2 ⟨hin, h5⟩
end Go.Proofs.YtldgkidojepdlaaGreat
namespace Go.Proofs.YtldgkidojepdlaaGreat
open Go Go.RowKit Go.Maps
theorem chosenL_pos : ∀ (bs : List Bool) (i : Nat), decide (0 < (chosenL i bs).length) = bs.any id
  | [], i => by simp [chosenL]
  | b :: r, i => by
    have ih := chosenL_pos r (i + 1)
    unfold chosenL
    cases b
    · simpa using ih
    · simp
set_option maxRecDepth 100000 in
theorem find_Base1 (q : Nat) (vs vl : Value) (ps pl : Nat) (s : Sg) (l : List (List Int)) (w : World) (hs : SignAt w vs s) (hv : Terms w vl l) (hs1 : s.length ≤ 1000) (hl1 : l.length ≤ 1000) (hq : q < l.length) (c1 : w.cell? ⟨ps, 0, none⟩ = some vs) (c2 : w.cell? ⟨pl, 0, none⟩ = some vl) :
    Calls Tryz.prog 26 #[.int .i64 q, .pointer (some ⟨ps, 0, none⟩), .pointer (some ⟨pl, 0, none⟩)] w fun e w' => e = .returned (.bool (upB s l q)) ∧ Below w.heap.size w w' := by
  obtain ⟨sa, scap, rfl, _⟩ := hs.open
  obtain ⟨la, lcap, rfl, _⟩ := hv.open
  have HO := hid (find_over _ _ s l q w hs hv hs1 hl1 hq)
  have hu : upB s l q = decide (0 < (chosenL 0 (overL s l l[q])).length) := by
    rw [chosenL_pos]; unfold upB; rw [Int.toNat_natCast]; simp [List.getD, hq]
  have hle := chosenL_le (overL s l l[q]) 0
  have hol : (overL s l l[q]).length = l.length := by simp [overL]
  obtain ⟨r, hr⟩ : ∃ r, chosenL 0 (overL s l l[q]) = r := ⟨_, rfl⟩
  rw [hr] at HO hu hle
  rw [hu]
  obtain ⟨n, hn⟩ : ∃ n, r.length = n := ⟨_, rfl⟩
  rw [hn] at HO hle ⊢
  clear hu hr hn hs hv
  go_enter Tryz.func26, Tryz.ntmps26
  go_wp2_with fail
  refine HO.out.mono ?_
  rintro e w1 ⟨u, rfl, ho, hb⟩
  have hush : ∃ a c, u = .slice a n c := by
    rcases ho.2 with ⟨z1, z2⟩ | ⟨g', c', cur, z1, _⟩
    · rw [z2]; exact ⟨none, 0, z1⟩
    · exact ⟨_, _, z1⟩
  obtain ⟨a, c, rfl⟩ := hush
  clear ho
  go_wp2
  go_ret
  exact ⟨ret_bool (by first | rfl | (rw [decide_eq_decide]; omega) | (rw [decide_eq_decide])), hb⟩
theorem firstsL_bd (l : List (List Int)) : ∀ x ∈ firstsL l, ∃ q : Nat, x = q ∧ q < l.length := by
  intro x hx
  unfold firstsL at hx
  obtain ⟨g, hg, rfl⟩ := List.mem_map.1 hx
  obtain ⟨j, hj, rfl⟩ := List.getElem_of_mem hg
  obtain ⟨_, k, h1, h2, _⟩ := grpL_first (by simp) hj
  refine ⟨k, ?_, h2⟩
  rw [List.headD_eq_head?_getD, h1]; try rfl
set_option maxHeartbeats 1000000 in
set_option maxRecDepth 100000 in
theorem find_Base (vs vl : Value) (s : Sg) (l : List (List Int)) (w : World) (hs : SignAt w vs s) (hv : Terms w vl l) (hs1 : s.length ≤ 1000) (hl1 : l.length ≤ 1000) :
    Calls Tryz.prog 12 #[vs, vl] w fun e w' => ∃ u, e = .returned (.tuple #[u, .int .i64 (basQ s l).2]) ∧ Ints w' u (basQ s l).1 ∧ Below w.heap.size w w' := by
  obtain ⟨sa, scap, hse, _⟩ := hs.open
  obtain ⟨la, lcap, hle, _⟩ := hv.open
  subst hse hle
  obtain ⟨k1, k2, k3⟩ := boxes2 w (.slice sa s.length scap) (.slice la l.length lcap) 23 27
  have HFS := hid (find_firsts (.slice sa s.length scap) (.slice la l.length lcap) s l _ (hs.below k3) (hv.below k3) hs1 hl1)
  have HDEL := hid (fun (W : World) (u : Value) (hb : Below ((w.alloc (.cells #[.slice sa s.length scap] 23)).alloc (.cells #[.slice la l.length lcap] 27)).heap.size ((w.alloc (.cells #[.slice sa s.length scap] 23)).alloc (.cells #[.slice la l.length lcap] 27)) W)
      (ho : W.ownsRow ((w.alloc (.cells #[.slice sa s.length scap] 23)).alloc (.cells #[.slice la l.length lcap] 27)).heap.size 3 1 u (firstsL l).length ((firstsL l).map (Value.int .i64))) =>
    sl_DeleteFunc 26 #[.pointer (some ⟨w.heap.size, 0, none⟩), .pointer (some ⟨w.heap.size + 1, 0, none⟩)] (enters_of Tryz.func26 (by kernel_rfl) rfl) _ _ u (firstsL l) (upB s l) W ho (by have := firstsL_len l; omega) hb hb.size (fun x hx X hX hXs => by
      obtain ⟨q, rfl, hq⟩ := firstsL_bd l x hx
      exact find_Base1 q _ _ w.heap.size (w.heap.size + 1) s l X ((hs.below k3).below hX) ((hv.below k3).below hX) hs1 hl1 hq
        (by rw [hX.cell (p := ⟨w.heap.size, 0, none⟩) (by simp; omega)]; exact k1) (by rw [hX.cell (p := ⟨w.heap.size + 1, 0, none⟩) (by simp)]; exact k2)))
  have K3 := hid k3
  clear hs hv k1 k2
  cases h1 : shelfB s l
  · have HA : Hid (basQ s l = ([], 1)) := hid (by unfold basQ; rw [h1]; rfl)
    simp only [h1] at HFS
    rw [HA.out]
    clear h1
    go_enter Tryz.func12, Tryz.ntmps12
    go_wp2_with fail
    refine HFS.out.mono ?_
    rintro e w1 ⟨hb, ⟨-, u, rfl⟩ | ⟨h, -⟩⟩
    · have HB := hid (k3.trans (hb.mono k3.size))
      go_wp2
      go_ret2
      exact ⟨_, rfl, ⟨by simp, none, 0, rfl, Nat.le_refl _, by simp, fun _ => rfl, by simp⟩, HB.out⟩
    · cases h
  · have HA : Hid (basQ s l = (chosenL 0 (basB s l), 0)) := hid (by unfold basQ; rw [h1]; rfl)
    simp only [h1] at HFS
    rw [HA.out]
    clear h1
    go_enter Tryz.func12, Tryz.ntmps12
    go_wp2_with fail
    refine HFS.out.mono ?_
    rintro e w1 ⟨hb, ⟨h, -⟩ | ⟨-, u, rfl, ho⟩⟩
    · cases h
    · have HD := hid (HDEL.out w1 u hb ho)
      clear ho
      go_wp2_with fail
      refine HD.out.mono ?_
      rintro e w2 ⟨u2, rfl, hi, hb2⟩
      rw [bas_all] at hi
      have HI := hid hi
      have HB := hid (k3.trans (hb2.mono k3.size))
      clear hi hb2
      go_wp2
      go_ret2
      exact ⟨_, rfl, HI.out, HB.out⟩
end Go.Proofs.YtldgkidojepdlaaGreat
