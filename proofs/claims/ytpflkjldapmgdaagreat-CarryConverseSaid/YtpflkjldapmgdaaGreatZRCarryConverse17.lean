/-
  WHAT IT HOLDS: the order of names (as Go compares strings), ascending lists of names and of pairs of names, and that one is told by its members. No program in sight.
  WHAT IT HOLDS: contracts of IndexFunc, ContainsFunc, Index, Contains of package slices at strings and at entries. Conditions: the slice reads as data; a function value that is handed in says what p says and leaves what was there.
-/
import Derived.Lib.Bytealg
import Derived.Shelf.Abstract
import Derived.Test.YtpflkjldapmgdaaGreatZRCarryConverse16
import Derived.Test.YtpflkjldapmgdaaGreatZRCarryConverse3
namespace Go.Proofs.YtpflkjldapmgdaaGreat
open Go
def bl (a : Nm) : List UInt8 := a.data.toList
theorem bl_inj {a b : Nm} (h : bl a = bl b) : a = b := by
  cases a; cases b
  unfold bl at h
  simp only [ByteArray.mk.injEq]
  exact Array.toList_inj.1 h
def ltN (a b : Nm) : Prop := bl a < bl b
instance (a b : Nm) : Decidable (ltN a b) := inferInstanceAs (Decidable (bl a < bl b))
theorem u8_tri (x y : UInt8) : x < y ∨ x = y ∨ y < x := by
  rcases Nat.lt_trichotomy x.toNat y.toNat with h | h | h
  · exact Or.inl (UInt8.lt_iff_toNat_lt.2 h)
  · exact Or.inr (Or.inl (UInt8.toNat_inj.1 h))
  · exact Or.inr (Or.inr (UInt8.lt_iff_toNat_lt.2 h))
theorem ltB_irr : ∀ (l : List UInt8), ¬ l < l := fun l => List.lt_irrefl l
theorem ltN.irr (a : Nm) : ¬ ltN a a := ltB_irr _
theorem ltN.trans {a b c : Nm} (h : ltN a b) (k : ltN b c) : ltN a c := List.lt_trans h k
theorem ltN.asym {a b : Nm} (h : ltN a b) : ¬ ltN b a := fun k => ltN.irr _ (h.trans k)
theorem ltN.tri (a b : Nm) : ltN a b ∨ a = b ∨ ltN b a := by
  have key : ∀ (l m : List UInt8), l < m ∨ l = m ∨ m < l := by
    intro l
    induction l with
    | nil => intro m; cases m with
      | nil => exact Or.inr (Or.inl rfl)
      | cons y m => exact Or.inl (by simp)
    | cons x l ih => intro m; cases m with
      | nil => exact Or.inr (Or.inr (by simp))
      | cons y m =>
        rcases u8_tri x y with h | h | h
        · exact Or.inl (List.cons_lt_cons_iff.2 (Or.inl h))
        · subst h
          rcases ih m with h | h | h
          · exact Or.inl (List.cons_lt_cons_iff.2 (Or.inr ⟨rfl, h⟩))
          · exact Or.inr (Or.inl (by rw [h]))
          · exact Or.inr (Or.inr (List.cons_lt_cons_iff.2 (Or.inr ⟨rfl, h⟩)))
        · exact Or.inr (Or.inr (List.cons_lt_cons_iff.2 (Or.inl h)))
  rcases key (bl a) (bl b) with h | h | h
  · exact Or.inl h
  · exact Or.inr (Or.inl (bl_inj h))
  · exact Or.inr (Or.inr h)
theorem cmp_N (a b : Nm) : Lib.compareBytes (bl a) (bl b) = if ltN a b then -1 else if ltN b a then 1 else 0 := by
  have key : ∀ (l m : List UInt8), Lib.compareBytes l m = if l < m then -1 else if m < l then 1 else 0 := by
    intro l
    induction l with
    | nil => intro m; cases m with
      | nil => simp [Lib.compareBytes]
      | cons y m => simp [Lib.compareBytes]
    | cons x l ih => intro m; cases m with
      | nil => simp [Lib.compareBytes]
      | cons y m =>
        unfold Lib.compareBytes
        rw [ih m]
        simp only [List.cons_lt_cons_iff]
        rcases u8_tri x y with h | h | h
        · rw [if_pos h, if_pos (Or.inl h)]
        · subst h
          simp [UInt8.lt_irrefl]
        · have h' : ¬ x < y := fun k => UInt8.lt_irrefl _ (UInt8.lt_trans h k)
          have h2 : x ≠ y := fun e => by subst e; exact UInt8.lt_irrefl _ h
          rw [if_neg h', if_pos h, if_neg (by simp [h', h2]), if_pos (Or.inl h)]
  exact key _ _
/-- two ascending lists with the same members are the same, whatever the order is. -/
theorem asc_unique {α : Type} {R : α → α → Prop} (irr : ∀ a, ¬ R a a) (tr : ∀ {a b c}, R a b → R b c → R a c) : ∀ {l m : List α}, l.Pairwise R → m.Pairwise R → (∀ x, x ∈ l ↔ x ∈ m) → l = m
  | [], [], _, _, _ => rfl
  | [], y :: m, _, _, h => by have := (h y).2 (by simp); simp at this
  | x :: l, [], _, _, h => by have := (h x).1 (by simp); simp at this
  | x :: l, y :: m, h1, h2, h => by
    obtain ⟨a1, a2⟩ := List.pairwise_cons.1 h1
    obtain ⟨b1, b2⟩ := List.pairwise_cons.1 h2
    have hxy : x = y := by
      rcases List.mem_cons.1 ((h x).1 (by simp)) with e | e
      · exact e
      · rcases List.mem_cons.1 ((h y).2 (by simp)) with e' | e'
        · exact e'.symm
        · exact (irr _ (tr (a1 y e') (b1 x e))).elim
    subst hxy
    rw [asc_unique irr tr a2 b2 fun z => ?_]
    constructor
    · intro hz
      rcases List.mem_cons.1 ((h z).1 (by simp [hz])) with e | e
      · subst e; exact (irr _ (a1 _ hz)).elim
      · exact e
    · intro hz
      rcases List.mem_cons.1 ((h z).2 (by simp [hz])) with e | e
      · subst e; exact (irr _ (b1 _ hz)).elim
      · exact e
def AscN (l : List Nm) : Prop := l.Pairwise ltN
theorem AscN.unique {l m : List Nm} (h : AscN l) (k : AscN m) (e : ∀ x, x ∈ l ↔ x ∈ m) : l = m := asc_unique ltN.irr (fun h k => ltN.trans h k) h k e
abbrev N2 := Nm × Nm
def ltP (a b : N2) : Prop := ltN a.1 b.1 ∨ (a.1 = b.1 ∧ ltN a.2 b.2)
theorem ltP.irr (a : N2) : ¬ ltP a a := by
  rintro (h | ⟨-, h⟩)
  · exact ltN.irr _ h
  · exact ltN.irr _ h
theorem ltP.trans {a b c : N2} (h : ltP a b) (k : ltP b c) : ltP a c := by
  rcases h with h | ⟨h1, h2⟩
  · rcases k with k | ⟨k1, -⟩
    · exact Or.inl (h.trans k)
    · exact Or.inl (k1 ▸ h)
  · rcases k with k | ⟨k1, k2⟩
    · exact Or.inl (h1 ▸ k)
    · exact Or.inr ⟨h1.trans k1, h2.trans k2⟩
theorem ltP.tri (a b : N2) : ltP a b ∨ a = b ∨ ltP b a := by
  rcases ltN.tri a.1 b.1 with h | h | h
  · exact Or.inl (Or.inl h)
  · rcases ltN.tri a.2 b.2 with k | k | k
    · exact Or.inl (Or.inr ⟨h, k⟩)
    · exact Or.inr (Or.inl (Prod.ext h k))
    · exact Or.inr (Or.inr (Or.inr ⟨h.symm, k⟩))
  · exact Or.inr (Or.inr (Or.inl h))
/-- whether a list has a name. -/
def hasN (l : List Nm) (n : Nm) : Bool := l.any fun x => decide (x = n)
theorem hasN_iff {l : List Nm} {n : Nm} : hasN l n = true ↔ n ∈ l := by
  unfold hasN
  rw [List.any_eq_true]
  constructor
  · rintro ⟨x, hx, h⟩
    rw [decide_eq_true_eq] at h
    exact h ▸ hx
  · intro h
    exact ⟨n, h, by simp⟩
theorem hasN_no {l : List Nm} {n : Nm} : hasN l n = false ↔ n ∉ l := by
  rw [← hasN_iff]; simp
/-- an ascending list with a name more in its place. -/
def insN (n : Nm) : List Nm → List Nm
  | [] => [n]
  | x :: l => if ltN x n then x :: insN n l else n :: x :: l
theorem insN_mem {n x : Nm} : ∀ {l : List Nm}, x ∈ insN n l ↔ x = n ∨ x ∈ l
  | [] => by simp [insN]
  | y :: l => by
    unfold insN
    split
    · rw [List.mem_cons, insN_mem, List.mem_cons]; constructor <;> (intro h; rcases h with h | h | h <;> simp [h])
    · simp
theorem insN_asc {n : Nm} : ∀ {l : List Nm}, AscN l → n ∉ l → AscN (insN n l)
  | [], _, _ => by simp [insN, AscN]
  | y :: l, h, hn => by
    obtain ⟨h1, h2⟩ := List.pairwise_cons.1 h
    unfold insN
    split
    · rename_i hy
      refine List.pairwise_cons.2 ⟨fun z hz => ?_, insN_asc h2 fun e => hn (by simp [e])⟩
      rcases insN_mem.1 hz with rfl | hz
      · exact hy
      · exact h1 z hz
    · rename_i hy
      have hny : ltN n y := by
        rcases ltN.tri n y with k | k | k
        · exact k
        · exact (hn (by simp [k])).elim
        · exact (hy k).elim
      exact List.pairwise_cons.2 ⟨fun z hz => by
        rcases List.mem_cons.1 hz with rfl | hz
        · exact hny
        · exact hny.trans (h1 z hz), h⟩
/-- names in ascending order, each once. -/
def srtN (l : List Nm) : List Nm := l.foldl (fun o n => if hasN o n then o else insN n o) []
theorem srtN_asc (l : List Nm) : AscN (srtN l) ∧ ∀ x, x ∈ srtN l ↔ x ∈ l := by
  have key : ∀ (l o : List Nm), AscN o → AscN (l.foldl (fun o n => if hasN o n then o else insN n o) o) ∧ ∀ x, x ∈ l.foldl (fun o n => if hasN o n then o else insN n o) o ↔ x ∈ o ∨ x ∈ l := by
    intro l
    induction l with
    | nil => intro o h; exact ⟨h, fun x => by simp⟩
    | cons n l ih =>
      intro o h
      rw [List.foldl_cons]
      by_cases hn : n ∈ o
      · rw [if_pos (hasN_iff.2 hn)]
        obtain ⟨h1, h2⟩ := ih o h
        refine ⟨h1, fun x => ?_⟩
        rw [h2, List.mem_cons]
        constructor
        · rintro (h | h) <;> simp [h]
        · rintro (h | rfl | h)
          · exact Or.inl h
          · exact Or.inl hn
          · exact Or.inr h
      · rw [if_neg (by rw [hasN_iff]; exact hn)]
        obtain ⟨h1, h2⟩ := ih _ (insN_asc h hn)
        refine ⟨h1, fun x => ?_⟩
        rw [h2, insN_mem, List.mem_cons]
        constructor
        · rintro ((h | h) | h) <;> simp [h]
        · rintro (h | h | h) <;> simp [h]
  have := key l [] (by simp [AscN])
  exact ⟨this.1, fun x => by rw [srtN, this.2]; simp⟩
end Go.Proofs.YtpflkjldapmgdaaGreat
namespace Go.Proofs.YtpflkjldapmgdaaGreat
open Go Go.RowKit Go.Maps
/-- the first index at which p holds, or -1. -/
def firstI (n : Nat) (p : Nat → Bool) : Int := match (List.range n).find? p with | some k => (k : Int) | none => -1
theorem firstI_at {n : Nat} {p : Nat → Bool} {k : Nat} (hk : k < n) (h : p k = true) (hn : ∀ j, j < k → p j = false) : firstI n p = k := by
  unfold firstI
  have : (List.range n).find? p = some k := by
    rw [List.find?_eq_some_iff_getElem]
    refine ⟨h, k, by simpa using hk, by simp, fun j hj => ?_⟩
    simp [hn j hj]
  rw [this]
theorem firstI_no {n : Nat} {p : Nat → Bool} (h : ∀ j, j < n → p j = false) : firstI n p = -1 := by
  unfold firstI
  have : (List.range n).find? p = none := by
    rw [List.find?_eq_none]
    intro x hx
    simp [h x (List.mem_range.1 hx)]
  rw [this]
theorem firstI_any (n : Nat) (p : Nat → Bool) : decide (0 ≤ firstI n p) = (List.range n).any p := by
  unfold firstI
  cases h : (List.range n).find? p with
  | none =>
    rw [List.find?_eq_none] at h
    have : (List.range n).any p = false := by rw [List.any_eq_false]; exact h
    rw [this]; rfl
  | some k =>
    have h1 := List.find?_some h
    have h2 := List.mem_of_find?_eq_some h
    have : (List.range n).any p = true := by rw [List.any_eq_true]; exact ⟨k, h2, h1⟩
    rw [this]
    simp
theorem firstI_bound (n : Nat) (p : Nat → Bool) : -1 ≤ firstI n p ∧ firstI n p < n ∨ firstI n p = -1 := by
  unfold firstI
  cases h : (List.range n).find? p with
  | none => exact Or.inr rfl
  | some k =>
    have h2 := List.mem_range.1 (List.mem_of_find?_eq_some h)
    exact Or.inl ⟨by simp only; omega, by simp only; omega⟩
theorem firstI_some {n : Nat} {p : Nat → Bool} (h : 0 ≤ firstI n p) : ∃ k : Nat, firstI n p = k ∧ k < n ∧ p k = true ∧ ∀ j, j < k → p j = false := by
  unfold firstI at h ⊢
  cases e : (List.range n).find? p with
  | none => rw [e] at h; simp at h
  | some k =>
    obtain ⟨h1, i, hi, h2, h3⟩ := List.find?_eq_some_iff_getElem.1 e
    simp at hi h2
    subst h2
    refine ⟨i, rfl, hi, h1, fun j hj => ?_⟩
    simpa using h3 j hj
theorem firstI_congr {n : Nat} {p q : Nat → Bool} (h : ∀ j, j < n → p j = q j) : firstI n p = firstI n q := by
  unfold firstI
  have : ∀ l : List Nat, (∀ x ∈ l, x < n) → l.find? p = l.find? q := by
    intro l
    induction l with
    | nil => intro _; rfl
    | cons x l ih =>
      intro hl
      rw [List.find?_cons, List.find?_cons, h x (hl x (by simp)), ih fun y hy => hl y (by simp [hy])]
  rw [this _ fun x hx => List.mem_range.1 hx]
theorem sl_IndexFunc_strs (g : Nat) (lb : Array Value) (eg : ∀ args w, (callFunc g args).run Tryz.prog w = .ok (.enter g args) w) (v : Value) (l : List Nm) (w : World) (hv : TxtsAt w v l) (p : Nat → Bool)
    (hp : ∀ (i : Nat) (h : i < l.length) (W : World), Below w.heap.size w W → Calls Tryz.prog g (#[.string l[i]] ++ lb) W fun e w' => e = .returned (.bool (p i)) ∧ Below W.heap.size W w') :
    Calls Tryz.prog 166 #[v, .func (.func g) #[] lb] w fun e w' => e = .returned (.int .i64 (firstI l.length p)) ∧ Below w.heap.size w w' := by
  obtain ⟨a, cap, rfl, h1, h2, h3, HC⟩ := hv.open
  have HC' := hid HC
  have HP := hid hp
  clear HC hp h3 hv
  go_enter Tryz.func166, Tryz.ntmps166
  go_wp2
  go_loopw [8] (fun i wr => ∃ k : Nat, k ≤ l.length ∧ i = .int .i64 k ∧ Below w.heap.size w wr ∧ ∀ j, j < k → p j = false) (fun i _ => l.length - (intOf i).toNat)
  case atStart => exact ⟨0, by omega, rfl, Below.refl _ _, by simp⟩
  case round =>
    obtain ⟨k, hk, rfl, hb, hrel⟩ := hrel
    have HR := hid hrel
    clear hrel
    by_cases hlt : k < l.length
    · obtain ⟨b, o, rfl, hcell0⟩ := HC'.out k hlt
      have hcell : wr.cell? ⟨b, o + k, none⟩ = some (.string l[k]) := (hb.cell (World.block_lt_of_cell? _ _ hcell0)).trans hcell0
      have hc := HP.out k hlt wr hb
      clear hcell0
      obtain ⟨x, hx⟩ : ∃ x, l[k] = x := ⟨_, rfl⟩
      rw [hx] at hcell hc
      clear hx
      cases h4 : p k
      · rw [h4] at hc
        have HCC := hid hc
        have H4 := hid h4
        clear hc h4
        go_wp2_with (go_at_fn g; refine HCC.out.mono ?_; rintro e w' ⟨rfl, hb1⟩)
        go_roundw
        case rel =>
          refine ⟨k + 1, by omega, by go_num, hb.trans (hb1.mono hb.size), fun j hj => ?_⟩
          by_cases hjk : j = k
          · rw [hjk]; exact H4.out
          · exact HR.out j (by omega)
        case measure => simp [intOf]; omega
      · rw [h4] at hc
        have HCC := hid hc
        have HF := hid (firstI_at hlt h4 HR.out)
        clear hc h4
        go_wp2_with (go_at_fn g; refine HCC.out.mono ?_; rintro e w' ⟨rfl, hb1⟩)
        go_ret
        exact ⟨ret_int HF.out.symm, hb.trans (hb1.mono hb.size)⟩
    · have HF := hid (firstI_no (n := l.length) (p := p) fun j hj => HR.out j (by omega))
      go_wp2
      go_ret
      exact ⟨ret_int HF.out.symm, hb⟩
theorem sl_ContainsFunc_strs (g : Nat) (lb : Array Value) (eg : ∀ args w, (callFunc g args).run Tryz.prog w = .ok (.enter g args) w) (v : Value) (l : List Nm) (w : World) (hv : TxtsAt w v l) (p : Nat → Bool)
    (hp : ∀ (i : Nat) (h : i < l.length) (W : World), Below w.heap.size w W → Calls Tryz.prog g (#[.string l[i]] ++ lb) W fun e w' => e = .returned (.bool (p i)) ∧ Below W.heap.size W w') :
    Calls Tryz.prog 121 #[v, .func (.func g) #[] lb] w fun e w' => e = .returned (.bool ((List.range l.length).any p)) ∧ Below w.heap.size w w' := by
  have HP := hid (sl_IndexFunc_strs g lb eg v l w hv p hp)
  have HF := hid (firstI_any l.length p)
  generalize firstI l.length p = r at HP HF
  clear hp
  obtain ⟨a, cap, rfl, -⟩ := hv.open
  clear hv
  go_enter Tryz.func121, Tryz.ntmps121
  go_wp2_with (go_at_call 166; refine HP.out.mono ?_; rintro e w' ⟨rfl, hb⟩)
  go_ret
  exact ⟨ret_bool HF.out, by assumption⟩
theorem sl_Index_strs (v : Value) (l : List Nm) (x : Nm) (w : World) (hv : TxtsAt w v l) :
    Calls Tryz.prog 71 #[v, .string x] w fun e w' => e = .returned (.int .i64 (firstI l.length fun i => decide (x = l.getD i ByteArray.empty))) ∧ w = w' := by
  obtain ⟨a, cap, rfl, h1, hl, h3, HC⟩ := hv.open
  have HC' := hid HC
  clear HC hv h3
  have HG : Hid (∀ k (h : k < l.length), l.getD k ByteArray.empty = l[k]) := hid (fun k h => by rw [List.getD_eq_getElem?_getD, List.getElem?_eq_getElem h]; rfl)
  go_enter Tryz.func71, Tryz.ntmps71
  go_wp2
  go_loop [8] (fun i => ∃ k : Nat, k ≤ l.length ∧ i = .int .i64 k ∧ ∀ j, j < k → decide (x = l.getD j ByteArray.empty) = false) (fun i => l.length - (intOf i).toNat)
  case atStart => exact ⟨0, by omega, rfl, by simp⟩
  case round =>
    obtain ⟨k, hk, rfl, hrel⟩ := hrel
    have HR := hid hrel
    clear hrel
    by_cases hlt : k < l.length
    · obtain ⟨b, o, rfl, hcell⟩ := HC'.out k hlt
      have HGK := hid (HG.out k hlt)
      obtain ⟨y, hy⟩ : ∃ y, l[k] = y := ⟨_, rfl⟩
      rw [hy] at hcell HGK
      clear hy
      by_cases h2 : x = y
      · have HF := hid (firstI_at (p := fun i => decide (x = l.getD i ByteArray.empty)) hlt (by rw [HGK.out]; simp [h2]) HR.out)
        have q2 : (x.toList == y.toList) = true := by rw [bytes_eq]; simpa using h2
        clear h2
        go_wp2
        go_ret
        exact ⟨ret_int HF.out.symm, rfl⟩
      · have H2 := hid h2
        have q2 : (x.toList == y.toList) = false := by rw [bytes_eq]; simpa using h2
        clear h2
        go_wp2
        go_round
        case rel =>
          refine ⟨k + 1, by omega, by go_num, fun j hj => ?_⟩
          by_cases hjk : j = k
          · rw [hjk, HGK.out]; simpa using H2.out
          · exact HR.out j (by omega)
        case measure => simp [intOf]; omega
    · have HF := hid (firstI_no (n := l.length) (p := fun i => decide (x = l.getD i ByteArray.empty)) fun j hj => HR.out j (by omega))
      go_wp2
      go_ret
      exact ⟨ret_int HF.out.symm, rfl⟩
theorem first_mem (l : List Nm) (x : Nm) : decide (0 ≤ firstI l.length fun i => decide (x = l.getD i ByteArray.empty)) = hasN l x := by
  rw [firstI_any, Bool.eq_iff_iff, List.any_eq_true, hasN_iff]
  constructor
  · rintro ⟨k, hk, h⟩
    have hk := List.mem_range.1 hk
    rw [List.getD_eq_getElem?_getD, List.getElem?_eq_getElem hk] at h
    simp at h
    rw [h]; exact List.getElem_mem hk
  · intro h
    obtain ⟨k, hk, rfl⟩ := List.getElem_of_mem h
    exact ⟨k, List.mem_range.2 hk, by rw [List.getD_eq_getElem?_getD, List.getElem?_eq_getElem hk]; simp⟩
theorem sl_Contains_strs (v : Value) (l : List Nm) (x : Nm) (w : World) (hv : TxtsAt w v l) :
    Calls Tryz.prog 116 #[v, .string x] w fun e w' => e = .returned (.bool (hasN l x)) ∧ w = w' := by
  have HP := hid (sl_Index_strs v l x w hv)
  have HF := hid (first_mem l x)
  generalize (firstI l.length fun i => decide (x = l.getD i ByteArray.empty)) = r at HP HF
  obtain ⟨a, cap, rfl, h1, hl, h3, HC⟩ := hv.open
  clear HC h3 hv
  go_enter Tryz.func116, Tryz.ntmps116
  go_wp2_with (go_at_call 71; refine HP.out.mono ?_; rintro e w' ⟨rfl, rfl⟩)
  go_ret
  exact ⟨ret_bool HF.out, rfl⟩
theorem sl_IndexFunc_ents (g : Nat) (lb : Array Value) (eg : ∀ args w, (callFunc g args).run Tryz.prog w = .ok (.enter g args) w) (v : Value) (l : List En) (w : World) (hv : EntsAt w v l) (p : Nat → Bool)
    (hp : ∀ (i : Nat) (h : i < l.length) (vs vu vp : Value) (W : World), Below w.heap.size w W → EntAt W vs vu vp l[i] → Calls Tryz.prog g (#[.agg #[.string l[i].name, .string l[i].who, vs, vu, vp]] ++ lb) W fun e w' => e = .returned (.bool (p i)) ∧ Below W.heap.size W w') :
    Calls Tryz.prog 124 #[v, .func (.func g) #[] lb] w fun e w' => e = .returned (.int .i64 (firstI l.length p)) ∧ Below w.heap.size w w' := by
  obtain ⟨a, cap, rfl, h1, h2, h3, HC⟩ := hv.open
  have HC' := hid HC
  have HP := hid hp
  clear HC hp h3 hv
  go_enter Tryz.func124, Tryz.ntmps124
  go_wp2
  go_loopw [8] (fun i wr => ∃ k : Nat, k ≤ l.length ∧ i = .int .i64 k ∧ Below w.heap.size w wr ∧ ∀ j, j < k → p j = false) (fun i _ => l.length - (intOf i).toNat)
  case atStart => exact ⟨0, by omega, rfl, Below.refl _ _, by simp⟩
  case round =>
    obtain ⟨k, hk, rfl, hb, hrel⟩ := hrel
    have HR := hid hrel
    clear hrel
    by_cases hlt : k < l.length
    · obtain ⟨b, o, vs, vu, vp, rfl, c0, c1, c2, c3, c4, he⟩ := HC'.out k hlt
      have d0 := (hb.cell (World.block_lt_of_cell? _ _ c0)).trans c0
      have d1 := (hb.cell (World.block_lt_of_cell? _ _ c1)).trans c1
      have d2 := (hb.cell (World.block_lt_of_cell? _ _ c2)).trans c2
      have d3 := (hb.cell (World.block_lt_of_cell? _ _ c3)).trans c3
      have d4 := (hb.cell (World.block_lt_of_cell? _ _ c4)).trans c4
      have hc := HP.out k hlt vs vu vp wr hb (he.below hb)
      clear c0 c1 c2 c3 c4 he
      obtain ⟨x, hx⟩ : ∃ x, l[k] = x := ⟨_, rfl⟩
      rw [hx] at d0 d1 hc
      clear hx
      cases h4 : p k
      · rw [h4] at hc
        have HCC := hid hc
        have H4 := hid h4
        clear hc h4
        go_wp2_with (go_at_fn g; refine HCC.out.mono ?_; rintro e w' ⟨rfl, hb1⟩)
        go_roundw
        case rel =>
          refine ⟨k + 1, by omega, by go_num, hb.trans (hb1.mono hb.size), fun j hj => ?_⟩
          by_cases hjk : j = k
          · rw [hjk]; exact H4.out
          · exact HR.out j (by omega)
        case measure => simp [intOf]; omega
      · rw [h4] at hc
        have HCC := hid hc
        have HF := hid (firstI_at hlt h4 HR.out)
        clear hc h4
        go_wp2_with (go_at_fn g; refine HCC.out.mono ?_; rintro e w' ⟨rfl, hb1⟩)
        go_ret
        exact ⟨ret_int HF.out.symm, hb.trans (hb1.mono hb.size)⟩
    · have HF := hid (firstI_no (n := l.length) (p := p) fun j hj => HR.out j (by omega))
      go_wp2
      go_ret
      exact ⟨ret_int HF.out.symm, hb⟩
theorem sl_ContainsFunc_ents (g : Nat) (lb : Array Value) (eg : ∀ args w, (callFunc g args).run Tryz.prog w = .ok (.enter g args) w) (v : Value) (l : List En) (w : World) (hv : EntsAt w v l) (p : Nat → Bool)
    (hp : ∀ (i : Nat) (h : i < l.length) (vs vu vp : Value) (W : World), Below w.heap.size w W → EntAt W vs vu vp l[i] → Calls Tryz.prog g (#[.agg #[.string l[i].name, .string l[i].who, vs, vu, vp]] ++ lb) W fun e w' => e = .returned (.bool (p i)) ∧ Below W.heap.size W w') :
    Calls Tryz.prog 58 #[v, .func (.func g) #[] lb] w fun e w' => e = .returned (.bool ((List.range l.length).any p)) ∧ Below w.heap.size w w' := by
  have HP := hid (sl_IndexFunc_ents g lb eg v l w hv p hp)
  have HF := hid (firstI_any l.length p)
  generalize firstI l.length p = r at HP HF
  clear hp
  obtain ⟨a, cap, rfl, -⟩ := hv.open
  clear hv
  go_enter Tryz.func58, Tryz.ntmps58
  go_wp2_with (go_at_call 124; refine HP.out.mono ?_; rintro e w' ⟨rfl, hb⟩)
  go_ret
  exact ⟨ret_bool HF.out, by assumption⟩
end Go.Proofs.YtpflkjldapmgdaaGreat
