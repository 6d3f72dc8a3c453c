/-
  WHAT IT HOLDS: the order of names (as Go compares strings), ascending lists of names and of pairs of names, and that one is told by its members. No program in sight.
  WHAT IT HOLDS: contracts of IndexFunc, ContainsFunc, Index, Contains of package slices at strings and at entries. Conditions: the slice reads as data; a function value that is handed in says what p says and leaves what was there.
  WHAT IT HOLDS: contracts of different, ValidEntry, Valid of package deps, of IsCanonical of package term and ValidProof of package kernel. Conditions: the arguments read as data; small signs.
  WHAT IT HOLDS: contracts of SameTerm, SameTexts, SameProof, SameEntry, SameLibrary of the reference of layer 6. Conditions: the arguments read as data.
  WHAT IT HOLDS: contracts of slices.Equal at names and at steps, and of Same of package blame. Conditions: the arguments read as data.
-/
import Derived.Lib.Bytealg
import Derived.Shelf.Abstract
import Derived.BigQuiet
import Derived.Test.YtlbjbmpkaniojaaGreatZRBlameMerges12
import Derived.Test.YtlbjbmpkaniojaaGreatZRBlameMerges1
import Derived.Test.YtlbjbmpkaniojaaGreatZRBlameMerges17
import Derived.Test.YtlbjbmpkaniojaaGreatZRBlameMerges0
import Derived.Test.YtlbjbmpkaniojaaGreatZRBlameMerges13
namespace Go.Proofs.YtlbjbmpkaniojaaGreat
open Go
def bl (a : Nm) : List UInt8 := a.data.toList
theorem bl_inj {a b : Nm} (h : bl a = bl b) : a = b := by
  cases a; cases b
  unfold bl at h
  simp only [ByteArray.mk.injEq]
  exact Array.toList_inj.1 h
def ltN (a b : Nm) : Prop := bl a < bl b
instance (a b : Nm) : Decidable (ltN a b) := inferInstanceAs (Decidable (bl a < bl b))
theorem u8_tri (x y : UInt8) : x < y ∨ x = y ∨ y < x := by
  rcases Nat.lt_trichotomy x.toNat y.toNat with h | h | h
  · exact Or.inl (UInt8.lt_iff_toNat_lt.2 h)
  · exact Or.inr (Or.inl (UInt8.toNat_inj.1 h))
  · exact Or.inr (Or.inr (UInt8.lt_iff_toNat_lt.2 h))
theorem ltB_irr : ∀ (l : List UInt8), ¬ l < l := fun l => List.lt_irrefl l
theorem ltN.irr (a : Nm) : ¬ ltN a a := ltB_irr _
theorem ltN.trans {a b c : Nm} (h : ltN a b) (k : ltN b c) : ltN a c := List.lt_trans h k
theorem ltN.asym {a b : Nm} (h : ltN a b) : ¬ ltN b a := fun k => ltN.irr _ (h.trans k)
theorem ltN.tri (a b : Nm) : ltN a b ∨ a = b ∨ ltN b a := by
  have key : ∀ (l m : List UInt8), l < m ∨ l = m ∨ m < l := by
    intro l
    induction l with
    | nil => intro m; cases m with
      | nil => exact Or.inr (Or.inl rfl)
      | cons y m => exact Or.inl (by simp)
    | cons x l ih => intro m; cases m with
      | nil => exact Or.inr (Or.inr (by simp))
      | cons y m =>
        rcases u8_tri x y with h | h | h
        · exact Or.inl (List.cons_lt_cons_iff.2 (Or.inl h))
        · subst h
          rcases ih m with h | h | h
          · exact Or.inl (List.cons_lt_cons_iff.2 (Or.inr ⟨rfl, h⟩))
          · exact Or.inr (Or.inl (by rw [h]))
          · exact Or.inr (Or.inr (List.cons_lt_cons_iff.2 (Or.inr ⟨rfl, h⟩)))
        · exact Or.inr (Or.inr (List.cons_lt_cons_iff.2 (Or.inl h)))
  rcases key (bl a) (bl b) with h | h | h
  · exact Or.inl h
  · exact Or.inr (Or.inl (bl_inj h))
  · exact Or.inr (Or.inr h)
theorem cmp_N (a b : Nm) : Lib.compareBytes (bl a) (bl b) = if ltN a b then -1 else if ltN b a then 1 else 0 := by
  have key : ∀ (l m : List UInt8), Lib.compareBytes l m = if l < m then -1 else if m < l then 1 else 0 := by
    intro l
    induction l with
    | nil => intro m; cases m with
      | nil => simp [Lib.compareBytes]
      | cons y m => simp [Lib.compareBytes]
    | cons x l ih => intro m; cases m with
      | nil => simp [Lib.compareBytes]
      | cons y m =>
        unfold Lib.compareBytes
        rw [ih m]
        simp only [List.cons_lt_cons_iff]
        rcases u8_tri x y with h | h | h
        · rw [if_pos h, if_pos (Or.inl h)]
        · subst h
          simp [UInt8.lt_irrefl]
        · have h' : ¬ x < y := fun k => UInt8.lt_irrefl _ (UInt8.lt_trans h k)
          have h2 : x ≠ y := fun e => by subst e; exact UInt8.lt_irrefl _ h
          rw [if_neg h', if_pos h, if_neg (by simp [h', h2]), if_pos (Or.inl h)]
  exact key _ _
/-- two ascending lists with the same members are the same, whatever the order is. -/
theorem asc_unique {α : Type} {R : α → α → Prop} (irr : ∀ a, ¬ R a a) (tr : ∀ {a b c}, R a b → R b c → R a c) : ∀ {l m : List α}, l.Pairwise R → m.Pairwise R → (∀ x, x ∈ l ↔ x ∈ m) → l = m
  | [], [], _, _, _ => rfl
  | [], y :: m, _, _, h => by have := (h y).2 (by simp); simp at this
  | x :: l, [], _, _, h => by have := (h x).1 (by simp); simp at this
  | x :: l, y :: m, h1, h2, h => by
    obtain ⟨a1, a2⟩ := List.pairwise_cons.1 h1
    obtain ⟨b1, b2⟩ := List.pairwise_cons.1 h2
    have hxy : x = y := by
      rcases List.mem_cons.1 ((h x).1 (by simp)) with e | e
      · exact e
      · rcases List.mem_cons.1 ((h y).2 (by simp)) with e' | e'
        · exact e'.symm
        · exact (irr _ (tr (a1 y e') (b1 x e))).elim
    subst hxy
    rw [asc_unique irr tr a2 b2 fun z => ?_]
    constructor
    · intro hz
      rcases List.mem_cons.1 ((h z).1 (by simp [hz])) with e | e
      · subst e; exact (irr _ (a1 _ hz)).elim
      · exact e
    · intro hz
      rcases List.mem_cons.1 ((h z).2 (by simp [hz])) with e | e
      · subst e; exact (irr _ (b1 _ hz)).elim
      · exact e
def AscN (l : List Nm) : Prop := l.Pairwise ltN
theorem AscN.unique {l m : List Nm} (h : AscN l) (k : AscN m) (e : ∀ x, x ∈ l ↔ x ∈ m) : l = m := asc_unique ltN.irr (fun h k => ltN.trans h k) h k e
abbrev N2 := Nm × Nm
def ltP (a b : N2) : Prop := ltN a.1 b.1 ∨ (a.1 = b.1 ∧ ltN a.2 b.2)
theorem ltP.irr (a : N2) : ¬ ltP a a := by
  rintro (h | ⟨-, h⟩)
  · exact ltN.irr _ h
  · exact ltN.irr _ h
theorem ltP.trans {a b c : N2} (h : ltP a b) (k : ltP b c) : ltP a c := by
  rcases h with h | ⟨h1, h2⟩
  · rcases k with k | ⟨k1, -⟩
    · exact Or.inl (h.trans k)
    · exact Or.inl (k1 ▸ h)
  · rcases k with k | ⟨k1, k2⟩
    · exact Or.inl (h1 ▸ k)
    · exact Or.inr ⟨h1.trans k1, h2.trans k2⟩
theorem ltP.tri (a b : N2) : ltP a b ∨ a = b ∨ ltP b a := by
  rcases ltN.tri a.1 b.1 with h | h | h
  · exact Or.inl (Or.inl h)
  · rcases ltN.tri a.2 b.2 with k | k | k
    · exact Or.inl (Or.inr ⟨h, k⟩)
    · exact Or.inr (Or.inl (Prod.ext h k))
    · exact Or.inr (Or.inr (Or.inr ⟨h.symm, k⟩))
  · exact Or.inr (Or.inr (Or.inl h))
/-- whether a list has a name. -/
def hasN (l : List Nm) (n : Nm) : Bool := l.any fun x => decide (x = n)
theorem hasN_iff {l : List Nm} {n : Nm} : hasN l n = true ↔ n ∈ l := by
  unfold hasN
  rw [List.any_eq_true]
  constructor
  · rintro ⟨x, hx, h⟩
    rw [decide_eq_true_eq] at h
    exact h ▸ hx
  · intro h
    exact ⟨n, h, by simp⟩
theorem hasN_no {l : List Nm} {n : Nm} : hasN l n = false ↔ n ∉ l := by
  rw [← hasN_iff]; simp
/-- an ascending list with a name more in its place. -/
def insN (n : Nm) : List Nm → List Nm
  | [] => [n]
  | x :: l => if ltN x n then x :: insN n l else n :: x :: l
theorem insN_mem {n x : Nm} : ∀ {l : List Nm}, x ∈ insN n l ↔ x = n ∨ x ∈ l
  | [] => by simp [insN]
  | y :: l => by
    unfold insN
    split
    · rw [List.mem_cons, insN_mem, List.mem_cons]; constructor <;> (intro h; rcases h with h | h | h <;> simp [h])
    · simp
theorem insN_asc {n : Nm} : ∀ {l : List Nm}, AscN l → n ∉ l → AscN (insN n l)
  | [], _, _ => by simp [insN, AscN]
  | y :: l, h, hn => by
    obtain ⟨h1, h2⟩ := List.pairwise_cons.1 h
    unfold insN
    split
    · rename_i hy
      refine List.pairwise_cons.2 ⟨fun z hz => ?_, insN_asc h2 fun e => hn (by simp [e])⟩
      rcases insN_mem.1 hz with rfl | hz
      · exact hy
      · exact h1 z hz
    · rename_i hy
      have hny : ltN n y := by
        rcases ltN.tri n y with k | k | k
        · exact k
        · exact (hn (by simp [k])).elim
        · exact (hy k).elim
      exact List.pairwise_cons.2 ⟨fun z hz => by
        rcases List.mem_cons.1 hz with rfl | hz
        · exact hny
        · exact hny.trans (h1 z hz), h⟩
/-- names in ascending order, each once. -/
def srtN (l : List Nm) : List Nm := l.foldl (fun o n => if hasN o n then o else insN n o) []
theorem srtN_asc (l : List Nm) : AscN (srtN l) ∧ ∀ x, x ∈ srtN l ↔ x ∈ l := by
  have key : ∀ (l o : List Nm), AscN o → AscN (l.foldl (fun o n => if hasN o n then o else insN n o) o) ∧ ∀ x, x ∈ l.foldl (fun o n => if hasN o n then o else insN n o) o ↔ x ∈ o ∨ x ∈ l := by
    intro l
    induction l with
    | nil => intro o h; exact ⟨h, fun x => by simp⟩
    | cons n l ih =>
      intro o h
      rw [List.foldl_cons]
      by_cases hn : n ∈ o
      · rw [if_pos (hasN_iff.2 hn)]
        obtain ⟨h1, h2⟩ := ih o h
        refine ⟨h1, fun x => ?_⟩
        rw [h2, List.mem_cons]
        constructor
        · rintro (h | h) <;> simp [h]
        · rintro (h | rfl | h)
          · exact Or.inl h
          · exact Or.inl hn
          · exact Or.inr h
      · rw [if_neg (by rw [hasN_iff]; exact hn)]
        obtain ⟨h1, h2⟩ := ih _ (insN_asc h hn)
        refine ⟨h1, fun x => ?_⟩
        rw [h2, insN_mem, List.mem_cons]
        constructor
        · rintro ((h | h) | h) <;> simp [h]
        · rintro (h | h | h) <;> simp [h]
  have := key l [] (by simp [AscN])
  exact ⟨this.1, fun x => by rw [srtN, this.2]; simp⟩
end Go.Proofs.YtlbjbmpkaniojaaGreat
namespace Go.Proofs.YtlbjbmpkaniojaaGreat
open Go Go.RowKit Go.Maps
/-- the first index at which p holds, or -1. -/
def firstI (n : Nat) (p : Nat → Bool) : Int := match (List.range n).find? p with | some k => (k : Int) | none => -1
theorem firstI_at {n : Nat} {p : Nat → Bool} {k : Nat} (hk : k < n) (h : p k = true) (hn : ∀ j, j < k → p j = false) : firstI n p = k := by
  unfold firstI
  have : (List.range n).find? p = some k := by
    rw [List.find?_eq_some_iff_getElem]
    refine ⟨h, k, by simpa using hk, by simp, fun j hj => ?_⟩
    simp [hn j hj]
  rw [this]
theorem firstI_no {n : Nat} {p : Nat → Bool} (h : ∀ j, j < n → p j = false) : firstI n p = -1 := by
  unfold firstI
  have : (List.range n).find? p = none := by
    rw [List.find?_eq_none]
    intro x hx
    simp [h x (List.mem_range.1 hx)]
  rw [this]
theorem firstI_any (n : Nat) (p : Nat → Bool) : decide (0 ≤ firstI n p) = (List.range n).any p := by
  unfold firstI
  cases h : (List.range n).find? p with
  | none =>
    rw [List.find?_eq_none] at h
    have : (List.range n).any p = false := by rw [List.any_eq_false]; exact h
    rw [this]; rfl
  | some k =>
    have h1 := List.find?_some h
    have h2 := List.mem_of_find?_eq_some h
    have : (List.range n).any p = true := by rw [List.any_eq_true]; exact ⟨k, h2, h1⟩
    rw [this]
    simp
theorem sl_IndexFunc_strs (g : Nat) (lb : Array Value) (eg : ∀ args w, (callFunc g args).run Tryz.prog w = .ok (.enter g args) w) (v : Value) (l : List Nm) (w : World) (hv : TxtsAt w v l) (p : Nat → Bool)
    (hp : ∀ (i : Nat) (h : i < l.length) (W : World), Below w.heap.size w W → Calls Tryz.prog g (#[.string l[i]] ++ lb) W fun e w' => e = .returned (.bool (p i)) ∧ Below W.heap.size W w') :
    Calls Tryz.prog 167 #[v, .func (.func g) #[] lb] w fun e w' => e = .returned (.int .i64 (firstI l.length p)) ∧ Below w.heap.size w w' := by
  obtain ⟨a, cap, rfl, h1, h2, h3, HC⟩ := hv.open
  have HC' := hid HC
  have HP := hid hp
  clear HC hp h3 hv
  go_enter Tryz.func167, Tryz.ntmps167
  go_wp2
  go_loopw [8] (fun i wr => ∃ k : Nat, k ≤ l.length ∧ i = .int .i64 k ∧ Below w.heap.size w wr ∧ ∀ j, j < k → p j = false) (fun i _ => l.length - (intOf i).toNat)
  case atStart => exact ⟨0, by omega, rfl, Below.refl _ _, by simp⟩
  case round =>
    obtain ⟨k, hk, rfl, hb, hrel⟩ := hrel
    have HR := hid hrel
    clear hrel
    by_cases hlt : k < l.length
    · obtain ⟨b, o, rfl, hcell0⟩ := HC'.out k hlt
      have hcell : wr.cell? ⟨b, o + k, none⟩ = some (.string l[k]) := (hb.cell (World.block_lt_of_cell? _ _ hcell0)).trans hcell0
      have hc := HP.out k hlt wr hb
      clear hcell0
      obtain ⟨x, hx⟩ : ∃ x, l[k] = x := ⟨_, rfl⟩
      rw [hx] at hcell hc
      clear hx
      cases h4 : p k
      · rw [h4] at hc
        have HCC := hid hc
        have H4 := hid h4
        clear hc h4
        go_wp2_with (go_at_fn g; refine HCC.out.mono ?_; rintro e w' ⟨rfl, hb1⟩)
        go_roundw
        case rel =>
          refine ⟨k + 1, by omega, by go_num, hb.trans (hb1.mono hb.size), fun j hj => ?_⟩
          by_cases hjk : j = k
          · rw [hjk]; exact H4.out
          · exact HR.out j (by omega)
        case measure => simp [intOf]; omega
      · rw [h4] at hc
        have HCC := hid hc
        have HF := hid (firstI_at hlt h4 HR.out)
        clear hc h4
        go_wp2_with (go_at_fn g; refine HCC.out.mono ?_; rintro e w' ⟨rfl, hb1⟩)
        go_ret
        exact ⟨ret_int HF.out.symm, hb.trans (hb1.mono hb.size)⟩
    · have HF := hid (firstI_no (n := l.length) (p := p) fun j hj => HR.out j (by omega))
      go_wp2
      go_ret
      exact ⟨ret_int HF.out.symm, hb⟩
theorem sl_ContainsFunc_strs (g : Nat) (lb : Array Value) (eg : ∀ args w, (callFunc g args).run Tryz.prog w = .ok (.enter g args) w) (v : Value) (l : List Nm) (w : World) (hv : TxtsAt w v l) (p : Nat → Bool)
    (hp : ∀ (i : Nat) (h : i < l.length) (W : World), Below w.heap.size w W → Calls Tryz.prog g (#[.string l[i]] ++ lb) W fun e w' => e = .returned (.bool (p i)) ∧ Below W.heap.size W w') :
    Calls Tryz.prog 121 #[v, .func (.func g) #[] lb] w fun e w' => e = .returned (.bool ((List.range l.length).any p)) ∧ Below w.heap.size w w' := by
  have HP := hid (sl_IndexFunc_strs g lb eg v l w hv p hp)
  have HF := hid (firstI_any l.length p)
  generalize firstI l.length p = r at HP HF
  clear hp
  obtain ⟨a, cap, rfl, -⟩ := hv.open
  clear hv
  go_enter Tryz.func121, Tryz.ntmps121
  go_wp2_with (go_at_call 167; refine HP.out.mono ?_; rintro e w' ⟨rfl, hb⟩)
  go_ret
  exact ⟨ret_bool HF.out, by assumption⟩
theorem sl_Index_strs (v : Value) (l : List Nm) (x : Nm) (w : World) (hv : TxtsAt w v l) :
    Calls Tryz.prog 152 #[v, .string x] w fun e w' => e = .returned (.int .i64 (firstI l.length fun i => decide (x = l.getD i ByteArray.empty))) ∧ w = w' := by
  obtain ⟨a, cap, rfl, h1, hl, h3, HC⟩ := hv.open
  have HC' := hid HC
  clear HC hv h3
  have HG : Hid (∀ k (h : k < l.length), l.getD k ByteArray.empty = l[k]) := hid (fun k h => by rw [List.getD_eq_getElem?_getD, List.getElem?_eq_getElem h]; rfl)
  go_enter Tryz.func152, Tryz.ntmps152
  go_wp2
  go_loop [8] (fun i => ∃ k : Nat, k ≤ l.length ∧ i = .int .i64 k ∧ ∀ j, j < k → decide (x = l.getD j ByteArray.empty) = false) (fun i => l.length - (intOf i).toNat)
  case atStart => exact ⟨0, by omega, rfl, by simp⟩
  case round =>
    obtain ⟨k, hk, rfl, hrel⟩ := hrel
    have HR := hid hrel
    clear hrel
    by_cases hlt : k < l.length
    · obtain ⟨b, o, rfl, hcell⟩ := HC'.out k hlt
      have HGK := hid (HG.out k hlt)
      obtain ⟨y, hy⟩ : ∃ y, l[k] = y := ⟨_, rfl⟩
      rw [hy] at hcell HGK
      clear hy
      by_cases h2 : x = y
      · have HF := hid (firstI_at (p := fun i => decide (x = l.getD i ByteArray.empty)) hlt (by rw [HGK.out]; simp [h2]) HR.out)
        have q2 : (x.toList == y.toList) = true := by rw [bytes_eq]; simpa using h2
        clear h2
        go_wp2
        go_ret
        exact ⟨ret_int HF.out.symm, rfl⟩
      · have H2 := hid h2
        have q2 : (x.toList == y.toList) = false := by rw [bytes_eq]; simpa using h2
        clear h2
        go_wp2
        go_round
        case rel =>
          refine ⟨k + 1, by omega, by go_num, fun j hj => ?_⟩
          by_cases hjk : j = k
          · rw [hjk, HGK.out]; simpa using H2.out
          · exact HR.out j (by omega)
        case measure => simp [intOf]; omega
    · have HF := hid (firstI_no (n := l.length) (p := fun i => decide (x = l.getD i ByteArray.empty)) fun j hj => HR.out j (by omega))
      go_wp2
      go_ret
      exact ⟨ret_int HF.out.symm, rfl⟩
theorem first_mem (l : List Nm) (x : Nm) : decide (0 ≤ firstI l.length fun i => decide (x = l.getD i ByteArray.empty)) = hasN l x := by
  rw [firstI_any, Bool.eq_iff_iff, List.any_eq_true, hasN_iff]
  constructor
  · rintro ⟨k, hk, h⟩
    have hk := List.mem_range.1 hk
    rw [List.getD_eq_getElem?_getD, List.getElem?_eq_getElem hk] at h
    simp at h
    rw [h]; exact List.getElem_mem hk
  · intro h
    obtain ⟨k, hk, rfl⟩ := List.getElem_of_mem h
    exact ⟨k, List.mem_range.2 hk, by rw [List.getD_eq_getElem?_getD, List.getElem?_eq_getElem hk]; simp⟩
theorem sl_Contains_strs (v : Value) (l : List Nm) (x : Nm) (w : World) (hv : TxtsAt w v l) :
    Calls Tryz.prog 129 #[v, .string x] w fun e w' => e = .returned (.bool (hasN l x)) ∧ w = w' := by
  have HP := hid (sl_Index_strs v l x w hv)
  have HF := hid (first_mem l x)
  generalize (firstI l.length fun i => decide (x = l.getD i ByteArray.empty)) = r at HP HF
  obtain ⟨a, cap, rfl, h1, hl, h3, HC⟩ := hv.open
  clear HC h3 hv
  go_enter Tryz.func129, Tryz.ntmps129
  go_wp2_with (go_at_call 152; refine HP.out.mono ?_; rintro e w' ⟨rfl, rfl⟩)
  go_ret
  exact ⟨ret_bool HF.out, rfl⟩
theorem sl_IndexFunc_ents (g : Nat) (lb : Array Value) (eg : ∀ args w, (callFunc g args).run Tryz.prog w = .ok (.enter g args) w) (v : Value) (l : List En) (w : World) (hv : EntsAt w v l) (p : Nat → Bool)
    (hp : ∀ (i : Nat) (h : i < l.length) (vs vu vp : Value) (W : World), Below w.heap.size w W → EntAt W vs vu vp l[i] → Calls Tryz.prog g (#[.agg #[.string l[i].name, .string l[i].who, vs, vu, vp]] ++ lb) W fun e w' => e = .returned (.bool (p i)) ∧ Below W.heap.size W w') :
    Calls Tryz.prog 133 #[v, .func (.func g) #[] lb] w fun e w' => e = .returned (.int .i64 (firstI l.length p)) ∧ Below w.heap.size w w' := by
  obtain ⟨a, cap, rfl, h1, h2, h3, HC⟩ := hv.open
  have HC' := hid HC
  have HP := hid hp
  clear HC hp h3 hv
  go_enter Tryz.func133, Tryz.ntmps133
  go_wp2
  go_loopw [8] (fun i wr => ∃ k : Nat, k ≤ l.length ∧ i = .int .i64 k ∧ Below w.heap.size w wr ∧ ∀ j, j < k → p j = false) (fun i _ => l.length - (intOf i).toNat)
  case atStart => exact ⟨0, by omega, rfl, Below.refl _ _, by simp⟩
  case round =>
    obtain ⟨k, hk, rfl, hb, hrel⟩ := hrel
    have HR := hid hrel
    clear hrel
    by_cases hlt : k < l.length
    · obtain ⟨b, o, vs, vu, vp, rfl, c0, c1, c2, c3, c4, he⟩ := HC'.out k hlt
      have d0 := (hb.cell (World.block_lt_of_cell? _ _ c0)).trans c0
      have d1 := (hb.cell (World.block_lt_of_cell? _ _ c1)).trans c1
      have d2 := (hb.cell (World.block_lt_of_cell? _ _ c2)).trans c2
      have d3 := (hb.cell (World.block_lt_of_cell? _ _ c3)).trans c3
      have d4 := (hb.cell (World.block_lt_of_cell? _ _ c4)).trans c4
      have hc := HP.out k hlt vs vu vp wr hb (he.below hb)
      clear c0 c1 c2 c3 c4 he
      obtain ⟨x, hx⟩ : ∃ x, l[k] = x := ⟨_, rfl⟩
      rw [hx] at d0 d1 hc
      clear hx
      cases h4 : p k
      · rw [h4] at hc
        have HCC := hid hc
        have H4 := hid h4
        clear hc h4
        go_wp2_with (go_at_fn g; refine HCC.out.mono ?_; rintro e w' ⟨rfl, hb1⟩)
        go_roundw
        case rel =>
          refine ⟨k + 1, by omega, by go_num, hb.trans (hb1.mono hb.size), fun j hj => ?_⟩
          by_cases hjk : j = k
          · rw [hjk]; exact H4.out
          · exact HR.out j (by omega)
        case measure => simp [intOf]; omega
      · rw [h4] at hc
        have HCC := hid hc
        have HF := hid (firstI_at hlt h4 HR.out)
        clear hc h4
        go_wp2_with (go_at_fn g; refine HCC.out.mono ?_; rintro e w' ⟨rfl, hb1⟩)
        go_ret
        exact ⟨ret_int HF.out.symm, hb.trans (hb1.mono hb.size)⟩
    · have HF := hid (firstI_no (n := l.length) (p := p) fun j hj => HR.out j (by omega))
      go_wp2
      go_ret
      exact ⟨ret_int HF.out.symm, hb⟩
theorem sl_ContainsFunc_ents (g : Nat) (lb : Array Value) (eg : ∀ args w, (callFunc g args).run Tryz.prog w = .ok (.enter g args) w) (v : Value) (l : List En) (w : World) (hv : EntsAt w v l) (p : Nat → Bool)
    (hp : ∀ (i : Nat) (h : i < l.length) (vs vu vp : Value) (W : World), Below w.heap.size w W → EntAt W vs vu vp l[i] → Calls Tryz.prog g (#[.agg #[.string l[i].name, .string l[i].who, vs, vu, vp]] ++ lb) W fun e w' => e = .returned (.bool (p i)) ∧ Below W.heap.size W w') :
    Calls Tryz.prog 84 #[v, .func (.func g) #[] lb] w fun e w' => e = .returned (.bool ((List.range l.length).any p)) ∧ Below w.heap.size w w' := by
  have HP := hid (sl_IndexFunc_ents g lb eg v l w hv p hp)
  have HF := hid (firstI_any l.length p)
  generalize firstI l.length p = r at HP HF
  clear hp
  obtain ⟨a, cap, rfl, -⟩ := hv.open
  clear hv
  go_enter Tryz.func84, Tryz.ntmps84
  go_wp2_with (go_at_call 133; refine HP.out.mono ?_; rintro e w' ⟨rfl, hb⟩)
  go_ret
  exact ⟨ret_bool HF.out, by assumption⟩
end Go.Proofs.YtlbjbmpkaniojaaGreat
namespace Go.Proofs.YtlbjbmpkaniojaaGreat
open Go Go.RowKit Go.Maps
abbrev NSet (w : World) (b : Nat) (l : List Nm) : Prop := MapK Tryz.prog 9 Value.string Value.bool w b (keysA l).length (setA (keysA l))
theorem nset_made (w : World) : NSet (w.alloc (.map #[] 0)) w.heap.size [] := by
  unfold NSet
  rw [show keysA ([] : List Nm) = [] from rfl, setA_nil]
  exact MapK.made _ _ _ _ w
theorem nset_ins {w : World} {b : Nat} {l : List Nm} {x : Nm} (h : MapK Tryz.prog 9 Value.string Value.bool w b (if (setA (keysA l) x).isSome = true then (keysA l).length else (keysA l).length + 1) (fun y => if y = x then some true else setA (keysA l) y)) : NSet w b (l ++ [x]) := by
  rw [setA_len, setA_ins] at h
  exact h
theorem str_key {x : Nm} (h : x.size ≤ 140737488355328) : keyOf Tryz.prog 9 (Value.string x) = some (.string x.data.toList) := WideMaps.keyOf_string_mk Tryz.underlying9 (by unfold maxLen; omega)
set_option maxHeartbeats 1000000 in
theorem deps_different (v : Value) (l : List Nm) (w : World) (hv : TxtsAt w v l) :
    Calls Tryz.prog 114 #[v] w fun e w' => e = .returned (.bool (decide l.Nodup)) ∧ Below w.heap.size w w' := by
  have HS := hid hv.2
  obtain ⟨a, cap, rfl, h1, h2, h3, HC⟩ := hv.open
  have HC' := hid HC
  clear HC h3 hv
  have hmm := @run_makeMap Tryz.prog
  have hm0 := hid (nset_made w)
  have hb0 := hid (show Below w.heap.size w (w.alloc (.map #[] 0)) from (Below.refl _ _).alloc (Nat.le_refl _) _)
  go_enter Tryz.func114, Tryz.ntmps114
  go_wp2
  clear hmm
  go_loopw [9] (fun kv wr => ∃ k : Nat, k ≤ l.length ∧ kv = .int .i64 k ∧ Below w.heap.size w wr ∧ NSet wr w.heap.size (l.take k)) (fun kv _ => l.length - (intOf kv).toNat)
  case atStart => exact ⟨0, by omega, rfl, hb0.out, hm0.out⟩
  case round =>
    clear hm0 hb0
    obtain ⟨k, hk, rfl, hb, hm⟩ := hrel
    have hsz := hb.size
    by_cases hlt : k < l.length
    · obtain ⟨cb, co, rfl, c10⟩ := HC'.out k hlt
      have hT : l.take (k + 1) = l.take k ++ [l[k]] := List.take_succ_eq_append_getElem hlt
      have hxs := HS.out l[k] (List.getElem_mem hlt)
      obtain ⟨x, hx⟩ : ∃ x, l[k] = x := ⟨_, rfl⟩
      rw [hx] at c10 hT hxs
      have c1' := (hb.cell (World.block_lt_of_cell? _ _ c10)).trans c10
      have HT := hid hT
      have HKEY := hid (str_key hxs)
      have HM := hid hm
      have HB := hid hb
      clear c10 hx hT hm hb hxs
      go_wp2_with (at_mapUpdate; refine wpList_update_mapK rfl _ _ _ 128 rfl (string_keyed Tryz.underlying9) ek_string_inj Tryz.underlying128 rfl HM.out x true rfl rfl HKEY.out ?_; intro w2 hm2 hg2)
      go_roundw
      case rel => exact ⟨k + 1, by omega, by go_num, HB.out.grown hg2 (by have := HB.out.size; omega) (fun q hq => by cases hq; exact Nat.le_refl _), by rw [HT.out]; exact nset_ins hm2⟩
      case measure => simp [intOf]; omega
    · have hkl : k = l.length := by omega
      subst hkl
      rw [List.take_of_length_le (by simp)] at hm
      have hlen := fun ty => hm.run_len Tryz.underlying128 ty
      have HK := hid (keysA_len l)
      obtain ⟨n, hn⟩ : ∃ n, (keysA l).length = n := ⟨_, rfl⟩
      rw [hn] at hlen
      have HN := hid hn
      clear hm hn
      by_cases h2 : n = l.length
      · have q2 : ((n : Int) == (l.length : Int)) = true := by simp [h2]
        have HF : Hid (decide l.Nodup = true) := hid (by rw [decide_eq_true_eq]; exact HK.out.2.1 (by rw [HN.out, h2]))
        clear h2
        go_wp2
        go_ret
        exact ⟨ret_bool HF.out.symm, hb⟩
      · have q2 : ((n : Int) == (l.length : Int)) = false := by simp; omega
        have HF : Hid (decide l.Nodup = false) := hid (by
          rw [decide_eq_false_iff_not]
          intro hnd
          exact h2 (by rw [← HN.out]; exact HK.out.2.2 hnd))
        clear h2
        go_wp2
        go_ret
        exact ⟨ret_bool HF.out.symm, hb⟩
theorem term_IsCanonical (vs va : Value) (s : Sg) (a : List Int) (w : World) (hs : SignAt w vs s) (ra : Ints w va a) (hs1 : s.length ≤ 1000) :
    Calls Tryz.prog 120 #[vs, va] w fun e w' => e = .returned (.bool (canB s a)) ∧ Below w.heap.size w w' := by
  cases h1 : termB s a
  · have HF : Hid (canB s a = false) := hid (by unfold canB; rw [h1]; rfl)
    go_enter Tryz.func120, Tryz.ntmps120
    go_wp2_with (first | (go_at_call 96; refine (term_Valid' _ _ _ _ _ hs ra hs1).mono ?_; rintro e w1 ⟨rfl, hb1⟩; rw [h1]))
    go_ret
    exact ⟨ret_bool HF.out.symm, hb1⟩
  · have f4 := (termB_facts h1).2.2.2
    have HA := hid (termB_wf h1)
    have ha0 := (termB_T h1).ne
    have HL := hid (canonL_len a)
    have HF : Hid (canB s a = decide (canonL a = a)) := hid (by unfold canB; rw [h1]; rfl)
    have H1 := hid h1
    clear h1
    go_enter Tryz.func120, Tryz.ntmps120
    go_wp2_with fail
    refine (term_Valid' _ _ _ _ _ hs ra hs1).mono ?_
    rintro e w1 ⟨rfl, hb1⟩
    rw [H1.out]
    go_wp2_with fail
    refine (term_canonical _ a _ (ra.below hb1) ha0 (by omega) HA.out).mono ?_
    rintro e w3 ⟨u3, rfl, o3, hb4⟩
    have hb3 := hb1.trans (hb4.mono hb1.size)
    have r3 := Ints.of_owns o3 (by rw [HL.out]; omega)
    have HEQ := hid (sl_EqualT u3 va (canonL a) a w3 r3 (ra.below hb3))
    clear o3 hb4 r3
    go_wp2_with fail
    refine HEQ.out.mono ?_
    rintro e w4 ⟨rfl, n, rfl⟩
    go_wp2
    go_ret
    exact ⟨ret_bool HF.out.symm, below_drewN hb3 n⟩
theorem kernel_ValidProof (g : Int) (v : Value) (l : List St) (w : World) (hg : 0 ≤ g ∧ g ≤ 60) (hv : StepsAt w v l) :
    Calls Tryz.prog 123 #[.int .i64 g, v] w fun e w' => e = .returned (.bool (proofB g l)) ∧ Below w.heap.size w w' := by
  have HV := hid (kernel_valid g v l w (by omega) hv)
  have hi : inB g 0 60 = true := inB_true.2 ⟨by omega, by omega⟩
  obtain ⟨a, cap, rfl, -⟩ := hv.open
  clear hv
  go_enter Tryz.func123, Tryz.ntmps123
  go_wp2_with (first | (go_at_call 168; refine (kernel_within _ _ _ _).mono ?_; rintro e w' ⟨rfl, rfl⟩; rw [hi]) | (go_at_call 169; refine HV.out.mono ?_; rintro e w1 ⟨rfl, hb1⟩))
  go_ret
  exact ⟨rfl, by assumption⟩
theorem deps_ValidEntry1 (x : Nm) (w : World) (hx : x.size ≤ 140737488355328) :
    Calls Tryz.prog 122 #[.string x] w fun e w' => e = .returned (.bool (!nmB x)) ∧ Below w.heap.size w w' := by
  go_enter Tryz.func122, Tryz.ntmps122
  go_wp2_with (go_at_call 71; refine (deps_Name _ _ hx).mono ?_; rintro e w' ⟨rfl, rfl⟩)
  go_ret
  exact ⟨rfl, Below.refl _ _⟩
theorem uses_any (l : List Nm) : (List.range l.length).any (fun i => !nmB (l.getD i ByteArray.empty)) = !l.all nmB := by
  rw [Bool.eq_iff_iff, List.any_eq_true]
  simp only [Bool.not_eq_true', List.all_eq_false, List.mem_range]
  constructor
  · rintro ⟨i, hi, h⟩
    rw [List.getD_eq_getElem?_getD, List.getElem?_eq_getElem hi] at h
    exact ⟨l[i], List.getElem_mem hi, by simpa using h⟩
  · rintro ⟨x, hx, h⟩
    obtain ⟨i, hi, rfl⟩ := List.getElem_of_mem hx
    exact ⟨i, hi, by rw [List.getD_eq_getElem?_getD, List.getElem?_eq_getElem hi]; simpa using h⟩
theorem box5e (w : World) (x0 x1 x2 x3 x4 : Value) (t : TypeId) :
    (w.alloc (.cells #[x0, x1, x2, x3, x4] t)).cell? ⟨w.heap.size, 0, none⟩ = some x0 ∧ (w.alloc (.cells #[x0, x1, x2, x3, x4] t)).cell? ⟨w.heap.size, 1, none⟩ = some x1 ∧ (w.alloc (.cells #[x0, x1, x2, x3, x4] t)).cell? ⟨w.heap.size, 2, none⟩ = some x2 ∧ (w.alloc (.cells #[x0, x1, x2, x3, x4] t)).cell? ⟨w.heap.size, 3, none⟩ = some x3 ∧ (w.alloc (.cells #[x0, x1, x2, x3, x4] t)).cell? ⟨w.heap.size, 4, none⟩ = some x4 ∧
    Below w.heap.size w (w.alloc (.cells #[x0, x1, x2, x3, x4] t)) ∧ (w.alloc (.cells #[x0, x1, x2, x3, x4] t)).heap.size = w.heap.size + 1 := by
  refine ⟨?_, ?_, ?_, ?_, ?_, (Below.refl _ _).alloc (Nat.le_refl _) _, by simp⟩ <;> rw [World.cell?_alloc_new] <;> rfl
/-- the box of an entry. -/
structure EB (w : World) (b : Nat) (x : En) (vS vU vP : Value) : Prop where
  c0 : w.cell? ⟨b, 0, none⟩ = some (.string x.name)
  c1 : w.cell? ⟨b, 1, none⟩ = some (.string x.who)
  c2 : w.cell? ⟨b, 2, none⟩ = some vS
  c3 : w.cell? ⟨b, 3, none⟩ = some vU
  c4 : w.cell? ⟨b, 4, none⟩ = some vP
theorem EB.below {w w' : World} {b : Nat} {x : En} {vS vU vP : Value} (h : EB w b x vS vU vP) (hb : Below w.heap.size w w') : EB w' b x vS vU vP :=
  ⟨(hb.cell (World.block_lt_of_cell? _ _ h.c0)).trans h.c0, (hb.cell (World.block_lt_of_cell? _ _ h.c1)).trans h.c1, (hb.cell (World.block_lt_of_cell? _ _ h.c2)).trans h.c2, (hb.cell (World.block_lt_of_cell? _ _ h.c3)).trans h.c3, (hb.cell (World.block_lt_of_cell? _ _ h.c4)).trans h.c4⟩
theorem EB.new (w : World) (x : En) (vS vU vP : Value) (t : TypeId) : EB (w.alloc (.cells #[.string x.name, .string x.who, vS, vU, vP] t)) w.heap.size x vS vU vP := by
  obtain ⟨h0, h1, h2, h3, h4, -⟩ := box5e w (.string x.name) (.string x.who) vS vU vP t
  exact ⟨h0, h1, h2, h3, h4⟩
set_option maxHeartbeats 2000000 in
theorem deps_ValidEntry (vs vS vU vP : Value) (s : Sg) (x : En) (w : World) (hs : SignAt w vs s) (he : EntAt w vS vU vP x) (hs1 : s.length ≤ 1000) :
    Calls Tryz.prog 73 #[vs, .agg #[.string x.name, .string x.who, vS, vU, vP]] w fun e w' => e = .returned (.bool (entryB s x)) ∧ Below w.heap.size w w' := by
  obtain ⟨hS, hU, hP, n1, n2⟩ := he
  obtain ⟨ua, uc, rfl, -, ul, -⟩ := hU.open
  obtain ⟨pa, pc, rfl, -, pl, -⟩ := hP.open
  have EB0 := EB.new w x vS (.slice ua x.uses.length uc) (.slice pa x.proof.length pc) 41
  have hb0 : Below w.heap.size w (w.alloc (.cells #[.string x.name, .string x.who, vS, .slice ua x.uses.length uc, .slice pa x.proof.length pc] 41)) := (Below.refl _ _).alloc (Nat.le_refl _) _
  have HU := hid hU
  have HP := hid hP
  have HS := hid hS
  have HSG := hid hs
  have HEX : Hid (entryB s x = (nmB x.name && (nmB x.who && (canB s x.says && (decide (x.uses.length ≤ 12) && (decide x.uses.Nodup && (x.uses.all nmB && (if x.proof.length = 0 then decide (x.uses.length = 0) else proofB x.uses.length x.proof)))))))) := hid rfl
  have HB0 := hid hb0
  have HE0 := hid EB0
  clear hU hP hS hs hb0 EB0
  cases g1 : nmB x.name
  · have HF : Hid (entryB s x = false) := hid (by rw [HEX.out, g1]; rfl)
    have G1 := hid g1
    clear g1
    go_enter Tryz.func73, Tryz.ntmps73
    go_wp2_with (go_at_call 71; refine (deps_Name _ _ n1).mono ?_; rintro e w' ⟨rfl, rfl⟩; rw [G1.out])
    go_ret
    exact ⟨ret_bool HF.out.symm, HB0.out⟩
  cases g2 : nmB x.who
  · have HF : Hid (entryB s x = false) := hid (by rw [HEX.out, g2]; simp)
    have G1 := hid g1
    have G2 := hid g2
    clear g1 g2
    go_enter Tryz.func73, Tryz.ntmps73
    go_wp2_with fail
    refine (deps_Name _ _ n1).mono ?_
    rintro e w' ⟨rfl, rfl⟩
    rw [G1.out]
    go_wp2_with fail
    refine (deps_Name _ _ n2).mono ?_
    rintro e w' ⟨rfl, rfl⟩
    rw [G2.out]
    go_wp2
    go_ret
    exact ⟨ret_bool HF.out.symm, HB0.out⟩
  have G1 := hid g1
  have G2 := hid g2
  have HEX2 : Hid (entryB s x = (canB s x.says && (decide (x.uses.length ≤ 12) && (decide x.uses.Nodup && (x.uses.all nmB && (if x.proof.length = 0 then decide (x.uses.length = 0) else proofB x.uses.length x.proof)))))) := hid (by rw [HEX.out, g1, g2]; rfl)
  clear g1 g2 HEX
  go_enter Tryz.func73, Tryz.ntmps73
  go_wp2_with fail
  refine (deps_Name _ _ n1).mono ?_
  rintro e w' ⟨rfl, rfl⟩
  rw [G1.out]
  go_wp2_with fail
  refine (deps_Name _ _ n2).mono ?_
  rintro e w' ⟨rfl, rfl⟩
  rw [G2.out]
  obtain ⟨W, hW⟩ : ∃ W, w.alloc (.cells #[.string x.name, .string x.who, vS, .slice ua x.uses.length uc, .slice pa x.proof.length pc] 41) = W := ⟨_, rfl⟩
  have hbW := HB0.out
  have eW := HE0.out
  rw [hW] at hbW eW ⊢
  clear hW HB0 HE0
  obtain ⟨c0, c1, c2, c3, c4⟩ := eW
  go_wp2_with fail
  refine (term_IsCanonical vs vS s x.says W (HSG.out.below hbW) (HS.out.below hbW) hs1).mono ?_
  rintro e w1 ⟨rfl, hb1⟩
  have hbw1 := hbW.trans (hb1.mono hbW.size)
  obtain ⟨d0, d1, d2, d3, d4⟩ := EB.below ⟨c0, c1, c2, c3, c4⟩ hb1
  clear c0 c1 c2 c3 c4 hb1
  cases g3 : canB s x.says
  · have HF : Hid (entryB s x = false) := hid (by rw [HEX2.out, g3]; rfl)
    clear g3
    go_wp2
    go_ret
    exact ⟨ret_bool HF.out.symm, hbw1⟩
  by_cases g4n : ¬ x.uses.length ≤ 12
  · have g4 := g4n
    have HF : Hid (entryB s x = false) := hid (by rw [HEX2.out, decide_eq_false g4]; simp)
    have g4' : ((x.uses.length : Int) > 12) := by omega
    clear g3 g4 g4n
    go_wp2
    go_ret
    exact ⟨ret_bool HF.out.symm, hbw1⟩
  have g4 : x.uses.length ≤ 12 := Classical.not_not.1 g4n
  clear g4n
  have g4' : ¬ ((x.uses.length : Int) > 12) := by omega
  have HEX3 : Hid (entryB s x = (decide x.uses.Nodup && (x.uses.all nmB && (if x.proof.length = 0 then decide (x.uses.length = 0) else proofB x.uses.length x.proof)))) := hid (by rw [HEX2.out, g3, decide_eq_true g4]; rfl)
  clear g3 HEX2
  go_wp2_with fail
  refine (deps_different _ x.uses w1 (HU.out.below hbw1)).mono ?_
  rintro e w2 ⟨rfl, hb2⟩
  have hbw2 := hbw1.trans (hb2.mono hbw1.size)
  obtain ⟨c0, c1, c2, c3, c4⟩ := EB.below ⟨d0, d1, d2, d3, d4⟩ hb2
  clear d0 d1 d2 d3 d4 hb2 hbw1
  by_cases g5n : ¬ x.uses.Nodup
  · have g5 := g5n
    have HF : Hid (entryB s x = false) := hid (by rw [HEX3.out, decide_eq_false g5]; simp)
    rw [decide_eq_false g5]
    clear g5 g5n
    go_wp2
    go_ret
    exact ⟨ret_bool HF.out.symm, hbw2⟩
  have g5 : x.uses.Nodup := Classical.not_not.1 g5n
  clear g5n
  have HEX4 : Hid (entryB s x = (x.uses.all nmB && (if x.proof.length = 0 then decide (x.uses.length = 0) else proofB x.uses.length x.proof))) := hid (by rw [HEX3.out, decide_eq_true g5]; rfl)
  rw [decide_eq_true g5]
  clear g5 HEX3
  have HCF := hid (sl_ContainsFunc_strs 122 #[] (enters_of Tryz.func122 (by kernel_rfl) rfl) (.slice ua x.uses.length uc) x.uses w2 (HU.out.below hbw2) (fun i => !nmB (x.uses.getD i ByteArray.empty)) (by
    intro i hi W2 _
    have e1 : x.uses.getD i ByteArray.empty = x.uses[i] := by rw [List.getD_eq_getElem?_getD, List.getElem?_eq_getElem hi]; rfl
    simp only [e1]
    exact deps_ValidEntry1 x.uses[i] W2 (HU.out.2 _ (List.getElem_mem hi))))
  have HUA := hid (uses_any x.uses)
  go_wp2_with fail
  refine HCF.out.mono ?_
  rintro e w3 ⟨rfl, hb3⟩
  rw [HUA.out]
  have hbw3 := hbw2.trans (hb3.mono hbw2.size)
  obtain ⟨d0, d1, d2, d3, d4⟩ := EB.below ⟨c0, c1, c2, c3, c4⟩ hb3
  clear c0 c1 c2 c3 c4 hb3 hbw2 HCF HUA
  cases g6 : x.uses.all nmB
  · have HF : Hid (entryB s x = false) := hid (by rw [HEX4.out, g6]; rfl)
    clear g6
    go_wp2
    go_ret
    exact ⟨ret_bool HF.out.symm, hbw3⟩
  have HEX5 : Hid (entryB s x = (if x.proof.length = 0 then decide (x.uses.length = 0) else proofB x.uses.length x.proof)) := hid (by rw [HEX4.out, g6]; rfl)
  clear g6 HEX4
  have HVP := hid (kernel_ValidProof x.uses.length (.slice pa x.proof.length pc) x.proof w3 (by omega) (HP.out.below hbw3))
  by_cases g7 : x.uses.length = 0
  · by_cases g8 : x.proof.length = 0
    · have HF : Hid (entryB s x = true) := hid (by rw [HEX5.out, if_pos g8]; simpa using g7)
      have q7 : ((x.uses.length : Int) == 0) = true := by simp [g7]
      have q8 : ((x.proof.length : Int) == 0) = true := by simp [g8]
      clear g7 g8
      go_wp2
      go_ret
      exact ⟨ret_bool HF.out.symm, hbw3⟩
    · have HF : Hid (entryB s x = proofB x.uses.length x.proof) := hid (by rw [HEX5.out, if_neg g8])
      have q7 : ((x.uses.length : Int) == 0) = true := by simp [g7]
      have q8 : ((x.proof.length : Int) == 0) = false := by rw [beq_eq_false_iff_ne]; omega
      clear g7 g8
      go_wp2_with fail
      refine HVP.out.mono ?_
      rintro e w4 ⟨rfl, hb4⟩
      go_wp2
      go_ret
      exact ⟨ret_bool HF.out.symm, hbw3.trans (hb4.mono hbw3.size)⟩
  · have HF : Hid (entryB s x = proofB x.uses.length x.proof) := hid (by
      rw [HEX5.out]
      by_cases g8 : x.proof.length = 0
      · rw [if_pos g8, decide_eq_false g7]
        unfold proofB
        rw [g8]
        rfl
      · rw [if_neg g8])
    have q7 : ((x.uses.length : Int) == 0) = false := by rw [beq_eq_false_iff_ne]; omega
    clear g7
    go_wp2_with fail
    refine HVP.out.mono ?_
    rintro e w4 ⟨rfl, hb4⟩
    go_wp2
    go_ret
    exact ⟨ret_bool HF.out.symm, hbw3.trans (hb4.mono hbw3.size)⟩
theorem strs_one (l : List Nm) : ∀ u ∈ l.map Value.string, u.oneCell' = true := by
  intro u hu; simp at hu; obtain ⟨x, _, rfl⟩ := hu; rfl
set_option maxHeartbeats 2000000 in
theorem deps_Valid (vs vl : Value) (s : Sg) (l : List En) (w : World) (hs : SignAt w vs s) (hl : EntsAt w vl l) (hs1 : s.length ≤ 1000) (hl1 : l.length ≤ 1000) :
    Calls Tryz.prog 64 #[vs, vl] w fun e w' => e = .returned (.bool (libB s l)) ∧ Below w.heap.size w w' := by
  obtain ⟨la, lc, rfl, -, ll, -, HC⟩ := hl.open
  have HC' := hid HC
  have HSG := hid hs
  clear HC hl hs
  have hown0 := World.ownsRow_nil w w.heap.size 9 1
  go_enter Tryz.func64, Tryz.ntmps64
  go_wp2
  go_loopw [5, 10] (fun nv kv wr => ∃ k : Nat, k ≤ l.length ∧ kv = .int .i64 k ∧ Below w.heap.size w wr ∧ wr.ownsRow w.heap.size 9 1 nv k (((l.take k).map En.name).map Value.string) ∧ ∀ j (hj : j < l.length), j < k → entryB s l[j] = true) (fun _ kv _ => l.length - (intOf kv).toNat)
  case atStart => exact ⟨0, by omega, rfl, Below.refl _ _, hown0, by simp⟩
  case round =>
    clear hown0
    obtain ⟨k, hk, rfl, hb, hown, hrel⟩ := hrel
    have HR := hid hrel
    have hsz := hb.size
    clear hrel
    by_cases hlt : k < l.length
    · obtain ⟨b, o, vS, vu, vp, rfl, c0, c1, c2, c3, c4, he⟩ := HC'.out k hlt
      have he' := he.below hb
      obtain ⟨sa, sc, rfl, -⟩ := he'.s.open
      obtain ⟨ua, uc, rfl, -⟩ := he'.u.open
      obtain ⟨pa, pc, rfl, -⟩ := he'.p.open
      have d0 := (hb.cell (World.block_lt_of_cell? _ _ c0)).trans c0
      have d1 := (hb.cell (World.block_lt_of_cell? _ _ c1)).trans c1
      have d2 := (hb.cell (World.block_lt_of_cell? _ _ c2)).trans c2
      have d3 := (hb.cell (World.block_lt_of_cell? _ _ c3)).trans c3
      have d4 := (hb.cell (World.block_lt_of_cell? _ _ c4)).trans c4
      have HNO := hid (fun h => libB_no (s := s) (List.getElem_mem hlt) h)
      have HT := hid (show ((l.take (k + 1)).map En.name).map Value.string = ((l.take k).map En.name).map Value.string ++ [Value.string l[k].name] from by rw [List.take_succ_eq_append_getElem hlt, List.map_append, List.map_append]; rfl)
      obtain ⟨x, hx⟩ : ∃ x, l[k] = x := ⟨_, rfl⟩
      have HX := hid hx
      rw [hx] at d0 d1 he' HNO HT d2 d3 d4
      clear c0 c1 c2 c3 c4 he hx
      have EB0 := EB.new wr x (.slice sa x.says.length sc) (.slice ua x.uses.length uc) (.slice pa x.proof.length pc) 41
      obtain ⟨W, hW⟩ : ∃ W, wr.alloc (.cells #[.string x.name, .string x.who, .slice sa x.says.length sc, .slice ua x.uses.length uc, .slice pa x.proof.length pc] 41) = W := ⟨_, rfl⟩
      have hbr : Below wr.heap.size wr W := hW ▸ (Below.refl _ _).alloc (Nat.le_refl _) _
      have hbW : Below w.heap.size w W := hb.trans (hbr.mono hsz)
      have hownW := owns_below hown hbr
      have heW := he'.below hbr
      rw [hW] at EB0
      have HOW := hid hownW
      have HHW := hid hW
      have HVE := hid (deps_ValidEntry vs (.slice sa x.says.length sc) (.slice ua x.uses.length uc) (.slice pa x.proof.length pc) s x W (HSG.out.below hbW) heW hs1)
      have HBW := hid hbW
      have HEB := hid EB0
      clear hownW heW hbr hbW hW EB0 hown he'
      cases g : entryB s x
      · have HF : Hid (libB s l = false) := hid (HNO.out g)
        have G := hid g
        clear g
        go_wp2_with fail
        rw [HHW.out]
        refine HVE.out.mono ?_
        rintro e w1 ⟨rfl, hb1⟩
        rw [G.out]
        go_wp2
        go_ret
        exact ⟨ret_bool HF.out.symm, HBW.out.trans (hb1.mono HBW.out.size)⟩
      · have G := hid g
        clear g
        go_wp2_with fail
        rw [HHW.out]
        refine HVE.out.mono ?_
        rintro e w1 ⟨rfl, hb1⟩
        rw [G.out]
        have hszW := HBW.out.size
        have HB1 := hid (HBW.out.trans (hb1.mono HBW.out.size))
        have HO1 := hid (owns_below HOW.out hb1)
        have hsz1 := HB1.out.size
        have HB1A := hid (show Below w.heap.size w (w1.alloc (.cells #[.string x.name] 9)) from HB1.out.alloc hsz1 _)
        obtain ⟨e0, -, -, -, -⟩ := HEB.out.below hb1
        clear hb1 hb
        go_wp2_with (at_builtin; refine wpList_append_row rfl _ _ 38 rfl w.heap.size 9 el_str Tryz.underlying38 rfl (by decide) _ _ _ rfl (HO1.out.alloc _) _ 1 [.string x.name] rfl (row_one_new _ _ _) (oneCell_one rfl) (by omega) (by omega) (by simp; omega) ?_; intro v' w4 hown4 hgrow4 _)
        go_roundw
        case rel =>
          refine ⟨k + 1, by omega, by go_num, HB1A.out.grown hgrow4 (by have := HB1A.out.size; omega) (fun q hq => (HO1.out.lt q hq).1), by rw [HT.out]; exact hown4, fun j hj hjk => ?_⟩
          by_cases hjk' : j = k
          · subst hjk'; rw [HX.out]; exact G.out
          · exact HR.out j hj (by omega)
        case measure => simp [intOf]; omega
    · have hkl : k = l.length := by omega
      subst hkl
      rw [List.take_of_length_le (by simp)] at hown
      have hnm : ∀ x ∈ l.map En.name, x.size ≤ 140737488355328 := by
        intro x hx
        obtain ⟨y, hy, rfl⟩ := List.mem_map.1 hx
        obtain ⟨j, hj, rfl⟩ := List.getElem_of_mem hy
        obtain ⟨_, _, _, _, _, _, _, _, _, _, _, he⟩ := HC'.out j hj
        exact he.n1
      have HN : Hid (TxtsAt wr u5 (l.map En.name)) := hid ⟨RowK.of_owns (by simpa using hown) (by simp; omega), hnm⟩
      have HLB : Hid (libB s l = (signB s && (decide (l.length ≤ 60) && decide (l.map En.name).Nodup))) := hid (by
        unfold libB
        have : l.all (entryB s) = true := by
          rw [List.all_eq_true]
          intro x hx
          obtain ⟨j, hj, rfl⟩ := List.getElem_of_mem hx
          exact HR.out j hj hj
        rw [this, Bool.true_and])
      have HB := hid hb
      clear hnm hown hb
      cases g1 : signB s
      · have HF : Hid (libB s l = false) := hid (by rw [HLB.out, g1]; rfl)
        have G1 := hid g1
        clear g1
        go_wp2_with fail
        refine (term_ValidSign _ _ _ (HSG.out.below HB.out) hs1).mono ?_
        rintro e w1 ⟨rfl, hb1⟩
        rw [G1.out]
        go_wp2
        go_ret
        exact ⟨ret_bool HF.out.symm, HB.out.trans (hb1.mono HB.out.size)⟩
      have G1 := hid g1
      have HLB2 : Hid (libB s l = (decide (l.length ≤ 60) && decide (l.map En.name).Nodup)) := hid (by rw [HLB.out, g1]; rfl)
      clear g1 HLB
      by_cases g2 : l.length ≤ 60
      · have HF : Hid (libB s l = decide (l.map En.name).Nodup) := hid (by rw [HLB2.out, decide_eq_true g2]; rfl)
        have g2' : (l.length : Int) ≤ 60 := by omega
        clear g2
        go_wp2_with fail
        refine (term_ValidSign _ _ _ (HSG.out.below HB.out) hs1).mono ?_
        rintro e w1 ⟨rfl, hb1⟩
        rw [G1.out]
        have hB1 := HB.out.trans (hb1.mono HB.out.size)
        have HDF := hid (deps_different _ (l.map En.name) w1 (HN.out.below hb1))
        clear hb1
        go_wp2_with fail
        refine HDF.out.mono ?_
        rintro e w2 ⟨rfl, hb2⟩
        go_wp2
        go_ret
        exact ⟨ret_bool HF.out.symm, hB1.trans (hb2.mono hB1.size)⟩
      · have HF : Hid (libB s l = false) := hid (by rw [HLB2.out, decide_eq_false g2]; rfl)
        have g2' : ¬ ((l.length : Int) ≤ 60) := by omega
        clear g2
        go_wp2_with fail
        refine (term_ValidSign _ _ _ (HSG.out.below HB.out) hs1).mono ?_
        rintro e w1 ⟨rfl, hb1⟩
        rw [G1.out]
        go_wp2
        go_ret
        exact ⟨ret_bool HF.out.symm, HB.out.trans (hb1.mono HB.out.size)⟩
end Go.Proofs.YtlbjbmpkaniojaaGreat
namespace Go.Proofs.YtlbjbmpkaniojaaGreat
open Go Go.RowKit Go.Maps
set_option maxHeartbeats 400000 in
theorem ref6_SameTerm (v u : Value) (l m : List Int) (w : World) (hv : Ints w v l) (hu : Ints w u m) :
    Calls Tryz.prog 106 #[v, u] w fun e w' => e = .returned (.bool (decide (l = m))) ∧ ∃ n, w' = w.drewN n := by
  obtain ⟨a, cap, rfl, h1, hl, h3, HC⟩ := hv.open
  obtain ⟨a', cap', rfl, h1', hl', h3', HD⟩ := hu.open
  have HC' := hid HC
  have HD' := hid HD
  clear HC hv h3 HD hu h3'
  by_cases hlen : l.length = m.length
  · have hne : (((l.length : Nat) : Int) != (m.length : Int)) = false := by simp [hlen]
    have HL := hid hlen
    clear hlen
    go_enter Tryz.func106, Tryz.ntmps106
    go_wp2
    go_loopw [5] (fun i wr => ∃ k q : Nat, k ≤ l.length ∧ i = .int .i64 k ∧ wr = w.drewN q ∧ l.take k = m.take k) (fun i _ => l.length - (intOf i).toNat)
    case atStart => exact ⟨0, 0, by omega, rfl, rfl, by simp⟩
    case round =>
      obtain ⟨k, q, hk, rfl, rfl, hrel⟩ := hrel
      have HR := hid hrel
      clear hrel
      by_cases hlt : k < l.length
      · obtain ⟨b, o, rfl, hcell⟩ := HC'.out k hlt
        have hlt' : k < m.length := by have := HL.out; omega
        obtain ⟨b', o', rfl, hcell'⟩ := HD'.out k hlt'
        cases h2 : (l[k] != m[k])
        · go_wp2
          go_quiet (fail)
          go_wp2
          go_roundw
          case rel =>
            refine ⟨k + 1, _, by omega, by go_num, (by first | rfl | exact World.drewN_drewN _ _ _), ?_⟩
            rw [List.take_succ_eq_append_getElem hlt, List.take_succ_eq_append_getElem hlt', HR.out]
            have : l[k] = m[k] := by simpa [bne] using h2
            rw [this]
          case measure => simp [intOf]; omega
        · have HM : Hid (l ≠ m) := hid (by intro e; subst e; simp at h2)
          go_wp2
          go_quiet (fail)
          go_wp2
          go_ret
          exact ⟨ret_bool (decide_eq_false HM.out).symm, _, (by first | rfl | exact World.drewN_drewN _ _ _)⟩
      · have HM : Hid (l = m) := hid (by have := HR.out; have h9 := HL.out; rw [List.take_of_length_le (by omega), List.take_of_length_le (by omega)] at this; exact this)
        go_wp2
        go_ret
        exact ⟨ret_bool (decide_eq_true HM.out).symm, q, rfl⟩
  · have hne : (((l.length : Nat) : Int) != (m.length : Int)) = true := by simp [bne]; omega
    have HM : Hid (l ≠ m) := hid (by intro e; subst e; exact hlen rfl)
    clear hlen
    go_enter Tryz.func106, Tryz.ntmps106
    go_wp2
    go_ret
    exact ⟨ret_bool (decide_eq_false HM.out).symm, 0, rfl⟩

set_option maxHeartbeats 400000 in
theorem ref6_SameInts (v u : Value) (l m : List Int) (w : World) (hv : Ints w v l) (hu : Ints w u m) :
    Calls Tryz.prog 44 #[v, u] w fun e w' => e = .returned (.bool (decide (l = m))) ∧ ∃ n, w' = w.drewN n := by
  obtain ⟨a, cap, rfl, h1, hl, h3, HC⟩ := hv.open
  obtain ⟨a', cap', rfl, h1', hl', h3', HD⟩ := hu.open
  have HC' := hid HC
  have HD' := hid HD
  clear HC hv h3 HD hu h3'
  by_cases hlen : l.length = m.length
  · have hne : (((l.length : Nat) : Int) != (m.length : Int)) = false := by simp [hlen]
    have HL := hid hlen
    clear hlen
    go_enter Tryz.func44, Tryz.ntmps44
    go_wp2
    go_loopw [5] (fun i wr => ∃ k q : Nat, k ≤ l.length ∧ i = .int .i64 k ∧ wr = w.drewN q ∧ l.take k = m.take k) (fun i _ => l.length - (intOf i).toNat)
    case atStart => exact ⟨0, 0, by omega, rfl, rfl, by simp⟩
    case round =>
      obtain ⟨k, q, hk, rfl, rfl, hrel⟩ := hrel
      have HR := hid hrel
      clear hrel
      by_cases hlt : k < l.length
      · obtain ⟨b, o, rfl, hcell⟩ := HC'.out k hlt
        have hlt' : k < m.length := by have := HL.out; omega
        obtain ⟨b', o', rfl, hcell'⟩ := HD'.out k hlt'
        cases h2 : (l[k] != m[k])
        · go_wp2
          go_quiet (fail)
          go_wp2
          go_roundw
          case rel =>
            refine ⟨k + 1, _, by omega, by go_num, (by first | rfl | exact World.drewN_drewN _ _ _), ?_⟩
            rw [List.take_succ_eq_append_getElem hlt, List.take_succ_eq_append_getElem hlt', HR.out]
            have : l[k] = m[k] := by simpa [bne] using h2
            rw [this]
          case measure => simp [intOf]; omega
        · have HM : Hid (l ≠ m) := hid (by intro e; subst e; simp at h2)
          go_wp2
          go_quiet (fail)
          go_wp2
          go_ret
          exact ⟨ret_bool (decide_eq_false HM.out).symm, _, (by first | rfl | exact World.drewN_drewN _ _ _)⟩
      · have HM : Hid (l = m) := hid (by have := HR.out; have h9 := HL.out; rw [List.take_of_length_le (by omega), List.take_of_length_le (by omega)] at this; exact this)
        go_wp2
        go_ret
        exact ⟨ret_bool (decide_eq_true HM.out).symm, q, rfl⟩
  · have hne : (((l.length : Nat) : Int) != (m.length : Int)) = true := by simp [bne]; omega
    have HM : Hid (l ≠ m) := hid (by intro e; subst e; exact hlen rfl)
    clear hlen
    go_enter Tryz.func44, Tryz.ntmps44
    go_wp2
    go_ret
    exact ⟨ret_bool (decide_eq_false HM.out).symm, 0, rfl⟩

set_option maxHeartbeats 400000 in
theorem ref6_SameTexts (v u : Value) (l m : List Nm) (w : World) (hv : TxtsAt w v l) (hu : TxtsAt w u m) :
    Calls Tryz.prog 41 #[v, u] w fun e w' => e = .returned (.bool (decide (l = m))) ∧ ∃ n, w' = w.drewN n := by
  obtain ⟨a, cap, rfl, h1, hl, h3, HC⟩ := hv.open
  obtain ⟨a', cap', rfl, h1', hl', h3', HD⟩ := hu.open
  have HC' := hid HC
  have HD' := hid HD
  clear HC hv h3 HD hu h3'
  by_cases hlen : l.length = m.length
  · have hne : (((l.length : Nat) : Int) != (m.length : Int)) = false := by simp [hlen]
    have HL := hid hlen
    clear hlen
    go_enter Tryz.func41, Tryz.ntmps41
    go_wp2
    go_loopw [5] (fun i wr => ∃ k q : Nat, k ≤ l.length ∧ i = .int .i64 k ∧ wr = w.drewN q ∧ l.take k = m.take k) (fun i _ => l.length - (intOf i).toNat)
    case atStart => exact ⟨0, 0, by omega, rfl, rfl, by simp⟩
    case round =>
      obtain ⟨k, q, hk, rfl, rfl, hrel⟩ := hrel
      have HR := hid hrel
      clear hrel
      by_cases hlt : k < l.length
      · obtain ⟨b, o, rfl, hcell⟩ := HC'.out k hlt
        have hlt' : k < m.length := by have := HL.out; omega
        obtain ⟨b', o', rfl, hcell'⟩ := HD'.out k hlt'
        have HT1 := hid (List.take_succ_eq_append_getElem hlt)
        have HT2 := hid (List.take_succ_eq_append_getElem hlt')
        have HG1 := hid (List.getElem?_eq_getElem hlt)
        have HG2 := hid (List.getElem?_eq_getElem hlt')
        obtain ⟨x, hx⟩ : ∃ x, l[k] = x := ⟨_, rfl⟩
        obtain ⟨y, hy⟩ : ∃ y, m[k] = y := ⟨_, rfl⟩
        rw [hx] at hcell HT1 HG1
        rw [hy] at hcell' HT2 HG2
        clear hx hy
        by_cases h2 : x = y
        · have HE := hid h2
          have q2 : (x.toList == y.toList) = true := by rw [bytes_eq]; simpa using h2
          have q3 : (x.toList != y.toList) = false := by rw [bne, q2]; rfl
          clear h2
          go_wp2
          go_quiet (fail)
          go_wp2
          go_roundw
          case rel => exact ⟨k + 1, _, by omega, by go_num, (by first | rfl | exact World.drewN_drewN _ _ _), by rw [HT1.out, HT2.out, HR.out, HE.out]⟩
          case measure => simp [intOf]; omega
        · have q2 : (x.toList == y.toList) = false := by rw [bytes_eq]; simpa using h2
          have q3 : (x.toList != y.toList) = true := by rw [bne, q2]; rfl
          have HF : Hid (decide (l = m) = false) := hid (by
            rw [decide_eq_false_iff_not]
            rintro rfl
            have := HG1.out.symm.trans HG2.out
            cases this
            exact h2 rfl)
          clear h2
          go_wp2
          go_quiet (fail)
          go_wp2
          go_ret
          exact ⟨ret_bool HF.out.symm, _, (by first | rfl | exact World.drewN_drewN _ _ _)⟩
      · have HF : Hid (decide (l = m) = true) := hid (by
          have h1 := HR.out
          have h2 := HL.out
          rw [List.take_of_length_le (by omega), List.take_of_length_le (by omega)] at h1
          simp [h1])
        go_wp2
        go_ret
        exact ⟨ret_bool HF.out.symm, _, rfl⟩
  · have hne : (((l.length : Nat) : Int) != (m.length : Int)) = true := by simp; omega
    have HF : Hid (decide (l = m) = false) := hid (by rw [decide_eq_false_iff_not]; rintro rfl; exact hlen rfl)
    clear hlen
    go_enter Tryz.func41, Tryz.ntmps41
    go_wp2
    go_ret
    exact ⟨ret_bool HF.out.symm, 0, rfl⟩
set_option maxHeartbeats 1000000 in
theorem ref6_SameProof (v u : Value) (l m : List St) (w : World) (hv : StepsAt w v l) (hu : StepsAt w u m) :
    Calls Tryz.prog 107 #[v, u] w fun e w' => e = .returned (.bool (decide (l = m))) ∧ ∃ n, w' = w.drewN n := by
  obtain ⟨a, cap, rfl, h1, hl, h3, HC⟩ := hv.open
  obtain ⟨a', cap', rfl, h1', hl', h3', HD⟩ := hu.open
  have HC' := hid HC
  have HD' := hid HD
  clear HC hv h3 HD hu h3'
  by_cases hlen : l.length = m.length
  · have hne : (((l.length : Nat) : Int) != (m.length : Int)) = false := by simp [hlen]
    have HL := hid hlen
    clear hlen
    go_enter Tryz.func107, Tryz.ntmps107
    go_wp2
    go_loopw [5] (fun i wr => ∃ k q : Nat, k ≤ l.length ∧ i = .int .i64 k ∧ wr = w.drewN q ∧ l.take k = m.take k) (fun i _ => l.length - (intOf i).toNat)
    case atStart => exact ⟨0, 0, by omega, rfl, rfl, by simp⟩
    case round =>
      obtain ⟨k, q, hk, rfl, rfl, hrel⟩ := hrel
      have HR := hid hrel
      clear hrel
      by_cases hlt : k < l.length
      · obtain ⟨b, o, rfl, c0, c1, c2⟩ := HC'.out k hlt
        have hlt' : k < m.length := by have := HL.out; omega
        obtain ⟨b', o', rfl, d0, d1, d2⟩ := HD'.out k hlt'
        have HT1 := hid (List.take_succ_eq_append_getElem hlt)
        have HT2 := hid (List.take_succ_eq_append_getElem hlt')
        have HG1 := hid (List.getElem?_eq_getElem hlt)
        have HG2 := hid (List.getElem?_eq_getElem hlt')
        obtain ⟨⟨x0, x1, x2⟩, hx⟩ : ∃ x, l[k] = x := ⟨_, rfl⟩
        obtain ⟨⟨y0, y1, y2⟩, hy⟩ : ∃ y, m[k] = y := ⟨_, rfl⟩
        rw [hx] at c0 c1 c2 HT1 HG1
        rw [hy] at d0 d1 d2 HT2 HG2
        simp only at c0 c1 c2 d0 d1 d2
        clear hx hy
        by_cases e0 : x0 = y0
        · have q0 : (x0 == y0) = true := by simpa using e0
          by_cases e1 : x1 = y1
          · have q1 : (x1 == y1) = true := by simpa using e1
            by_cases e2 : x2 = y2
            · have q2 : (x2 == y2) = true := by simpa using e2
              have E0 := hid e0
              have E1 := hid e1
              have E2 := hid e2
              clear e0 e1 e2
              go_wp2
              go_quiet (fail)
              go_wp2
              go_roundw
              case rel => exact ⟨k + 1, _, by omega, by go_num, (by first | rfl | exact World.drewN_drewN _ _ _), by rw [HT1.out, HT2.out, HR.out, E0.out, E1.out, E2.out]⟩
              case measure => simp [intOf]; omega
            · have q2 : (x2 == y2) = false := by simpa using e2
              have HF : Hid (decide (l = m) = false) := hid (by
                rw [decide_eq_false_iff_not]
                rintro rfl
                have := HG1.out.symm.trans HG2.out
                cases this
                exact e2 rfl)
              clear e0 e1 e2
              go_wp2
              go_quiet (fail)
              go_wp2
              go_ret
              exact ⟨ret_bool HF.out.symm, _, (by first | rfl | exact World.drewN_drewN _ _ _)⟩
          · have q1 : (x1 == y1) = false := by simpa using e1
            have HF : Hid (decide (l = m) = false) := hid (by
              rw [decide_eq_false_iff_not]
              rintro rfl
              have := HG1.out.symm.trans HG2.out
              cases this
              exact e1 rfl)
            clear e0 e1
            go_wp2
            go_quiet (fail)
            go_wp2
            go_ret
            exact ⟨ret_bool HF.out.symm, _, (by first | rfl | exact World.drewN_drewN _ _ _)⟩
        · have q0 : (x0 == y0) = false := by simpa using e0
          have HF : Hid (decide (l = m) = false) := hid (by
            rw [decide_eq_false_iff_not]
            rintro rfl
            have := HG1.out.symm.trans HG2.out
            cases this
            exact e0 rfl)
          clear e0
          go_wp2
          go_quiet (fail)
          go_wp2
          go_ret
          exact ⟨ret_bool HF.out.symm, _, (by first | rfl | exact World.drewN_drewN _ _ _)⟩
      · have HF : Hid (decide (l = m) = true) := hid (by
          have h1 := HR.out
          have h2 := HL.out
          rw [List.take_of_length_le (by omega), List.take_of_length_le (by omega)] at h1
          simp [h1])
        go_wp2
        go_ret
        exact ⟨ret_bool HF.out.symm, _, rfl⟩
  · have hne : (((l.length : Nat) : Int) != (m.length : Int)) = true := by simp; omega
    have HF : Hid (decide (l = m) = false) := hid (by rw [decide_eq_false_iff_not]; rintro rfl; exact hlen rfl)
    clear hlen
    go_enter Tryz.func107, Tryz.ntmps107
    go_wp2
    go_ret
    exact ⟨ret_bool HF.out.symm, 0, rfl⟩
theorem En.ext_iff' {x y : En} : x = y ↔ x.name = y.name ∧ x.who = y.who ∧ x.says = y.says ∧ x.uses = y.uses ∧ x.proof = y.proof := by
  cases x; cases y; simp
theorem en_no {x y : En} (h : x.name ≠ y.name ∨ x.who ≠ y.who ∨ x.says ≠ y.says ∨ x.uses ≠ y.uses ∨ x.proof ≠ y.proof) : decide (x = y) = false := by
  rw [decide_eq_false_iff_not, En.ext_iff']
  rintro ⟨h1, h2, h3, h4, h5⟩
  rcases h with h | h | h | h | h
  · exact h h1
  · exact h h2
  · exact h h3
  · exact h h4
  · exact h h5
set_option maxHeartbeats 2000000 in
theorem ref6_SameEntry (vS vU vP uS uU uP : Value) (x y : En) (w : World) (hx : EntAt w vS vU vP x) (hy : EntAt w uS uU uP y) :
    Calls Tryz.prog 52 #[.agg #[.string x.name, .string x.who, vS, vU, vP], .agg #[.string y.name, .string y.who, uS, uU, uP]] w fun e w' => e = .returned (.bool (decide (x = y))) ∧ Below w.heap.size w w' := by
  have E1 := EB.new w x vS vU vP 41
  have hb1 : Below w.heap.size w (w.alloc (.cells #[.string x.name, .string x.who, vS, vU, vP] 41)) := (Below.refl _ _).alloc (Nat.le_refl _) _
  obtain ⟨V, hV⟩ : ∃ V, w.alloc (.cells #[.string x.name, .string x.who, vS, vU, vP] 41) = V := ⟨_, rfl⟩
  have hVz : V.heap.size = w.heap.size + 1 := by rw [← hV]; simp
  rw [hV] at E1 hb1
  have E2 := EB.new V y uS uU uP 41
  have hb2 : Below V.heap.size V (V.alloc (.cells #[.string y.name, .string y.who, uS, uU, uP] 41)) := (Below.refl _ _).alloc (Nat.le_refl _) _
  have E1' := E1.below hb2
  obtain ⟨W, hW⟩ : ∃ W, V.alloc (.cells #[.string y.name, .string y.who, uS, uU, uP] 41) = W := ⟨_, rfl⟩
  rw [hW] at E2 E1' hb2
  have hb : Below w.heap.size w W := hb1.trans (hb2.mono hb1.size)
  rw [hVz] at E2
  have HWE : Hid ((w.alloc (.cells #[.string x.name, .string x.who, vS, vU, vP] 41)).alloc (.cells #[.string y.name, .string y.who, uS, uU, uP] 41) = W) := hid (by rw [hV, hW])
  have H1 := hid E1'
  have H2 := hid E2
  have HX := hid (show EntAt W vS vU vP x from (hx.below hb))
  have HY := hid (show EntAt W uS uU uP y from (hy.below hb))
  have HB := hid hb
  clear E1 E1' E2 hb1 hb2 hx hy hb hV hW hVz
  by_cases e0 : x.name = y.name
  case neg =>
    have HF := hid (en_no (Or.inl e0))
    have q0 : (x.name.toList == y.name.toList) = false := by rw [bytes_eq]; simpa using e0
    clear e0
    go_enter Tryz.func52, Tryz.ntmps52
    go_wp2
    rw [HWE.out]
    go_ret
    exact ⟨ret_bool HF.out.symm, HB.out⟩
  have q0 : (x.name.toList == y.name.toList) = true := by rw [bytes_eq]; simpa using e0
  have E0 := hid e0
  clear e0
  by_cases e1 : x.who = y.who
  case neg =>
    have HF := hid (en_no (Or.inr (Or.inl e1)))
    have q1 : (x.who.toList == y.who.toList) = false := by rw [bytes_eq]; simpa using e1
    clear e1
    go_enter Tryz.func52, Tryz.ntmps52
    go_wp2
    rw [HWE.out]
    go_ret
    exact ⟨ret_bool HF.out.symm, HB.out⟩
  have q1 : (x.who.toList == y.who.toList) = true := by rw [bytes_eq]; simpa using e1
  have E1 := hid e1
  clear e1
  go_enter Tryz.func52, Tryz.ntmps52
  go_wp2_with fail
  rw [HWE.out]
  refine (ref6_SameTerm vS uS x.says y.says W HX.out.s HY.out.s).mono ?_
  rintro e w1 ⟨rfl, n1, hw1⟩
  have hb1 : Below W.heap.size W w1 := hw1 ▸ below_self_drewN W n1
  clear hw1
  have HBa := hid (HB.out.trans (hb1.mono HB.out.size))
  by_cases e2 : x.says = y.says
  case neg =>
    have HF := hid (en_no (Or.inr (Or.inr (Or.inl e2))))
    rw [decide_eq_false e2]
    clear e2
    go_wp2
    go_ret
    exact ⟨ret_bool HF.out.symm, HBa.out⟩
  rw [decide_eq_true e2]
  have E2 := hid e2
  clear e2
  obtain ⟨c0, c1, c2, c3, c4⟩ := H1.out.below hb1
  obtain ⟨d0, d1, d2, d3, d4⟩ := H2.out.below hb1
  have HX1 := hid (HX.out.below hb1)
  have HY1 := hid (HY.out.below hb1)
  clear hb1
  go_wp2_with fail
  refine (ref6_SameTexts vU uU x.uses y.uses w1 HX1.out.u HY1.out.u).mono ?_
  rintro e w2 ⟨rfl, n2, hw2⟩
  have hb2 : Below w1.heap.size w1 w2 := hw2 ▸ below_self_drewN w1 n2
  clear hw2
  have HBb := hid (HBa.out.trans (hb2.mono HBa.out.size))
  by_cases e3 : x.uses = y.uses
  case neg =>
    have HF := hid (en_no (Or.inr (Or.inr (Or.inr (Or.inl e3)))))
    rw [decide_eq_false e3]
    clear e3
    go_wp2
    go_ret
    exact ⟨ret_bool HF.out.symm, HBb.out⟩
  rw [decide_eq_true e3]
  have E3 := hid e3
  clear e3
  have k1 := EB.below (x := x) ⟨c0, c1, c2, c3, c4⟩ hb2
  have k2 := EB.below (x := y) ⟨d0, d1, d2, d3, d4⟩ hb2
  clear c0 c1 c2 c3 c4 d0 d1 d2 d3 d4
  obtain ⟨c0, c1, c2, c3, c4⟩ := k1
  obtain ⟨d0, d1, d2, d3, d4⟩ := k2
  have HX2 := hid (HX1.out.below hb2)
  have HY2 := hid (HY1.out.below hb2)
  clear hb2
  go_wp2_with fail
  refine (ref6_SameProof vP uP x.proof y.proof w2 HX2.out.p HY2.out.p).mono ?_
  rintro e w3 ⟨rfl, n3, hw3⟩
  have HBc := hid (show Below w.heap.size w w3 from hw3 ▸ below_drewN HBb.out n3)
  have HF : Hid (decide (x = y) = decide (x.proof = y.proof)) := hid (by
    rw [Bool.eq_iff_iff, decide_eq_true_eq, decide_eq_true_eq, En.ext_iff']
    exact ⟨fun h => h.2.2.2.2, fun h => ⟨E0.out, E1.out, E2.out, E3.out, h⟩⟩)
  clear hw3
  go_wp2
  go_ret
  exact ⟨ret_bool HF.out.symm, HBc.out⟩
end Go.Proofs.YtlbjbmpkaniojaaGreat
namespace Go.Proofs.YtlbjbmpkaniojaaGreat
open Go Go.RowKit Go.Maps
set_option maxHeartbeats 400000 in
theorem sl_EqualN (v u : Value) (l m : List Nm) (w : World) (hv : TxtsAt w v l) (hu : TxtsAt w u m) :
    Calls Tryz.prog 88 #[v, u] w fun e w' => e = .returned (.bool (decide (l = m))) ∧ ∃ n, w' = w.drewN n := by
  obtain ⟨a, cap, rfl, h1, hl, h3, HC⟩ := hv.open
  obtain ⟨a', cap', rfl, h1', hl', h3', HD⟩ := hu.open
  have HC' := hid HC
  have HD' := hid HD
  clear HC hv h3 HD hu h3'
  by_cases hlen : l.length = m.length
  · have hne : (((l.length : Nat) : Int) != (m.length : Int)) = false := by simp [hlen]
    have HL := hid hlen
    clear hlen
    go_enter Tryz.func88, Tryz.ntmps88
    go_wp2
    go_loopw [13] (fun i wr => ∃ k q : Nat, k ≤ l.length ∧ i = .int .i64 k ∧ wr = w.drewN q ∧ l.take k = m.take k) (fun i _ => l.length - (intOf i).toNat)
    case atStart => exact ⟨0, 0, by omega, rfl, rfl, by simp⟩
    case round =>
      obtain ⟨k, q, hk, rfl, rfl, hrel⟩ := hrel
      have HR := hid hrel
      clear hrel
      by_cases hlt : k < l.length
      · obtain ⟨b, o, rfl, hcell⟩ := HC'.out k hlt
        have hlt' : k < m.length := by have := HL.out; omega
        obtain ⟨b', o', rfl, hcell'⟩ := HD'.out k hlt'
        have HT1 := hid (List.take_succ_eq_append_getElem hlt)
        have HT2 := hid (List.take_succ_eq_append_getElem hlt')
        have HG1 := hid (List.getElem?_eq_getElem hlt)
        have HG2 := hid (List.getElem?_eq_getElem hlt')
        obtain ⟨x, hx⟩ : ∃ x, l[k] = x := ⟨_, rfl⟩
        obtain ⟨y, hy⟩ : ∃ y, m[k] = y := ⟨_, rfl⟩
        rw [hx] at hcell HT1 HG1
        rw [hy] at hcell' HT2 HG2
        clear hx hy
        by_cases h2 : x = y
        · have HE := hid h2
          have q2 : (x.toList == y.toList) = true := by rw [bytes_eq]; simpa using h2
          have q3 : (x.toList != y.toList) = false := by rw [bne, q2]; rfl
          clear h2
          go_wp2
          go_quiet (fail)
          go_wp2
          go_roundw
          case rel => exact ⟨k + 1, _, by omega, by go_num, (by first | rfl | exact World.drewN_drewN _ _ _), by rw [HT1.out, HT2.out, HR.out, HE.out]⟩
          case measure => simp [intOf]; omega
        · have q2 : (x.toList == y.toList) = false := by rw [bytes_eq]; simpa using h2
          have q3 : (x.toList != y.toList) = true := by rw [bne, q2]; rfl
          have HF : Hid (decide (l = m) = false) := hid (by
            rw [decide_eq_false_iff_not]
            rintro rfl
            have := HG1.out.symm.trans HG2.out
            cases this
            exact h2 rfl)
          clear h2
          go_wp2
          go_quiet (fail)
          go_wp2
          go_ret
          exact ⟨ret_bool HF.out.symm, _, (by first | rfl | exact World.drewN_drewN _ _ _)⟩
      · have HF : Hid (decide (l = m) = true) := hid (by
          have h1 := HR.out
          have h2 := HL.out
          rw [List.take_of_length_le (by omega), List.take_of_length_le (by omega)] at h1
          simp [h1])
        go_wp2
        go_ret
        exact ⟨ret_bool HF.out.symm, _, rfl⟩
  · have hne : (((l.length : Nat) : Int) != (m.length : Int)) = true := by simp; omega
    have HF : Hid (decide (l = m) = false) := hid (by rw [decide_eq_false_iff_not]; rintro rfl; exact hlen rfl)
    clear hlen
    go_enter Tryz.func88, Tryz.ntmps88
    go_wp2
    go_ret
    exact ⟨ret_bool HF.out.symm, 0, rfl⟩
set_option maxHeartbeats 1000000 in
theorem sl_EqualP (v u : Value) (l m : List St) (w : World) (hv : StepsAt w v l) (hu : StepsAt w u m) :
    Calls Tryz.prog 89 #[v, u] w fun e w' => e = .returned (.bool (decide (l = m))) ∧ ∃ n, w' = w.drewN n := by
  obtain ⟨a, cap, rfl, h1, hl, h3, HC⟩ := hv.open
  obtain ⟨a', cap', rfl, h1', hl', h3', HD⟩ := hu.open
  have HC' := hid HC
  have HD' := hid HD
  clear HC hv h3 HD hu h3'
  by_cases hlen : l.length = m.length
  · have hne : (((l.length : Nat) : Int) != (m.length : Int)) = false := by simp [hlen]
    have HL := hid hlen
    clear hlen
    go_enter Tryz.func89, Tryz.ntmps89
    go_wp2
    go_loopw [13] (fun i wr => ∃ k q : Nat, k ≤ l.length ∧ i = .int .i64 k ∧ wr = w.drewN q ∧ l.take k = m.take k) (fun i _ => l.length - (intOf i).toNat)
    case atStart => exact ⟨0, 0, by omega, rfl, rfl, by simp⟩
    case round =>
      obtain ⟨k, q, hk, rfl, rfl, hrel⟩ := hrel
      have HR := hid hrel
      clear hrel
      by_cases hlt : k < l.length
      · obtain ⟨b, o, rfl, c0, c1, c2⟩ := HC'.out k hlt
        have hlt' : k < m.length := by have := HL.out; omega
        obtain ⟨b', o', rfl, d0, d1, d2⟩ := HD'.out k hlt'
        have HT1 := hid (List.take_succ_eq_append_getElem hlt)
        have HT2 := hid (List.take_succ_eq_append_getElem hlt')
        have HG1 := hid (List.getElem?_eq_getElem hlt)
        have HG2 := hid (List.getElem?_eq_getElem hlt')
        obtain ⟨⟨x0, x1, x2⟩, hx⟩ : ∃ x, l[k] = x := ⟨_, rfl⟩
        obtain ⟨⟨y0, y1, y2⟩, hy⟩ : ∃ y, m[k] = y := ⟨_, rfl⟩
        rw [hx] at c0 c1 c2 HT1 HG1
        rw [hy] at d0 d1 d2 HT2 HG2
        simp only at c0 c1 c2 d0 d1 d2
        clear hx hy
        by_cases e0 : x0 = y0
        · have q0 : (x0 == y0) = true := by simpa using e0
          by_cases e1 : x1 = y1
          · have q1 : (x1 == y1) = true := by simpa using e1
            by_cases e2 : x2 = y2
            · have q2 : (x2 == y2) = true := by simpa using e2
              have E0 := hid e0
              have E1 := hid e1
              have E2 := hid e2
              clear e0 e1 e2
              go_wp2
              go_quiet (fail)
              go_wp2
              go_roundw
              case rel => exact ⟨k + 1, _, by omega, by go_num, (by first | rfl | exact World.drewN_drewN _ _ _), by rw [HT1.out, HT2.out, HR.out, E0.out, E1.out, E2.out]⟩
              case measure => simp [intOf]; omega
            · have q2 : (x2 == y2) = false := by simpa using e2
              have HF : Hid (decide (l = m) = false) := hid (by
                rw [decide_eq_false_iff_not]
                rintro rfl
                have := HG1.out.symm.trans HG2.out
                cases this
                exact e2 rfl)
              clear e0 e1 e2
              go_wp2
              go_quiet (fail)
              go_wp2
              go_ret
              exact ⟨ret_bool HF.out.symm, _, (by first | rfl | exact World.drewN_drewN _ _ _)⟩
          · have q1 : (x1 == y1) = false := by simpa using e1
            have HF : Hid (decide (l = m) = false) := hid (by
              rw [decide_eq_false_iff_not]
              rintro rfl
              have := HG1.out.symm.trans HG2.out
              cases this
              exact e1 rfl)
            clear e0 e1
            go_wp2
            go_quiet (fail)
            go_wp2
            go_ret
            exact ⟨ret_bool HF.out.symm, _, (by first | rfl | exact World.drewN_drewN _ _ _)⟩
        · have q0 : (x0 == y0) = false := by simpa using e0
          have HF : Hid (decide (l = m) = false) := hid (by
            rw [decide_eq_false_iff_not]
            rintro rfl
            have := HG1.out.symm.trans HG2.out
            cases this
            exact e0 rfl)
          clear e0
          go_wp2
          go_quiet (fail)
          go_wp2
          go_ret
          exact ⟨ret_bool HF.out.symm, _, (by first | rfl | exact World.drewN_drewN _ _ _)⟩
      · have HF : Hid (decide (l = m) = true) := hid (by
          have h1 := HR.out
          have h2 := HL.out
          rw [List.take_of_length_le (by omega), List.take_of_length_le (by omega)] at h1
          simp [h1])
        go_wp2
        go_ret
        exact ⟨ret_bool HF.out.symm, _, rfl⟩
  · have hne : (((l.length : Nat) : Int) != (m.length : Int)) = true := by simp; omega
    have HF : Hid (decide (l = m) = false) := hid (by rw [decide_eq_false_iff_not]; rintro rfl; exact hlen rfl)
    clear hlen
    go_enter Tryz.func89, Tryz.ntmps89
    go_wp2
    go_ret
    exact ⟨ret_bool HF.out.symm, 0, rfl⟩
set_option maxHeartbeats 2000000 in
theorem blame_Same (vS vU vP uS uU uP : Value) (x y : En) (w : World) (hx : EntAt w vS vU vP x) (hy : EntAt w uS uU uP y) :
    Calls Tryz.prog 35 #[.agg #[.string x.name, .string x.who, vS, vU, vP], .agg #[.string y.name, .string y.who, uS, uU, uP]] w fun e w' => e = .returned (.bool (decide (x = y))) ∧ Below w.heap.size w w' := by
  have E1 := EB.new w x vS vU vP 41
  have hb1 : Below w.heap.size w (w.alloc (.cells #[.string x.name, .string x.who, vS, vU, vP] 41)) := (Below.refl _ _).alloc (Nat.le_refl _) _
  obtain ⟨V, hV⟩ : ∃ V, w.alloc (.cells #[.string x.name, .string x.who, vS, vU, vP] 41) = V := ⟨_, rfl⟩
  have hVz : V.heap.size = w.heap.size + 1 := by rw [← hV]; simp
  rw [hV] at E1 hb1
  have E2 := EB.new V y uS uU uP 41
  have hb2 : Below V.heap.size V (V.alloc (.cells #[.string y.name, .string y.who, uS, uU, uP] 41)) := (Below.refl _ _).alloc (Nat.le_refl _) _
  have E1' := E1.below hb2
  obtain ⟨W, hW⟩ : ∃ W, V.alloc (.cells #[.string y.name, .string y.who, uS, uU, uP] 41) = W := ⟨_, rfl⟩
  rw [hW] at E2 E1' hb2
  have hb : Below w.heap.size w W := hb1.trans (hb2.mono hb1.size)
  rw [hVz] at E2
  have HWE : Hid ((w.alloc (.cells #[.string x.name, .string x.who, vS, vU, vP] 41)).alloc (.cells #[.string y.name, .string y.who, uS, uU, uP] 41) = W) := hid (by rw [hV, hW])
  have H1 := hid E1'
  have H2 := hid E2
  have HX := hid (show EntAt W vS vU vP x from (hx.below hb))
  have HY := hid (show EntAt W uS uU uP y from (hy.below hb))
  have HB := hid hb
  clear E1 E1' E2 hb1 hb2 hx hy hb hV hW hVz
  by_cases e0 : x.name = y.name
  case neg =>
    have HF := hid (en_no (Or.inl e0))
    have q0 : (x.name.toList == y.name.toList) = false := by rw [bytes_eq]; simpa using e0
    clear e0
    go_enter Tryz.func35, Tryz.ntmps35
    go_wp2
    rw [HWE.out]
    go_ret
    exact ⟨ret_bool HF.out.symm, HB.out⟩
  have q0 : (x.name.toList == y.name.toList) = true := by rw [bytes_eq]; simpa using e0
  have E0 := hid e0
  clear e0
  by_cases e1 : x.who = y.who
  case neg =>
    have HF := hid (en_no (Or.inr (Or.inl e1)))
    have q1 : (x.who.toList == y.who.toList) = false := by rw [bytes_eq]; simpa using e1
    clear e1
    go_enter Tryz.func35, Tryz.ntmps35
    go_wp2
    rw [HWE.out]
    go_ret
    exact ⟨ret_bool HF.out.symm, HB.out⟩
  have q1 : (x.who.toList == y.who.toList) = true := by rw [bytes_eq]; simpa using e1
  have E1 := hid e1
  clear e1
  go_enter Tryz.func35, Tryz.ntmps35
  go_wp2_with fail
  rw [HWE.out]
  refine (sl_EqualT vS uS x.says y.says W HX.out.s HY.out.s).mono ?_
  rintro e w1 ⟨rfl, n1, hw1⟩
  have hb1 : Below W.heap.size W w1 := hw1 ▸ below_self_drewN W n1
  clear hw1
  have HBa := hid (HB.out.trans (hb1.mono HB.out.size))
  by_cases e2 : x.says = y.says
  case neg =>
    have HF := hid (en_no (Or.inr (Or.inr (Or.inl e2))))
    rw [decide_eq_false e2]
    clear e2
    go_wp2
    go_ret
    exact ⟨ret_bool HF.out.symm, HBa.out⟩
  rw [decide_eq_true e2]
  have E2 := hid e2
  clear e2
  obtain ⟨c0, c1, c2, c3, c4⟩ := H1.out.below hb1
  obtain ⟨d0, d1, d2, d3, d4⟩ := H2.out.below hb1
  have HX1 := hid (HX.out.below hb1)
  have HY1 := hid (HY.out.below hb1)
  clear hb1
  go_wp2_with fail
  refine (sl_EqualN vU uU x.uses y.uses w1 HX1.out.u HY1.out.u).mono ?_
  rintro e w2 ⟨rfl, n2, hw2⟩
  have hb2 : Below w1.heap.size w1 w2 := hw2 ▸ below_self_drewN w1 n2
  clear hw2
  have HBb := hid (HBa.out.trans (hb2.mono HBa.out.size))
  by_cases e3 : x.uses = y.uses
  case neg =>
    have HF := hid (en_no (Or.inr (Or.inr (Or.inr (Or.inl e3)))))
    rw [decide_eq_false e3]
    clear e3
    go_wp2
    go_ret
    exact ⟨ret_bool HF.out.symm, HBb.out⟩
  rw [decide_eq_true e3]
  have E3 := hid e3
  clear e3
  have k1 := EB.below (x := x) ⟨c0, c1, c2, c3, c4⟩ hb2
  have k2 := EB.below (x := y) ⟨d0, d1, d2, d3, d4⟩ hb2
  clear c0 c1 c2 c3 c4 d0 d1 d2 d3 d4
  obtain ⟨c0, c1, c2, c3, c4⟩ := k1
  obtain ⟨d0, d1, d2, d3, d4⟩ := k2
  have HX2 := hid (HX1.out.below hb2)
  have HY2 := hid (HY1.out.below hb2)
  clear hb2
  go_wp2_with fail
  refine (sl_EqualP vP uP x.proof y.proof w2 HX2.out.p HY2.out.p).mono ?_
  rintro e w3 ⟨rfl, n3, hw3⟩
  have HBc := hid (show Below w.heap.size w w3 from hw3 ▸ below_drewN HBb.out n3)
  have HF : Hid (decide (x = y) = decide (x.proof = y.proof)) := hid (by
    rw [Bool.eq_iff_iff, decide_eq_true_eq, decide_eq_true_eq, En.ext_iff']
    exact ⟨fun h => h.2.2.2.2, fun h => ⟨E0.out, E1.out, E2.out, E3.out, h⟩⟩)
  clear hw3
  go_wp2
  go_ret
  exact ⟨ret_bool HF.out.symm, HBc.out⟩
end Go.Proofs.YtlbjbmpkaniojaaGreat
