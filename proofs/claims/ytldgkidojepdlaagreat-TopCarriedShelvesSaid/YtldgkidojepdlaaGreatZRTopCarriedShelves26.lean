/-
  WHAT IT HOLDS: contract of the iterator that steps of package kernel hands back. Conditions: the arguments read as data; a valid proof of valid givens; a small sign.
  WHAT IT HOLDS: contracts of within, ascending, order, Valid, single, OneToOne of package tongue (dictionaries), and of slices.Sort at []int. Conditions: the arguments read as data; small signs and lists.
-/
import Derived.Stop.RegionWithIn
import Derived.Deep.RegionHeld3
import Derived.Test.YtldgkidojepdlaaGreatZRTopCarriedShelves22
import Derived.Test.YtldgkidojepdlaaGreatZRTopCarriedShelves17
import Derived.Test.YtldgkidojepdlaaGreatZRTopCarriedShelves18
import Derived.Test.YtldgkidojepdlaaGreatZRTopCarriedShelves15
import Derived.Test.YtldgkidojepdlaaGreatZRTopCarriedShelves24
import Derived.Test.YtldgkidojepdlaaGreatZRTopCarriedShelves3
import Derived.Test.YtldgkidojepdlaaGreatZRTopCarriedShelves20
import Derived.Test.YtldgkidojepdlaaGreatZRTopCarriedShelves25
namespace Go.Proofs.YtldgkidojepdlaaGreat
open Go Go.RowKit Go.Maps Go.Shelf
attribute [local go_sem] Oper.semAt_some
theorem roundIn_any2 {n m : Nat} {P : Program} {l : Nat} {f : FuncId} {tmps : Array Value} {a b : Code} {w : World} {R : Ending → World → Prop} (h : RoundIn Fence.wide n P l f tmps a b w R) : RoundIn Fence.wide m P l f tmps a b w R := ⟨trivial, fun c cs _ => h.2 c cs (room_wide _)⟩
/-- what the iterator yields: the value, the term that it reads as, and the error. -/
abbrev KE := Value × List Int × Int
def keX (x : KE) : Array Value := #[.agg #[x.1, .int .i64 x.2.2]]
/-- what a step says where l was said. -/
def sayR (s : Sg) (g l : List (List Int)) (x : St) (y : List Int × Int) : Prop :=
  if x.1 = 1 then y = (canonL (g.getD x.2.1.toNat []), 0) else DetR s (l.getD x.2.1.toNat []) (l.getD x.2.2.toNat []) y
def keE (s : Sg) (g : List (List Int)) (p : List St) (pre : List KE) (x : KE) (M O : Nat → Prop) (W : World) : Prop :=
  (∀ y ∈ pre, y.2.2 = 0) ∧ (∃ st, p[pre.length]? = some st ∧ sayR s g (pre.map fun y => y.2.1) st (x.2.1, x.2.2)) ∧ Safe (fun k => M k ∨ O k) (fun W => Ints W x.1 x.2.1) W
def keS (p : List St) (xs : List KE) : Prop := xs.length = p.length ∨ ∃ y ∈ xs, y.2.2 ≠ 0
theorem ownsRow_frm2 {w w' : World} {b : Nat} {e : TypeId} {k : Nat} {v : Value} {n : Nat} {xs : List Value} (h : w.ownsRow b e k v n xs) (hs : ∀ q, v.ownBlock = some q → w'.heap[q]? = w.heap[q]?) : w'.ownsRow b e k v n xs := by
  obtain ⟨h1, h2⟩ := h
  refine ⟨h1, ?_⟩
  rcases h2 with h2 | ⟨g, cap, cur, r1, r2, r3, r4⟩
  · exact .inl h2
  · subst r1
    exact .inr ⟨g, cap, cur, rfl, r2, by rw [hs g rfl]; exact r3, r4⟩
theorem ownsRow_slice2 {w : World} {b : Nat} {e : TypeId} {k : Nat} {v : Value} {n : Nat} {xs : List Value} (h : w.ownsRow b e k v n xs) : ∃ a c, v = .slice a n c := by
  obtain ⟨h1, h2⟩ := h
  rcases h2 with h2 | ⟨g, cap, cur, r1, r2, r3, r4⟩
  · exact ⟨none, 0, by simp_all⟩
  · exact ⟨_, _, r1⟩
/-- the two functions that say what a step says, in one form. -/
def SayC (F : Nat) (args : Array Value) (s : Sg) (g l : List (List Int)) (st : St) (X : World) : Prop :=
  Calls Tryz.prog F args X fun e w' => ∃ x u, sayR s g l st x ∧ e = .returned (.tuple #[u, .int .i64 x.2]) ∧ w'.ownsRow X.heap.size 3 1 u x.1.length (x.1.map (Value.int .i64)) ∧ Below X.heap.size X w'
theorem say_len {s : Sg} {g l : List (List Int)} {st : St} {y : List Int × Int} (ha : givensB s g = true) (h : sayR s g l st y) : y.1.length ≤ 60 := by
  unfold sayR at h
  by_cases h1 : st.1 = 1
  · rw [if_pos h1] at h
    subst h
    rw [canonL_len, List.getD_eq_getElem?_getD]
    cases h2 : g[st.2.1.toNat]? with
    | none => simp
    | some t =>
      unfold givensB at ha
      simp only [Bool.and_eq_true] at ha
      have h3 := ha.2
      unfold allB at h3
      rw [List.all_eq_true] at h3
      exact (termB_facts (h3 t (List.mem_of_getElem? h2))).2.2.2
  · rw [if_neg h1] at h
    rcases h with ⟨-, rfl⟩ | ⟨-, -, ⟨-, rfl⟩ | ⟨A, B, -, -, -, ⟨-, rfl⟩ | ⟨m, -, ⟨hb, rfl⟩ | ⟨-, rfl⟩⟩⟩⟩
    · simp
    · simp
    · simp
    · rw [canonL_len]; exact (madeB_iff.1 hb).1
    · simp
theorem right_kind {g k : Int} {st : St} (h : rightB g k st = true) : st.1 = 1 ∨ st.1 = 2 := by
  unfold rightB at h
  by_cases h1 : st.1 = 1
  · exact Or.inl h1
  · rw [if_neg h1] at h
    by_cases h2 : st.1 = 2
    · exact Or.inr h2
    · rw [if_neg h2] at h; cases h
theorem proof60 {g : Int} {p : List St} (h : proofB g p = true) : p.length ≤ 60 := by
  unfold proofB at h
  simp only [Bool.and_eq_true] at h
  have := (inB_true.1 h.2).2
  omega
theorem asked_parts {s : Sg} {g : List (List Int)} {p : List St} (h : askedB s g p = true) : givensB s g = true ∧ proofB g.length p = true := by
  unfold askedB at h
  simpa using h
end Go.Proofs.YtldgkidojepdlaaGreat
namespace Go.Proofs.YtldgkidojepdlaaGreat
open Go Go.RowKit Go.Maps Go.Shelf
theorem kb_sortW {α : Type} [Inhabited α] (enc : α → Value) (w : World) (g m : Nat) (d : Array α) (os : Array Obj) : Kb (fun k => k = g) w (Go.Sort.grow (Go.Sort.putRow enc (Go.Sort.ahead w m) g 0 d) os) := by
  have hsz : (Go.Sort.putRow enc (Go.Sort.ahead w m) g 0 d).heap.size = w.heap.size := by rw [Go.Sort.size_putRow]; rfl
  refine ⟨rfl, rfl, rfl, ?_, fun k hk hne => ?_⟩
  · unfold Go.Sort.grow
    simp only [Array.size_append, hsz]
    omega
  · unfold Go.Sort.grow
    simp only
    rw [Array.getElem?_append_left (by rw [hsz]; exact hk)]
    unfold Go.Sort.putRow Go.Sort.mapBlock
    simp only [Array.getElem?_modify]
    rw [if_neg (fun e => hne e.symm)]
    rfl
theorem own_sortW {α : Type} [Inhabited α] (enc : α → Value) {w : World} {base g n c : Nat} {E : TypeId} {xs : List Value} (h : w.ownsRow base E 1 (.slice (some ⟨g, 0, none⟩) n c) n xs) (m : Nat) (d : Array α) (hd : d.size = n) (os : Array Obj) :
    (Go.Sort.grow (Go.Sort.putRow enc (Go.Sort.ahead w m) g 0 d) os).ownsRow base E 1 (.slice (some ⟨g, 0, none⟩) n c) n (d.toList.map enc) := by
  obtain ⟨h1, h2⟩ := h
  refine ⟨by simp [hd], ?_⟩
  rcases h2 with ⟨h2, -⟩ | ⟨g', cap, cur, r1, r2, r3, r4, r5, r6, r7⟩
  · cases h2
  · cases r1
    refine .inr ⟨g, c, Go.Sort.putCells enc 0 d cur, rfl, r2, ?_, r4, r5, ?_, ?_⟩
    · unfold Go.Sort.grow
      simp only
      have hlt := (Array.getElem?_eq_some_iff.1 r3).1
      rw [Array.getElem?_append_left (by rw [Go.Sort.size_putRow]; exact hlt)]
      unfold Go.Sort.putRow Go.Sort.mapBlock
      simp only [Array.getElem?_modify]
      rw [if_pos trivial]
      show Option.map _ (w.heap[g]?) = _
      rw [r3]
      rfl
    · unfold Go.Sort.putCells; simpa using r6
    · apply List.ext_getElem?
      intro i
      rw [List.getElem?_take, List.getElem?_map]
      by_cases hi : i < n
      · rw [if_pos (by omega)]
        unfold Go.Sort.putCells
        rw [Array.getElem?_toList, Array.getElem?_mapIdx, Array.getElem?_eq_getElem (show i < cur.size by omega), Array.getElem?_toList, Array.getElem?_eq_getElem (show i < d.size by omega)]
        simp only [Option.map_some]
        rw [if_pos ⟨Nat.zero_le _, by omega⟩, getElem!_pos d (i - 0) (by omega)]
        rfl
      · rw [if_neg (by omega), Array.getElem?_toList, Array.getElem?_eq_none (by omega)]
        rfl
/-- the numbers in order. -/
def srtI (l : List Int) : List Int := l.mergeSort fun x y => decide (x ≤ y)
theorem srtI_len (l : List Int) : (srtI l).length = l.length := (List.mergeSort_perm l _).length_eq
theorem sl_SortI (base : Nat) (v : Value) (l : List Int) (w : World) (hown : w.ownsRow base 3 1 v l.length (l.map (Value.int .i64))) (hl : l.length ≤ 100000) :
    Calls Tryz.prog 56 #[v] w fun e w' => e = .returned (.tuple #[]) ∧ w'.ownsRow base 3 1 v l.length ((srtI l).map (Value.int .i64)) ∧ Kb (fun k => v.ownBlock = some k) w w' := by
  by_cases h0 : l.length = 0
  · obtain rfl : l = [] := List.length_eq_zero_iff.1 h0
    obtain ⟨a, c, rfl⟩ := ownsRow_slice2 hown
    have hcon := AnyM.slices_Sort_int_none Tryz.sorto56 a c w
    change Calls Tryz.prog 56 _ _ _ at hcon
    refine hcon.mono ?_
    rintro e w' ⟨rfl, rfl⟩
    exact ⟨rfl, by simpa [srtI] using hown, Kb.refl _ _⟩
  · obtain ⟨g, c, rfl, -, -⟩ := owns_some hown (by omega)
    have hH : Go.Sort.Holds (Value.int .i64) w g 0 l.toArray := fun j hj => by
      have hj : j < l.length := by simpa using hj
      have hc := hown.cellAt j (by omega)
      rw [List.getElem?_map, List.getElem?_eq_getElem hj] at hc
      refine ⟨?_, by rw [Nat.zero_add]; exact hown.frozenAt j⟩
      rw [Nat.zero_add, getElem!_pos _ j (by simpa using hj)]
      simpa using hc
    have hcon := AnyM.slices_Sort_int Tryz.sorto56 g 0 c l w hH (hown.lt g rfl).2 (by omega)
    change Calls Tryz.prog 56 _ _ _ at hcon
    refine hcon.mono ?_
    rintro e w' ⟨rfl, m, os, rfl⟩
    refine ⟨rfl, ?_, ?_⟩
    · have := own_sortW (Value.int .i64) hown m (srtI l).toArray (by simp [srtI_len]) os
      exact this
    · exact (kb_sortW (Value.int .i64) w g m _ os).mono fun k _ h => by rw [h]; rfl
theorem srt_eq {l : List Int} : srtI l = ascL l.length ↔ ordB l = true := by
  rw [ordB_iff]
  constructor
  · intro h
    have := List.mergeSort_perm l fun x y => decide (x ≤ y)
    unfold srtI at h
    rw [h] at this
    exact this.symm
  · intro h
    have h1 : (srtI l).Perm (ascL l.length) := (List.mergeSort_perm l _).trans h
    refine h1.eq_of_pairwise (le := fun a b => a ≤ b) (fun a b _ _ h1 h2 => Int.le_antisymm h1 h2) ?_ ?_
    · have := List.pairwise_mergeSort (le := fun x y : Int => decide (x ≤ y)) (by intro a b c h1 h2; simp at *; omega) (by intro a b; simp; omega) l
      unfold srtI
      refine this.imp ?_
      intro a b h
      simpa using h
    · unfold ascL
      rw [List.pairwise_map]
      refine List.Pairwise.imp ?_ List.pairwise_lt_range
      intro a b h; omega
theorem ascL_succ (n : Nat) : ascL (n + 1) = ascL n ++ [(n : Int)] := by simp [ascL, List.range_succ]
set_option maxHeartbeats 1000000 in
theorem tongue_ascending (n : Nat) (w : World) (hn : n ≤ 1000) :
    Calls Tryz.prog 57 #[.int .i64 n] w fun e w' => ∃ u, e = .returned u ∧ w'.ownsRow w.heap.size 3 1 u (ascL n).length ((ascL n).map (Value.int .i64)) ∧ Below w.heap.size w w' := by
  go_enter Tryz.func57, Tryz.ntmps57
  go_wp2
  go_loopw [3, 6] (fun u i wr => ∃ k : Nat, k ≤ n ∧ i = .int .i64 k ∧ wr.ownsRow w.heap.size 3 1 u (ascL k).length ((ascL k).map (Value.int .i64)) ∧ Below w.heap.size w wr) (fun _ i _ => n - (intOf i).toNat)
  case atStart => exact ⟨0, by omega, rfl, World.ownsRow_nil _ _ _ _, Below.refl _ _⟩
  case round =>
    obtain ⟨k, hk, rfl, hown, hb⟩ := hrel
    have hsz := hb.size
    by_cases hlt : k < n
    · have hb1 : Below wr.heap.size wr (wr.alloc (.cells #[.int .i64 k] 3)) := (Below.refl _ _).alloc (Nat.le_refl _) _
      have HOWN := hid (owns_below hown hb1)
      have HB := hid (hb.trans (hb1.mono hsz))
      have hob := hid (fun q hq => (hown.lt q hq).1)
      have HSRC := hid (row_one_new wr (.int .i64 k) 3)
      have hka := ascL_len k
      have HAS := hid (ascL_succ k)
      have HLEN := hid hka
      clear hown hb hb1 hka
      go_wp2_with (at_builtin; refine wpList_append_row rfl _ _ 28 rfl w.heap.size 3 el_int Tryz.underlying28 rfl (by decide) _ _ _ rfl HOWN.out _ 1 [.int .i64 k] rfl HSRC.out (by simp [Value.oneCell']) (by rw [HLEN.out]; omega) (by rw [HLEN.out]; omega) (by simp; omega) ?_; intro v' w4 hown4 hgrow4 _)
      go_roundw
      case rel =>
        refine ⟨k + 1, by omega, by go_num, ?_, HB.out.grown hgrow4 (by have := HB.out.size; omega) hob.out⟩
        rw [HAS.out]
        simpa using hown4
      case measure => simp [intOf]; omega
    · have hkn : k = n := by omega
      subst hkn
      go_wp2
      go_ret
      exact ⟨_, rfl, hown, hb⟩
theorem tongue_order (v : Value) (l : List Int) (w : World) (hv : Ints w v l) (hl : l.length ≤ 100) :
    Calls Tryz.prog 37 #[v] w fun e w' => e = .returned (.bool (ordB l)) ∧ Below w.heap.size w w' := by
  obtain ⟨a, cap, rfl, -⟩ := hv.open
  have HC := hid (sl_CloneI _ l w hv (by omega))
  have HORD : Hid (decide (srtI l = ascL l.length) = ordB l) := hid (by rw [Bool.eq_iff_iff, decide_eq_true_eq]; exact srt_eq)
  clear hv
  go_enter Tryz.func37, Tryz.ntmps37
  go_wp2_with fail
  refine HC.out.mono ?_
  rintro e w1 ⟨u, rfl, hown, hb1⟩
  have HS := hid (sl_SortI _ u l w1 hown (by omega))
  clear hown
  go_wp2_with fail
  refine HS.out.mono ?_
  rintro e w2 ⟨rfl, hown2, hk2⟩
  have hb2 : Below w.heap.size w w2 := hb1.trans (hk2.below hb1.size fun k hk => (hown2.lt k hk).1)
  have HB2 := hid hb2
  have HO2 := hid hown2
  clear hb2 hb1 hk2 hown2 HC HS
  go_wp2_with fail
  refine (tongue_ascending l.length w2 (by omega)).mono ?_
  rintro e w3 ⟨u3, rfl, hown3, hb3⟩
  have I2 := hid (Ints.of_owns (xs := srtI l) (by rw [srtI_len]; exact owns_below HO2.out hb3) (by rw [srtI_len]; omega))
  have I3 := hid (Ints.of_owns hown3 (by rw [ascL_len]; omega))
  have HB3 := hid (HB2.out.trans (hb3.mono HB2.out.size))
  clear hown3 hb3
  go_wp2_with fail
  refine (sl_EqualI _ _ _ _ _ I2.out I3.out).mono ?_
  rintro e w4 ⟨rfl, nq, rfl⟩
  go_wp2
  go_ret
  exact ⟨ret_bool HORD.out, below_drewN HB3.out nq⟩
theorem tongue_within (n lo hi : Int) (w : World) :
    Calls Tryz.prog 36 #[.int .i64 n, .int .i64 lo, .int .i64 hi] w fun e w' => e = .returned (.bool (inB n lo hi)) ∧ w = w' := by
  unfold inB
  by_cases h1 : lo ≤ n
  · by_cases h2 : n ≤ hi
    · go_enter Tryz.func36, Tryz.ntmps36
      go_wp2
      go_ret
      exact ⟨by simp [h1, h2], rfl⟩
    · go_enter Tryz.func36, Tryz.ntmps36
      go_wp2
      go_ret
      exact ⟨by simp [h1, h2], rfl⟩
  · go_enter Tryz.func36, Tryz.ntmps36
    go_wp2
    go_ret
    exact ⟨ret_bool (by simp; omega), rfl⟩
end Go.Proofs.YtldgkidojepdlaaGreat
