/-
  WHAT IT HOLDS: the contract of the step of package unify's join that names a pair of parts (in its closure). Conditions: the arguments read as data; the parts are terms; at most 500 pairs are named.
-/
import Derived.DeepKeys4
import Derived.StillTailTactics
import Derived.Laws.EntriesVeiled
import Derived.Test.YtldgkidojepdlaaGreatZRTopCarriedShelves10
import Derived.Test.YtldgkidojepdlaaGreatZRTopCarriedShelves6
namespace Go.Proofs.YtldgkidojepdlaaGreat
open Go Go.RowKit Go.Maps
theorem laidOut0 : laidOutB Tryz.prog = true := by kernel_rfl
theorem two_row : (108 : TypeId) < Tryz.prog.types.size := of_decide_eq_true (by kernel_rfl)
theorem two_wide : (match Tryz.prog.underlying 108 with | some (.array _ _) | some (.struct _) => true | _ => false) = true := by kernel_rfl
set_option maxRecDepth 100000 in
theorem two_keyed : Keyed Tryz.prog 108 := Keyed.of_law (deep_law_laid laidOut0 (m := 2) (by omega) two_row (by kernel_rfl) two_wide)
theorem two_keyT : Tryz.prog.keyType 108 = true := by kernel_rfl
theorem two_cells : Tryz.prog.cellsOf 108 = 2 := by kernel_rfl
theorem str_cells : Tryz.prog.cellsOf 9 = 1 := by kernel_rfl
theorem str_lits (d : Nat) (a : ByteArray) (ha : a.size ≤ maxLen) : Tryz.prog.keyLits (d + 1) 9 [.string a] = some [.string a.data.toList] := by
  unfold Program.keyLits
  rw [Tryz.underlying9]
  simp [ha]
theorem two_key (a b : ByteArray) (ha : a.size ≤ maxLen) (hb : b.size ≤ maxLen) : ∃ l, keyOf Tryz.prog 108 (.agg #[.string a, .string b]) = some l := by
  obtain ⟨d, hd⟩ : ∃ d, Tryz.prog.types.size = d + 1 := ⟨Tryz.prog.types.size - 1, by have h : (108 : Nat) < Tryz.prog.types.size := two_row; omega⟩
  unfold keyOf
  rw [Tryz.underlying108]
  simp only [two_keyT, Value.formed, Tryz.underlying108, two_cells, Value.cells, Bool.true_and]
  unfold Program.keyLits
  rw [Tryz.underlying108, hd]
  simp only [two_cells, str_cells, List.mapM_cons, List.mapM_nil, List.drop_zero, List.take_succ_cons, List.take_zero, List.drop_succ_cons, str_lits d a ha, str_lits d b hb, List.length_cons, List.length_nil]
  exact ⟨_, by rw [if_pos (by rfl), if_pos ⟨trivial, by simp⟩]; rfl⟩
def ek2 (k : KK) : Value := .agg #[.string ⟨k.1.toArray⟩, .string ⟨k.2.toArray⟩]
theorem ek2_inj : ∀ x y : KK, ek2 x = ek2 y → x = y := by
  intro x y h
  unfold ek2 at h
  simp at h
  exact Prod.ext h.1 h.2
theorem ek2_key (k : KK) (h1 : k.1.length ≤ 1000) (h2 : k.2.length ≤ 1000) : ∃ l, keyOf Tryz.prog 108 (ek2 k) = some l :=
  two_key _ _ (by simp [ByteArray.size, maxLen]; omega) (by simp [ByteArray.size, maxLen]; omega)
theorem zero_int (w : World) : (zeroValue 3).run Tryz.prog w = .ok (.int .i64 0) w := by kernel_rfl
abbrev JMap (w : World) (bm : Nat) (σ : List KK) : Prop := MapK Tryz.prog 108 ek2 (Value.int .i64) w bm σ.length (mapK σ)
theorem mapK_yes {σ : List KK} {k : KK} (h : k ∈ σ) : mapK σ k = some (numK σ k) := by unfold mapK; rw [if_pos h]
theorem mapK_no {σ : List KK} {k : KK} (h : k ∉ σ) : mapK σ k = none := by unfold mapK; rw [if_neg h]
theorem insK_yes {σ : List KK} {k : KK} (h : k ∈ σ) : insK σ k = σ := by unfold insK; rw [if_pos h]
theorem insK_no {σ : List KK} {k : KK} (h : k ∉ σ) : insK σ k = σ ++ [k] := by unfold insK; rw [if_neg h]
theorem numK_no {σ : List KK} {k : KK} (h : k ∉ σ) : numK σ k = -(σ.length : Int) - 1 := by unfold numK; rw [List.idxOf_eq_length h]
theorem jmap_ins {W2 : World} {bm : Nat} {σ : List KK} {k : KK} (h1 : mapK σ k = none) (h2 : (fun y => if y = k then some (numK σ k) else mapK σ y) = mapK (insK σ k)) (h3 : insK σ k = σ ++ [k])
    (h : MapK Tryz.prog 108 ek2 (Value.int .i64) W2 bm (if (mapK σ k).isSome then σ.length else σ.length + 1) (fun y => if y = k then some (numK σ k) else mapK σ y)) : JMap W2 bm (insK σ k) := by
  rw [h1, h2] at h
  unfold JMap
  rw [show (insK σ k).length = σ.length + 1 by rw [h3]; simp]
  exact h
set_option maxHeartbeats 1000000 in
set_option maxRecDepth 100000 in
theorem join1_miss (s : Sg) (vs va vb : Value) (pn ps pw bm : Nat) (a b : List Int) (x y : Int) (σ : List KK) (w : World) (ha : Ints w va a) (hb : Ints w vb b) (hx : a.head? = some x) (hy : b.head? = some y) (hd : ¬ (x = y ∧ 0 ≤ x))
    (hra : ∀ z ∈ a, -12 ≤ z ∧ z ≤ 200) (hrb : ∀ z ∈ b, -12 ≤ z ∧ z ≤ 200) (hla : a.length ≤ 1000) (hlb : b.length ≤ 1000) (hσ : σ.length ≤ 500)
    (cn : w.cell? ⟨pn, 0, none⟩ = some (.map (some bm))) (hm : JMap w bm σ) :
    Calls Tryz.prog 70 #[va, vb, .pointer (some ⟨pn, 0, none⟩), .pointer (some ⟨ps, 0, none⟩), .pointer (some ⟨pw, 0, none⟩)] w
      fun e w' => ∃ u, e = .returned u ∧ w'.ownsRow w.heap.size 3 1 u 1 [.int .i64 (numK σ (keyL a, keyL b))] ∧ JMap w' bm (insK σ (keyL a, keyL b)) ∧ w.grownBy w' (some bm) := by
  obtain ⟨aa, acap, rfl, ha1, ha2, _, AC⟩ := ha.open
  obtain ⟨ba, bcap, rfl, hb1, hb2, _, BC⟩ := hb.open
  have ha0 : 0 < a.length := by cases a <;> simp at hx ⊢
  have hb0 : 0 < b.length := by cases b <;> simp at hy ⊢
  obtain ⟨ab, ao, rfl, ca⟩ := AC 0 ha0
  obtain ⟨bb, bo, rfl, cb⟩ := BC 0 hb0
  have hx' : a[0] = x := by cases a with
    | nil => simp at hx
    | cons z r => simpa using hx
  have hy' : b[0] = y := by cases b with
    | nil => simp at hy
    | cons z r => simpa using hy
  rw [hx'] at ca
  rw [hy'] at cb
  simp only [Nat.add_zero] at ca cb
  have HRA := hid hra
  have HRB := hid hrb
  clear AC BC hx hy hx' hy' hra hrb
  have hdec : decide (x < 0) = true ∨ (decide (x < 0) = false ∧ (x != y) = true) := by
    by_cases h : x < 0
    · left; simp [h]
    · right
      refine ⟨by simp; omega, ?_⟩
      simp [bne]; omega
  clear hd
  rcases hdec with hdx | ⟨hdx, hne⟩
  all_goals
    go_enter Tryz.func70, Tryz.ntmps70
    go_wp2
    go_quiet (fail)
    go_wp2_with fail
    refine (unify_key _ _ _ (ha.drewN nq) HRA.out ha0 hla).mono ?_
    rintro e w1 ⟨rfl, hb1⟩
    have hbw1 : Below w.heap.size w w1 := (below_self_drewN w nq).trans hb1
    go_wp2_with fail
    refine (unify_key _ _ _ (hb.below hbw1) HRB.out hb0 hlb).mono ?_
    rintro e w2 ⟨rfl, hb2⟩
    have hbw2 : Below w.heap.size w w2 := hbw1.trans (hb2.mono hbw1.size)
    have hm2 : JMap w2 bm σ := hm.belowS hbw2
    have cn2 : w2.cell? ⟨pn, 0, none⟩ = some (.map (some bm)) := (hbw2.cell (World.block_lt_of_cell? _ _ cn)).trans cn
    have cn3 : ∀ o, (w2.alloc o).cell? ⟨pn, 0, none⟩ = some (.map (some bm)) := fun o => cell_alloc_keep o cn2
    have hsz2 := hbw2.size
    clear hb1 hbw1 hb2 cn cn2
    obtain ⟨kl, hkl⟩ := ek2_key (keyL a, keyL b) (by simp [keyL]; omega) (by simp [keyL]; omega)
    have HKL := hid hkl
    clear hkl
    by_cases hk : (keyL a, keyL b) ∈ σ
    · have HY := hid (mapK_yes hk)
      have HI := hid (insK_yes hk)
      clear hk
      go_wp2_with (first
        | (at_lookup; refine wpList_lookup_mapK rfl _ _ 104 true rfl two_keyed ek2_inj Tryz.underlying104 (zero_int _) rfl (hm2.alloc _) (keyL a, keyL b) rfl HKL.out (.tuple #[.int .i64 (numK σ (keyL a, keyL b)), .bool true]) (by rw [HY.out]; rfl) ?_)
        | (at_lookup; refine wpList_lookup_mapK rfl _ _ 104 false rfl two_keyed ek2_inj Tryz.underlying104 (zero_int _) rfl (hm2.alloc _) (keyL a, keyL b) rfl HKL.out (.int .i64 (numK σ (keyL a, keyL b))) (by rw [HY.out]; rfl) ?_))
      go_ret
      refine ⟨_, rfl, ?_, by rw [HI.out]; exact (hm2.alloc _).alloc _, grown_of_below ((hbw2.alloc hsz2 _).alloc (by simp; omega) _)⟩
      have := World.ownsRow_lit (base := w.heap.size) (e := 3) (size := 1) (w2.alloc (.cells #[.string (keyB a), .string (keyB b)] 108)) #[.int .i64 (numK σ (keyL a, keyL b))] 1 (by simp; omega) (by simp [maxLen]) rfl
      simpa using this
    · have HN := hid (mapK_no hk)
      have HI := hid (insK_no hk)
      have HNUM := hid (numK_no hk)
      have HMI := hid (mapK_ins hk)
      clear hk
      go_wp2_with (at_lookup; refine wpList_lookup_mapK rfl _ _ 104 true rfl two_keyed ek2_inj Tryz.underlying104 (zero_int _) rfl (hm2.alloc _) (keyL a, keyL b) rfl HKL.out (.tuple #[.int .i64 0, .bool false]) (by rw [HN.out]; rfl) ?_)
      have hmW : JMap (w2.alloc (.cells #[.string (keyB a), .string (keyB b)] 108)).drew bm σ := hm2.alloc _
      have hlen := fun ty => hmW.run_len Tryz.underlying104 ty
      have cW : (w2.alloc (.cells #[.string (keyB a), .string (keyB b)] 108)).drew.cell? ⟨pn, 0, none⟩ = some (.map (some bm)) := cn3 _
      have cW0 : (w2.alloc (.cells #[.string (keyB a), .string (keyB b)] 108)).drew.cell? ⟨w2.heap.size, 0, none⟩ = some (.string (keyB a)) := by rw [World.cell?_drew, World.cell?_alloc_new]; rfl
      have cW1 : (w2.alloc (.cells #[.string (keyB a), .string (keyB b)] 108)).drew.cell? ⟨w2.heap.size, 1, none⟩ = some (.string (keyB b)) := by rw [World.cell?_drew, World.cell?_alloc_new]; rfl
      have hbW : Below w.heap.size w (w2.alloc (.cells #[.string (keyB a), .string (keyB b)] 108)).drew := (hbw2.alloc hsz2 _).drew
      refine wp_region_still_tail 5 (by kernel_rfl) (by kernel_rfl) ?_
      simp only [List.take_succ_cons, List.take_zero, List.drop_succ_cons, List.drop_zero, World.drew_eq]
      generalize (w2.alloc (.cells #[.string (keyB a), .string (keyB b)] 108)).drew = W at *
      generalize w2.heap.size = pb at *
      clear hm2 hbw2 cn3 hm ca cb ha hb
      repeat still_step
      still_call ((unify_code _ W (by omega) (by omega)).mono fun e w' h => ⟨h.1, h.2.symm⟩)
      refine wpStill_nil ?_
      go_wp2_with (first
        | (at_mapUpdate; refine wpList_update_mapK rfl _ _ _ 104 rfl two_keyed ek2_inj Tryz.underlying104 rfl hmW (keyL a, keyL b) (numK σ (keyL a, keyL b)) rfl (by rw [HNUM.out]; rfl) HKL.out ?_; intro W2 hmW2 hgW2; have cX := hmW.cell rfl hgW2 cW; have cX0 := hmW.cell rfl hgW2 cW0; have cX1 := hmW.cell rfl hgW2 cW1; have HM2 := hid (jmap_ins HN.out HMI.out HI.out hmW2); clear hmW2)
        | (at_lookup; refine wpList_lookup_mapK rfl _ _ 104 false rfl two_keyed ek2_inj Tryz.underlying104 (zero_int _) rfl HM2.out (keyL a, keyL b) rfl HKL.out (.int .i64 (numK σ (keyL a, keyL b))) (by rw [← HMI.out]; simp) ?_))
      go_ret
      have hgg : w.grownBy W2 (some bm) := grown_trans (grown_of_below hbW) hgW2
      refine ⟨_, rfl, ?_, HM2.out.alloc _, grown_trans hgg (World.grownBy_alloc _ _ _)⟩
      have := World.ownsRow_lit (base := w.heap.size) (e := 3) (size := 1) W2 #[.int .i64 (numK σ (keyL a, keyL b))] 1 hgg.size (by simp [maxLen]) rfl
      simpa using this
end Go.Proofs.YtldgkidojepdlaaGreat
