/-
  WHAT IT HOLDS: the pairs of a lattice as plain lists, and the contract of SamePairs of the reference of layer 5. Conditions: the arguments read as data.
-/
import Derived.Test.YtiacbdipagbblaaFirsts
import Derived.ChangeKeysEq
namespace Go.Proofs.Ytiacbdipagbblaa
open Go Go.RowKit Go.Maps
abbrev PP := Int × Int
def pCells (l : List PP) : List Value := l.flatMap fun x => [.int .i64 x.1, .int .i64 x.2]
def Pairs (w : World) (v : Value) (l : List PP) : Prop := RowK w v 2 l.length (pCells l)
theorem Pairs.below {w w' : World} {v : Value} {l : List PP} (h : Pairs w v l) (hb : Below w.heap.size w w') : Pairs w' v l := RowK.below h hb
theorem pCells_get (l : List PP) : ∀ (j : Nat) (h : j < l.length), (pCells l)[j * 2]? = some (.int .i64 l[j].1) ∧ (pCells l)[j * 2 + 1]? = some (.int .i64 l[j].2) := by
  induction l with
  | nil => intro j h; simp at h
  | cons x r ih =>
    intro j h
    cases j with
    | zero => simp [pCells]
    | succ j =>
      have := ih j (by simpa using h)
      simpa [pCells, Nat.add_mul, Nat.add_assoc] using this
theorem Pairs.open {w : World} {v : Value} {l : List PP} (h : Pairs w v l) :
    ∃ a cap, v = .slice a l.length cap ∧ l.length ≤ cap ∧ l.length ≤ 140737488355328 ∧ (a = none → cap = 0) ∧
      ∀ j (h : j < l.length), ∃ b o, a = some ⟨b, o, none⟩ ∧ w.cell? ⟨b, o + j * 2, none⟩ = some (.int .i64 l[j].1) ∧ w.cell? ⟨b, o + j * 2 + 1, none⟩ = some (.int .i64 l[j].2) := by
  obtain ⟨_, a, cap, h2, h3, h4, h5, h6⟩ := h
  refine ⟨a, cap, h2, h3, h4, h5, fun j hj => ?_⟩
  have hc := pCells_get l j hj
  obtain ⟨b, o, h8, h9⟩ := h6 _ _ hc.1
  obtain ⟨b', o', h10, h11⟩ := h6 _ _ hc.2
  rw [h8] at h10
  cases h10
  exact ⟨b, o, h8, h9, by rw [Nat.add_assoc]; exact h11⟩
/-- the pairs that are next to each other. -/
def nextB (u : Int → Int → Bool) (F : List Int) (i j : Int) : Bool := u i j && !F.any fun k => u k j && u i k
def latL (u : Int → Int → Bool) (F : List Int) : List PP := F.flatMap fun i => (F.filter fun j => nextB u F i j).map fun j => (i, j)
theorem info3s : (Try.prog.info? 3).isSome = true := by kernel_rfl
theorem pk3 : Try.prog.plainKey 3 = true := by kernel_rfl
theorem cells3 : Try.prog.cellsOf 3 = 1 := by kernel_rfl
set_option maxRecDepth 100000 in
theorem run_neq_pair (w : World) (a b c d : Int) : (binOp .neq 76 (.agg #[.int .i64 a, .int .i64 b]) (.agg #[.int .i64 c, .int .i64 d])).run Try.prog w = .ok (.bool (!(a == c && b == d))) w := by
  obtain ⟨i, hi⟩ := Option.isSome_iff_exists.1 info3s
  have e3 : ∀ (k : Nat) (x y : Int), (Op.equalIn (k + 1) 3 (.int .i64 x) (.int .i64 y)).run Try.prog w = .ok (x == y) w := fun k x y => by
    simp [Op.equalIn, run_underlying Try.underlying3]
  have h := run_equalIn_array (P := Try.prog) (w := w) 9999 (t := 76) (e := 3) (n := 2) (i := i) #[.int .i64 a, .int .i64 b] #[.int .i64 c, .int .i64 d] Try.underlying76 hi
  have p0 := run_part_plain (P := Try.prog) w pk3 (xs := #[.int .i64 a, .int .i64 b]) (off := 0) (v := .int .i64 a) rfl
  have p1 := run_part_plain (P := Try.prog) w pk3 (xs := #[.int .i64 a, .int .i64 b]) (off := 1) (v := .int .i64 b) rfl
  have q0 := run_part_plain (P := Try.prog) w pk3 (xs := #[.int .i64 c, .int .i64 d]) (off := 0) (v := .int .i64 c) rfl
  have q1 := run_part_plain (P := Try.prog) w pk3 (xs := #[.int .i64 c, .int .i64 d]) (off := 1) (v := .int .i64 d) rfl
  simp only [binOp]
  simp only [Op.equal, Op.maxDepth, Sem.run_bind, h, cells3]
  have e := e3 9998
  cases h1 : (a == c) <;> cases h2 : (b == d) <;> simp [List.range, List.range.loop, Op.eqItems, p0, p1, q0, q1, e, h1, h2, Result.andThen]
set_option maxHeartbeats 400000 in
set_option maxRecDepth 100000 in
theorem ref5_SamePairs (v u : Value) (l m : List PP) (w : World) (hv : Pairs w v l) (hu : Pairs w u m) :
    Calls Try.prog 31 #[v, u] w fun e w' => e = .returned (.bool (decide (l = m))) ∧ ∃ n, w' = w.drewN n := by
  obtain ⟨a, cap, rfl, h1, hl, -, HC⟩ := hv.open
  obtain ⟨a', cap', rfl, h1', hl', -, HD⟩ := hu.open
  have HC' := hid HC
  have HD' := hid HD
  clear HC hv HD hu
  by_cases hlen : l.length = m.length
  · have hne : (((l.length : Nat) : Int) != (m.length : Int)) = false := by simp [hlen]
    have HL := hid hlen
    clear hlen
    go_enter Try.func31, Try.ntmps31
    go_wp2
    go_loopw [5] (fun i wr => ∃ k q : Nat, k ≤ l.length ∧ i = .int .i64 k ∧ wr = w.drewN q ∧ l.take k = m.take k) (fun i _ => l.length - (intOf i).toNat)
    case atStart => exact ⟨0, 0, by omega, rfl, rfl, by simp⟩
    case round =>
      obtain ⟨k, q, hk, rfl, rfl, hrel⟩ := hrel
      have HR := hid hrel
      clear hrel
      by_cases hlt : k < l.length
      · obtain ⟨b, o, rfl, hc1, hc2⟩ := HC'.out k hlt
        have hlt' : k < m.length := by have := HL.out; omega
        obtain ⟨b', o', rfl, hd1, hd2⟩ := HD'.out k hlt'
        have hrun := fun w' => run_neq_pair w' l[k].1 l[k].2 m[k].1 m[k].2
        cases e1 : (l[k].1 == m[k].1 && l[k].2 == m[k].2)
        · have HM : Hid (l ≠ m) := hid (by intro e; subst e; simp at e1)
          rw [e1] at hrun
          go_wp2
          go_quiet (fail)
          go_wp2
          go_ret
          exact ⟨ret_bool (decide_eq_false HM.out).symm, _, (by first | rfl | exact World.drewN_drewN _ _ _)⟩
        · have HE : Hid (l[k] = m[k]) := hid (by simp at e1; exact Prod.ext e1.1 e1.2)
          rw [e1] at hrun
          go_wp2
          go_quiet (fail)
          go_wp2
          go_roundw
          case rel =>
            refine ⟨k + 1, _, by omega, by go_num, (by first | rfl | exact World.drewN_drewN _ _ _), ?_⟩
            rw [List.take_succ_eq_append_getElem hlt, List.take_succ_eq_append_getElem hlt', HR.out, HE.out]
          case measure => simp [intOf]; omega
      · have HM : Hid (l = m) := hid (by have := HR.out; have h9 := HL.out; rw [List.take_of_length_le (by omega), List.take_of_length_le (by omega)] at this; exact this)
        go_wp2
        go_ret
        exact ⟨ret_bool (decide_eq_true HM.out).symm, q, rfl⟩
  · have hne : (((l.length : Nat) : Int) != (m.length : Int)) = true := by simp [bne]; omega
    have HM : Hid (l ≠ m) := hid (by intro e; subst e; exact hlen rfl)
    clear hlen
    go_enter Try.func31, Try.ntmps31
    go_wp2
    go_ret
    exact ⟨ret_bool (decide_eq_false HM.out).symm, 0, rfl⟩
end Go.Proofs.Ytiacbdipagbblaa
