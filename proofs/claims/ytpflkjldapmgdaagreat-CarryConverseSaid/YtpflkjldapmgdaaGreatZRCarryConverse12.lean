/-
  WHAT IT HOLDS: the contract of the step of package unify's join that names a pair of parts (in its closure). Conditions: the arguments read as data; the parts are terms; at most 500 pairs are named.
-/
import Derived.DeepKeys4
import Derived.StillTailTactics
import Derived.Laws.EntriesVeiled
import Derived.Test.YtpflkjldapmgdaaGreatZRCarryConverse11
import Derived.Test.YtpflkjldapmgdaaGreatZRCarryConverse4
namespace Go.Proofs.YtpflkjldapmgdaaGreat
open Go Go.RowKit Go.Maps
theorem laidOut0 : laidOutB Tryz.prog = true := by kernel_rfl
theorem str_cells : Tryz.prog.cellsOf 9 = 1 := by kernel_rfl
theorem str_lits (d : Nat) (a : ByteArray) (ha : a.size ≤ maxLen) : Tryz.prog.keyLits (d + 1) 9 [.string a] = some [.string a.data.toList] := by
  unfold Program.keyLits
  rw [Tryz.underlying9]
  simp [ha]
def ek2 (k : KK) : Value := .agg #[.string ⟨k.1.toArray⟩, .string ⟨k.2.toArray⟩]
theorem ek2_inj : ∀ x y : KK, ek2 x = ek2 y → x = y := by
  intro x y h
  unfold ek2 at h
  simp at h
  exact Prod.ext h.1 h.2
theorem zero_int (w : World) : (zeroValue 3).run Tryz.prog w = .ok (.int .i64 0) w := by kernel_rfl
theorem mapK_yes {σ : List KK} {k : KK} (h : k ∈ σ) : mapK σ k = some (numK σ k) := by unfold mapK; rw [if_pos h]
theorem mapK_no {σ : List KK} {k : KK} (h : k ∉ σ) : mapK σ k = none := by unfold mapK; rw [if_neg h]
theorem insK_yes {σ : List KK} {k : KK} (h : k ∈ σ) : insK σ k = σ := by unfold insK; rw [if_pos h]
theorem insK_no {σ : List KK} {k : KK} (h : k ∉ σ) : insK σ k = σ ++ [k] := by unfold insK; rw [if_neg h]
theorem numK_no {σ : List KK} {k : KK} (h : k ∉ σ) : numK σ k = -(σ.length : Int) - 1 := by unfold numK; rw [List.idxOf_eq_length h]
end Go.Proofs.YtpflkjldapmgdaaGreat
