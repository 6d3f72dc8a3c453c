/-
  WHAT IT HOLDS: contracts of matched, Match and Instance of the reference of layer 2. Conditions: the arguments read as data; whole terms stand at the indexes.
-/
import Derived.Lib.SliceRun
import Derived.Deep.RegionHeld3
import Derived.Test.YtpflkjldapmgdaaGreatZRCarryConverse15
import Derived.Test.YtpflkjldapmgdaaGreatZRCarryConverse4
import Derived.Test.YtpflkjldapmgdaaGreatZRCarryConverse3
namespace Go.Proofs.YtpflkjldapmgdaaGreat
open Go Go.RowKit Go.Maps
theorem Ints.at2 {w : World} {a : Option Addr} {n cap : Nat} {t : List Int} (h : Ints w (.slice a n cap) t) {k : Nat} (hk : k < t.length) : ∃ b o, a = some ⟨b, o, none⟩ ∧ w.cell? ⟨b, o + k, none⟩ = some (.int .i64 t[k]) := by
  obtain ⟨a', cap', h1, _, _, _, h2⟩ := h.open
  simp only [Value.slice.injEq] at h1
  obtain ⟨rfl, _, rfl⟩ := h1
  exact h2 k hk
theorem owns_ints {w : World} {base : Nat} {e : TypeId} {v : Value} {l : List Int} (h : w.ownsRow base e 1 v l.length (l.map (Value.int .i64))) (h0 : 0 < l.length) (hl : l.length ≤ 1000) : ∃ g cap, v = .slice (some ⟨g, 0, none⟩) l.length cap ∧ Ints w (.slice (some ⟨g, 0, none⟩) l.length cap) l := by
  obtain ⟨g, cap, rfl, _⟩ := owns_some h h0
  exact ⟨g, cap, rfl, Ints.of_owns h (by omega)⟩
/-- what matched leaves. -/
def MOut (s : Sg) (p q : List Int) (pa : Nat) (T : TT) (w : World) (e : Ending) (w' : World) : Prop :=
  ∃ T' b, e = .returned (.bool b) ∧ ArrT w' pa 0 12 T' ∧ w.grownBy w' (some pa) ∧ (b = true → matL s p q (mR T) = some (mR T')) ∧ (b = false → matL s p q (mR T) = none)
theorem Fo.take {s : Sg} {q : Int} {zs : List (List Int)} (h : ∀ a ∈ zs, IsT s q a) (k : Nat) : Fo s q (zs.take k).length (zs.take k).flatten := ⟨_, rfl, rfl, fun a ha => h a (List.mem_of_mem_take ha)⟩
theorem matL_step {s : Sg} {zs us : List (List Int)} (hz : ∀ a ∈ zs, IsT s 12 a) (hu : ∀ a ∈ us, IsT s 12 a) (hl : zs.length = us.length) (m : MM) {k : Nat} (h : k < zs.length) (h' : k < us.length) :
    matL s (zs.take (k + 1)).flatten (us.take (k + 1)).flatten m = (matL s (zs.take k).flatten (us.take k).flatten m).bind fun m' => matL s zs[k] us[k] m' := by
  rw [List.take_succ_eq_append_getElem h, List.take_succ_eq_append_getElem h', List.flatten_append, List.flatten_append]
  have := matL_append (s := s) (q := 12) (zs.take k).flatten (zs.take k).length (us.take k).flatten m zs[k] us[k] (Fo.take hz k) (by
    have e : (zs.take k).length = (us.take k).length := by simp; omega
    rw [e]; exact Fo.take hu k)
  simpa using this
theorem matL_fail {s : Sg} {zs us : List (List Int)} (hz : ∀ a ∈ zs, IsT s 12 a) (hu : ∀ a ∈ us, IsT s 12 a) (hl : zs.length = us.length) (m : MM) (k : Nat) (h : matL s (zs.take k).flatten (us.take k).flatten m = none) :
    matL s zs.flatten us.flatten m = none := by
  have := matL_append (s := s) (q := 12) (zs.take k).flatten (zs.take k).length (us.take k).flatten m (zs.drop k).flatten (us.drop k).flatten (Fo.take hz k) (by
    have e : (zs.take k).length = (us.take k).length := by simp; omega
    rw [e]; exact Fo.take hu k)
  rw [← List.flatten_append, ← List.flatten_append, List.take_append_drop, List.take_append_drop, h] at this
  exact this
end Go.Proofs.YtpflkjldapmgdaaGreat
