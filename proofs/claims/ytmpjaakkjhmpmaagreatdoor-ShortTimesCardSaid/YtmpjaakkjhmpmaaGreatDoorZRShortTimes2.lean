/-
  WHAT IT HOLDS: facts on the types of this translation, each reckoned by the kernel. No condition.
  WHAT IT HOLDS: contracts of the functions of package lemmaryref01 that the laws reach: each returns what the plain function says and changes no memory. Conditions: the arguments read as data.
  WHAT IT HOLDS: contracts of Same of the reference of layer 1 and of slices.Equal: whether two lists of numbers are equal. Conditions: the arguments read as data.
  WHAT IT HOLDS: contracts of the small loops of package lemmaryref01 (Has, SameInts, Same, AllValid): each returns what the plain function says and changes no memory. Conditions: the arguments read as data.
  WHAT IT HOLDS: contracts of functions of package lemmaryref05 that the law of With reaches. Conditions: the arguments read as data.
  WHAT IT HOLDS: contracts of cmp.Compare, cmp.Or, slices.Compare at int, and of Compare of package term. Conditions: the arguments read as data.
-/
import Derived.Test.YtmpjaakkjhmpmaaGreatDoorProg
import Derived.Test.YtmpjaakkjhmpmaaGreatDoorZRShortTimes0
import Derived.Test.YtmpjaakkjhmpmaaGreatDoorZRShortTimes1
namespace Go.Proofs.YtmpjaakkjhmpmaaGreatDoor
open Go Go.RowKit Go.Maps
theorem el_int : ElemAt Tryz.prog 3 (.int .i64 0) 1 8 := by unfold ElemAt; kernel_rfl
theorem el_bool : ElemAt Tryz.prog 4 (.bool false) 1 1 := by unfold ElemAt; kernel_rfl
theorem el_term : ElemAt Tryz.prog 34 (.slice none 0 0) 1 24 := by unfold ElemAt; kernel_rfl
end Go.Proofs.YtmpjaakkjhmpmaaGreatDoor
namespace Go.Proofs.YtmpjaakkjhmpmaaGreatDoor
open Go Go.RowKit Go.Maps
theorem symB_at {s : Sg} {k : Nat} (h : k < s.length) : symB s k = (nameB s[k].1 && inB s[k].2 0 3 && (s.take k).all (fun y => decide (y.1 ≠ s[k].1))) := by
  unfold symB
  rw [List.getElem?_eq_getElem h]
theorem all_range_false {s : Sg} {k : Nat} (h : k < s.length) (h2 : symB s k = false) : (List.range s.length).all (symB s) = false := by
  rw [List.all_eq_false]
  exact ⟨k, by simp [h], by simp [h2]⟩
theorem termB_false1 {s : Sg} {t : List Int} (h : signB s = false) : termB s t = false := by unfold termB; rw [h]; rfl
theorem termB_false2 {s : Sg} {t : List Int} (h : inB t.length 1 60 = false) : termB s t = false := by unfold termB; rw [h]; simp
theorem termB_of {s : Sg} {t : List Int} (h1 : signB s = true) (h2 : inB t.length 1 60 = true) : termB s t = needB s t 1 := by unfold termB; rw [h1, h2]; rfl
theorem signB_ar {s : Sg} (h : signB s = true) (n : Int) : 0 ≤ arOf s n ∧ arOf s n ≤ 3 := by
  unfold signB at h
  simp only [Bool.and_eq_true] at h
  have h3 := h.2
  rw [List.all_eq_true] at h3
  unfold arOf
  split
  · omega
  · split
    · rename_i x hx
      have hlt : n.toNat < s.length := (List.getElem?_eq_some_iff.1 hx).1
      have := h3 n.toNat (by simpa using hlt)
      unfold symB at this
      rw [hx] at this
      simp only [Bool.and_eq_true] at this
      exact inB_true.1 this.1.2
    · omega
theorem signB_len {s : Sg} (h : signB s = true) : 1 ≤ s.length ∧ s.length ≤ 12 := by
  unfold signB at h
  simp only [Bool.and_eq_true] at h
  have := inB_true.1 h.1.1
  omega

end Go.Proofs.YtmpjaakkjhmpmaaGreatDoor
namespace Go.Proofs.YtmpjaakkjhmpmaaGreatDoor
open Go Go.RowKit Go.Maps
end Go.Proofs.YtmpjaakkjhmpmaaGreatDoor
namespace Go.Proofs.YtmpjaakkjhmpmaaGreatDoor
open Go Go.RowKit Go.Maps
end Go.Proofs.YtmpjaakkjhmpmaaGreatDoor
namespace Go.Proofs.YtmpjaakkjhmpmaaGreatDoor
open Go Go.RowKit Go.Maps
end Go.Proofs.YtmpjaakkjhmpmaaGreatDoor
namespace Go.Proofs.YtmpjaakkjhmpmaaGreatDoor
open Go Go.RowKit Go.Maps
end Go.Proofs.YtmpjaakkjhmpmaaGreatDoor
