/-
  WHAT IT HOLDS: the shelf's contracts of the sorts of this program, laid by the kit's own tool (lay-plain). No condition.
-/
import Derived.Shelf.SortM.Plain
import Derived.Shelf.SortM.SortNone
import Derived.Ground.SlgmProg
import Derived.Test.YtldgkidojepdlaaGreatProg
namespace Go.Proofs
open Go.Shelf
def Tryz.sorto56_ren : Go.Shelf.Ren := ⟨fun | 5 => 56 | 8 => 77 | 7 => 76 | 19 => 97 | 20 => 98 | 10 => 88 | 11 => 89 | 12 => 90 | 13 => 91 | 14 => 92 | 15 => 93 | 16 => 94 | 17 => 95 | 18 => 96 | 30 => 103 | 31 => 104 | 32 => 105 | 33 => 106 | 34 => 107 | 35 => 52 | 40 => 109 | n => n, fun | 23 => 28 | 25 => 3 | 3 => 3 | 32 => 116 | 22 => 28 | 0 => 0 | 44 => 138 | 46 => 140 | 4 => 4 | 36 => 131 | 35 => 130 | 41 => 109 | 5 => 5 | 9 => 9 | 53 => 142 | 57 => 146 | 63 => 149 | 64 => 70 | n => n, fun | n => n⟩
theorem Tryz.sorto56 : Go.Proofs.SlLaysM.n5 Tryz.prog Tryz.sorto56_ren := {
  mixed := by kernel_rfl
  f5 := ⟨Tryz.f56.name, by decide, Tryz.func56.trans (congrArg some (by kernel_rfl))⟩
  f7 := ⟨Tryz.f76.name, by decide, Tryz.func76.trans (congrArg some (by kernel_rfl))⟩
  f8 := Tryz.func77.trans (congrArg some (by kernel_rfl))
  f10 := ⟨Tryz.f88.name, by decide, Tryz.func88.trans (congrArg some (by kernel_rfl))⟩
  f11 := ⟨Tryz.f89.name, by decide, Tryz.func89.trans (congrArg some (by kernel_rfl))⟩
  f12 := ⟨Tryz.f90.name, by decide, Tryz.func90.trans (congrArg some (by kernel_rfl))⟩
  f13 := ⟨Tryz.f91.name, by decide, Tryz.func91.trans (congrArg some (by kernel_rfl))⟩
  f14 := ⟨Tryz.f92.name, by decide, Tryz.func92.trans (congrArg some (by kernel_rfl))⟩
  f15 := ⟨Tryz.f93.name, by decide, Tryz.func93.trans (congrArg some (by kernel_rfl))⟩
  f16 := ⟨Tryz.f94.name, by decide, Tryz.func94.trans (congrArg some (by kernel_rfl))⟩
  f17 := ⟨Tryz.f95.name, by decide, Tryz.func95.trans (congrArg some (by kernel_rfl))⟩
  f18 := ⟨Tryz.f96.name, by decide, Tryz.func96.trans (congrArg some (by kernel_rfl))⟩
  f19 := Tryz.func97.trans (congrArg some (by kernel_rfl))
  f20 := Tryz.func98.trans (congrArg some (by kernel_rfl))
  f30 := ⟨Tryz.f103.name, by decide, Tryz.func103.trans (congrArg some (by kernel_rfl))⟩
  f31 := Tryz.func104.trans (congrArg some (by kernel_rfl))
  f32 := Tryz.func105.trans (congrArg some (by kernel_rfl))
  f33 := ⟨Tryz.f106.name, by decide, Tryz.func106.trans (congrArg some (by kernel_rfl))⟩
  f34 := ⟨Tryz.f107.name, by decide, Tryz.func107.trans (congrArg some (by kernel_rfl))⟩
  f35 := ⟨Tryz.f52.name, by decide, Tryz.func52.trans (congrArg some (by kernel_rfl))⟩
  f40 := ⟨Tryz.f109.name, by decide, Tryz.func109.trans (congrArg some (by kernel_rfl))⟩
  t0 := Tryz.underlying0
  a0 := Tryz.isAgg0
  z0 := Tryz.sizeOf0
  v0 := Tryz.zeroValue0
  t3 := Tryz.underlying3
  a3 := Tryz.isAgg3
  z3 := Tryz.sizeOf3
  v3 := Tryz.zeroValue3
  t4 := Tryz.underlying4
  a4 := Tryz.isAgg4
  z4 := Tryz.sizeOf4
  v4 := Tryz.zeroValue4
  t5 := Tryz.underlying5
  a5 := Tryz.isAgg5
  z5 := Tryz.sizeOf5
  v5 := Tryz.zeroValue5
  t9 := Tryz.underlying9
  a9 := Tryz.isAgg9
  z9 := Tryz.sizeOf9
  v9 := Tryz.zeroValue9
  t22 := Tryz.underlying28
  a22 := Tryz.isAgg28
  z22 := Tryz.sizeOf28
  v22 := Tryz.zeroValue28
  t23 := Tryz.underlying28
  a23 := Tryz.isAgg28
  z23 := Tryz.sizeOf28
  v23 := Tryz.zeroValue28
  t25 := Tryz.underlying3
  a25 := Tryz.isAgg3
  z25 := Tryz.sizeOf3
  v25 := Tryz.zeroValue3
  t32 := Tryz.underlying116
  a32 := Tryz.isAgg116
  z32 := Tryz.sizeOf116
  v32 := Tryz.zeroValue116
  t35 := Tryz.underlying130
  a35 := Tryz.isAgg130
  z35 := Tryz.sizeOf130
  v35 := Tryz.zeroValue130
  t36 := Tryz.underlying131
  a36 := Tryz.isAgg131
  z36 := Tryz.sizeOf131
  v36 := Tryz.zeroValue131
  t41 := Tryz.underlying109
  a41 := Tryz.isAgg109
  z41 := Tryz.sizeOf109
  v41 := Tryz.zeroValue109
  t44 := Tryz.underlying138
  a44 := Tryz.isAgg138
  z44 := Tryz.sizeOf138
  v44 := Tryz.zeroValue138
  t46 := Tryz.underlying140
  a46 := Tryz.isAgg140
  z46 := Tryz.sizeOf140
  v46 := Tryz.zeroValue140
  t53 := Tryz.underlying142
  a53 := Tryz.isAgg142
  z53 := Tryz.sizeOf142
  v53 := Tryz.zeroValue142
  t57 := Tryz.underlying146
  a57 := Tryz.isAgg146
  z57 := Tryz.sizeOf146
  v57 := Tryz.zeroValue146
  t63 := Tryz.underlying149
  a63 := Tryz.isAgg149
  z63 := Tryz.sizeOf149
  v63 := Tryz.zeroValue149
  t64 := Tryz.underlying70
  a64 := Tryz.isAgg70
  z64 := Tryz.sizeOf70
  v64 := Tryz.zeroValue70 }
end Go.Proofs
