/-
  WHAT IT HOLDS: the shelf's contracts of the sorts of this program, laid by the kit's own tool (lay-plain). No condition.
-/
import Derived.Shelf.SlSortCmp.WholeK
import Derived.Shelf.SortM.Plain
import Derived.Shelf.SortM.SortNone
import Derived.Ground.SlgmProg
import Derived.Ground.SlsfProg
import Derived.Test.YtalodmochkodiaaGreatProg
namespace Go.Proofs
open Go.Shelf
def Tryz.sorto342_ren : Go.Shelf.Ren := ⟨fun | 5 => 342 | 8 => 196 | 7 => 368 | 19 => 260 | 20 => 261 | 10 => 374 | 11 => 375 | 12 => 376 | 13 => 377 | 14 => 378 | 15 => 379 | 16 => 380 | 17 => 381 | 18 => 382 | 30 => 383 | 31 => 314 | 32 => 315 | 33 => 384 | 34 => 385 | 35 => 386 | 40 => 387 | n => n, fun | 23 => 36 | 25 => 3 | 3 => 3 | 32 => 191 | 22 => 36 | 0 => 0 | 44 => 250 | 46 => 252 | 4 => 4 | 36 => 243 | 35 => 242 | 41 => 247 | 5 => 5 | 9 => 9 | 53 => 298 | 57 => 302 | 63 => 333 | 64 => 207 | n => n, fun | n => n⟩
theorem Tryz.sorto342 : Go.Proofs.SlLaysM.n5 Tryz.prog Tryz.sorto342_ren := {
  mixed := by kernel_rfl
  f5 := ⟨Tryz.f342.name, by decide, Tryz.func342.trans (congrArg some (by kernel_rfl))⟩
  f7 := ⟨Tryz.f368.name, by decide, Tryz.func368.trans (congrArg some (by kernel_rfl))⟩
  f8 := Tryz.func196.trans (congrArg some (by kernel_rfl))
  f10 := ⟨Tryz.f374.name, by decide, Tryz.func374.trans (congrArg some (by kernel_rfl))⟩
  f11 := ⟨Tryz.f375.name, by decide, Tryz.func375.trans (congrArg some (by kernel_rfl))⟩
  f12 := ⟨Tryz.f376.name, by decide, Tryz.func376.trans (congrArg some (by kernel_rfl))⟩
  f13 := ⟨Tryz.f377.name, by decide, Tryz.func377.trans (congrArg some (by kernel_rfl))⟩
  f14 := ⟨Tryz.f378.name, by decide, Tryz.func378.trans (congrArg some (by kernel_rfl))⟩
  f15 := ⟨Tryz.f379.name, by decide, Tryz.func379.trans (congrArg some (by kernel_rfl))⟩
  f16 := ⟨Tryz.f380.name, by decide, Tryz.func380.trans (congrArg some (by kernel_rfl))⟩
  f17 := ⟨Tryz.f381.name, by decide, Tryz.func381.trans (congrArg some (by kernel_rfl))⟩
  f18 := ⟨Tryz.f382.name, by decide, Tryz.func382.trans (congrArg some (by kernel_rfl))⟩
  f19 := Tryz.func260.trans (congrArg some (by kernel_rfl))
  f20 := Tryz.func261.trans (congrArg some (by kernel_rfl))
  f30 := ⟨Tryz.f383.name, by decide, Tryz.func383.trans (congrArg some (by kernel_rfl))⟩
  f31 := Tryz.func314.trans (congrArg some (by kernel_rfl))
  f32 := Tryz.func315.trans (congrArg some (by kernel_rfl))
  f33 := ⟨Tryz.f384.name, by decide, Tryz.func384.trans (congrArg some (by kernel_rfl))⟩
  f34 := ⟨Tryz.f385.name, by decide, Tryz.func385.trans (congrArg some (by kernel_rfl))⟩
  f35 := ⟨Tryz.f386.name, by decide, Tryz.func386.trans (congrArg some (by kernel_rfl))⟩
  f40 := ⟨Tryz.f387.name, by decide, Tryz.func387.trans (congrArg some (by kernel_rfl))⟩
  t0 := Tryz.underlying0
  a0 := Tryz.isAgg0
  z0 := Tryz.sizeOf0
  v0 := Tryz.zeroValue0
  t3 := Tryz.underlying3
  a3 := Tryz.isAgg3
  z3 := Tryz.sizeOf3
  v3 := Tryz.zeroValue3
  t4 := Tryz.underlying4
  a4 := Tryz.isAgg4
  z4 := Tryz.sizeOf4
  v4 := Tryz.zeroValue4
  t5 := Tryz.underlying5
  a5 := Tryz.isAgg5
  z5 := Tryz.sizeOf5
  v5 := Tryz.zeroValue5
  t9 := Tryz.underlying9
  a9 := Tryz.isAgg9
  z9 := Tryz.sizeOf9
  v9 := Tryz.zeroValue9
  t22 := Tryz.underlying36
  a22 := Tryz.isAgg36
  z22 := Tryz.sizeOf36
  v22 := Tryz.zeroValue36
  t23 := Tryz.underlying36
  a23 := Tryz.isAgg36
  z23 := Tryz.sizeOf36
  v23 := Tryz.zeroValue36
  t25 := Tryz.underlying3
  a25 := Tryz.isAgg3
  z25 := Tryz.sizeOf3
  v25 := Tryz.zeroValue3
  t32 := Tryz.underlying191
  a32 := Tryz.isAgg191
  z32 := Tryz.sizeOf191
  v32 := Tryz.zeroValue191
  t35 := Tryz.underlying242
  a35 := Tryz.isAgg242
  z35 := Tryz.sizeOf242
  v35 := Tryz.zeroValue242
  t36 := Tryz.underlying243
  a36 := Tryz.isAgg243
  z36 := Tryz.sizeOf243
  v36 := Tryz.zeroValue243
  t41 := Tryz.underlying247
  a41 := Tryz.isAgg247
  z41 := Tryz.sizeOf247
  v41 := Tryz.zeroValue247
  t44 := Tryz.underlying250
  a44 := Tryz.isAgg250
  z44 := Tryz.sizeOf250
  v44 := Tryz.zeroValue250
  t46 := Tryz.underlying252
  a46 := Tryz.isAgg252
  z46 := Tryz.sizeOf252
  v46 := Tryz.zeroValue252
  t53 := Tryz.underlying298
  a53 := Tryz.isAgg298
  z53 := Tryz.sizeOf298
  v53 := Tryz.zeroValue298
  t57 := Tryz.underlying302
  a57 := Tryz.isAgg302
  z57 := Tryz.sizeOf302
  v57 := Tryz.zeroValue302
  t63 := Tryz.underlying333
  a63 := Tryz.isAgg333
  z63 := Tryz.sizeOf333
  v63 := Tryz.zeroValue333
  t64 := Tryz.underlying207
  a64 := Tryz.isAgg207
  z64 := Tryz.sizeOf207
  v64 := Tryz.zeroValue207 }
end Go.Proofs
