/-
  WHAT IT HOLDS: the shelf's contracts of the sorts of this program, laid by the kit's own tool (lay-plain). No condition.
-/
import Derived.Shelf.SortM.Plain
import Derived.Shelf.SortM.SortNone
import Derived.Ground.SlgmProg
import Derived.Test.YtldgkidojepdlaaProg
namespace Go.Proofs
open Go.Shelf
def Try.sorto113_ren : Go.Shelf.Ren := ⟨fun | 5 => 113 | 8 => 128 | 7 => 127 | 19 => 142 | 20 => 143 | 10 => 133 | 11 => 134 | 12 => 135 | 13 => 136 | 14 => 137 | 15 => 138 | 16 => 139 | 17 => 140 | 18 => 141 | 30 => 147 | 31 => 148 | 32 => 149 | 33 => 150 | 34 => 151 | 35 => 73 | 40 => 152 | n => n, fun | 23 => 34 | 25 => 3 | 3 => 3 | 32 => 152 | 22 => 34 | 0 => 0 | 44 => 164 | 46 => 166 | 4 => 4 | 36 => 157 | 35 => 156 | 41 => 114 | 5 => 5 | 9 => 9 | 53 => 169 | 57 => 173 | 63 => 175 | 64 => 98 | n => n, fun | n => n⟩
theorem Try.sorto113 : Go.Proofs.SlLaysM.n5 Try.prog Try.sorto113_ren := {
  mixed := by kernel_rfl
  f5 := ⟨Try.f113.name, by decide, Try.func113.trans (congrArg some (by kernel_rfl))⟩
  f7 := ⟨Try.f127.name, by decide, Try.func127.trans (congrArg some (by kernel_rfl))⟩
  f8 := Try.func128.trans (congrArg some (by kernel_rfl))
  f10 := ⟨Try.f133.name, by decide, Try.func133.trans (congrArg some (by kernel_rfl))⟩
  f11 := ⟨Try.f134.name, by decide, Try.func134.trans (congrArg some (by kernel_rfl))⟩
  f12 := ⟨Try.f135.name, by decide, Try.func135.trans (congrArg some (by kernel_rfl))⟩
  f13 := ⟨Try.f136.name, by decide, Try.func136.trans (congrArg some (by kernel_rfl))⟩
  f14 := ⟨Try.f137.name, by decide, Try.func137.trans (congrArg some (by kernel_rfl))⟩
  f15 := ⟨Try.f138.name, by decide, Try.func138.trans (congrArg some (by kernel_rfl))⟩
  f16 := ⟨Try.f139.name, by decide, Try.func139.trans (congrArg some (by kernel_rfl))⟩
  f17 := ⟨Try.f140.name, by decide, Try.func140.trans (congrArg some (by kernel_rfl))⟩
  f18 := ⟨Try.f141.name, by decide, Try.func141.trans (congrArg some (by kernel_rfl))⟩
  f19 := Try.func142.trans (congrArg some (by kernel_rfl))
  f20 := Try.func143.trans (congrArg some (by kernel_rfl))
  f30 := ⟨Try.f147.name, by decide, Try.func147.trans (congrArg some (by kernel_rfl))⟩
  f31 := Try.func148.trans (congrArg some (by kernel_rfl))
  f32 := Try.func149.trans (congrArg some (by kernel_rfl))
  f33 := ⟨Try.f150.name, by decide, Try.func150.trans (congrArg some (by kernel_rfl))⟩
  f34 := ⟨Try.f151.name, by decide, Try.func151.trans (congrArg some (by kernel_rfl))⟩
  f35 := ⟨Try.f73.name, by decide, Try.func73.trans (congrArg some (by kernel_rfl))⟩
  f40 := ⟨Try.f152.name, by decide, Try.func152.trans (congrArg some (by kernel_rfl))⟩
  t0 := Try.underlying0
  a0 := Try.isAgg0
  z0 := Try.sizeOf0
  v0 := Try.zeroValue0
  t3 := Try.underlying3
  a3 := Try.isAgg3
  z3 := Try.sizeOf3
  v3 := Try.zeroValue3
  t4 := Try.underlying4
  a4 := Try.isAgg4
  z4 := Try.sizeOf4
  v4 := Try.zeroValue4
  t5 := Try.underlying5
  a5 := Try.isAgg5
  z5 := Try.sizeOf5
  v5 := Try.zeroValue5
  t9 := Try.underlying9
  a9 := Try.isAgg9
  z9 := Try.sizeOf9
  v9 := Try.zeroValue9
  t22 := Try.underlying34
  a22 := Try.isAgg34
  z22 := Try.sizeOf34
  v22 := Try.zeroValue34
  t23 := Try.underlying34
  a23 := Try.isAgg34
  z23 := Try.sizeOf34
  v23 := Try.zeroValue34
  t25 := Try.underlying3
  a25 := Try.isAgg3
  z25 := Try.sizeOf3
  v25 := Try.zeroValue3
  t32 := Try.underlying152
  a32 := Try.isAgg152
  z32 := Try.sizeOf152
  v32 := Try.zeroValue152
  t35 := Try.underlying156
  a35 := Try.isAgg156
  z35 := Try.sizeOf156
  v35 := Try.zeroValue156
  t36 := Try.underlying157
  a36 := Try.isAgg157
  z36 := Try.sizeOf157
  v36 := Try.zeroValue157
  t41 := Try.underlying114
  a41 := Try.isAgg114
  z41 := Try.sizeOf114
  v41 := Try.zeroValue114
  t44 := Try.underlying164
  a44 := Try.isAgg164
  z44 := Try.sizeOf164
  v44 := Try.zeroValue164
  t46 := Try.underlying166
  a46 := Try.isAgg166
  z46 := Try.sizeOf166
  v46 := Try.zeroValue166
  t53 := Try.underlying169
  a53 := Try.isAgg169
  z53 := Try.sizeOf169
  v53 := Try.zeroValue169
  t57 := Try.underlying173
  a57 := Try.isAgg173
  z57 := Try.sizeOf173
  v57 := Try.zeroValue173
  t63 := Try.underlying175
  a63 := Try.isAgg175
  z63 := Try.sizeOf175
  v63 := Try.zeroValue175
  t64 := Try.underlying98
  a64 := Try.isAgg98
  z64 := Try.sizeOf98
  v64 := Try.zeroValue98 }
end Go.Proofs
