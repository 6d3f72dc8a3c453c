/-
  WHAT IT HOLDS: the shelf's contracts of the sorts of this program, laid by the kit's own tool (lay-plain). No condition.
-/
import Derived.Shelf.SlSortCmp.WholeK
import Derived.Shelf.SlSortCmp.Whole1
import Derived.Shelf.SortM.Plain
import Derived.Shelf.SortM.SortNone
import Derived.Ground.SlgmProg
import Derived.Ground.SlsfProg
import Derived.Test.YtpflkjldapmgdaaGreatProg
namespace Go.Proofs
open Go.Shelf
def Tryz.sort98_ren : Go.Shelf.Ren := ⟨fun | 6 => 98 | 15 => 150 | 14 => 153 | 28 => 190 | 29 => 191 | 20 => 192 | 21 => 193 | 22 => 194 | 23 => 195 | 24 => 196 | 25 => 197 | 26 => 198 | 27 => 199 | 46 => 229 | 47 => 225 | 48 => 226 | 49 => 230 | 50 => 231 | 57 => 247 | n => n, fun | 22 => 56 | 24 => 28 | 25 => 118 | 3 => 3 | 39 => 161 | 0 => 0 | 53 => 198 | 55 => 200 | 4 => 4 | 46 => 192 | 45 => 191 | 50 => 137 | 5 => 5 | 9 => 9 | 66 => 225 | 70 => 229 | 76 => 245 | 77 => 155 | n => n, fun | n => n⟩
theorem Tryz.sort98 : Go.Proofs.SlLaysF.n6 Tryz.prog Tryz.sort98_ren := {
  mixed := by kernel_rfl
  f6 := ⟨Tryz.f98.name, by decide, Tryz.func98.trans (congrArg some (by kernel_rfl))⟩
  f14 := ⟨Tryz.f153.name, by decide, Tryz.func153.trans (congrArg some (by kernel_rfl))⟩
  f15 := Tryz.func150.trans (congrArg some (by kernel_rfl))
  f20 := ⟨Tryz.f192.name, by decide, Tryz.func192.trans (congrArg some (by kernel_rfl))⟩
  f21 := ⟨Tryz.f193.name, by decide, Tryz.func193.trans (congrArg some (by kernel_rfl))⟩
  f22 := ⟨Tryz.f194.name, by decide, Tryz.func194.trans (congrArg some (by kernel_rfl))⟩
  f23 := ⟨Tryz.f195.name, by decide, Tryz.func195.trans (congrArg some (by kernel_rfl))⟩
  f24 := ⟨Tryz.f196.name, by decide, Tryz.func196.trans (congrArg some (by kernel_rfl))⟩
  f25 := ⟨Tryz.f197.name, by decide, Tryz.func197.trans (congrArg some (by kernel_rfl))⟩
  f26 := ⟨Tryz.f198.name, by decide, Tryz.func198.trans (congrArg some (by kernel_rfl))⟩
  f27 := ⟨Tryz.f199.name, by decide, Tryz.func199.trans (congrArg some (by kernel_rfl))⟩
  f28 := Tryz.func190.trans (congrArg some (by kernel_rfl))
  f29 := Tryz.func191.trans (congrArg some (by kernel_rfl))
  f46 := ⟨Tryz.f229.name, by decide, Tryz.func229.trans (congrArg some (by kernel_rfl))⟩
  f47 := Tryz.func225.trans (congrArg some (by kernel_rfl))
  f48 := Tryz.func226.trans (congrArg some (by kernel_rfl))
  f49 := ⟨Tryz.f230.name, by decide, Tryz.func230.trans (congrArg some (by kernel_rfl))⟩
  f50 := ⟨Tryz.f231.name, by decide, Tryz.func231.trans (congrArg some (by kernel_rfl))⟩
  f57 := ⟨Tryz.f247.name, by decide, Tryz.func247.trans (congrArg some (by kernel_rfl))⟩
  t0 := Tryz.underlying0
  a0 := Tryz.isAgg0
  z0 := Tryz.sizeOf0
  v0 := Tryz.zeroValue0
  t3 := Tryz.underlying3
  a3 := Tryz.isAgg3
  z3 := Tryz.sizeOf3
  v3 := Tryz.zeroValue3
  t4 := Tryz.underlying4
  a4 := Tryz.isAgg4
  z4 := Tryz.sizeOf4
  v4 := Tryz.zeroValue4
  t5 := Tryz.underlying5
  a5 := Tryz.isAgg5
  z5 := Tryz.sizeOf5
  v5 := Tryz.zeroValue5
  t9 := Tryz.underlying9
  a9 := Tryz.isAgg9
  z9 := Tryz.sizeOf9
  v9 := Tryz.zeroValue9
  t22 := Tryz.underlying56
  a22 := Tryz.isAgg56
  z22 := Tryz.sizeOf56
  v22 := Tryz.zeroValue56
  a24 := Tryz.isAgg28
  z24 := Tryz.sizeOf28
  t25 := Tryz.underlying118
  a25 := Tryz.isAgg118
  z25 := Tryz.sizeOf118
  v25 := Tryz.zeroValue118
  t39 := Tryz.underlying161
  a39 := Tryz.isAgg161
  z39 := Tryz.sizeOf161
  v39 := Tryz.zeroValue161
  t45 := Tryz.underlying191
  a45 := Tryz.isAgg191
  z45 := Tryz.sizeOf191
  v45 := Tryz.zeroValue191
  t46 := Tryz.underlying192
  a46 := Tryz.isAgg192
  z46 := Tryz.sizeOf192
  v46 := Tryz.zeroValue192
  t50 := Tryz.underlying137
  a50 := Tryz.isAgg137
  z50 := Tryz.sizeOf137
  v50 := Tryz.zeroValue137
  t53 := Tryz.underlying198
  a53 := Tryz.isAgg198
  z53 := Tryz.sizeOf198
  v53 := Tryz.zeroValue198
  t55 := Tryz.underlying200
  a55 := Tryz.isAgg200
  z55 := Tryz.sizeOf200
  v55 := Tryz.zeroValue200
  t66 := Tryz.underlying225
  a66 := Tryz.isAgg225
  z66 := Tryz.sizeOf225
  v66 := Tryz.zeroValue225
  t70 := Tryz.underlying229
  a70 := Tryz.isAgg229
  z70 := Tryz.sizeOf229
  v70 := Tryz.zeroValue229
  t76 := Tryz.underlying245
  a76 := Tryz.isAgg245
  z76 := Tryz.sizeOf245
  v76 := Tryz.zeroValue245
  t77 := Tryz.underlying155
  a77 := Tryz.isAgg155
  z77 := Tryz.sizeOf155
  v77 := Tryz.zeroValue155 }
end Go.Proofs
