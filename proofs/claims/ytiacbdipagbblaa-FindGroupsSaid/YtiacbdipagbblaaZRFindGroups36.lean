/-
  WHAT IT HOLDS: the shelf's contracts of the sorts of this program, laid by the kit's own tool (lay-plain). No condition.
-/
import Derived.Shelf.SlSortCmp.Whole1
import Derived.Ground.SlsfProg
import Derived.Test.YtiacbdipagbblaaProg
namespace Go.Proofs
open Go.Shelf
def Try.sort113_ren : Go.Shelf.Ren := ⟨fun | 6 => 113 | 15 => 147 | 14 => 146 | 28 => 180 | 29 => 181 | 20 => 172 | 21 => 173 | 22 => 174 | 23 => 175 | 24 => 176 | 25 => 177 | 26 => 178 | 27 => 179 | 46 => 189 | 47 => 190 | 48 => 191 | 49 => 192 | 50 => 193 | 57 => 197 | n => n, fun | 22 => 24 | 24 => 37 | 25 => 87 | 3 => 3 | 39 => 124 | 0 => 0 | 53 => 165 | 55 => 167 | 4 => 4 | 46 => 159 | 45 => 158 | 50 => 95 | 5 => 5 | 9 => 9 | 66 => 175 | 70 => 179 | 76 => 183 | 77 => 104 | n => n, fun | n => n⟩
theorem Try.sort113 : Go.Proofs.SlLaysF.n6 Try.prog Try.sort113_ren := {
  mixed := by kernel_rfl
  f6 := ⟨Try.f113.name, by decide, Try.func113.trans (congrArg some (by kernel_rfl))⟩
  f14 := ⟨Try.f146.name, by decide, Try.func146.trans (congrArg some (by kernel_rfl))⟩
  f15 := Try.func147.trans (congrArg some (by kernel_rfl))
  f20 := ⟨Try.f172.name, by decide, Try.func172.trans (congrArg some (by kernel_rfl))⟩
  f21 := ⟨Try.f173.name, by decide, Try.func173.trans (congrArg some (by kernel_rfl))⟩
  f22 := ⟨Try.f174.name, by decide, Try.func174.trans (congrArg some (by kernel_rfl))⟩
  f23 := ⟨Try.f175.name, by decide, Try.func175.trans (congrArg some (by kernel_rfl))⟩
  f24 := ⟨Try.f176.name, by decide, Try.func176.trans (congrArg some (by kernel_rfl))⟩
  f25 := ⟨Try.f177.name, by decide, Try.func177.trans (congrArg some (by kernel_rfl))⟩
  f26 := ⟨Try.f178.name, by decide, Try.func178.trans (congrArg some (by kernel_rfl))⟩
  f27 := ⟨Try.f179.name, by decide, Try.func179.trans (congrArg some (by kernel_rfl))⟩
  f28 := Try.func180.trans (congrArg some (by kernel_rfl))
  f29 := Try.func181.trans (congrArg some (by kernel_rfl))
  f46 := ⟨Try.f189.name, by decide, Try.func189.trans (congrArg some (by kernel_rfl))⟩
  f47 := Try.func190.trans (congrArg some (by kernel_rfl))
  f48 := Try.func191.trans (congrArg some (by kernel_rfl))
  f49 := ⟨Try.f192.name, by decide, Try.func192.trans (congrArg some (by kernel_rfl))⟩
  f50 := ⟨Try.f193.name, by decide, Try.func193.trans (congrArg some (by kernel_rfl))⟩
  f57 := ⟨Try.f197.name, by decide, Try.func197.trans (congrArg some (by kernel_rfl))⟩
  t0 := Try.underlying0
  a0 := Try.isAgg0
  z0 := Try.sizeOf0
  v0 := Try.zeroValue0
  t3 := Try.underlying3
  a3 := Try.isAgg3
  z3 := Try.sizeOf3
  v3 := Try.zeroValue3
  t4 := Try.underlying4
  a4 := Try.isAgg4
  z4 := Try.sizeOf4
  v4 := Try.zeroValue4
  t5 := Try.underlying5
  a5 := Try.isAgg5
  z5 := Try.sizeOf5
  v5 := Try.zeroValue5
  t9 := Try.underlying9
  a9 := Try.isAgg9
  z9 := Try.sizeOf9
  v9 := Try.zeroValue9
  t22 := Try.underlying24
  a22 := Try.isAgg24
  z22 := Try.sizeOf24
  v22 := Try.zeroValue24
  a24 := Try.isAgg37
  z24 := Try.sizeOf37
  t25 := Try.underlying87
  a25 := Try.isAgg87
  z25 := Try.sizeOf87
  v25 := Try.zeroValue87
  t39 := Try.underlying124
  a39 := Try.isAgg124
  z39 := Try.sizeOf124
  v39 := Try.zeroValue124
  t45 := Try.underlying158
  a45 := Try.isAgg158
  z45 := Try.sizeOf158
  v45 := Try.zeroValue158
  t46 := Try.underlying159
  a46 := Try.isAgg159
  z46 := Try.sizeOf159
  v46 := Try.zeroValue159
  t50 := Try.underlying95
  a50 := Try.isAgg95
  z50 := Try.sizeOf95
  v50 := Try.zeroValue95
  t53 := Try.underlying165
  a53 := Try.isAgg165
  z53 := Try.sizeOf165
  v53 := Try.zeroValue165
  t55 := Try.underlying167
  a55 := Try.isAgg167
  z55 := Try.sizeOf167
  v55 := Try.zeroValue167
  t66 := Try.underlying175
  a66 := Try.isAgg175
  z66 := Try.sizeOf175
  v66 := Try.zeroValue175
  t70 := Try.underlying179
  a70 := Try.isAgg179
  z70 := Try.sizeOf179
  v70 := Try.zeroValue179
  t76 := Try.underlying183
  a76 := Try.isAgg183
  z76 := Try.sizeOf183
  v76 := Try.zeroValue183
  t77 := Try.underlying104
  a77 := Try.isAgg104
  z77 := Try.sizeOf104
  v77 := Try.zeroValue104 }
end Go.Proofs
