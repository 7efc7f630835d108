/- The shelf's laying of slices.SortFunc at this program, in plain words (as its tool wrote them). -/
import Derived.Shelf.SlSortCmp.NoneTotal
import Derived.Shelf.SlGeneric
import Derived.Ground.SlsfProg
import Derived.Test.YtfjjeijkbhcoaaaProg
namespace Go.Proofs
open Go.Shelf
def Try.sortU_ren : Go.Shelf.Ren := ⟨fun | 6 => 102 | 15 => 133 | 14 => 132 | 28 => 159 | 29 => 160 | 20 => 151 | 21 => 152 | 22 => 153 | 23 => 154 | 24 => 155 | 25 => 156 | 26 => 157 | 27 => 158 | 46 => 174 | 47 => 175 | 48 => 176 | 49 => 177 | 50 => 178 | 57 => 183 | n => n, fun | 22 => 26 | 24 => 25 | 25 => 146 | 3 => 3 | 39 => 179 | 0 => 0 | 53 => 207 | 55 => 186 | 4 => 4 | 46 => 201 | 45 => 200 | 50 => 125 | 5 => 5 | 9 => 9 | 66 => 227 | 70 => 231 | 76 => 238 | 77 => 239 | n => n, fun | n => n⟩
theorem Try.sortU : Go.Proofs.SlLaysF0.n6 Try.prog Try.sortU_ren := {
  mixed := by kernel_rfl
  f6 := ⟨Try.f102.name, by decide, Try.func102.trans (congrArg some (by kernel_rfl))⟩
  f14 := ⟨Try.f132.name, by decide, Try.func132.trans (congrArg some (by kernel_rfl))⟩
  f15 := Try.func133.trans (congrArg some (by kernel_rfl))
  f20 := ⟨Try.f151.name, by decide, Try.func151.trans (congrArg some (by kernel_rfl))⟩
  f21 := ⟨Try.f152.name, by decide, Try.func152.trans (congrArg some (by kernel_rfl))⟩
  f22 := ⟨Try.f153.name, by decide, Try.func153.trans (congrArg some (by kernel_rfl))⟩
  f23 := ⟨Try.f154.name, by decide, Try.func154.trans (congrArg some (by kernel_rfl))⟩
  f24 := ⟨Try.f155.name, by decide, Try.func155.trans (congrArg some (by kernel_rfl))⟩
  f25 := ⟨Try.f156.name, by decide, Try.func156.trans (congrArg some (by kernel_rfl))⟩
  f26 := ⟨Try.f157.name, by decide, Try.func157.trans (congrArg some (by kernel_rfl))⟩
  f27 := ⟨Try.f158.name, by decide, Try.func158.trans (congrArg some (by kernel_rfl))⟩
  f28 := Try.func159.trans (congrArg some (by kernel_rfl))
  f29 := Try.func160.trans (congrArg some (by kernel_rfl))
  f46 := ⟨Try.f174.name, by decide, Try.func174.trans (congrArg some (by kernel_rfl))⟩
  f47 := Try.func175.trans (congrArg some (by kernel_rfl))
  f48 := Try.func176.trans (congrArg some (by kernel_rfl))
  f49 := ⟨Try.f177.name, by decide, Try.func177.trans (congrArg some (by kernel_rfl))⟩
  f50 := ⟨Try.f178.name, by decide, Try.func178.trans (congrArg some (by kernel_rfl))⟩
  f57 := ⟨Try.f183.name, by decide, Try.func183.trans (congrArg some (by kernel_rfl))⟩
  t0 := Try.underlying0
  a0 := Try.isAgg0
  z0 := Try.sizeOf0
  v0 := Try.zeroValue0
  t3 := Try.underlying3
  a3 := Try.isAgg3
  z3 := Try.sizeOf3
  v3 := Try.zeroValue3
  t4 := Try.underlying4
  a4 := Try.isAgg4
  z4 := Try.sizeOf4
  v4 := Try.zeroValue4
  t5 := Try.underlying5
  a5 := Try.isAgg5
  z5 := Try.sizeOf5
  v5 := Try.zeroValue5
  t9 := Try.underlying9
  a9 := Try.isAgg9
  z9 := Try.sizeOf9
  v9 := Try.zeroValue9
  t22 := Try.underlying26
  a22 := Try.isAgg26
  z22 := Try.sizeOf26
  v22 := Try.zeroValue26
  t25 := Try.underlying146
  a25 := Try.isAgg146
  z25 := Try.sizeOf146
  v25 := Try.zeroValue146
  t39 := Try.underlying179
  a39 := Try.isAgg179
  z39 := Try.sizeOf179
  v39 := Try.zeroValue179
  t45 := Try.underlying200
  a45 := Try.isAgg200
  z45 := Try.sizeOf200
  v45 := Try.zeroValue200
  t46 := Try.underlying201
  a46 := Try.isAgg201
  z46 := Try.sizeOf201
  v46 := Try.zeroValue201
  t50 := Try.underlying125
  a50 := Try.isAgg125
  z50 := Try.sizeOf125
  v50 := Try.zeroValue125
  t53 := Try.underlying207
  a53 := Try.isAgg207
  z53 := Try.sizeOf207
  v53 := Try.zeroValue207
  t55 := Try.underlying186
  a55 := Try.isAgg186
  z55 := Try.sizeOf186
  v55 := Try.zeroValue186
  t66 := Try.underlying227
  a66 := Try.isAgg227
  z66 := Try.sizeOf227
  v66 := Try.zeroValue227
  t70 := Try.underlying231
  a70 := Try.isAgg231
  z70 := Try.sizeOf231
  v70 := Try.zeroValue231
  t76 := Try.underlying238
  a76 := Try.isAgg238
  z76 := Try.sizeOf238
  v76 := Try.zeroValue238
  t77 := Try.underlying239
  a77 := Try.isAgg239
  z77 := Try.sizeOf239
  v77 := Try.zeroValue239 }
end Go.Proofs
