/-
  The shelf's contracts on slices.SortFunc at census.Row, cmp.Compare at int, at this dump, in plain words (written by the kit's lay-plain.mjs; the numbers are r4's).
-/
import Derived.Test.YtlmeponoadhheaaGen
import Derived.Shelf.SlSortCmp.NoneTotal
import Derived.Shelf.SlicesG.Cmp
namespace Go.Proofs.Ytlmeponoadhheaa
set_option linter.unusedVariables false
open Go.Shelf
def srtC_ren : Go.Shelf.Ren := ⟨fun | 6 => 135 | 15 => 140 | 14 => 143 | 28 => 154 | 29 => 155 | 20 => 157 | 21 => 158 | 22 => 159 | 23 => 160 | 24 => 161 | 25 => 162 | 26 => 163 | 27 => 164 | 46 => 170 | 47 => 166 | 48 => 167 | 49 => 171 | 50 => 172 | 57 => 174 | n => n, fun | 22 => 101 | 24 => 106 | 25 => 171 | 3 => 3 | 39 => 118 | 0 => 0 | 53 => 187 | 55 => 90 | 4 => 4 | 46 => 181 | 45 => 180 | 50 => 155 | 5 => 5 | 9 => 9 | 66 => 194 | 70 => 198 | 76 => 202 | 77 => 49 | n => n, fun | n => n⟩
theorem srtC : Go.Proofs.SlLaysF0.n6 Try.prog srtC_ren := {
  mixed := by kernel_rfl
  f6 := ⟨Try.f135.name, by decide, Try.func135.trans (congrArg some (by kernel_rfl))⟩
  f14 := ⟨Try.f143.name, by decide, Try.func143.trans (congrArg some (by kernel_rfl))⟩
  f15 := Try.func140.trans (congrArg some (by kernel_rfl))
  f20 := ⟨Try.f157.name, by decide, Try.func157.trans (congrArg some (by kernel_rfl))⟩
  f21 := ⟨Try.f158.name, by decide, Try.func158.trans (congrArg some (by kernel_rfl))⟩
  f22 := ⟨Try.f159.name, by decide, Try.func159.trans (congrArg some (by kernel_rfl))⟩
  f23 := ⟨Try.f160.name, by decide, Try.func160.trans (congrArg some (by kernel_rfl))⟩
  f24 := ⟨Try.f161.name, by decide, Try.func161.trans (congrArg some (by kernel_rfl))⟩
  f25 := ⟨Try.f162.name, by decide, Try.func162.trans (congrArg some (by kernel_rfl))⟩
  f26 := ⟨Try.f163.name, by decide, Try.func163.trans (congrArg some (by kernel_rfl))⟩
  f27 := ⟨Try.f164.name, by decide, Try.func164.trans (congrArg some (by kernel_rfl))⟩
  f28 := Try.func154.trans (congrArg some (by kernel_rfl))
  f29 := Try.func155.trans (congrArg some (by kernel_rfl))
  f46 := ⟨Try.f170.name, by decide, Try.func170.trans (congrArg some (by kernel_rfl))⟩
  f47 := Try.func166.trans (congrArg some (by kernel_rfl))
  f48 := Try.func167.trans (congrArg some (by kernel_rfl))
  f49 := ⟨Try.f171.name, by decide, Try.func171.trans (congrArg some (by kernel_rfl))⟩
  f50 := ⟨Try.f172.name, by decide, Try.func172.trans (congrArg some (by kernel_rfl))⟩
  f57 := ⟨Try.f174.name, by decide, Try.func174.trans (congrArg some (by kernel_rfl))⟩
  t0 := Try.underlying0
  a0 := Try.isAgg0
  z0 := Try.sizeOf0
  v0 := Try.zeroValue0
  t3 := Try.underlying3
  a3 := Try.isAgg3
  z3 := Try.sizeOf3
  v3 := Try.zeroValue3
  t4 := Try.underlying4
  a4 := Try.isAgg4
  z4 := Try.sizeOf4
  v4 := Try.zeroValue4
  t5 := Try.underlying5
  a5 := Try.isAgg5
  z5 := Try.sizeOf5
  v5 := Try.zeroValue5
  t9 := Try.underlying9
  a9 := Try.isAgg9
  z9 := Try.sizeOf9
  v9 := Try.zeroValue9
  t22 := Try.underlying101
  a22 := Try.isAgg101
  z22 := Try.sizeOf101
  v22 := Try.zeroValue101
  t25 := Try.underlying171
  a25 := Try.isAgg171
  z25 := Try.sizeOf171
  v25 := Try.zeroValue171
  t39 := Try.underlying118
  a39 := Try.isAgg118
  z39 := Try.sizeOf118
  v39 := Try.zeroValue118
  t45 := Try.underlying180
  a45 := Try.isAgg180
  z45 := Try.sizeOf180
  v45 := Try.zeroValue180
  t46 := Try.underlying181
  a46 := Try.isAgg181
  z46 := Try.sizeOf181
  v46 := Try.zeroValue181
  t50 := Try.underlying155
  a50 := Try.isAgg155
  z50 := Try.sizeOf155
  v50 := Try.zeroValue155
  t53 := Try.underlying187
  a53 := Try.isAgg187
  z53 := Try.sizeOf187
  v53 := Try.zeroValue187
  t55 := Try.underlying90
  a55 := Try.isAgg90
  z55 := Try.sizeOf90
  v55 := Try.zeroValue90
  t66 := Try.underlying194
  a66 := Try.isAgg194
  z66 := Try.sizeOf194
  v66 := Try.zeroValue194
  t70 := Try.underlying198
  a70 := Try.isAgg198
  z70 := Try.sizeOf198
  v70 := Try.zeroValue198
  t76 := Try.underlying202
  a76 := Try.isAgg202
  z76 := Try.sizeOf202
  v76 := Try.zeroValue202
  t77 := Try.underlying49
  a77 := Try.isAgg49
  z77 := Try.sizeOf49
  v77 := Try.zeroValue49 }
def cmpC_ren : Go.Shelf.Ren := ⟨fun | 5 => 137 | 7 => 144 | n => n, fun | 22 => 3 | 3 => 3 | 4 => 4 | n => n, fun | n => n⟩
theorem cmpC : Go.Proofs.SlLaysC2.n5 Try.prog cmpC_ren := {
  mixed := by kernel_rfl
  f5 := ⟨Try.f137.name, by decide, Try.func137.trans (congrArg some (by kernel_rfl))⟩
  f7 := ⟨Try.f144.name, by decide, Try.func144.trans (congrArg some (by kernel_rfl))⟩
  t3 := Try.underlying3
  a3 := Try.isAgg3
  z3 := Try.sizeOf3
  v3 := Try.zeroValue3
  t4 := Try.underlying4
  a4 := Try.isAgg4
  z4 := Try.sizeOf4
  v4 := Try.zeroValue4
  t22 := Try.underlying3
  a22 := Try.isAgg3
  z22 := Try.sizeOf3
  v22 := Try.zeroValue3 }
end Go.Proofs.Ytlmeponoadhheaa
