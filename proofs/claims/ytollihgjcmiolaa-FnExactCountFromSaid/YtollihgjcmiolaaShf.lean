/-
  DERIVED: THE SHELF's CONTRACTS AT THIS DUMP, IN PLAIN WORDS (tools/lay-plain.mjs out of 'TryShelf.lean', which tools/lay-shelf.mjs wrote): THE SAME DECLARATIONS UNDER THE SAME NAMES: 'import', 'namespace', 'open', 'def', 'theorem' AND NOTHING ELSE: no command of the shelf's: FOR A HAND-IN. Each laying: the table of numbers ('.._ren') and one theorem, a field a fact of the dump's own or the kernel's comparison; each contract: ONE APPLICATION.
-/
import Derived.Shelf.Bits.Mul64
import Derived.Ground.Names2Prog
import Derived.Ground.NamesProg
import Derived.Ground.SlsfProg
import Derived.Shelf.Slices.SearchI
import Derived.Shelf.Slices.Empties
import Derived.Shelf.Spec.SlicesInsert
import Derived.Shelf.Spec.SlicesInsertGrow
import Derived.Shelf.SlSortCmp.WholeK
import Derived.Test.YtollihgjcmiolaaProg
namespace Go.Proofs
open Go.Shelf
def Try.laysMul_ren : Go.Shelf.Ren := ⟨fun | 212 => 103 | 263 => 114 | 264 => 115 | n => n, fun | 46 => 145 | 51 => 170 | 146 => 171 | 53 => 173 | 148 => 174 | n => n, fun | n => n⟩
theorem Try.laysMul : Go.Proofs.Lays.n212 Try.prog Try.laysMul_ren := {
  mixed := by kernel_rfl
  f212 := Try.func103.trans (congrArg some (by kernel_rfl))
  f263 := Try.func114.trans (congrArg some (by kernel_rfl))
  f264 := Try.func115.trans (congrArg some (by kernel_rfl))
  t46 := Try.underlying145
  a46 := Try.isAgg145
  z46 := Try.sizeOf145
  v46 := Try.zeroValue145
  t51 := Try.underlying170
  a51 := Try.isAgg170
  z51 := Try.sizeOf170
  v51 := Try.zeroValue170
  t53 := Try.underlying173
  a53 := Try.isAgg173
  z53 := Try.sizeOf173
  v53 := Try.zeroValue173
  t146 := Try.underlying171
  a146 := Try.isAgg171
  z146 := Try.sizeOf171
  v146 := Try.zeroValue171
  t148 := Try.underlying174
  a148 := Try.isAgg174
  z148 := Try.sizeOf174
  v148 := Try.zeroValue174 }
def Try.laysBin_ren : Go.Shelf.Ren := ⟨fun | 25 => 84 | 31 => 104 | 32 => 105 | 37 => 113 | n => n, fun | 22 => 135 | 3 => 3 | 4 => 4 | 40 => 145 | 0 => 0 | n => n, fun | n => n⟩
theorem Try.laysBin : Go.Proofs.Lays2.n25 Try.prog Try.laysBin_ren := {
  mixed := by kernel_rfl
  f25 := Try.func84.trans (congrArg some (by kernel_rfl))
  f31 := Try.func104.trans (congrArg some (by kernel_rfl))
  f32 := Try.func105.trans (congrArg some (by kernel_rfl))
  f37 := Try.func113.trans (congrArg some (by kernel_rfl))
  t0 := Try.underlying0
  a0 := Try.isAgg0
  z0 := Try.sizeOf0
  v0 := Try.zeroValue0
  t3 := Try.underlying3
  a3 := Try.isAgg3
  z3 := Try.sizeOf3
  v3 := Try.zeroValue3
  t4 := Try.underlying4
  a4 := Try.isAgg4
  z4 := Try.sizeOf4
  v4 := Try.zeroValue4
  t22 := Try.underlying135
  a22 := Try.isAgg135
  z22 := Try.sizeOf135
  v22 := Try.zeroValue135
  t40 := Try.underlying145
  a40 := Try.isAgg145
  z40 := Try.sizeOf145
  v40 := Try.zeroValue145 }
def Try.laysIns_ren : Go.Shelf.Ren := ⟨fun | 21 => 85 | 27 => 106 | 28 => 107 | 35 => 116 | 39 => 128 | n => n, fun | 22 => 135 | 3 => 3 | 4 => 4 | 0 => 0 | n => n, fun | n => n⟩
theorem Try.laysIns : Go.Proofs.Lays2.n21 Try.prog Try.laysIns_ren := {
  mixed := by kernel_rfl
  f21 := Try.func85.trans (congrArg some (by kernel_rfl))
  f27 := Try.func106.trans (congrArg some (by kernel_rfl))
  f28 := Try.func107.trans (congrArg some (by kernel_rfl))
  f35 := Try.func116.trans (congrArg some (by kernel_rfl))
  f39 := Try.func128.trans (congrArg some (by kernel_rfl))
  t0 := Try.underlying0
  a0 := Try.isAgg0
  z0 := Try.sizeOf0
  v0 := Try.zeroValue0
  t3 := Try.underlying3
  a3 := Try.isAgg3
  z3 := Try.sizeOf3
  v3 := Try.zeroValue3
  t4 := Try.underlying4
  a4 := Try.isAgg4
  z4 := Try.sizeOf4
  v4 := Try.zeroValue4
  t22 := Try.underlying135
  a22 := Try.isAgg135
  z22 := Try.sizeOf135
  v22 := Try.zeroValue135
  i3 := by kernel_rfl }
def Try.laysSort_ren : Go.Shelf.Ren := ⟨fun | 6 => 86 | 15 => 109 | 14 => 108 | 28 => 125 | 29 => 126 | 20 => 117 | 21 => 118 | 22 => 119 | 23 => 120 | 24 => 121 | 25 => 122 | 26 => 123 | 27 => 124 | 46 => 129 | 47 => 130 | 48 => 131 | 49 => 132 | 50 => 133 | 57 => 134 | n => n, fun | 22 => 76 | 24 => 89 | 25 => 123 | 3 => 3 | 39 => 145 | 0 => 0 | 53 => 170 | 55 => 173 | 4 => 4 | 46 => 178 | 45 => 177 | 50 => 116 | 5 => 5 | 9 => 9 | 66 => 188 | 70 => 192 | 76 => 194 | 77 => 195 | n => n, fun | n => n⟩
theorem Try.laysSort : Go.Proofs.SlLaysF0.n6 Try.prog Try.laysSort_ren := {
  mixed := by kernel_rfl
  f6 := ⟨Try.f86.name, by decide, Try.func86.trans (congrArg some (by kernel_rfl))⟩
  f14 := ⟨Try.f108.name, by decide, Try.func108.trans (congrArg some (by kernel_rfl))⟩
  f15 := Try.func109.trans (congrArg some (by kernel_rfl))
  f20 := ⟨Try.f117.name, by decide, Try.func117.trans (congrArg some (by kernel_rfl))⟩
  f21 := ⟨Try.f118.name, by decide, Try.func118.trans (congrArg some (by kernel_rfl))⟩
  f22 := ⟨Try.f119.name, by decide, Try.func119.trans (congrArg some (by kernel_rfl))⟩
  f23 := ⟨Try.f120.name, by decide, Try.func120.trans (congrArg some (by kernel_rfl))⟩
  f24 := ⟨Try.f121.name, by decide, Try.func121.trans (congrArg some (by kernel_rfl))⟩
  f25 := ⟨Try.f122.name, by decide, Try.func122.trans (congrArg some (by kernel_rfl))⟩
  f26 := ⟨Try.f123.name, by decide, Try.func123.trans (congrArg some (by kernel_rfl))⟩
  f27 := ⟨Try.f124.name, by decide, Try.func124.trans (congrArg some (by kernel_rfl))⟩
  f28 := Try.func125.trans (congrArg some (by kernel_rfl))
  f29 := Try.func126.trans (congrArg some (by kernel_rfl))
  f46 := ⟨Try.f129.name, by decide, Try.func129.trans (congrArg some (by kernel_rfl))⟩
  f47 := Try.func130.trans (congrArg some (by kernel_rfl))
  f48 := Try.func131.trans (congrArg some (by kernel_rfl))
  f49 := ⟨Try.f132.name, by decide, Try.func132.trans (congrArg some (by kernel_rfl))⟩
  f50 := ⟨Try.f133.name, by decide, Try.func133.trans (congrArg some (by kernel_rfl))⟩
  f57 := ⟨Try.f134.name, by decide, Try.func134.trans (congrArg some (by kernel_rfl))⟩
  t0 := Try.underlying0
  a0 := Try.isAgg0
  z0 := Try.sizeOf0
  v0 := Try.zeroValue0
  t3 := Try.underlying3
  a3 := Try.isAgg3
  z3 := Try.sizeOf3
  v3 := Try.zeroValue3
  t4 := Try.underlying4
  a4 := Try.isAgg4
  z4 := Try.sizeOf4
  v4 := Try.zeroValue4
  t5 := Try.underlying5
  a5 := Try.isAgg5
  z5 := Try.sizeOf5
  v5 := Try.zeroValue5
  t9 := Try.underlying9
  a9 := Try.isAgg9
  z9 := Try.sizeOf9
  v9 := Try.zeroValue9
  t22 := Try.underlying76
  a22 := Try.isAgg76
  z22 := Try.sizeOf76
  v22 := Try.zeroValue76
  t25 := Try.underlying123
  a25 := Try.isAgg123
  z25 := Try.sizeOf123
  v25 := Try.zeroValue123
  t39 := Try.underlying145
  a39 := Try.isAgg145
  z39 := Try.sizeOf145
  v39 := Try.zeroValue145
  t45 := Try.underlying177
  a45 := Try.isAgg177
  z45 := Try.sizeOf177
  v45 := Try.zeroValue177
  t46 := Try.underlying178
  a46 := Try.isAgg178
  z46 := Try.sizeOf178
  v46 := Try.zeroValue178
  t50 := Try.underlying116
  a50 := Try.isAgg116
  z50 := Try.sizeOf116
  v50 := Try.zeroValue116
  t53 := Try.underlying170
  a53 := Try.isAgg170
  z53 := Try.sizeOf170
  v53 := Try.zeroValue170
  t55 := Try.underlying173
  a55 := Try.isAgg173
  z55 := Try.sizeOf173
  v55 := Try.zeroValue173
  t66 := Try.underlying188
  a66 := Try.isAgg188
  z66 := Try.sizeOf188
  v66 := Try.zeroValue188
  t70 := Try.underlying192
  a70 := Try.isAgg192
  z70 := Try.sizeOf192
  v70 := Try.zeroValue192
  t76 := Try.underlying194
  a76 := Try.isAgg194
  z76 := Try.sizeOf194
  v76 := Try.zeroValue194
  t77 := Try.underlying195
  a77 := Try.isAgg195
  z77 := Try.sizeOf195
  v77 := Try.zeroValue195 }
end Go.Proofs
