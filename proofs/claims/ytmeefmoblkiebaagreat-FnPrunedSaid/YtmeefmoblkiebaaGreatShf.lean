/-
  DERIVED: THE SHELF's CONTRACTS AT THIS DUMP, IN PLAIN WORDS (tools/lay-plain.mjs out of 'TryzShelf.lean', which tools/lay-shelf.mjs wrote): THE SAME DECLARATIONS UNDER THE SAME NAMES: 'import', 'namespace', 'open', 'def', 'theorem' AND NOTHING ELSE: no command of the shelf's: FOR A HAND-IN. Each laying: the table of numbers ('.._ren') and one theorem, a field a fact of the dump's own or the kernel's comparison; each contract: ONE APPLICATION.
-/
import Derived.Shelf.Bits.Mul64
import Derived.Ground.Names2Prog
import Derived.Ground.NamesProg
import Derived.Ground.SlsfProg
import Derived.Shelf.Slices.SearchI
import Derived.Shelf.Slices.Empties
import Derived.Shelf.Spec.SlicesInsert
import Derived.Shelf.Spec.SlicesInsertGrow
import Derived.Shelf.SlSortCmp.WholeK
import Derived.Test.YtmeefmoblkiebaaGreatProg
namespace Go.Proofs
open Go.Shelf
def Tryz.laysMul_ren : Go.Shelf.Ren := ⟨fun | 212 => 178 | 263 => 191 | 264 => 192 | n => n, fun | 46 => 63 | 51 => 217 | 146 => 243 | 53 => 134 | 148 => 245 | n => n, fun | n => n⟩
theorem Tryz.laysMul : Go.Proofs.Lays.n212 Tryz.prog Tryz.laysMul_ren := {
  mixed := by kernel_rfl
  f212 := Tryz.func178.trans (congrArg some (by kernel_rfl))
  f263 := Tryz.func191.trans (congrArg some (by kernel_rfl))
  f264 := Tryz.func192.trans (congrArg some (by kernel_rfl))
  t46 := Tryz.underlying63
  a46 := Tryz.isAgg63
  z46 := Tryz.sizeOf63
  v46 := Tryz.zeroValue63
  t51 := Tryz.underlying217
  a51 := Tryz.isAgg217
  z51 := Tryz.sizeOf217
  v51 := Tryz.zeroValue217
  t53 := Tryz.underlying134
  a53 := Tryz.isAgg134
  z53 := Tryz.sizeOf134
  v53 := Tryz.zeroValue134
  t146 := Tryz.underlying243
  a146 := Tryz.isAgg243
  z146 := Tryz.sizeOf243
  v146 := Tryz.zeroValue243
  t148 := Tryz.underlying245
  a148 := Tryz.isAgg245
  z148 := Tryz.sizeOf245
  v148 := Tryz.zeroValue245 }
def Tryz.laysBin_ren : Go.Shelf.Ren := ⟨fun | 25 => 149 | 31 => 179 | 32 => 180 | 37 => 193 | n => n, fun | 22 => 106 | 3 => 3 | 4 => 4 | 40 => 63 | 0 => 0 | n => n, fun | n => n⟩
theorem Tryz.laysBin : Go.Proofs.Lays2.n25 Tryz.prog Tryz.laysBin_ren := {
  mixed := by kernel_rfl
  f25 := Tryz.func149.trans (congrArg some (by kernel_rfl))
  f31 := Tryz.func179.trans (congrArg some (by kernel_rfl))
  f32 := Tryz.func180.trans (congrArg some (by kernel_rfl))
  f37 := Tryz.func193.trans (congrArg some (by kernel_rfl))
  t0 := Tryz.underlying0
  a0 := Tryz.isAgg0
  z0 := Tryz.sizeOf0
  v0 := Tryz.zeroValue0
  t3 := Tryz.underlying3
  a3 := Tryz.isAgg3
  z3 := Tryz.sizeOf3
  v3 := Tryz.zeroValue3
  t4 := Tryz.underlying4
  a4 := Tryz.isAgg4
  z4 := Tryz.sizeOf4
  v4 := Tryz.zeroValue4
  t22 := Tryz.underlying106
  a22 := Tryz.isAgg106
  z22 := Tryz.sizeOf106
  v22 := Tryz.zeroValue106
  t40 := Tryz.underlying63
  a40 := Tryz.isAgg63
  z40 := Tryz.sizeOf63
  v40 := Tryz.zeroValue63 }
def Tryz.laysIns_ren : Go.Shelf.Ren := ⟨fun | 21 => 150 | 27 => 181 | 28 => 182 | 35 => 194 | 39 => 204 | n => n, fun | 22 => 106 | 3 => 3 | 4 => 4 | 0 => 0 | n => n, fun | n => n⟩
theorem Tryz.laysIns : Go.Proofs.Lays2.n21 Tryz.prog Tryz.laysIns_ren := {
  mixed := by kernel_rfl
  f21 := Tryz.func150.trans (congrArg some (by kernel_rfl))
  f27 := Tryz.func181.trans (congrArg some (by kernel_rfl))
  f28 := Tryz.func182.trans (congrArg some (by kernel_rfl))
  f35 := Tryz.func194.trans (congrArg some (by kernel_rfl))
  f39 := Tryz.func204.trans (congrArg some (by kernel_rfl))
  t0 := Tryz.underlying0
  a0 := Tryz.isAgg0
  z0 := Tryz.sizeOf0
  v0 := Tryz.zeroValue0
  t3 := Tryz.underlying3
  a3 := Tryz.isAgg3
  z3 := Tryz.sizeOf3
  v3 := Tryz.zeroValue3
  t4 := Tryz.underlying4
  a4 := Tryz.isAgg4
  z4 := Tryz.sizeOf4
  v4 := Tryz.zeroValue4
  t22 := Tryz.underlying106
  a22 := Tryz.isAgg106
  z22 := Tryz.sizeOf106
  v22 := Tryz.zeroValue106
  i3 := by kernel_rfl }
def Tryz.laysSort_ren : Go.Shelf.Ren := ⟨fun | 6 => 151 | 15 => 109 | 14 => 183 | 28 => 168 | 29 => 169 | 20 => 195 | 21 => 196 | 22 => 197 | 23 => 198 | 24 => 199 | 25 => 200 | 26 => 201 | 27 => 202 | 46 => 205 | 47 => 187 | 48 => 188 | 49 => 206 | 50 => 207 | 57 => 208 | n => n, fun | 22 => 105 | 24 => 161 | 25 => 199 | 3 => 3 | 39 => 63 | 0 => 0 | 53 => 217 | 55 => 134 | 4 => 4 | 46 => 211 | 45 => 210 | 50 => 191 | 5 => 5 | 9 => 9 | 66 => 237 | 70 => 241 | 76 => 252 | 77 => 253 | n => n, fun | n => n⟩
theorem Tryz.laysSort : Go.Proofs.SlLaysF0.n6 Tryz.prog Tryz.laysSort_ren := {
  mixed := by kernel_rfl
  f6 := ⟨Tryz.f151.name, by decide, Tryz.func151.trans (congrArg some (by kernel_rfl))⟩
  f14 := ⟨Tryz.f183.name, by decide, Tryz.func183.trans (congrArg some (by kernel_rfl))⟩
  f15 := Tryz.func109.trans (congrArg some (by kernel_rfl))
  f20 := ⟨Tryz.f195.name, by decide, Tryz.func195.trans (congrArg some (by kernel_rfl))⟩
  f21 := ⟨Tryz.f196.name, by decide, Tryz.func196.trans (congrArg some (by kernel_rfl))⟩
  f22 := ⟨Tryz.f197.name, by decide, Tryz.func197.trans (congrArg some (by kernel_rfl))⟩
  f23 := ⟨Tryz.f198.name, by decide, Tryz.func198.trans (congrArg some (by kernel_rfl))⟩
  f24 := ⟨Tryz.f199.name, by decide, Tryz.func199.trans (congrArg some (by kernel_rfl))⟩
  f25 := ⟨Tryz.f200.name, by decide, Tryz.func200.trans (congrArg some (by kernel_rfl))⟩
  f26 := ⟨Tryz.f201.name, by decide, Tryz.func201.trans (congrArg some (by kernel_rfl))⟩
  f27 := ⟨Tryz.f202.name, by decide, Tryz.func202.trans (congrArg some (by kernel_rfl))⟩
  f28 := Tryz.func168.trans (congrArg some (by kernel_rfl))
  f29 := Tryz.func169.trans (congrArg some (by kernel_rfl))
  f46 := ⟨Tryz.f205.name, by decide, Tryz.func205.trans (congrArg some (by kernel_rfl))⟩
  f47 := Tryz.func187.trans (congrArg some (by kernel_rfl))
  f48 := Tryz.func188.trans (congrArg some (by kernel_rfl))
  f49 := ⟨Tryz.f206.name, by decide, Tryz.func206.trans (congrArg some (by kernel_rfl))⟩
  f50 := ⟨Tryz.f207.name, by decide, Tryz.func207.trans (congrArg some (by kernel_rfl))⟩
  f57 := ⟨Tryz.f208.name, by decide, Tryz.func208.trans (congrArg some (by kernel_rfl))⟩
  t0 := Tryz.underlying0
  a0 := Tryz.isAgg0
  z0 := Tryz.sizeOf0
  v0 := Tryz.zeroValue0
  t3 := Tryz.underlying3
  a3 := Tryz.isAgg3
  z3 := Tryz.sizeOf3
  v3 := Tryz.zeroValue3
  t4 := Tryz.underlying4
  a4 := Tryz.isAgg4
  z4 := Tryz.sizeOf4
  v4 := Tryz.zeroValue4
  t5 := Tryz.underlying5
  a5 := Tryz.isAgg5
  z5 := Tryz.sizeOf5
  v5 := Tryz.zeroValue5
  t9 := Tryz.underlying9
  a9 := Tryz.isAgg9
  z9 := Tryz.sizeOf9
  v9 := Tryz.zeroValue9
  t22 := Tryz.underlying105
  a22 := Tryz.isAgg105
  z22 := Tryz.sizeOf105
  v22 := Tryz.zeroValue105
  t25 := Tryz.underlying199
  a25 := Tryz.isAgg199
  z25 := Tryz.sizeOf199
  v25 := Tryz.zeroValue199
  t39 := Tryz.underlying63
  a39 := Tryz.isAgg63
  z39 := Tryz.sizeOf63
  v39 := Tryz.zeroValue63
  t45 := Tryz.underlying210
  a45 := Tryz.isAgg210
  z45 := Tryz.sizeOf210
  v45 := Tryz.zeroValue210
  t46 := Tryz.underlying211
  a46 := Tryz.isAgg211
  z46 := Tryz.sizeOf211
  v46 := Tryz.zeroValue211
  t50 := Tryz.underlying191
  a50 := Tryz.isAgg191
  z50 := Tryz.sizeOf191
  v50 := Tryz.zeroValue191
  t53 := Tryz.underlying217
  a53 := Tryz.isAgg217
  z53 := Tryz.sizeOf217
  v53 := Tryz.zeroValue217
  t55 := Tryz.underlying134
  a55 := Tryz.isAgg134
  z55 := Tryz.sizeOf134
  v55 := Tryz.zeroValue134
  t66 := Tryz.underlying237
  a66 := Tryz.isAgg237
  z66 := Tryz.sizeOf237
  v66 := Tryz.zeroValue237
  t70 := Tryz.underlying241
  a70 := Tryz.isAgg241
  z70 := Tryz.sizeOf241
  v70 := Tryz.zeroValue241
  t76 := Tryz.underlying252
  a76 := Tryz.isAgg252
  z76 := Tryz.sizeOf252
  v76 := Tryz.zeroValue252
  t77 := Tryz.underlying253
  a77 := Tryz.isAgg253
  z77 := Tryz.sizeOf253
  v77 := Tryz.zeroValue253 }
end Go.Proofs
