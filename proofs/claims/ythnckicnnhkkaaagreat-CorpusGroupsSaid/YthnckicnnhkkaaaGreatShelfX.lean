/-
  DERIVED: THE SHELF's CONTRACTS AT THIS DUMP, IN PLAIN WORDS (tools/lay-plain.mjs out of 'YthnckicnnhkkaaaGreatLaysX.lean', which tools/lay-shelf.mjs wrote): THE SAME DECLARATIONS UNDER THE SAME NAMES: 'import', 'namespace', 'open', 'def', 'theorem' AND NOTHING ELSE: no command of the shelf's: FOR A HAND-IN. Each laying: the table of numbers ('.._ren') and one theorem, a field a fact of the dump's own or the kernel's comparison; each contract: ONE APPLICATION.
-/
import Derived.Shelf.SlicesG.Delete
import Derived.Shelf.SlSortCmp.WholeK
import Derived.Shelf.SlSortCmp.NoneTotal
import Derived.Ground.SlsfProg
import Derived.Ground.SlgnProg
import Derived.Shelf.Bits.Mul64
import Derived.Ground.NamesProg
import Derived.Test.YthnckicnnhkkaaaGreatProg
namespace Go.Proofs
open Go.Shelf
def Tryz.laySortA_ren : Go.Shelf.Ren := ⟨fun | 6 => 222 | 15 => 131 | 14 => 255 | 28 => 173 | 29 => 174 | 20 => 266 | 21 => 267 | 22 => 268 | 23 => 269 | 24 => 270 | 25 => 271 | 26 => 272 | 27 => 273 | 46 => 283 | 47 => 216 | 48 => 217 | 49 => 284 | 50 => 285 | 57 => 289 | n => n, fun | 22 => 129 | 24 => 177 | 25 => 256 | 3 => 3 | 39 => 163 | 0 => 0 | 53 => 208 | 55 => 210 | 4 => 4 | 46 => 202 | 45 => 201 | 50 => 110 | 5 => 5 | 9 => 9 | 66 => 247 | 70 => 251 | 76 => 273 | 77 => 274 | n => n, fun | n => n⟩
theorem Tryz.laySortA : Go.Proofs.SlLaysF0.n6 Tryz.prog Tryz.laySortA_ren := {
  mixed := by kernel_rfl
  f6 := ⟨Tryz.f222.name, by decide, Tryz.func222.trans (congrArg some (by kernel_rfl))⟩
  f14 := ⟨Tryz.f255.name, by decide, Tryz.func255.trans (congrArg some (by kernel_rfl))⟩
  f15 := Tryz.func131.trans (congrArg some (by kernel_rfl))
  f20 := ⟨Tryz.f266.name, by decide, Tryz.func266.trans (congrArg some (by kernel_rfl))⟩
  f21 := ⟨Tryz.f267.name, by decide, Tryz.func267.trans (congrArg some (by kernel_rfl))⟩
  f22 := ⟨Tryz.f268.name, by decide, Tryz.func268.trans (congrArg some (by kernel_rfl))⟩
  f23 := ⟨Tryz.f269.name, by decide, Tryz.func269.trans (congrArg some (by kernel_rfl))⟩
  f24 := ⟨Tryz.f270.name, by decide, Tryz.func270.trans (congrArg some (by kernel_rfl))⟩
  f25 := ⟨Tryz.f271.name, by decide, Tryz.func271.trans (congrArg some (by kernel_rfl))⟩
  f26 := ⟨Tryz.f272.name, by decide, Tryz.func272.trans (congrArg some (by kernel_rfl))⟩
  f27 := ⟨Tryz.f273.name, by decide, Tryz.func273.trans (congrArg some (by kernel_rfl))⟩
  f28 := Tryz.func173.trans (congrArg some (by kernel_rfl))
  f29 := Tryz.func174.trans (congrArg some (by kernel_rfl))
  f46 := ⟨Tryz.f283.name, by decide, Tryz.func283.trans (congrArg some (by kernel_rfl))⟩
  f47 := Tryz.func216.trans (congrArg some (by kernel_rfl))
  f48 := Tryz.func217.trans (congrArg some (by kernel_rfl))
  f49 := ⟨Tryz.f284.name, by decide, Tryz.func284.trans (congrArg some (by kernel_rfl))⟩
  f50 := ⟨Tryz.f285.name, by decide, Tryz.func285.trans (congrArg some (by kernel_rfl))⟩
  f57 := ⟨Tryz.f289.name, by decide, Tryz.func289.trans (congrArg some (by kernel_rfl))⟩
  t0 := Tryz.underlying0
  a0 := Tryz.isAgg0
  z0 := Tryz.sizeOf0
  v0 := Tryz.zeroValue0
  t3 := Tryz.underlying3
  a3 := Tryz.isAgg3
  z3 := Tryz.sizeOf3
  v3 := Tryz.zeroValue3
  t4 := Tryz.underlying4
  a4 := Tryz.isAgg4
  z4 := Tryz.sizeOf4
  v4 := Tryz.zeroValue4
  t5 := Tryz.underlying5
  a5 := Tryz.isAgg5
  z5 := Tryz.sizeOf5
  v5 := Tryz.zeroValue5
  t9 := Tryz.underlying9
  a9 := Tryz.isAgg9
  z9 := Tryz.sizeOf9
  v9 := Tryz.zeroValue9
  t22 := Tryz.underlying129
  a22 := Tryz.isAgg129
  z22 := Tryz.sizeOf129
  v22 := Tryz.zeroValue129
  t25 := Tryz.underlying256
  a25 := Tryz.isAgg256
  z25 := Tryz.sizeOf256
  v25 := Tryz.zeroValue256
  t39 := Tryz.underlying163
  a39 := Tryz.isAgg163
  z39 := Tryz.sizeOf163
  v39 := Tryz.zeroValue163
  t45 := Tryz.underlying201
  a45 := Tryz.isAgg201
  z45 := Tryz.sizeOf201
  v45 := Tryz.zeroValue201
  t46 := Tryz.underlying202
  a46 := Tryz.isAgg202
  z46 := Tryz.sizeOf202
  v46 := Tryz.zeroValue202
  t50 := Tryz.underlying110
  a50 := Tryz.isAgg110
  z50 := Tryz.sizeOf110
  v50 := Tryz.zeroValue110
  t53 := Tryz.underlying208
  a53 := Tryz.isAgg208
  z53 := Tryz.sizeOf208
  v53 := Tryz.zeroValue208
  t55 := Tryz.underlying210
  a55 := Tryz.isAgg210
  z55 := Tryz.sizeOf210
  v55 := Tryz.zeroValue210
  t66 := Tryz.underlying247
  a66 := Tryz.isAgg247
  z66 := Tryz.sizeOf247
  v66 := Tryz.zeroValue247
  t70 := Tryz.underlying251
  a70 := Tryz.isAgg251
  z70 := Tryz.sizeOf251
  v70 := Tryz.zeroValue251
  t76 := Tryz.underlying273
  a76 := Tryz.isAgg273
  z76 := Tryz.sizeOf273
  v76 := Tryz.zeroValue273
  t77 := Tryz.underlying274
  a77 := Tryz.isAgg274
  z77 := Tryz.sizeOf274
  v77 := Tryz.zeroValue274 }
end Go.Proofs
