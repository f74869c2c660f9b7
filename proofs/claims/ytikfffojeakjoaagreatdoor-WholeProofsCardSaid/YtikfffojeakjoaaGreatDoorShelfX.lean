/-
  DERIVED: THE SHELF's CONTRACTS AT THIS DUMP, IN PLAIN WORDS (tools/lay-plain.mjs out of 'YtikfffojeakjoaaGreatDoorLaysX.lean', which tools/lay-shelf.mjs wrote): THE SAME DECLARATIONS UNDER THE SAME NAMES: 'import', 'namespace', 'open', 'def', 'theorem' AND NOTHING ELSE: no command of the shelf's: FOR A HAND-IN. Each laying: the table of numbers ('.._ren') and one theorem, a field a fact of the dump's own or the kernel's comparison; each contract: ONE APPLICATION.
-/
import Derived.Shelf.SlicesG.Delete
import Derived.Shelf.SlSortCmp.WholeK
import Derived.Shelf.SlSortCmp.NoneTotal
import Derived.Ground.SlsfProg
import Derived.Ground.SlgnProg
import Derived.Shelf.Bits.Mul64
import Derived.Ground.NamesProg
import Derived.Test.YtikfffojeakjoaaGreatDoorProg
namespace Go.Proofs
open Go.Shelf
def Tryz.layMul_ren : Go.Shelf.Ren := ⟨fun | 264 => 92 | n => n, fun | 53 => 137 | 46 => 93 | n => n, fun | n => n⟩
theorem Tryz.layMul : Go.Proofs.Lays.n264 Tryz.prog Tryz.layMul_ren := {
  mixed := by kernel_rfl
  f264 := Tryz.func92.trans (congrArg some (by kernel_rfl))
  t46 := Tryz.underlying93
  a46 := Tryz.isAgg93
  z46 := Tryz.sizeOf93
  v46 := Tryz.zeroValue93
  t53 := Tryz.underlying137
  a53 := Tryz.isAgg137
  z53 := Tryz.sizeOf137
  v53 := Tryz.zeroValue137 }
end Go.Proofs
