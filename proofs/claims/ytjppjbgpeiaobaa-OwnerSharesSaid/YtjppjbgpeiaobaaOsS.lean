/- What is proved here: functions of the library that the program bears are those that the kit's contracts speak of (their bodies are the same, by the kernel's comparison). -/
import Derived.Shelf.SlGeneric
import Derived.Shelf.Lays
import Derived.Test.YtjppjbgpeiaobaaProg
namespace Go.Proofs
open Go.Shelf
def Try.lay138_ren : Go.Shelf.Ren := ⟨fun | 106 => 138 | 213 => 163 | 265 => 180 | n => n, fun | 9 => 9 | 3 => 3 | n => n, fun | n => n⟩
theorem Try.lay138 : Go.Proofs.Lays.n106 Try.prog Try.lay138_ren := {
  mixed := by kernel_rfl
  f106 := Try.func138.trans (congrArg some (by kernel_rfl))
  f213 := Try.func163.trans (congrArg some (by kernel_rfl))
  f265 := Try.func180.trans (congrArg some (by kernel_rfl))
  t3 := Try.underlying3
  a3 := Try.isAgg3
  z3 := Try.sizeOf3
  v3 := Try.zeroValue3
  t9 := Try.underlying9
  a9 := Try.isAgg9
  z9 := Try.sizeOf9
  v9 := Try.zeroValue9 }
end Go.Proofs
