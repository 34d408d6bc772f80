/- What is proved here: functions of the library that the program bears are those that the kit's contracts speak of (their bodies are the same, by the kernel's comparison). -/
import Derived.Shelf.SlGeneric
import Derived.Shelf.SlLaysE
import Derived.Test.YtdchminahimfhaaProg
namespace Go.Proofs
open Go.Shelf
def Try.lay32_ren : Go.Shelf.Ren := ⟨fun | 35 => 32 | n => n, fun | 22 => 34 | 23 => 3 | 3 => 3 | 4 => 4 | 0 => 0 | n => n, fun | n => n⟩
theorem Try.lay32 : Go.Proofs.SlLaysE.n35 Try.prog Try.lay32_ren := {
  mixed := by kernel_rfl
  f35 := ⟨Try.f32.name, by decide, Try.func32.trans (congrArg some (by kernel_rfl))⟩
  t0 := Try.underlying0
  a0 := Try.isAgg0
  z0 := Try.sizeOf0
  v0 := Try.zeroValue0
  t3 := Try.underlying3
  a3 := Try.isAgg3
  z3 := Try.sizeOf3
  v3 := Try.zeroValue3
  t4 := Try.underlying4
  a4 := Try.isAgg4
  z4 := Try.sizeOf4
  v4 := Try.zeroValue4
  t22 := Try.underlying34
  a22 := Try.isAgg34
  z22 := Try.sizeOf34
  v22 := Try.zeroValue34
  a23 := Try.isAgg3
  z23 := Try.sizeOf3 }
end Go.Proofs
