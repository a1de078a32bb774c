/-
  Cases of RoundsNone, run by the kernel: rounds ahead 15 to 17. No conditions.
-/
import Derived.Test.YtcihabdmigpklaaGreatDoorFnsG
namespace Go.Proofs.YtcihabdmigpklaaGreatDoor
open Go Go.Abs Go.Abs.F
set_option maxRecDepth 100000
theorem none_15_0 : noneOk 15 0 = true := by kernel_rfl
theorem none_15_1 : noneOk 15 1 = true := by kernel_rfl
theorem none_16_0 : noneOk 16 0 = true := by kernel_rfl
theorem none_16_1 : noneOk 16 1 = true := by kernel_rfl
theorem none_17_0 : noneOk 17 0 = true := by kernel_rfl
theorem none_17_1 : noneOk 17 1 = true := by kernel_rfl
end Go.Proofs.YtcihabdmigpklaaGreatDoor
