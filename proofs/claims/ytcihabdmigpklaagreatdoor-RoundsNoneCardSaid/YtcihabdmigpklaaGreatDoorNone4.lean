/-
  Cases of RoundsNone, run by the kernel: rounds ahead 12 to 14. No conditions.
-/
import Derived.Test.YtcihabdmigpklaaGreatDoorFnsG
namespace Go.Proofs.YtcihabdmigpklaaGreatDoor
open Go Go.Abs Go.Abs.F
set_option maxRecDepth 100000
theorem none_12_0 : noneOk 12 0 = true := by kernel_rfl
theorem none_12_1 : noneOk 12 1 = true := by kernel_rfl
theorem none_13_0 : noneOk 13 0 = true := by kernel_rfl
theorem none_13_1 : noneOk 13 1 = true := by kernel_rfl
theorem none_14_0 : noneOk 14 0 = true := by kernel_rfl
theorem none_14_1 : noneOk 14 1 = true := by kernel_rfl
end Go.Proofs.YtcihabdmigpklaaGreatDoor
