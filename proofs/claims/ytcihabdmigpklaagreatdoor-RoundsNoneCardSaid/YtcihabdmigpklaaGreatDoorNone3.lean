/-
  Cases of RoundsNone, run by the kernel: rounds ahead 9 to 11. No conditions.
-/
import Derived.Test.YtcihabdmigpklaaGreatDoorFnsG
namespace Go.Proofs.YtcihabdmigpklaaGreatDoor
open Go Go.Abs Go.Abs.F
set_option maxRecDepth 100000
theorem none_9_0 : noneOk 9 0 = true := by kernel_rfl
theorem none_9_1 : noneOk 9 1 = true := by kernel_rfl
theorem none_10_0 : noneOk 10 0 = true := by kernel_rfl
theorem none_10_1 : noneOk 10 1 = true := by kernel_rfl
theorem none_11_0 : noneOk 11 0 = true := by kernel_rfl
theorem none_11_1 : noneOk 11 1 = true := by kernel_rfl
end Go.Proofs.YtcihabdmigpklaaGreatDoor
