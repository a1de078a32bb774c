/-
  Cases of RoundsNone, run by the kernel: rounds ahead 0 to 2. No conditions.
-/
import Derived.Test.YtcihabdmigpklaaGreatDoorFnsG
namespace Go.Proofs.YtcihabdmigpklaaGreatDoor
open Go Go.Abs Go.Abs.F
set_option maxRecDepth 100000
theorem none_0_0 : noneOk 0 0 = true := by kernel_rfl
theorem none_0_1 : noneOk 0 1 = true := by kernel_rfl
theorem none_1_0 : noneOk 1 0 = true := by kernel_rfl
theorem none_1_1 : noneOk 1 1 = true := by kernel_rfl
theorem none_2_0 : noneOk 2 0 = true := by kernel_rfl
theorem none_2_1 : noneOk 2 1 = true := by kernel_rfl
end Go.Proofs.YtcihabdmigpklaaGreatDoor
