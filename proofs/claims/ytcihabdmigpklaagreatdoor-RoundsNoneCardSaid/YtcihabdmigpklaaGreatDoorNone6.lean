/-
  Cases of RoundsNone, run by the kernel: rounds ahead 18 to 20. No conditions.
-/
import Derived.Test.YtcihabdmigpklaaGreatDoorFnsG
namespace Go.Proofs.YtcihabdmigpklaaGreatDoor
open Go Go.Abs Go.Abs.F
set_option maxRecDepth 100000
theorem none_18_0 : noneOk 18 0 = true := by kernel_rfl
theorem none_18_1 : noneOk 18 1 = true := by kernel_rfl
theorem none_19_0 : noneOk 19 0 = true := by kernel_rfl
theorem none_19_1 : noneOk 19 1 = true := by kernel_rfl
theorem none_20_0 : noneOk 20 0 = true := by kernel_rfl
theorem none_20_1 : noneOk 20 1 = true := by kernel_rfl
end Go.Proofs.YtcihabdmigpklaaGreatDoor
