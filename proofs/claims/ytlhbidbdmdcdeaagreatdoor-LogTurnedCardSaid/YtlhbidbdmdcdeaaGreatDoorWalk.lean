/-
  What functions that the laws reach compute, printed by a program of our own: each text is by definition the run of the code. No conditions.
-/
import Derived.Test.YtlhbidbdmdcdeaaGreatDoorWalkT
import Derived.Test.YtlhbidbdmdcdeaaGreatDoorWalkText
import Derived.Test.YtlhbidbdmdcdeaaGreatDoorWalkPol
import Derived.Test.YtlhbidbdmdcdeaaGreatDoorWalkByte
import Derived.Test.YtlhbidbdmdcdeaaGreatDoorWalkEnt
import Derived.Test.YtlhbidbdmdcdeaaGreatDoorWalkInfo
import Derived.Test.YtlhbidbdmdcdeaaGreatDoorWalkLog
import Derived.Test.YtlhbidbdmdcdeaaGreatDoorWalkL10
import Derived.Test.YtlhbidbdmdcdeaaGreatDoorWalkL9
import Derived.Test.YtlhbidbdmdcdeaaGreatDoorWalkR9
import Derived.Test.YtlhbidbdmdcdeaaGreatDoorWalkR5
namespace Go.Proofs.YtlhbidbdmdcdeaaGreatDoor
end Go.Proofs.YtlhbidbdmdcdeaaGreatDoor
