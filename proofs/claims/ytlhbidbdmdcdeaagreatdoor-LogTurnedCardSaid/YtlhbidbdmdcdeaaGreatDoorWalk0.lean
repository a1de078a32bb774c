/-
  What the laws of the layers 9 and 10 and the functions that they reach compute, printed by a program of our own: each text is by definition the run of the code. No conditions.
-/
import Derived.Test.YtlhbidbdmdcdeaaGreatDoorAbsE
import Derived.Test.YtlhbidbdmdcdeaaGreatDoorRows
namespace Go.Proofs.YtlhbidbdmdcdeaaGreatDoor
open Go Go.Abs Go.Abs.F
set_option linter.unusedVariables false
noncomputable section
/-- What the library's texts tell. -/
abbrev ixs : List Nat := [104, 105]
abbrev prim0 : CallF := orP (ixP ixs 103) (joinP 79)
abbrev prim1 : CallF := orP prim0 (pureP (runQ Tryz.prog 64 noPrim 8) [122])
/-- The few checks of told are run once, in an empty store. -/
abbrev prim : CallF := orP (toldP 17 true) prim1
abbrev R (d : Nat) : CallF := runQ Tryz.prog 8192 prim d
end
end Go.Proofs.YtlhbidbdmdcdeaaGreatDoor
