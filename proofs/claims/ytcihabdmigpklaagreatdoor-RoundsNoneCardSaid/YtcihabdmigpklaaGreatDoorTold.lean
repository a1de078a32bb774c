/-
  The run that every law of this layer asks once: a new twin settles and takes a write. No conditions.
-/
import Derived.Test.YtcihabdmigpklaaGreatDoorNamed
namespace Go.Proofs.YtcihabdmigpklaaGreatDoor
open Go Go.Abs Go.Abs.F
set_option linter.unusedVariables false
noncomputable section
set_option maxRecDepth 100000 in
theorem told_all : gave true (E1 60 16 [] St.empty) = true := by kernel_rfl
theorem told_sound : CallSound Tryz.prog (toldP 16 true) := toldP_sound (E1_sound 60) told_all
/-- Calls in the fast texts, names and the one run told. -/
abbrev E2 : Nat → CallF := E (fun _ => toldP 16 true 16) (fun _ => namedC 152)
theorem E2_sound (d : Nat) : CallSound Tryz.prog (E2 d) := E_sound (ok_prim told_sound _) named_ok d
end
end Go.Proofs.YtcihabdmigpklaaGreatDoor
