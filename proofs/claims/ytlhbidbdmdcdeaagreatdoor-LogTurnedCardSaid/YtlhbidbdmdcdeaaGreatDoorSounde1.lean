/-
  What our runs ask first is what the program does. No conditions.
-/
import Derived.Test.YtlhbidbdmdcdeaaGreatDoorWalkT
import Derived.Test.YtlhbidbdmdcdeaaGreatDoorLaye1
namespace Go.Proofs.YtlhbidbdmdcdeaaGreatDoor
open Go Go.Abs Go.Abs.F
set_option linter.unusedVariables false

theorem prim1_sound : CallSound Tryz.prog prim1 := by
  refine orP_sound (orP_sound (ixP_sound ?_ ?_) (joinP_sound ?_ ?_)) (pureP_sound (runQ_sound noPrim_sound 64 8) _)
  · intro f hf s c w
    have : f = 104 ∨ f = 105 := by simpa [ixs] using hf
    rcases this with rfl | rfl
    · exact Tryz.strings_Index_one s c w
    · exact Tryz.stringslite_Index_one s c w
  · exact fun s c w => Tryz.strings_Count_one s c w
  · exact fun a c sep w => Tryz.strings_Join_none a c sep w
  · exact fun bk o c xs sep w h1 h2 h3 h4 h5 => Tryz.strings_Join bk o c xs sep w h1 h2 h3 h4 h5

theorem prim_sound : CallSound Tryz.prog prim := orP_sound (toldP_sound (runQ_sound prim1_sound 64 16) told10_all) prim1_sound
end Go.Proofs.YtlhbidbdmdcdeaaGreatDoor
