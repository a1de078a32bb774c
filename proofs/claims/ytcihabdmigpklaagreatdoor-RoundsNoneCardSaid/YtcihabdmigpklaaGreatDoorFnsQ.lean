/-
  No function of the program starts another run beside its own: looked for in each text once. No conditions.
-/
import Derived.Test.YtcihabdmigpklaaGreatDoorChecked
import Derived.Test.YtcihabdmigpklaaGreatDoorCards
import Derived.KernelRfl
namespace Go.Proofs.YtcihabdmigpklaaGreatDoor
open Go
theorem goes_none {P : Program} (h : P.funcs.any Func.goes = false) (c : OpenClaim) : c.goesBy P = false := by
  have hall : ∀ g : Nat, (P.funcs[g]?).any Func.goes = false := by
    intro g
    cases hg : P.funcs[g]? with
    | none => rfl
    | some fn =>
      rw [Array.any_eq_false] at h
      obtain ⟨hlt, he⟩ := Array.getElem?_eq_some_iff.1 hg
      have := h g hlt
      rw [he] at this
      simpa using this
  have hf : ∀ f, P.goes f = false := by
    intro f
    unfold Program.goes
    rw [h, Bool.and_false, Bool.or_false]
    rw [List.any_eq_false]
    intro g _
    rw [hall g]; simp
  unfold OpenClaim.goesBy Program.goesAt Program.goesFrom
  have h1 : (P.funcNamed c.func).any P.goes = false := by
    cases P.funcNamed c.func with
    | none => rfl
    | some f => exact hf f
  rw [h1, Bool.false_or]
  cases c.start with
  | entering => rfl
  | _ =>
    show P.inits.toList.any P.goes = false
    rw [List.any_eq_false]
    intro f _
    rw [hf f]; simp
set_option maxRecDepth 100000
theorem noGoes : Tryz.prog.funcs.any Func.goes = false := by kernel_rfl
end Go.Proofs.YtcihabdmigpklaaGreatDoor
