/-
  What functions that the laws reach compute, printed by a program of our own: each text is by definition the run of the code. No conditions.
-/
import Derived.Test.YtlhbidbdmdcdeaaGreatDoorWalk0
namespace Go.Proofs.YtlhbidbdmdcdeaaGreatDoor
open Go Go.Abs Go.Abs.F
set_option linter.unusedVariables false
noncomputable section
theorem prim_ix {f : Nat} {l : Bs} {c : UInt8} {σ : St} (h : (ixs.contains f && !Nat.beq f 17) = true) : prim f [Z (.str l), Z (.str [c])] σ = some (I .i64 (ixB c l 0), σ) := by
  simp only [Bool.and_eq_true, Bool.not_eq_true'] at h
  have e2 : toldP 17 true f [Z (.str l), Z (.str [c])] σ = none := by simp [toldP]
  exact (orP_right e2).trans (orP_left (orP_left (ixP_at h.1)))
theorem prim_cnt {l : Bs} {c : UInt8} {σ : St} : prim 103 [Z (.str l), Z (.str [c])] σ = some (I .i64 (cntB c l : Nat), σ) := by
  have e2 : toldP 17 true 103 [Z (.str l), Z (.str [c])] σ = none := by simp [toldP]
  exact (orP_right e2).trans (orP_left (orP_left (ixP_cnt (by decide))))
theorem prim_join {x : S} {l : List Bs} {sep : Bs} {σ : St} (h : RT σ x l) (hb : totalLen l + l.length * sep.length ≤ 1000000) (hl : l.length ≤ 1000000) : prim 79 [Z x, Z (.str sep)] σ = some (Z (.str (joinB sep l)), σ) := by
  have e2 : toldP 17 true 79 [Z x, Z (.str sep)] σ = none := by simp [toldP]
  have e3 : ixP ixs 103 79 [Z x, Z (.str sep)] σ = none := by
    have h1 : ixs.contains 79 = false := by decide
    have h2 : Nat.beq 79 103 = false := by decide
    simp only [ixP, h1, h2]
  exact (orP_right e2).trans (orP_left ((orP_right e3).trans (joinP_at h hb hl)))
theorem prim_set (σ : St) : prim 122 [Z (.str [48, 49, 50, 51, 52, 53, 54, 55, 56, 57])] σ = some (.tup [.agg ((List.range 256).map fun c => S.bool (Nat.ble 48 c && Nat.ble c 57)), .s (.bool true)], σ) := by
  have e2 : toldP 17 true 122 [Z (.str [48, 49, 50, 51, 52, 53, 54, 55, 56, 57])] σ = none := by simp [toldP]
  have h0 : prim0 122 [Z (.str [48, 49, 50, 51, 52, 53, 54, 55, 56, 57])] σ = none := by
    have h1 : ixs.contains 122 = false := by decide
    have h2 : Nat.beq 122 103 = false := by decide
    have h3 : Nat.beq 122 79 = false := by decide
    simp only [prim0, orP, ixP, h1, h2, joinP, h3]
  exact (orP_right e2).trans ((orP_right h0).trans (pureP_val (by decide) (by kernel_rfl) (by kernel_rfl)))
set_option maxRecDepth 100000 in
theorem told10_all : gave true (runQ Tryz.prog 64 prim1 16 17 [] St.empty) = true := by kernel_rfl
theorem told10_run (d : Nat) (s : St) : R (d + 1) 17 [] s = some (B true, s) := runQ_prim rfl
end
end Go.Proofs.YtlhbidbdmdcdeaaGreatDoor
