/-
  What functions that the laws reach compute, printed by a program of our own: each text is by definition the run of the code. No conditions.
-/
import Derived.Test.YtlhbidbdmdcdeaaGreatDoorWalk0
namespace Go.Proofs.YtlhbidbdmdcdeaaGreatDoor
open Go Go.Abs Go.Abs.F
set_option linter.unusedVariables false
noncomputable section
/- slices.Equal[[]twinkeep/api.Info,twinkeep/api.Info]: a loop; 0: t0 s1, 1: t1 s2, 2: t12 , 3: t13  -/
def f65_l1 (callf : CallF) (N : Nat) (v : List T) (s : St) : Option (JO × St) :=
  bd (aBin .lss (v.getD 3 .any) (v.getD 2 .any)) fun t14 =>
  br t14 (jn (bd (aIndexSl 5 (v.getD 0 .any) (v.getD 3 .any)) fun t18 =>
  bd (aLoadN 5 t18 s.get) fun t19 =>
  bd (aIndexSl 5 (v.getD 1 .any) (v.getD 3 .any)) fun t22 =>
  bd (aLoadN 5 t22 s.get) fun t23 =>
  bd (neB (.a 5 [(0, .i), (1, .i), (2, .i), (3, .i), (4, .i)]) t19 t23) fun t24 =>
  br t24 (some (.ret (B false), s))
  (some (.normal [(v.getD 0 .any), (v.getD 1 .any), (v.getD 2 .any), (v.getD 3 .any)], s)))
  (fun v1 s2 => bd (aBin .add (v1.getD 3 .any) (I .i64 1)) fun t25 =>
  some (.normal [(v1.getD 0 .any), (v1.getD 1 .any), (v1.getD 2 .any), t25], s2))
  (fun i3 v1 s2 => some (.exit i3 v1, s2))
  (fun r4 s2 => some (.ret r4, s2)))
  (some (.exit 0 [], s))

/- slices.Equal[[]twinkeep/api.Info,twinkeep/api.Info] -/
def f65 (callf : CallF) (N : Nat) (a0 : T) (a1 : T) (s : St) : Option (T × St) :=
  bd (aLenSl a0) fun t7 =>
  bd (aLenSl a1) fun t9 =>
  bd (aBin .neq t7 t9) fun t10 =>
  br t10 (some ((B false), s))
  (bd (aLenSl a0) fun t12 =>
  jn (jn (loops (f65_l1 callf N) N [a0, a1, t12, (I .i64 0)] s)
  (fun v5 s6 => some (.normal [], s6))
  (fun i7 v5 s6 => if i7 = 0 then some (.normal v5, s6) else some (.exit i7 v5, s6))
  (fun r8 s6 => some (.ret r8, s6)))
  (fun v9 s10 => some ((B true), s10))
  (fun i11 v9 s10 => none)
  (fun r12 s10 => some (r12, s10)))

theorem f65_eq (callf : CallF) (N : Nat) (a0 : T) (a1 : T) (s : St) : bodyC Tryz.prog callf N Tryz.f65 [a0, a1] s = f65 callf N a0 a1 s := by kernel_rfl

theorem f65_run (d : Nat) (a0 : T) (a1 : T) (s : St) : R (d + 1) 65 [a0, a1] s = f65 (R d) 8192 a0 a1 s := (runQ_body rfl Tryz.func65 (by kernel_rfl)).trans (f65_eq ..)

/- slices.Clone[[]twinkeep/api.Info,twinkeep/api.Info] -/
def f76 (callf : CallF) (N : Nat) (a0 : T) (s : St) : Option (T × St) :=
  bd (eqB .l a0 (Z .nils)) fun t4 =>
  br t4 (some ((Z .nils), s))
  (bd2 (aNew s (nSlice 0 (aFill [] []))) fun t5 s1 =>
  bd2 (aAppend 5 40 t5 a0 s1) fun t7 s2 =>
  some (t7, s2))

theorem f76_eq (callf : CallF) (N : Nat) (a0 : T) (s : St) : bodyC Tryz.prog callf N Tryz.f76 [a0] s = f76 callf N a0 s := by kernel_rfl

theorem f76_run (d : Nat) (a0 : T) (s : St) : R (d + 1) 76 [a0] s = f76 (R d) 8192 a0 s := (runQ_body rfl Tryz.func76 (by kernel_rfl)).trans (f76_eq ..)

/- slices.BinarySearchFunc[[]twinkeep/api.Info,twinkeep/api.Info,int]: a loop; 0: t0 x, 1: t1 target, 2: t2 cmp, 3: t8 n, 4: t9 i, 5: t10 j -/
def f87_l1 (callf : CallF) (N : Nat) (v : List T) (s : St) : Option (JO × St) :=
  bd (aBin .lss (v.getD 4 .any) (v.getD 5 .any)) fun t17 =>
  br t17 (jn (bd (aBin .add (v.getD 4 .any) (v.getD 5 .any)) fun t20 =>
  bd (aConv .u64 t20) fun t21 =>
  bd (aBin .shr t21 (I .u64 1)) fun t22 =>
  bd (aConv .i64 t22) fun t23 =>
  bd (aIndexSl 5 (v.getD 0 .any) t23) fun t27 =>
  bd (aLoadN 5 t27 s.get) fun t28 =>
  bd2 (dyn Tryz.prog callf (v.getD 2 .any) [t28, (v.getD 1 .any)] s) fun t30 s1 =>
  bd (aBin .lss t30 (I .i64 0)) fun t31 =>
  jn (br t31 (bd (aBin .add t23 (I .i64 1)) fun t33 =>
  some (.normal [(v.getD 0 .any), (v.getD 1 .any), (v.getD 2 .any), (v.getD 3 .any), t33, (v.getD 5 .any)], s1))
  (some (.normal [(v.getD 0 .any), (v.getD 1 .any), (v.getD 2 .any), (v.getD 3 .any), (v.getD 4 .any), t23], s1)))
  (fun v2 s3 => some (.normal [(v2.getD 0 .any), (v2.getD 1 .any), (v2.getD 2 .any), (v2.getD 3 .any), (v2.getD 4 .any), (v2.getD 5 .any)], s3))
  (fun i4 v2 s3 => if i4 = 1 then some (.normal v2, s3) else some (.exit i4 v2, s3))
  (fun r5 s3 => some (.ret r5, s3)))
  (fun v6 s7 => some (.normal [(v6.getD 0 .any), (v6.getD 1 .any), (v6.getD 2 .any), (v6.getD 3 .any), (v6.getD 4 .any), (v6.getD 5 .any)], s7))
  (fun i8 v6 s7 => some (.exit i8 v6, s7))
  (fun r9 s7 => some (.ret r9, s7)))
  (some (.exit 0 [(v.getD 0 .any), (v.getD 1 .any), (v.getD 2 .any), (v.getD 3 .any), (v.getD 4 .any)], s))

/- slices.BinarySearchFunc[[]twinkeep/api.Info,twinkeep/api.Info,int] -/
def f87 (callf : CallF) (N : Nat) (a0 : T) (a1 : T) (a2 : T) (s : St) : Option (T × St) :=
  bd (aLenSl a0) fun t13 =>
  jn (jn (loops (f87_l1 callf N) N [a0, a1, a2, t13, (I .i64 0), t13] s)
  (fun v10 s11 => some (.normal [.any, .any, .any, .any, .any], s11))
  (fun i12 v10 s11 => if i12 = 0 then some (.normal v10, s11) else some (.exit i12 v10, s11))
  (fun r13 s11 => some (.ret r13, s11)))
  (fun v14 s15 => bd (aBin .lss (v14.getD 4 .any) (v14.getD 3 .any)) fun t38 =>
  bd (gT (gd t38 true) (some (v14.getD 2 .any))) fun t40 =>
  bd (gT (gd t38 true) (some (v14.getD 0 .any))) fun t41 =>
  bd (gT (gd t38 true) (some (v14.getD 4 .any))) fun t42 =>
  bd (gT (gd t38 true) (aIndexSl 5 t41 t42)) fun t43 =>
  bd (gT (gd t38 true) (aLoadN 5 t43 s15.get)) fun t44 =>
  bd (gT (gd t38 true) (some (v14.getD 1 .any))) fun t45 =>
  bd2 (gS (gd t38 true) s15 (dyn Tryz.prog callf t40 [t44, t45] s15)) fun t46 s18 =>
  bd (gT (gd t38 true) (aBin .eql t46 (I .i64 0))) fun t47 =>
  bd (aPick t38 t47 (B false)) fun t48 =>
  bd (retT [(v14.getD 4 .any), t48]) fun r19 =>
  some (r19, s18))
  (fun i16 v14 s15 => none)
  (fun r17 s15 => some (r17, s15))

theorem f87_eq (callf : CallF) (N : Nat) (a0 : T) (a1 : T) (a2 : T) (s : St) : bodyC Tryz.prog callf N Tryz.f87 [a0, a1, a2] s = f87 callf N a0 a1 a2 s := by kernel_rfl

theorem f87_run (d : Nat) (a0 : T) (a1 : T) (a2 : T) (s : St) : R (d + 1) 87 [a0, a1, a2] s = f87 (R d) 8192 a0 a1 a2 s := (runQ_body rfl Tryz.func87 (by kernel_rfl)).trans (f87_eq ..)

end
end Go.Proofs.YtlhbidbdmdcdeaaGreatDoor
