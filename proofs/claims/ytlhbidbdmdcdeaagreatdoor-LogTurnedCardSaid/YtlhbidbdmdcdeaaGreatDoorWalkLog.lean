/-
  What functions that the laws reach compute, printed by a program of our own: each text is by definition the run of the code. No conditions.
-/
import Derived.Test.YtlhbidbdmdcdeaaGreatDoorWalk0
namespace Go.Proofs.YtlhbidbdmdcdeaaGreatDoor
open Go Go.Abs Go.Abs.F
set_option linter.unusedVariables false
noncomputable section
/- twinkeep/log.Wrap -/
def f40 (callf : CallF) (N : Nat) (a0 : T) (s : St) : Option (T × St) :=
  bd (aLenSl a0) fun t5 =>
  bd (aConv .u64 t5) fun t6 =>
  bd2 (callf 52 [t6] s) fun t7 s1 =>
  bd2 (callf 69 [t7] s1) fun t10 s2 =>
  bd2 (callf 68 [t10, a0] s2) fun t12 s3 =>
  bd2 (callf 67 [t12] s3) fun t13 s4 =>
  bd2 (aNew s4 (nSlice 3 (aFill [.nils, .nils, .nils] [(0, 1, t7), (1, 1, t13), (2, 1, a0)]))) fun t15 s5 =>
  bd2 (callf 66 [t15] s5) fun t16 s6 =>
  some (t16, s6)

theorem f40_eq (callf : CallF) (N : Nat) (a0 : T) (s : St) : bodyC Tryz.prog callf N Tryz.f40 [a0] s = f40 callf N a0 s := by kernel_rfl

theorem f40_run (d : Nat) (a0 : T) (s : St) : R (d + 1) 40 [a0] s = f40 (R d) 8192 a0 s := (runQ_body rfl Tryz.func40 (by kernel_rfl)).trans (f40_eq ..)

/- twinkeep/log.Open -/
def f41 (callf : CallF) (N : Nat) (a0 : T) (a1 : T) (s : St) : Option (T × St) :=
  bd2 (callf 54 [a0, a1] s) fun t15 s1 =>
  bd (aExtract t15 0) fun t16 =>
  bd (aExtract t15 1) fun t17 =>
  bd (aExtract t15 2) fun t18 =>
  bd (aBin .neq t18 (I .i64 0)) fun t20 =>
  bd (gT (gd t20 false) (some a0)) fun t22 =>
  bd (gT (gd t20 false) (aLenSl t22)) fun t23 =>
  bd (gT (gd t20 false) (some t17)) fun t24 =>
  bd (gT (gd t20 false) (aBin .sub t23 t24)) fun t25 =>
  bd (gT (gd t20 false) (aBin .lss t25 (I .i64 4))) fun t26 =>
  bd (aPick t20 (B true) t26) fun t27 =>
  bd (gT (gd t27 false) (some t16)) fun t29 =>
  bd (gT (gd t27 false) (some a0)) fun t30 =>
  bd (gT (gd t27 false) (aLenSl t30)) fun t31 =>
  bd (gT (gd t27 false) (some t17)) fun t32 =>
  bd (gT (gd t27 false) (aBin .sub t31 t32)) fun t33 =>
  bd (gT (gd t27 false) (aBin .sub t33 (I .i64 4))) fun t34 =>
  bd (gT (gd t27 false) (aConv .u64 t34)) fun t35 =>
  bd (gT (gd t27 false) (aBin .gtr t29 t35)) fun t36 =>
  bd (aPick t27 (B true) t36) fun t37 =>
  br t37 (bd (retT [(Z .nils), a1, (B false)]) fun r2 =>
  some (r2, s1))
  (bd (aBin .add t17 (I .i64 4)) fun t40 =>
  bd (aConv .i64 t16) fun t42 =>
  bd (aBin .add t40 t42) fun t43 =>
  bd (aBin .add t17 (I .i64 4)) fun t46 =>
  bd (aPieceSl 1 a0 (some t46) (some t43) none) fun t48 =>
  bd (aPieceSl 1 a0 (some a1) (some t43) none) fun t52 =>
  bd2 (callf 40 [t48] s1) fun t54 s3 =>
  bd2 (callf 70 [t52, t54] s3) fun t55 s4 =>
  bd (aUn .not t55) fun t56 =>
  br t56 (bd (retT [(Z .nils), a1, (B false)]) fun r5 =>
  some (r5, s4))
  (bd (retT [t48, t43, (B true)]) fun r6 =>
  some (r6, s4)))

theorem f41_eq (callf : CallF) (N : Nat) (a0 : T) (a1 : T) (s : St) : bodyC Tryz.prog callf N Tryz.f41 [a0, a1] s = f41 callf N a0 a1 s := by kernel_rfl

theorem f41_run (d : Nat) (a0 : T) (a1 : T) (s : St) : R (d + 1) 41 [a0, a1] s = f41 (R d) 8192 a0 a1 s := (runQ_body rfl Tryz.func41 (by kernel_rfl)).trans (f41_eq ..)

/- twinkeep/log.Frame -/
def f14 (callf : CallF) (N : Nat) (a0 : T) (s : St) : Option (T × St) :=
  bd2 (aNew s (nBox a0)) fun t1 s1 =>
  bd (aLoadN 8 t1 s1.get) fun t7 =>
  bd2 (callf 31 [t7] s1) fun t8 s2 =>
  bd (aExtract t8 0) fun t9 =>
  bd (aExtract t8 1) fun t10 =>
  bd (aBin .neq t10 (I .i64 0)) fun t12 =>
  br t12 (bd (retT [(Z .nils), t10]) fun r3 =>
  some (r3, s2))
  (bd2 (callf 40 [t9] s2) fun t15 s4 =>
  bd (retT [t15, (I .i64 0)]) fun r5 =>
  some (r5, s4))

theorem f14_eq (callf : CallF) (N : Nat) (a0 : T) (s : St) : bodyC Tryz.prog callf N Tryz.f14 [a0] s = f14 callf N a0 s := by kernel_rfl

theorem f14_run (d : Nat) (a0 : T) (s : St) : R (d + 1) 14 [a0] s = f14 (R d) 8192 a0 s := (runQ_body rfl Tryz.func14 (by kernel_rfl)).trans (f14_eq ..)

/- twinkeep/log.All: a loop; 0: t16 , 1: t17 , 2: t18  -/
def f15_l1 (callf : CallF) (N : Nat) (v : List T) (s : St) : Option (JO × St) :=
  bd (aBin .lss (v.getD 2 .any) (v.getD 1 .any)) fun t19 =>
  br t19 (jn (bd (aIndexSl 8 (v.getD 0 .any) (v.getD 2 .any)) fun t20 =>
  bd (aLoadN 8 t20 s.get) fun t21 =>
  bd2 (aNew s (nCells [.int .i64 0, .int .i64 0, .int .i64 0, .int .i64 0, .int .i64 0, .int .i64 0, .int .u32 0, .str []])) fun t5 s1 =>
  bd2 (aStore 8 t5 t21 s1) fun _ s2 =>
  bd (aLoadN 8 t5 s2.get) fun t23 =>
  bd2 (callf 14 [t23] s2) fun t24 s3 =>
  bd (aExtract t24 0) fun t25 =>
  bd (aExtract t24 1) fun t26 =>
  bd (aBin .neq t26 (I .i64 0)) fun t28 =>
  br t28 (bd (retT [(Z .nils), t26]) fun r4 =>
  some (.ret r4, s3))
  (some (.normal [(v.getD 0 .any), (v.getD 1 .any), (v.getD 2 .any)], s3)))
  (fun v5 s6 => bd (aBin .add (v5.getD 2 .any) (I .i64 1)) fun t30 =>
  some (.normal [(v5.getD 0 .any), (v5.getD 1 .any), t30], s6))
  (fun i7 v5 s6 => some (.exit i7 v5, s6))
  (fun r8 s6 => some (.ret r8, s6)))
  (some (.exit 0 [], s))

/- twinkeep/log.All: a loop; 0: t8 out, 1: t31 , 2: t32 , 3: t33  -/
def f15_l2 (callf : CallF) (N : Nat) (v : List T) (s : St) : Option (JO × St) :=
  bd (aBin .lss (v.getD 3 .any) (v.getD 2 .any)) fun t34 =>
  br t34 (jn (bd (aIndexSl 8 (v.getD 1 .any) (v.getD 3 .any)) fun t35 =>
  bd (aLoadN 8 t35 s.get) fun t36 =>
  bd2 (aNew s (nCells [.int .i64 0, .int .i64 0, .int .i64 0, .int .i64 0, .int .i64 0, .int .i64 0, .int .u32 0, .str []])) fun t10 s18 =>
  bd2 (aStore 8 t10 t36 s18) fun _ s19 =>
  bd (aLoadN 8 t10 s19.get) fun t38 =>
  bd2 (callf 14 [t38] s19) fun t39 s20 =>
  bd (aExtract t39 0) fun t40 =>
  bd (aExtract t39 1) fun t41 =>
  bd (aBin .neq t41 (I .i64 0)) fun t43 =>
  br t43 (bd (retT [(Z .nils), t41]) fun r21 =>
  some (.ret r21, s20))
  (bd2 (aAppend 1 1 (v.getD 0 .any) t40 s20) fun t47 s22 =>
  some (.normal [t47, (v.getD 1 .any), (v.getD 2 .any), (v.getD 3 .any)], s22)))
  (fun v23 s24 => bd (aBin .add (v23.getD 3 .any) (I .i64 1)) fun t48 =>
  some (.normal [(v23.getD 0 .any), (v23.getD 1 .any), (v23.getD 2 .any), t48], s24))
  (fun i25 v23 s24 => some (.exit i25 v23, s24))
  (fun r26 s24 => some (.ret r26, s24)))
  (some (.exit 2 [(v.getD 0 .any)], s))

/- twinkeep/log.All -/
def f15 (callf : CallF) (N : Nat) (a0 : T) (s : St) : Option (T × St) :=
  bd (aLenSl a0) fun t14 =>
  bd (aBin .gtr t14 (I .i64 2000)) fun t15 =>
  br t15 (bd (aLenSl a0) fun t17 =>
  jn (jn (loops (f15_l1 callf N) N [a0, t17, (I .i64 0)] s)
  (fun v9 s10 => some (.normal [], s10))
  (fun i11 v9 s10 => if i11 = 0 then some (.normal v9, s10) else some (.exit i11 v9, s10))
  (fun r12 s10 => some (.ret r12, s10)))
  (fun v13 s14 => bd (retT [(Z .nils), (I .i64 8)]) fun r17 =>
  some (r17, s14))
  (fun i15 v13 s14 => none)
  (fun r16 s14 => some (r16, s14)))
  (bd (aLenSl a0) fun t32 =>
  jn (jn (loops (f15_l2 callf N) N [(Z .nils), a0, t32, (I .i64 0)] s)
  (fun v27 s28 => some (.normal [.any], s28))
  (fun i29 v27 s28 => if i29 = 2 then some (.normal v27, s28) else some (.exit i29 v27, s28))
  (fun r30 s28 => some (.ret r30, s28)))
  (fun v31 s32 => bd (retT [(v31.getD 0 .any), (I .i64 0)]) fun r35 =>
  some (r35, s32))
  (fun i33 v31 s32 => none)
  (fun r34 s32 => some (r34, s32)))

theorem f15_eq (callf : CallF) (N : Nat) (a0 : T) (s : St) : bodyC Tryz.prog callf N Tryz.f15 [a0] s = f15 callf N a0 s := by kernel_rfl

theorem f15_run (d : Nat) (a0 : T) (s : St) : R (d + 1) 15 [a0] s = f15 (R d) 8192 a0 s := (runQ_body rfl Tryz.func15 (by kernel_rfl)).trans (f15_eq ..)

/- twinkeep/log.Read: a loop; 0: t0 b, 1: t4 l, 2: t5 at -/
def f16_l1 (callf : CallF) (N : Nat) (v : List T) (s : St) : Option (JO × St) :=
  bd (aLenSl (v.getD 1 .any)) fun t12 =>
  bd (aBin .lss t12 (I .i64 2000)) fun t13 =>
  br t13 (jn (bd2 (callf 41 [(v.getD 0 .any), (v.getD 2 .any)] s) fun t17 s1 =>
  bd (aExtract t17 0) fun t18 =>
  bd (aExtract t17 1) fun t19 =>
  bd (aExtract t17 2) fun t20 =>
  bd (aUn .not t20) fun t22 =>
  br t22 (some (.exit 0 [(v.getD 1 .any), (v.getD 2 .any)], s1))
  (bd2 (callf 33 [t18] s1) fun t25 s2 =>
  bd (aExtract t25 0) fun t26 =>
  bd (aExtract t25 1) fun t27 =>
  bd2 (aNew s2 (nCells [.int .i64 0, .int .i64 0, .int .i64 0, .int .i64 0, .int .i64 0, .int .i64 0, .int .u32 0, .str []])) fun t9 s3 =>
  bd2 (aStore 8 t9 t26 s3) fun _ s4 =>
  bd (aBin .neq t27 (I .i64 0)) fun t29 =>
  br t29 (some (.exit 0 [(v.getD 1 .any), (v.getD 2 .any)], s4))
  (bd (aLoadN 8 t9 s4.get) fun t31 =>
  bd2 (aNew s4 (nSlice 1 (aFill [.int .i64 0, .int .i64 0, .int .i64 0, .int .i64 0, .int .i64 0, .int .i64 0, .int .u32 0, .str []] [(0, 8, t31)]))) fun t32 s5 =>
  bd2 (aAppend 8 72 (v.getD 1 .any) t32 s5) fun t33 s6 =>
  some (.normal [(v.getD 0 .any), t33, t19], s6))))
  (fun v7 s8 => some (.normal [(v7.getD 0 .any), (v7.getD 1 .any), (v7.getD 2 .any)], s8))
  (fun i9 v7 s8 => some (.exit i9 v7, s8))
  (fun r10 s8 => some (.ret r10, s8)))
  (some (.exit 0 [(v.getD 1 .any), (v.getD 2 .any)], s))

/- twinkeep/log.Read -/
def f16 (callf : CallF) (N : Nat) (a0 : T) (s : St) : Option (T × St) :=
  jn (jn (loops (f16_l1 callf N) N [a0, (Z .nils), (I .i64 0)] s)
  (fun v11 s12 => some (.normal [.any, .any], s12))
  (fun i13 v11 s12 => if i13 = 0 then some (.normal v11, s12) else some (.exit i13 v11, s12))
  (fun r14 s12 => some (.ret r14, s12)))
  (fun v15 s16 => bd (retT [(v15.getD 0 .any), (v15.getD 1 .any)]) fun r19 =>
  some (r19, s16))
  (fun i17 v15 s16 => none)
  (fun r18 s16 => some (r18, s16))

theorem f16_eq (callf : CallF) (N : Nat) (a0 : T) (s : St) : bodyC Tryz.prog callf N Tryz.f16 [a0] s = f16 callf N a0 s := by kernel_rfl

theorem f16_run (d : Nat) (a0 : T) (s : St) : R (d + 1) 16 [a0] s = f16 (R d) 8192 a0 s := (runQ_body rfl Tryz.func16 (by kernel_rfl)).trans (f16_eq ..)

/- twinkeep/log.Meet: a loop; 0: t0 a, 1: t1 b, 2: t5 n -/
def f25_l1 (callf : CallF) (N : Nat) (v : List T) (s : St) : Option (JO × St) :=
  bd (aLenSl (v.getD 0 .any)) fun t8 =>
  bd (aLenSl (v.getD 1 .any)) fun t10 =>
  bd (aFold aMin2 t8 [t10]) fun t11 =>
  bd (aBin .lss (v.getD 2 .any) t11) fun t12 =>
  bd (gT (gd t12 true) (some (v.getD 0 .any))) fun t14 =>
  bd (gT (gd t12 true) (some (v.getD 2 .any))) fun t15 =>
  bd (gT (gd t12 true) (aIndexSl 8 t14 t15)) fun t16 =>
  bd (gT (gd t12 true) (aLoadN 8 t16 s.get)) fun t17 =>
  bd (gT (gd t12 true) (some (v.getD 1 .any))) fun t18 =>
  bd (gT (gd t12 true) (some (v.getD 2 .any))) fun t19 =>
  bd (gT (gd t12 true) (aIndexSl 8 t18 t19)) fun t20 =>
  bd (gT (gd t12 true) (aLoadN 8 t20 s.get)) fun t21 =>
  bd2 (gS (gd t12 true) s (callf 39 [t17, t21] s)) fun t22 s1 =>
  bd (aPick t12 t22 (B false)) fun t23 =>
  br t23 (jn (bd (aBin .add (v.getD 2 .any) (I .i64 1)) fun t25 =>
  some (.normal [(v.getD 0 .any), (v.getD 1 .any), t25], s1))
  (fun v2 s3 => some (.normal [(v2.getD 0 .any), (v2.getD 1 .any), (v2.getD 2 .any)], s3))
  (fun i4 v2 s3 => some (.exit i4 v2, s3))
  (fun r5 s3 => some (.ret r5, s3)))
  (some (.exit 0 [(v.getD 2 .any)], s1))

/- twinkeep/log.Meet -/
def f25 (callf : CallF) (N : Nat) (a0 : T) (a1 : T) (s : St) : Option (T × St) :=
  jn (jn (loops (f25_l1 callf N) N [a0, a1, (I .i64 0)] s)
  (fun v6 s7 => some (.normal [.any], s7))
  (fun i8 v6 s7 => if i8 = 0 then some (.normal v6, s7) else some (.exit i8 v6, s7))
  (fun r9 s7 => some (.ret r9, s7)))
  (fun v10 s11 => some ((v10.getD 0 .any), s11))
  (fun i12 v10 s11 => none)
  (fun r13 s11 => some (r13, s11))

theorem f25_eq (callf : CallF) (N : Nat) (a0 : T) (a1 : T) (s : St) : bodyC Tryz.prog callf N Tryz.f25 [a0, a1] s = f25 callf N a0 a1 s := by kernel_rfl

theorem f25_run (d : Nat) (a0 : T) (a1 : T) (s : St) : R (d + 1) 25 [a0, a1] s = f25 (R d) 8192 a0 a1 s := (runQ_body rfl Tryz.func25 (by kernel_rfl)).trans (f25_eq ..)

/- twinkeep/log.Front -/
def f23 (callf : CallF) (N : Nat) (a0 : T) (a1 : T) (s : St) : Option (T × St) :=
  bd2 (callf 25 [a0, a1] s) fun t7 s1 =>
  bd (aLenSl a0) fun t9 =>
  bd (aBin .eql t7 t9) fun t10 =>
  some (t10, s1)

theorem f23_eq (callf : CallF) (N : Nat) (a0 : T) (a1 : T) (s : St) : bodyC Tryz.prog callf N Tryz.f23 [a0, a1] s = f23 callf N a0 a1 s := by kernel_rfl

theorem f23_run (d : Nat) (a0 : T) (a1 : T) (s : St) : R (d + 1) 23 [a0, a1] s = f23 (R d) 8192 a0 a1 s := (runQ_body rfl Tryz.func23 (by kernel_rfl)).trans (f23_eq ..)

end
end Go.Proofs.YtlhbidbdmdcdeaaGreatDoor
