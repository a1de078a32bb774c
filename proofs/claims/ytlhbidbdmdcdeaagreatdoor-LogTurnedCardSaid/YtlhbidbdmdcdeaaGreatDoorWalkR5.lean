/-
  What functions that the laws reach compute, printed by a program of our own: each text is by definition the run of the code. No conditions.
-/
import Derived.Test.YtlhbidbdmdcdeaaGreatDoorWalk0
namespace Go.Proofs.YtlhbidbdmdcdeaaGreatDoor
open Go Go.Abs Go.Abs.F
set_option linter.unusedVariables false
noncomputable section
/- (twinkeep/twinkeepref5.C).Byte -/
def f56 (callf : CallF) (N : Nat) (a0 : T) (s : St) : Option (T × St) :=
  bd (aNil a0) fun t4 =>
  bd (aFieldAddr 2 t4) fun t5 =>
  bd (aLoad1 t5 s.get) fun t6 =>
  bd (gT (gd t6 false) (some a0)) fun t8 =>
  bd (gT (gd t6 false) (aNil t8)) fun t9 =>
  bd (gT (gd t6 false) (aFieldAddr 1 t9)) fun t10 =>
  bd (gT (gd t6 false) (aLoad1 t10 s.get)) fun t11 =>
  bd (gT (gd t6 false) (some a0)) fun t12 =>
  bd (gT (gd t6 false) (aNil t12)) fun t13 =>
  bd (gT (gd t6 false) (aFieldAddr 0 t13)) fun t14 =>
  bd (gT (gd t6 false) (aLoad1 t14 s.get)) fun t15 =>
  bd (gT (gd t6 false) (aLenStr t15)) fun t16 =>
  bd (gT (gd t6 false) (aBin .geq t11 t16)) fun t17 =>
  bd (aPick t6 (B true) t17) fun t18 =>
  br t18 (bd (aNil a0) fun t20 =>
  bd (aFieldAddr 2 t20) fun t21 =>
  bd2 (aStore 1 t21 (B true) s) fun _ s1 =>
  some ((I .u8 0), s1))
  (bd (aNil a0) fun t23 =>
  bd (aFieldAddr 1 t23) fun t24 =>
  bd (aLoad1 t24 s.get) fun t25 =>
  bd (aBin .add t25 (I .i64 1)) fun t26 =>
  bd (aNil a0) fun t27 =>
  bd (aFieldAddr 1 t27) fun t28 =>
  bd2 (aStore 1 t28 t26 s) fun _ s2 =>
  bd (aNil a0) fun t30 =>
  bd (aFieldAddr 0 t30) fun t31 =>
  bd (aLoad1 t31 s2.get) fun t32 =>
  bd (aNil a0) fun t34 =>
  bd (aFieldAddr 1 t34) fun t35 =>
  bd (aLoad1 t35 s2.get) fun t36 =>
  bd (aBin .sub t36 (I .i64 1)) fun t37 =>
  bd (aAtStr t32 t37) fun t38 =>
  some (t38, s2))

theorem f56_eq (callf : CallF) (N : Nat) (a0 : T) (s : St) : bodyC Tryz.prog callf N Tryz.f56 [a0] s = f56 callf N a0 s := by kernel_rfl

theorem f56_run (d : Nat) (a0 : T) (s : St) : R (d + 1) 56 [a0] s = f56 (R d) 8192 a0 s := (runQ_body rfl Tryz.func56 (by kernel_rfl)).trans (f56_eq ..)

/- (twinkeep/twinkeepref5.C).Num -/
def f58 (callf : CallF) (N : Nat) (a0 : T) (s : St) : Option (T × St) :=
  bd (aNil a0) fun t7 =>
  bd (aFieldAddr 2 t7) fun t8 =>
  bd (aLoad1 t8 s.get) fun t9 =>
  br t9 (some ((I .u64 0), s))
  (bd (aNil a0) fun t12 =>
  bd (aFieldAddr 0 t12) fun t13 =>
  bd (aLoad1 t13 s.get) fun t14 =>
  bd (aNil a0) fun t16 =>
  bd (aFieldAddr 1 t16) fun t17 =>
  bd (aLoad1 t17 s.get) fun t18 =>
  bd2 (callf 42 [t14, t18] s) fun t19 s1 =>
  bd (aExtract t19 0) fun t20 =>
  bd (aExtract t19 1) fun t21 =>
  bd (aExtract t19 2) fun t22 =>
  bd (aBin .neq t22 (I .i64 0)) fun t27 =>
  bd (aNil a0) fun t28 =>
  bd (aFieldAddr 1 t28) fun t29 =>
  bd2 (aStore 1 t29 t21 s1) fun _ s2 =>
  bd (aNil a0) fun t30 =>
  bd (aFieldAddr 2 t30) fun t31 =>
  bd2 (aStore 1 t31 t27 s2) fun _ s3 =>
  some (t20, s3))

theorem f58_eq (callf : CallF) (N : Nat) (a0 : T) (s : St) : bodyC Tryz.prog callf N Tryz.f58 [a0] s = f58 callf N a0 s := by kernel_rfl

theorem f58_run (d : Nat) (a0 : T) (s : St) : R (d + 1) 58 [a0] s = f58 (R d) 8192 a0 s := (runQ_body rfl Tryz.func58 (by kernel_rfl)).trans (f58_eq ..)

/- (twinkeep/twinkeepref5.C).Text -/
def f59 (callf : CallF) (N : Nat) (a0 : T) (a1 : T) (s : St) : Option (T × St) :=
  bd (aNil a0) fun t6 =>
  bd (aFieldAddr 2 t6) fun t7 =>
  bd (aLoad1 t7 s.get) fun t8 =>
  bd (gT (gd t8 false) (some a1)) fun t10 =>
  bd (gT (gd t8 false) (some a0)) fun t11 =>
  bd (gT (gd t8 false) (aNil t11)) fun t12 =>
  bd (gT (gd t8 false) (aFieldAddr 0 t12)) fun t13 =>
  bd (gT (gd t8 false) (aLoad1 t13 s.get)) fun t14 =>
  bd (gT (gd t8 false) (aLenStr t14)) fun t15 =>
  bd (gT (gd t8 false) (some a0)) fun t16 =>
  bd (gT (gd t8 false) (aNil t16)) fun t17 =>
  bd (gT (gd t8 false) (aFieldAddr 1 t17)) fun t18 =>
  bd (gT (gd t8 false) (aLoad1 t18 s.get)) fun t19 =>
  bd (gT (gd t8 false) (aBin .sub t15 t19)) fun t20 =>
  bd (gT (gd t8 false) (aConv .u64 t20)) fun t21 =>
  bd (gT (gd t8 false) (aBin .gtr t10 t21)) fun t22 =>
  bd (aPick t8 (B true) t22) fun t23 =>
  br t23 (bd (aNil a0) fun t25 =>
  bd (aFieldAddr 2 t25) fun t26 =>
  bd2 (aStore 1 t26 (B true) s) fun _ s1 =>
  some ((Z (.str [])), s1))
  (bd (aNil a0) fun t29 =>
  bd (aFieldAddr 1 t29) fun t30 =>
  bd (aLoad1 t30 s.get) fun t31 =>
  bd (aConv .i64 a1) fun t33 =>
  bd (aBin .add t31 t33) fun t34 =>
  bd (aNil a0) fun t35 =>
  bd (aFieldAddr 1 t35) fun t36 =>
  bd2 (aStore 1 t36 t34 s) fun _ s2 =>
  bd (aNil a0) fun t38 =>
  bd (aFieldAddr 0 t38) fun t39 =>
  bd (aLoad1 t39 s2.get) fun t40 =>
  bd (aNil a0) fun t42 =>
  bd (aFieldAddr 1 t42) fun t43 =>
  bd (aLoad1 t43 s2.get) fun t44 =>
  bd (aConv .i64 a1) fun t46 =>
  bd (aBin .sub t44 t46) fun t47 =>
  bd (aNil a0) fun t49 =>
  bd (aFieldAddr 1 t49) fun t50 =>
  bd (aLoad1 t50 s2.get) fun t51 =>
  bd (aPieceStr t40 (some t47) (some t51) none) fun t52 =>
  some (t52, s2))

theorem f59_eq (callf : CallF) (N : Nat) (a0 : T) (a1 : T) (s : St) : bodyC Tryz.prog callf N Tryz.f59 [a0, a1] s = f59 callf N a0 a1 s := by kernel_rfl

theorem f59_run (d : Nat) (a0 : T) (a1 : T) (s : St) : R (d + 1) 59 [a0, a1] s = f59 (R d) 8192 a0 a1 s := (runQ_body rfl Tryz.func59 (by kernel_rfl)).trans (f59_eq ..)

/- twinkeep/twinkeepref5.Parse: a loop; 0: t0 s, 1: t2 , 2: t5 p, 3: t6 was, 4: t7 from, 5: t8 n, 6: t9 i -/
def f64_l1 (callf : CallF) (N : Nat) (v : List T) (s : St) : Option (JO × St) :=
  bd (aLenStr (v.getD 0 .any)) fun t15 =>
  bd (aBin .leq (v.getD 6 .any) t15) fun t16 =>
  br t16 (jn (bd (aLenStr (v.getD 0 .any)) fun t21 =>
  bd (aBin .lss (v.getD 6 .any) t21) fun t22 =>
  bd (gT (gd t22 true) (some (v.getD 0 .any))) fun t24 =>
  bd (gT (gd t22 true) (some (v.getD 6 .any))) fun t25 =>
  bd (gT (gd t22 true) (aAtStr t24 t25)) fun t26 =>
  bd (gT (gd t22 true) (aBin .neq t26 (I .u8 10))) fun t27 =>
  bd (aPick t22 t27 (B false)) fun t28 =>
  br t28 (some (.normal [(v.getD 0 .any), (v.getD 1 .any), (v.getD 2 .any), (v.getD 3 .any), (v.getD 4 .any), (v.getD 5 .any), (v.getD 6 .any)], s))
  (bd (aBin .add (v.getD 5 .any) (I .i64 1)) fun t30 =>
  bd (aPieceStr (v.getD 0 .any) (some (v.getD 4 .any)) (some (v.getD 6 .any)) none) fun t34 =>
  bd2 (callf 83 [t34] s) fun t35 s6 =>
  bd (aLenSl t35) fun t37 =>
  bd (aBin .gtr t37 (I .i64 0)) fun t38 =>
  bd (gT (gd t38 true) (some (v.getD 3 .any))) fun t40 =>
  bd (gT (gd t38 true) (some t35)) fun t41 =>
  bd2 (gS (gd t38 true) s6 (callf 84 [(v.getD 2 .any), t40, t41] s6)) fun t42 s7 =>
  bd (gT (gd t38 true) (aUn .not t42)) fun t43 =>
  bd (aPick t38 t43 (B false)) fun t44 =>
  br t44 (bd (asAggT (aFill [.int .i64 0, .int .i64 0, .int .i64 0, .int .i64 0, .int .i64 0, .int .i64 0] [])) fun t45 =>
  bd2 (aStore 6 (v.getD 1 .any) t45 s7) fun _ s8 =>
  bd (rC (aLoadN 6 (v.getD 1 .any) s8.get) (rT (I .i64 4) (rT t30 (some [])))) fun l9 => bd (retT l9) fun r10 =>
  some (.ret r10, s8))
  (bd (aBin .add (v.getD 6 .any) (I .i64 1)) fun t48 =>
  some (.normal [(v.getD 0 .any), (v.getD 1 .any), (v.getD 2 .any), (v.getD 3 .any), t48, t30, (v.getD 6 .any)], s7))))
  (fun v11 s12 => bd (aBin .add (v11.getD 6 .any) (I .i64 1)) fun t18 =>
  some (.normal [(v11.getD 0 .any), (v11.getD 1 .any), (v11.getD 2 .any), (v11.getD 3 .any), (v11.getD 4 .any), (v11.getD 5 .any), t18], s12))
  (fun i13 v11 s12 => some (.exit i13 v11, s12))
  (fun r14 s12 => some (.ret r14, s12)))
  (some (.exit 0 [(v.getD 1 .any), (v.getD 2 .any)], s))

/- twinkeep/twinkeepref5.Parse -/
def f64 (callf : CallF) (N : Nat) (a0 : T) (s : St) : Option (T × St) :=
  bd2 (aNew s (nCells [.int .i64 0, .int .i64 0, .int .i64 0, .int .i64 0, .int .i64 0, .int .i64 0])) fun t2 s1 =>
  bd2 (callf 60 [] s1) fun t11 s2 =>
  bd2 (aNew s2 (nCells [.int .i64 0, .int .i64 0, .int .i64 0, .int .i64 0, .int .i64 0, .int .i64 0])) fun t5 s3 =>
  bd2 (aStore 6 t5 t11 s3) fun _ s4 =>
  bd2 (aNew s4 (nMake 1 1 [.bool false] (I .i64 6) (I .i64 6))) fun t12 s5 =>
  jn (jn (loops (f64_l1 callf N) N [a0, t2, t5, t12, (I .i64 0), (I .i64 0), (I .i64 0)] s5)
  (fun v15 s16 => some (.normal [.any, .any], s16))
  (fun i17 v15 s16 => if i17 = 0 then some (.normal v15, s16) else some (.exit i17 v15, s16))
  (fun r18 s16 => some (.ret r18, s16)))
  (fun v19 s20 => bd (aLoadN 6 (v19.getD 1 .any) s20.get) fun t49 =>
  bd2 (callf 85 [t49] s20) fun t50 s23 =>
  bd (aUn .not t50) fun t51 =>
  br t51 (bd (asAggT (aFill [.int .i64 0, .int .i64 0, .int .i64 0, .int .i64 0, .int .i64 0, .int .i64 0] [])) fun t52 =>
  bd2 (aStore 6 (v19.getD 0 .any) t52 s23) fun _ s24 =>
  bd (rC (aLoadN 6 (v19.getD 0 .any) s24.get) (rT (I .i64 5) (rT (I .i64 0) (some [])))) fun l25 => bd (retT l25) fun r26 =>
  some (r26, s24))
  (bd (aLoadN 6 (v19.getD 1 .any) s23.get) fun t53 =>
  bd2 (aStore 6 (v19.getD 0 .any) t53 s23) fun _ s27 =>
  bd (rC (aLoadN 6 (v19.getD 0 .any) s27.get) (rT (I .i64 0) (rT (I .i64 0) (some [])))) fun l28 => bd (retT l28) fun r29 =>
  some (r29, s27)))
  (fun i21 v19 s20 => none)
  (fun r22 s20 => some (r22, s20))

theorem f64_eq (callf : CallF) (N : Nat) (a0 : T) (s : St) : bodyC Tryz.prog callf N Tryz.f64 [a0] s = f64 callf N a0 s := by kernel_rfl

theorem f64_run (d : Nat) (a0 : T) (s : St) : R (d + 1) 64 [a0] s = f64 (R d) 8192 a0 s := (runQ_body rfl Tryz.func64 (by kernel_rfl)).trans (f64_eq ..)

/- twinkeep/twinkeepref5.words: a loop; 0: t0 s, 1: t3 out, 2: t4 from, 3: t5 i -/
def f83_l1 (callf : CallF) (N : Nat) (v : List T) (s : St) : Option (JO × St) :=
  bd (aLenStr (v.getD 0 .any)) fun t9 =>
  bd (aBin .leq (v.getD 3 .any) t9) fun t10 =>
  br t10 (jn (bd (aLenStr (v.getD 0 .any)) fun t15 =>
  bd (aBin .eql (v.getD 3 .any) t15) fun t16 =>
  bd (gT (gd t16 false) (some (v.getD 0 .any))) fun t18 =>
  bd (gT (gd t16 false) (some (v.getD 3 .any))) fun t19 =>
  bd (gT (gd t16 false) (aAtStr t18 t19)) fun t20 =>
  bd (gT (gd t16 false) (aBin .eql t20 (I .u8 35))) fun t21 =>
  bd (aPick t16 (B true) t21) fun t22 =>
  bd (gT (gd t22 false) (some (v.getD 0 .any))) fun t25 =>
  bd (gT (gd t22 false) (some (v.getD 3 .any))) fun t26 =>
  bd (gT (gd t22 false) (aAtStr t25 t26)) fun t27 =>
  bd (gT (gd t22 false) (aBin .eql t27 (I .u8 32))) fun t28 =>
  bd (aPick t22 (B true) t28) fun t29 =>
  jn (br t29 (bd (aBin .gtr (v.getD 3 .any) (v.getD 2 .any)) fun t32 =>
  jn (br t32 (bd (aPieceStr (v.getD 0 .any) (some (v.getD 2 .any)) (some (v.getD 3 .any)) none) fun t37 =>
  bd2 (aNew s (nSlice 1 (aFill [.str []] [(0, 1, t37)]))) fun t38 s1 =>
  bd2 (aAppend 1 16 (v.getD 1 .any) t38 s1) fun t39 s2 =>
  some (.normal [(v.getD 0 .any), t39, (v.getD 3 .any), t22], s2))
  (some (.normal [(v.getD 0 .any), (v.getD 1 .any), (v.getD 3 .any), t22], s)))
  (fun v3 s4 => bd (aBin .add (v3.getD 2 .any) (I .i64 1)) fun t41 =>
  some (.normal [(v3.getD 0 .any), (v3.getD 1 .any), t41, (v3.getD 2 .any), (v3.getD 3 .any)], s4))
  (fun i5 v3 s4 => some (.exit i5 v3, s4))
  (fun r6 s4 => some (.ret r6, s4)))
  (some (.normal [(v.getD 0 .any), (v.getD 1 .any), (v.getD 2 .any), (v.getD 3 .any), t22], s)))
  (fun v7 s8 => br (v7.getD 4 .any) (some (.exit 0 [(v7.getD 1 .any)], s8))
  (some (.normal [(v7.getD 0 .any), (v7.getD 1 .any), (v7.getD 2 .any), (v7.getD 3 .any)], s8)))
  (fun i9 v7 s8 => if i9 = 1 then some (.normal v7, s8) else some (.exit i9 v7, s8))
  (fun r10 s8 => some (.ret r10, s8)))
  (fun v11 s12 => bd (aBin .add (v11.getD 3 .any) (I .i64 1)) fun t12 =>
  some (.normal [(v11.getD 0 .any), (v11.getD 1 .any), (v11.getD 2 .any), t12], s12))
  (fun i13 v11 s12 => some (.exit i13 v11, s12))
  (fun r14 s12 => some (.ret r14, s12)))
  (some (.exit 0 [(v.getD 1 .any)], s))

/- twinkeep/twinkeepref5.words -/
def f83 (callf : CallF) (N : Nat) (a0 : T) (s : St) : Option (T × St) :=
  jn (jn (loops (f83_l1 callf N) N [a0, (Z .nils), (I .i64 0), (I .i64 0)] s)
  (fun v15 s16 => some (.normal [.any], s16))
  (fun i17 v15 s16 => if i17 = 0 then some (.normal v15, s16) else some (.exit i17 v15, s16))
  (fun r18 s16 => some (.ret r18, s16)))
  (fun v19 s20 => some ((v19.getD 0 .any), s20))
  (fun i21 v19 s20 => none)
  (fun r22 s20 => some (r22, s20))

theorem f83_eq (callf : CallF) (N : Nat) (a0 : T) (s : St) : bodyC Tryz.prog callf N Tryz.f83 [a0] s = f83 callf N a0 s := by kernel_rfl

theorem f83_run (d : Nat) (a0 : T) (s : St) : R (d + 1) 83 [a0] s = f83 (R d) 8192 a0 s := (runQ_body rfl Tryz.func83 (by kernel_rfl)).trans (f83_eq ..)

/- twinkeep/twinkeepref5.line: a loop; 0: t0 p, 1: t1 was, 2: t2 l, 3: t7 n, 4: t8 i -/
def f84_l1 (callf : CallF) (N : Nat) (v : List T) (s : St) : Option (JO × St) :=
  bd (aBin .lss (v.getD 4 .any) (I .i64 4)) fun t27 =>
  br t27 (jn (bd2 (callf 100 [] s) fun t30 s6 =>
  bd (aIndexSl 1 t30 (v.getD 4 .any)) fun t32 =>
  bd (aLoad1 t32 s6.get) fun t33 =>
  bd (aIndexSl 1 (v.getD 2 .any) (I .i64 1)) fun t35 =>
  bd (aLoad1 t35 s6.get) fun t36 =>
  bd (aBin .eql t33 t36) fun t37 =>
  bd (gT (gd t37 true) (some (v.getD 3 .any))) fun t39 =>
  bd (gT (gd t37 true) (aBin .geq t39 (I .i64 0))) fun t40 =>
  bd (aPick t37 t40 (B false)) fun t41 =>
  bd (gT (gd t41 true) (some (v.getD 1 .any))) fun t43 =>
  bd (gT (gd t41 true) (some (v.getD 4 .any))) fun t44 =>
  bd (gT (gd t41 true) (aIndexSl 1 t43 t44)) fun t45 =>
  bd (gT (gd t41 true) (aLoad1 t45 s6.get)) fun t46 =>
  bd (gT (gd t41 true) (aUn .not t46)) fun t47 =>
  bd (aPick t41 t47 (B false)) fun t48 =>
  ck ((decide (aLoad1 t35 s.get = aLoad1 t35 s6.get) && true) && true) (br t48 (bd (aNil (v.getD 0 .any)) fun t52 =>
  bd (aFieldAddr 0 t52) fun t53 =>
  bd (aIndexArr 4 1 t53 (v.getD 4 .any)) fun t54 =>
  bd2 (aStore 1 t54 (v.getD 3 .any) s6) fun _ s7 =>
  bd (aIndexSl 1 (v.getD 1 .any) (v.getD 4 .any)) fun t57 =>
  bd2 (aStore 1 t57 (B true) s7) fun _ s8 =>
  some (.ret (B true), s8))
  (some (.normal [(v.getD 0 .any), (v.getD 1 .any), (v.getD 2 .any), (v.getD 3 .any), (v.getD 4 .any)], s6))))
  (fun v9 s10 => bd (aBin .add (v9.getD 4 .any) (I .i64 1)) fun t29 =>
  some (.normal [(v9.getD 0 .any), (v9.getD 1 .any), (v9.getD 2 .any), (v9.getD 3 .any), t29], s10))
  (fun i11 v9 s10 => some (.exit i11 v9, s10))
  (fun r12 s10 => some (.ret r12, s10)))
  (some (.exit 0 [], s))

/- twinkeep/twinkeepref5.line -/
def f84 (callf : CallF) (N : Nat) (a0 : T) (a1 : T) (a2 : T) (s : St) : Option (T × St) :=
  bd (aLenSl a2) fun t10 =>
  bd (aBin .eql t10 (I .i64 3)) fun t11 =>
  bd (gT (gd t11 true) (some a2)) fun t13 =>
  bd (gT (gd t11 true) (aIndexSl 1 t13 (I .i64 0))) fun t14 =>
  bd (gT (gd t11 true) (aLoad1 t14 s.get)) fun t15 =>
  bd (gT (gd t11 true) (aBin .eql t15 (Z (.str [107, 101, 101, 112])))) fun t16 =>
  bd (aPick t11 t16 (B false)) fun t17 =>
  br t17 (bd (aIndexSl 1 a2 (I .i64 2)) fun t19 =>
  bd (aLoad1 t19 s.get) fun t20 =>
  bd2 (callf 99 [t20] s) fun t21 s1 =>
  bd (aIndexSl 1 a2 (I .i64 2)) fun t23 =>
  bd (aLoad1 t23 s1.get) fun t24 =>
  bd (aBin .eql t24 (Z (.str [101, 118, 101, 114]))) fun t25 =>
  jn (br t25 (some (.normal [a0, a1, a2, (I .i64 0)], s1))
  (some (.normal [a0, a1, a2, t21], s1)))
  (fun v2 s3 => jn (jn (loops (f84_l1 callf N) N [(v2.getD 0 .any), (v2.getD 1 .any), (v2.getD 2 .any), (v2.getD 3 .any), (I .i64 0)] s3)
  (fun v13 s14 => some (.normal [], s14))
  (fun i15 v13 s14 => if i15 = 0 then some (.normal v13, s14) else some (.exit i15 v13, s14))
  (fun r16 s14 => some (.ret r16, s14)))
  (fun v17 s18 => some ((B false), s18))
  (fun i19 v17 s18 => none)
  (fun r20 s18 => some (r20, s18)))
  (fun i4 v2 s3 => none)
  (fun r5 s3 => some (r5, s3)))
  (bd (aLenSl a2) fun t59 =>
  bd (aBin .neq t59 (I .i64 2)) fun t60 =>
  bd (gT (gd t60 false) (some a2)) fun t62 =>
  bd (gT (gd t60 false) (aIndexSl 1 t62 (I .i64 1))) fun t63 =>
  bd (gT (gd t60 false) (aLoad1 t63 s.get)) fun t64 =>
  bd2 (gS (gd t60 false) s (callf 99 [t64] s)) fun t65 s21 =>
  bd (gT (gd t60 false) (aBin .lss t65 (I .i64 0))) fun t66 =>
  bd (aPick t60 (B true) t66) fun t67 =>
  br t67 (some ((B false), s21))
  (bd (aIndexSl 1 a2 (I .i64 0)) fun t69 =>
  bd (aLoad1 t69 s21.get) fun t70 =>
  bd (aBin .eql t70 (Z (.str [115, 101, 97, 108]))) fun t71 =>
  bd (gT (gd t71 true) (some a1)) fun t73 =>
  bd (gT (gd t71 true) (aIndexSl 1 t73 (I .i64 4))) fun t74 =>
  bd (gT (gd t71 true) (aLoad1 t74 s21.get)) fun t75 =>
  bd (gT (gd t71 true) (aUn .not t75)) fun t76 =>
  bd (aPick t71 t76 (B false)) fun t77 =>
  br t77 (bd (aIndexSl 1 a2 (I .i64 1)) fun t80 =>
  bd (aLoad1 t80 s21.get) fun t81 =>
  bd2 (callf 99 [t81] s21) fun t82 s22 =>
  bd (aNil a0) fun t83 =>
  bd (aFieldAddr 4 t83) fun t84 =>
  bd2 (aStore 1 t84 t82 s22) fun _ s23 =>
  bd (aIndexSl 1 a1 (I .i64 4)) fun t86 =>
  bd2 (aStore 1 t86 (B true) s23) fun _ s24 =>
  some ((B true), s24))
  (bd (aIndexSl 1 a2 (I .i64 0)) fun t88 =>
  bd (aLoad1 t88 s21.get) fun t89 =>
  bd (aBin .eql t89 (Z (.str [115, 112, 97, 110]))) fun t90 =>
  bd (gT (gd t90 true) (some a1)) fun t92 =>
  bd (gT (gd t90 true) (aIndexSl 1 t92 (I .i64 5))) fun t93 =>
  bd (gT (gd t90 true) (aLoad1 t93 s21.get)) fun t94 =>
  bd (gT (gd t90 true) (aUn .not t94)) fun t95 =>
  bd (aPick t90 t95 (B false)) fun t96 =>
  br t96 (bd (aIndexSl 1 a2 (I .i64 1)) fun t99 =>
  bd (aLoad1 t99 s21.get) fun t100 =>
  bd2 (callf 99 [t100] s21) fun t101 s25 =>
  bd (aNil a0) fun t102 =>
  bd (aFieldAddr 5 t102) fun t103 =>
  bd2 (aStore 1 t103 t101 s25) fun _ s26 =>
  bd (aIndexSl 1 a1 (I .i64 5)) fun t105 =>
  bd2 (aStore 1 t105 (B true) s26) fun _ s27 =>
  some ((B true), s27))
  (some ((B false), s21)))))

theorem f84_eq (callf : CallF) (N : Nat) (a0 : T) (a1 : T) (a2 : T) (s : St) : bodyC Tryz.prog callf N Tryz.f84 [a0, a1, a2] s = f84 callf N a0 a1 a2 s := by kernel_rfl

theorem f84_run (d : Nat) (a0 : T) (a1 : T) (a2 : T) (s : St) : R (d + 1) 84 [a0, a1, a2] s = f84 (R d) 8192 a0 a1 a2 s := (runQ_body rfl Tryz.func84 (by kernel_rfl)).trans (f84_eq ..)

/- twinkeep/twinkeepref5.number: a loop; 0: t0 s, 1: t3 n, 2: t4 i -/
def f99_l1 (callf : CallF) (N : Nat) (v : List T) (s : St) : Option (JO × St) :=
  bd (aLenStr (v.getD 0 .any)) fun t15 =>
  bd (aBin .lss (v.getD 2 .any) t15) fun t16 =>
  br t16 (jn (bd (aAtStr (v.getD 0 .any) (v.getD 2 .any)) fun t21 =>
  bd (aBin .lss t21 (I .u8 48)) fun t22 =>
  bd (gT (gd t22 false) (some (v.getD 0 .any))) fun t24 =>
  bd (gT (gd t22 false) (some (v.getD 2 .any))) fun t25 =>
  bd (gT (gd t22 false) (aAtStr t24 t25)) fun t26 =>
  bd (gT (gd t22 false) (aBin .gtr t26 (I .u8 57))) fun t27 =>
  bd (aPick t22 (B true) t27) fun t28 =>
  br t28 (some (.ret (I .i64 (-1)), s))
  (bd (aBin .mul (v.getD 1 .any) (I .i64 10)) fun t30 =>
  bd (aAtStr (v.getD 0 .any) (v.getD 2 .any)) fun t33 =>
  bd (aBin .sub t33 (I .u8 48)) fun t34 =>
  bd (aConv .i64 t34) fun t35 =>
  bd (aBin .add t30 t35) fun t36 =>
  some (.normal [(v.getD 0 .any), t36, (v.getD 2 .any)], s)))
  (fun v1 s2 => bd (aBin .add (v1.getD 2 .any) (I .i64 1)) fun t18 =>
  some (.normal [(v1.getD 0 .any), (v1.getD 1 .any), t18], s2))
  (fun i3 v1 s2 => some (.exit i3 v1, s2))
  (fun r4 s2 => some (.ret r4, s2)))
  (some (.exit 0 [(v.getD 1 .any)], s))

/- twinkeep/twinkeepref5.number -/
def f99 (callf : CallF) (N : Nat) (a0 : T) (s : St) : Option (T × St) :=
  bd (aLenStr a0) fun t6 =>
  bd (aBin .lss t6 (I .i64 1)) fun t7 =>
  bd (gT (gd t7 false) (some a0)) fun t9 =>
  bd (gT (gd t7 false) (aLenStr t9)) fun t10 =>
  bd (gT (gd t7 false) (aBin .gtr t10 (I .i64 13))) fun t11 =>
  bd (aPick t7 (B true) t11) fun t12 =>
  br t12 (some ((I .i64 (-1)), s))
  (jn (jn (loops (f99_l1 callf N) N [a0, (I .i64 0), (I .i64 0)] s)
  (fun v5 s6 => some (.normal [.any], s6))
  (fun i7 v5 s6 => if i7 = 0 then some (.normal v5, s6) else some (.exit i7 v5, s6))
  (fun r8 s6 => some (.ret r8, s6)))
  (fun v9 s10 => some ((v9.getD 0 .any), s10))
  (fun i11 v9 s10 => none)
  (fun r12 s10 => some (r12, s10)))

theorem f99_eq (callf : CallF) (N : Nat) (a0 : T) (s : St) : bodyC Tryz.prog callf N Tryz.f99 [a0] s = f99 callf N a0 s := by kernel_rfl

theorem f99_run (d : Nat) (a0 : T) (s : St) : R (d + 1) 99 [a0] s = f99 (R d) 8192 a0 s := (runQ_body rfl Tryz.func99 (by kernel_rfl)).trans (f99_eq ..)

/- twinkeep/twinkeepref5.names -/
def f100 (callf : CallF) (N : Nat) (s : St) : Option (T × St) :=
  bd2 (aNew s (nSlice 4 (aFill [.str [], .str [], .str [], .str []] [(0, 1, (Z (.str [114, 97, 119]))), (1, 1, (Z (.str [53, 109]))), (2, 1, (Z (.str [49, 104]))), (3, 1, (Z (.str [49, 100])))]))) fun t1 s1 =>
  some (t1, s1)

theorem f100_eq (callf : CallF) (N : Nat) (s : St) : bodyC Tryz.prog callf N Tryz.f100 [] s = f100 callf N s := by kernel_rfl

theorem f100_run (d : Nat) (s : St) : R (d + 1) 100 [] s = f100 (R d) 8192 s := (runQ_body rfl Tryz.func100 (by kernel_rfl)).trans (f100_eq ..)

/- twinkeep/twinkeepref5.MayPolicy: a loop; 0: t1 p, 1: t3 i -/
def f85_l1 (callf : CallF) (N : Nat) (v : List T) (s : St) : Option (JO × St) :=
  bd (aBin .lss (v.getD 1 .any) (I .i64 4)) fun t6 =>
  br t6 (jn (bd (aFieldAddr 0 (v.getD 0 .any)) fun t10 =>
  bd (aIndexArr 4 1 t10 (v.getD 1 .any)) fun t11 =>
  bd (aLoad1 t11 s.get) fun t12 =>
  bd (aBin .lss t12 (I .i64 0)) fun t14 =>
  bd (gT (gd t14 false) (some t12)) fun t16 =>
  bd (gT (gd t14 false) (aBin .gtr t16 (I .i64 1099511627776))) fun t17 =>
  bd (aPick t14 (B true) t17) fun t18 =>
  bd (gT (gd t18 false) (some (v.getD 1 .any))) fun t20 =>
  bd (gT (gd t18 false) (aBin .gtr t20 (I .i64 0))) fun t21 =>
  bd (gT (gd t18 false) (some t21)) fun t22 =>
  bd (gT (gd t22 true) (some t12)) fun t23 =>
  bd (gT (gd t22 true) (aBin .neq t23 (I .i64 0))) fun t24 =>
  bd (gT (gd t22 true) (some t24)) fun t25 =>
  bd (gT (gd t25 true) (some t12)) fun t26 =>
  bd (gT (gd t25 true) (some (v.getD 1 .any))) fun t27 =>
  bd (gT (gd t25 true) (aBin .sub t27 (I .i64 1))) fun t28 =>
  bd (gT (gd t25 true) (aFieldAddr 0 (v.getD 0 .any))) fun t29 =>
  bd (gT (gd t25 true) (aIndexArr 4 1 t29 t28)) fun t30 =>
  bd (gT (gd t25 true) (aLoad1 t30 s.get)) fun t31 =>
  bd (gT (gd t25 true) (aBin .lss t26 t31)) fun t32 =>
  bd (gT (gd t22 true) (aPick t25 t32 (B false))) fun t33 =>
  bd (gT (gd t22 true) (some t33)) fun t34 =>
  bd (gT (gd t34 false) (some t12)) fun t35 =>
  bd (gT (gd t34 false) (aBin .neq t35 (I .i64 0))) fun t36 =>
  bd (gT (gd t34 false) (some t36)) fun t37 =>
  bd (gT (gd t37 true) (some (v.getD 1 .any))) fun t38 =>
  bd (gT (gd t37 true) (aBin .sub t38 (I .i64 1))) fun t39 =>
  bd (gT (gd t37 true) (aFieldAddr 0 (v.getD 0 .any))) fun t40 =>
  bd (gT (gd t37 true) (aIndexArr 4 1 t40 t39)) fun t41 =>
  bd (gT (gd t37 true) (aLoad1 t41 s.get)) fun t42 =>
  bd (gT (gd t37 true) (aBin .eql t42 (I .i64 0))) fun t43 =>
  bd (gT (gd t34 false) (aPick t37 t43 (B false))) fun t44 =>
  bd (gT (gd t22 true) (aPick t34 (B true) t44)) fun t45 =>
  bd (gT (gd t18 false) (aPick t22 t45 (B false))) fun t46 =>
  bd (aPick t18 (B true) t46) fun t47 =>
  br t47 (some (.ret (B false), s))
  (some (.normal [(v.getD 0 .any), (v.getD 1 .any)], s)))
  (fun v2 s3 => bd (aBin .add (v2.getD 1 .any) (I .i64 1)) fun t8 =>
  some (.normal [(v2.getD 0 .any), t8], s3))
  (fun i4 v2 s3 => some (.exit i4 v2, s3))
  (fun r5 s3 => some (.ret r5, s3)))
  (some (.exit 0 [(v.getD 0 .any)], s))

/- twinkeep/twinkeepref5.MayPolicy -/
def f85 (callf : CallF) (N : Nat) (a0 : T) (s : St) : Option (T × St) :=
  bd2 (aNew s (nBox a0)) fun t1 s1 =>
  jn (jn (loops (f85_l1 callf N) N [t1, (I .i64 0)] s1)
  (fun v6 s7 => some (.normal [.any], s7))
  (fun i8 v6 s7 => if i8 = 0 then some (.normal v6, s7) else some (.exit i8 v6, s7))
  (fun r9 s7 => some (.ret r9, s7)))
  (fun v10 s11 => bd (aFieldAddr 0 (v10.getD 0 .any)) fun t48 =>
  bd (aIndexArr 4 1 t48 (I .i64 3)) fun t49 =>
  bd (aLoad1 t49 s11.get) fun t50 =>
  bd (aBin .eql t50 (I .i64 0)) fun t51 =>
  bd (gT (gd t51 true) (aFieldAddr 4 (v10.getD 0 .any))) fun t53 =>
  bd (gT (gd t51 true) (aLoad1 t53 s11.get)) fun t54 =>
  bd (gT (gd t51 true) (aBin .geq t54 (I .i64 1))) fun t55 =>
  bd (aPick t51 t55 (B false)) fun t56 =>
  bd (gT (gd t56 true) (aFieldAddr 4 (v10.getD 0 .any))) fun t58 =>
  bd (gT (gd t56 true) (aLoad1 t58 s11.get)) fun t59 =>
  bd (gT (gd t56 true) (aBin .leq t59 (I .i64 64))) fun t60 =>
  bd (aPick t56 t60 (B false)) fun t61 =>
  bd (gT (gd t61 true) (aFieldAddr 5 (v10.getD 0 .any))) fun t63 =>
  bd (gT (gd t61 true) (aLoad1 t63 s11.get)) fun t64 =>
  bd (gT (gd t61 true) (aBin .geq t64 (I .i64 1))) fun t65 =>
  bd (aPick t61 t65 (B false)) fun t66 =>
  bd (gT (gd t66 true) (aFieldAddr 5 (v10.getD 0 .any))) fun t68 =>
  bd (gT (gd t66 true) (aLoad1 t68 s11.get)) fun t69 =>
  bd (gT (gd t66 true) (aBin .leq t69 (I .i64 200))) fun t70 =>
  bd (aPick t66 t70 (B false)) fun t71 =>
  some (t71, s11))
  (fun i12 v10 s11 => none)
  (fun r13 s11 => some (r13, s11))

theorem f85_eq (callf : CallF) (N : Nat) (a0 : T) (s : St) : bodyC Tryz.prog callf N Tryz.f85 [a0] s = f85 callf N a0 s := by kernel_rfl

theorem f85_run (d : Nat) (a0 : T) (s : St) : R (d + 1) 85 [a0] s = f85 (R d) 8192 a0 s := (runQ_body rfl Tryz.func85 (by kernel_rfl)).trans (f85_eq ..)

/- twinkeep/twinkeepref5.Default -/
def f60 (callf : CallF) (N : Nat) (s : St) : Option (T × St) :=
  bd2 (aNew s (nCells [.int .i64 0, .int .i64 0, .int .i64 0, .int .i64 0, .int .i64 0, .int .i64 0])) fun t0 s1 =>
  bd (asAggT (aFill [.int .i64 0, .int .i64 0, .int .i64 0, .int .i64 0] [(0, 1, (I .i64 60)), (1, 1, (I .i64 600)), (2, 1, (I .i64 6000)), (3, 1, (I .i64 0))])) fun t1 =>
  bd (asAggT (aFill [.int .i64 0, .int .i64 0, .int .i64 0, .int .i64 0, .int .i64 0, .int .i64 0] [(0, 4, t1), (4, 1, (I .i64 8)), (5, 1, (I .i64 30))])) fun t2 =>
  bd2 (aStore 6 t0 t2 s1) fun _ s2 =>
  bd (rC (aLoadN 6 t0 s2.get) (some [])) fun l3 => bd (retT l3) fun r4 =>
  some (r4, s2)

theorem f60_eq (callf : CallF) (N : Nat) (s : St) : bodyC Tryz.prog callf N Tryz.f60 [] s = f60 callf N s := by kernel_rfl

theorem f60_run (d : Nat) (s : St) : R (d + 1) 60 [] s = f60 (R d) 8192 s := (runQ_body rfl Tryz.func60 (by kernel_rfl)).trans (f60_eq ..)

end
end Go.Proofs.YtlhbidbdmdcdeaaGreatDoor
