/-
  What functions that the laws reach compute, printed by a program of our own: each text is by definition the run of the code. No conditions.
-/
import Derived.Test.YtlhbidbdmdcdeaaGreatDoorWalk0
namespace Go.Proofs.YtlhbidbdmdcdeaaGreatDoor
open Go Go.Abs Go.Abs.F
set_option linter.unusedVariables false
noncomputable section
/- twinkeep/vary.Put: a loop; 0: t0 n, 1: t3 b -/
def f52_l1 (callf : CallF) (N : Nat) (v : List T) (s : St) : Option (JO × St) :=
  bd (aBin .geq (v.getD 0 .any) (I .u64 128)) fun t5 =>
  br t5 (jn (bd (aConv .u8 (v.getD 0 .any)) fun t8 =>
  bd (aBin .or t8 (I .u8 128)) fun t9 =>
  bd2 (aNew s (nSlice 1 (aFill [.int .u8 0] [(0, 1, t9)]))) fun t10 s1 =>
  bd2 (aAppend 1 1 (v.getD 1 .any) t10 s1) fun t11 s2 =>
  bd (aBin .shr (v.getD 0 .any) (I .u64 7)) fun t13 =>
  some (.normal [t13, t11], s2))
  (fun v3 s4 => some (.normal [(v3.getD 0 .any), (v3.getD 1 .any)], s4))
  (fun i5 v3 s4 => some (.exit i5 v3, s4))
  (fun r6 s4 => some (.ret r6, s4)))
  (some (.exit 0 [(v.getD 0 .any), (v.getD 1 .any)], s))

/- twinkeep/vary.Put -/
def f52 (callf : CallF) (N : Nat) (a0 : T) (s : St) : Option (T × St) :=
  jn (jn (loops (f52_l1 callf N) N [a0, (Z .nils)] s)
  (fun v7 s8 => some (.normal [.any, .any], s8))
  (fun i9 v7 s8 => if i9 = 0 then some (.normal v7, s8) else some (.exit i9 v7, s8))
  (fun r10 s8 => some (.ret r10, s8)))
  (fun v11 s12 => bd (aConv .u8 (v11.getD 0 .any)) fun t16 =>
  bd2 (aNew s12 (nSlice 1 (aFill [.int .u8 0] [(0, 1, t16)]))) fun t17 s15 =>
  bd2 (aAppend 1 1 (v11.getD 1 .any) t17 s15) fun t18 s16 =>
  some (t18, s16))
  (fun i13 v11 s12 => none)
  (fun r14 s12 => some (r14, s12))

theorem f52_eq (callf : CallF) (N : Nat) (a0 : T) (s : St) : bodyC Tryz.prog callf N Tryz.f52 [a0] s = f52 callf N a0 s := by kernel_rfl

theorem f52_run (d : Nat) (a0 : T) (s : St) : R (d + 1) 52 [a0] s = f52 (R d) 8192 a0 s := (runQ_body rfl Tryz.func52 (by kernel_rfl)).trans (f52_eq ..)

/- twinkeep/vary.Get: a loop; 0: t0 b, 1: t1 at, 2: t7 n, 3: t19  -/
def f54_l1 (callf : CallF) (N : Nat) (v : List T) (s : St) : Option (JO × St) :=
  bd (aBin .lss (v.getD 3 .any) (I .i64 10)) fun t20 =>
  br t20 (jn (bd (aBin .add (v.getD 1 .any) (v.getD 3 .any)) fun t24 =>
  bd (aLenSl (v.getD 0 .any)) fun t26 =>
  bd (aBin .geq t24 t26) fun t27 =>
  br t27 (some (.exit 0 [(v.getD 1 .any)], s))
  (bd (aBin .add (v.getD 1 .any) (v.getD 3 .any)) fun t31 =>
  bd (aIndexSl 1 (v.getD 0 .any) t31) fun t32 =>
  bd (aLoad1 t32 s.get) fun t33 =>
  bd (aBin .eql (v.getD 3 .any) (I .i64 9)) fun t35 =>
  bd (gT (gd t35 true) (some t33)) fun t37 =>
  bd (gT (gd t35 true) (aBin .gtr t37 (I .u8 1))) fun t38 =>
  bd (aPick t35 t38 (B false)) fun t39 =>
  br t39 (some (.exit 0 [(v.getD 1 .any)], s))
  (bd (aBin .and t33 (I .u8 127)) fun t42 =>
  bd (aConv .u64 t42) fun t43 =>
  bd (aBin .mul (I .i64 7) (v.getD 3 .any)) fun t45 =>
  bd (aConv .u64 t45) fun t46 =>
  bd (aBin .shl t43 t46) fun t47 =>
  bd (aBin .or (v.getD 2 .any) t47) fun t48 =>
  jn (bd (aBin .geq t33 (I .u8 128)) fun t51 =>
  br t51 (some (.exit 1 [(v.getD 0 .any), (v.getD 1 .any), t48, (v.getD 3 .any)], s))
  (bd (aBin .gtr (v.getD 3 .any) (I .i64 0)) fun t54 =>
  bd (gT (gd t54 true) (some t33)) fun t56 =>
  bd (gT (gd t54 true) (aBin .eql t56 (I .u8 0))) fun t57 =>
  bd (aPick t54 t57 (B false)) fun t58 =>
  br t58 (some (.exit 0 [(v.getD 1 .any)], s))
  (some (.normal [(v.getD 1 .any), t48, (v.getD 3 .any)], s))))
  (fun v2 s3 => bd (aBin .add (v2.getD 0 .any) (v2.getD 2 .any)) fun t62 =>
  bd (aBin .add t62 (I .i64 1)) fun t63 =>
  bd (retT [(v2.getD 1 .any), t63, (I .i64 0)]) fun r6 =>
  some (.ret r6, s3))
  (fun i4 v2 s3 => if i4 = 1 then some (.normal v2, s3) else some (.exit i4 v2, s3))
  (fun r5 s3 => some (.ret r5, s3)))))
  (fun v7 s8 => bd (aBin .add (v7.getD 3 .any) (I .i64 1)) fun t64 =>
  some (.normal [(v7.getD 0 .any), (v7.getD 1 .any), (v7.getD 2 .any), t64], s8))
  (fun i9 v7 s8 => some (.exit i9 v7, s8))
  (fun r10 s8 => some (.ret r10, s8)))
  (some (.exit 0 [(v.getD 1 .any)], s))

/- twinkeep/vary.Get -/
def f54 (callf : CallF) (N : Nat) (a0 : T) (a1 : T) (s : St) : Option (T × St) :=
  bd (aBin .lss a1 (I .i64 0)) fun t11 =>
  bd (gT (gd t11 false) (some a1)) fun t13 =>
  bd (gT (gd t11 false) (some a0)) fun t14 =>
  bd (gT (gd t11 false) (aLenSl t14)) fun t15 =>
  bd (gT (gd t11 false) (aBin .gtr t13 t15)) fun t16 =>
  bd (aPick t11 (B true) t16) fun t17 =>
  br t17 (bd (retT [(I .u64 0), a1, (I .i64 1)]) fun r1 =>
  some (r1, s))
  (jn (jn (loops (f54_l1 callf N) N [a0, a1, (I .u64 0), (I .i64 0)] s)
  (fun v11 s12 => some (.normal [.any], s12))
  (fun i13 v11 s12 => if i13 = 0 then some (.normal v11, s12) else some (.exit i13 v11, s12))
  (fun r14 s12 => some (.ret r14, s12)))
  (fun v15 s16 => bd (retT [(I .u64 0), (v15.getD 0 .any), (I .i64 2)]) fun r19 =>
  some (r19, s16))
  (fun i17 v15 s16 => none)
  (fun r18 s16 => some (r18, s16)))

theorem f54_eq (callf : CallF) (N : Nat) (a0 : T) (a1 : T) (s : St) : bodyC Tryz.prog callf N Tryz.f54 [a0, a1] s = f54 callf N a0 a1 s := by kernel_rfl

theorem f54_run (d : Nat) (a0 : T) (a1 : T) (s : St) : R (d + 1) 54 [a0, a1] s = f54 (R d) 8192 a0 a1 s := (runQ_body rfl Tryz.func54 (by kernel_rfl)).trans (f54_eq ..)

/- twinkeep/sum.Of -/
def f69 (callf : CallF) (N : Nat) (a0 : T) (s : St) : Option (T × St) :=
  bd2 (callf 68 [(I .u32 1), a0] s) fun t4 s1 =>
  some (t4, s1)

theorem f69_eq (callf : CallF) (N : Nat) (a0 : T) (s : St) : bodyC Tryz.prog callf N Tryz.f69 [a0] s = f69 callf N a0 s := by kernel_rfl

theorem f69_run (d : Nat) (a0 : T) (s : St) : R (d + 1) 69 [a0] s = f69 (R d) 8192 a0 s := (runQ_body rfl Tryz.func69 (by kernel_rfl)).trans (f69_eq ..)

/- twinkeep/sum.More: a loop; 0: t5 n, 1: t11 , 2: t12 , 3: t13  -/
def f68_l1 (callf : CallF) (N : Nat) (v : List T) (s : St) : Option (JO × St) :=
  bd (aBin .lss (v.getD 3 .any) (v.getD 2 .any)) fun t14 =>
  br t14 (jn (bd (aIndexSl 1 (v.getD 1 .any) (v.getD 3 .any)) fun t15 =>
  bd (aLoad1 t15 s.get) fun t16 =>
  bd (aBin .mul (v.getD 0 .any) (I .u64 257)) fun t18 =>
  bd (aConv .u64 t16) fun t20 =>
  bd (aBin .add t18 t20) fun t21 =>
  bd (aBin .add t21 (I .u64 1)) fun t22 =>
  bd (aBin .rem t22 (I .u64 4294967291)) fun t23 =>
  some (.normal [t23, (v.getD 1 .any), (v.getD 2 .any), (v.getD 3 .any)], s))
  (fun v1 s2 => bd (aBin .add (v1.getD 3 .any) (I .i64 1)) fun t24 =>
  some (.normal [(v1.getD 0 .any), (v1.getD 1 .any), (v1.getD 2 .any), t24], s2))
  (fun i3 v1 s2 => some (.exit i3 v1, s2))
  (fun r4 s2 => some (.ret r4, s2)))
  (some (.exit 0 [(v.getD 0 .any)], s))

/- twinkeep/sum.More -/
def f68 (callf : CallF) (N : Nat) (a0 : T) (a1 : T) (s : St) : Option (T × St) :=
  bd (aConv .u64 a0) fun t9 =>
  bd (aBin .rem t9 (I .u64 4294967291)) fun t10 =>
  bd (aLenSl a1) fun t12 =>
  jn (jn (loops (f68_l1 callf N) N [t10, a1, t12, (I .i64 0)] s)
  (fun v5 s6 => some (.normal [.any], s6))
  (fun i7 v5 s6 => if i7 = 0 then some (.normal v5, s6) else some (.exit i7 v5, s6))
  (fun r8 s6 => some (.ret r8, s6)))
  (fun v9 s10 => bd (aConv .u32 (v9.getD 0 .any)) fun t26 =>
  some (t26, s10))
  (fun i11 v9 s10 => none)
  (fun r12 s10 => some (r12, s10))

theorem f68_eq (callf : CallF) (N : Nat) (a0 : T) (a1 : T) (s : St) : bodyC Tryz.prog callf N Tryz.f68 [a0, a1] s = f68 callf N a0 a1 s := by kernel_rfl

theorem f68_run (d : Nat) (a0 : T) (a1 : T) (s : St) : R (d + 1) 68 [a0, a1] s = f68 (R d) 8192 a0 a1 s := (runQ_body rfl Tryz.func68 (by kernel_rfl)).trans (f68_eq ..)

/- slices.Equal[[]byte,byte]: a loop; 0: t0 s1, 1: t1 s2, 2: t12 , 3: t13  -/
def f70_l1 (callf : CallF) (N : Nat) (v : List T) (s : St) : Option (JO × St) :=
  bd (aBin .lss (v.getD 3 .any) (v.getD 2 .any)) fun t14 =>
  br t14 (jn (bd (aIndexSl 1 (v.getD 0 .any) (v.getD 3 .any)) fun t18 =>
  bd (aLoad1 t18 s.get) fun t19 =>
  bd (aIndexSl 1 (v.getD 1 .any) (v.getD 3 .any)) fun t22 =>
  bd (aLoad1 t22 s.get) fun t23 =>
  bd (aBin .neq t19 t23) fun t24 =>
  br t24 (some (.ret (B false), s))
  (some (.normal [(v.getD 0 .any), (v.getD 1 .any), (v.getD 2 .any), (v.getD 3 .any)], s)))
  (fun v1 s2 => bd (aBin .add (v1.getD 3 .any) (I .i64 1)) fun t25 =>
  some (.normal [(v1.getD 0 .any), (v1.getD 1 .any), (v1.getD 2 .any), t25], s2))
  (fun i3 v1 s2 => some (.exit i3 v1, s2))
  (fun r4 s2 => some (.ret r4, s2)))
  (some (.exit 0 [], s))

/- slices.Equal[[]byte,byte] -/
def f70 (callf : CallF) (N : Nat) (a0 : T) (a1 : T) (s : St) : Option (T × St) :=
  bd (aLenSl a0) fun t7 =>
  bd (aLenSl a1) fun t9 =>
  bd (aBin .neq t7 t9) fun t10 =>
  br t10 (some ((B false), s))
  (bd (aLenSl a0) fun t12 =>
  jn (jn (loops (f70_l1 callf N) N [a0, a1, t12, (I .i64 0)] s)
  (fun v5 s6 => some (.normal [], s6))
  (fun i7 v5 s6 => if i7 = 0 then some (.normal v5, s6) else some (.exit i7 v5, s6))
  (fun r8 s6 => some (.ret r8, s6)))
  (fun v9 s10 => some ((B true), s10))
  (fun i11 v9 s10 => none)
  (fun r12 s10 => some (r12, s10)))

theorem f70_eq (callf : CallF) (N : Nat) (a0 : T) (a1 : T) (s : St) : bodyC Tryz.prog callf N Tryz.f70 [a0, a1] s = f70 callf N a0 a1 s := by kernel_rfl

theorem f70_run (d : Nat) (a0 : T) (a1 : T) (s : St) : R (d + 1) 70 [a0, a1] s = f70 (R d) 8192 a0 a1 s := (runQ_body rfl Tryz.func70 (by kernel_rfl)).trans (f70_eq ..)

/- bytes.Equal -/
def f55 (callf : CallF) (N : Nat) (a0 : T) (a1 : T) (s : St) : Option (T × St) :=
  bd (aBytesStr a0 s.get) fun t6 =>
  bd (aBytesStr a1 s.get) fun t8 =>
  bd (aBin .eql t6 t8) fun t9 =>
  some (t9, s)

theorem f55_eq (callf : CallF) (N : Nat) (a0 : T) (a1 : T) (s : St) : bodyC Tryz.prog callf N Tryz.f55 [a0, a1] s = f55 callf N a0 a1 s := by kernel_rfl

theorem f55_run (d : Nat) (a0 : T) (a1 : T) (s : St) : R (d + 1) 55 [a0, a1] s = f55 (R d) 8192 a0 a1 s := (runQ_body rfl Tryz.func55 (by kernel_rfl)).trans (f55_eq ..)

/- twinkeep/log.low -/
def f67 (callf : CallF) (N : Nat) (a0 : T) (s : St) : Option (T × St) :=
  bd (aConv .u8 a0) fun t4 =>
  bd (aBin .shr a0 (I .u64 8)) fun t6 =>
  bd (aConv .u8 t6) fun t7 =>
  bd (aBin .shr a0 (I .u64 16)) fun t9 =>
  bd (aConv .u8 t9) fun t10 =>
  bd (aBin .shr a0 (I .u64 24)) fun t12 =>
  bd (aConv .u8 t12) fun t13 =>
  bd2 (aNew s (nSlice 4 (aFill [.int .u8 0, .int .u8 0, .int .u8 0, .int .u8 0] [(0, 1, t4), (1, 1, t7), (2, 1, t10), (3, 1, t13)]))) fun t14 s1 =>
  some (t14, s1)

theorem f67_eq (callf : CallF) (N : Nat) (a0 : T) (s : St) : bodyC Tryz.prog callf N Tryz.f67 [a0] s = f67 callf N a0 s := by kernel_rfl

theorem f67_run (d : Nat) (a0 : T) (s : St) : R (d + 1) 67 [a0] s = f67 (R d) 8192 a0 s := (runQ_body rfl Tryz.func67 (by kernel_rfl)).trans (f67_eq ..)

/- slices.Concat[[]byte,byte]: a loop; 0: t0 slices, 1: t3 size, 2: t9 , 3: t10 , 4: t11  -/
def f66_l1 (callf : CallF) (N : Nat) (v : List T) (s : St) : Option (JO × St) :=
  bd (aBin .lss (v.getD 4 .any) (v.getD 3 .any)) fun t12 =>
  br t12 (jn (bd (aIndexSl 1 (v.getD 2 .any) (v.getD 4 .any)) fun t13 =>
  bd (aLoad1 t13 s.get) fun t14 =>
  bd (aLenSl t14) fun t17 =>
  bd (aBin .add (v.getD 1 .any) t17) fun t18 =>
  bd (aBin .lss t18 (I .i64 0)) fun t20 =>
  jn (br t20 (bd ((none : Option T)) fun t21 =>
  bd ((none : Option T)) fun u1 =>
  some (.normal [(v.getD 0 .any), t18, (v.getD 2 .any), (v.getD 3 .any), (v.getD 4 .any)], s))
  (some (.normal [(v.getD 0 .any), t18, (v.getD 2 .any), (v.getD 3 .any), (v.getD 4 .any)], s)))
  (fun v2 s3 => some (.normal [(v2.getD 0 .any), (v2.getD 1 .any), (v2.getD 2 .any), (v2.getD 3 .any), (v2.getD 4 .any)], s3))
  (fun i4 v2 s3 => if i4 = 1 then some (.normal v2, s3) else some (.exit i4 v2, s3))
  (fun r5 s3 => some (.ret r5, s3)))
  (fun v6 s7 => bd (aBin .add (v6.getD 4 .any) (I .i64 1)) fun t22 =>
  some (.normal [(v6.getD 0 .any), (v6.getD 1 .any), (v6.getD 2 .any), (v6.getD 3 .any), t22], s7))
  (fun i8 v6 s7 => some (.exit i8 v6, s7))
  (fun r9 s7 => some (.ret r9, s7)))
  (some (.exit 0 [(v.getD 0 .any), (v.getD 1 .any)], s))

/- slices.Concat[[]byte,byte]: a loop; 0: t6 newslice, 1: t25 , 2: t26 , 3: t27  -/
def f66_l2 (callf : CallF) (N : Nat) (v : List T) (s : St) : Option (JO × St) :=
  bd (aBin .lss (v.getD 3 .any) (v.getD 2 .any)) fun t28 =>
  br t28 (jn (bd (aIndexSl 1 (v.getD 1 .any) (v.getD 3 .any)) fun t29 =>
  bd (aLoad1 t29 s.get) fun t30 =>
  bd2 (aAppend 1 1 (v.getD 0 .any) t30 s) fun t33 s19 =>
  some (.normal [t33, (v.getD 1 .any), (v.getD 2 .any), (v.getD 3 .any)], s19))
  (fun v20 s21 => bd (aBin .add (v20.getD 3 .any) (I .i64 1)) fun t34 =>
  some (.normal [(v20.getD 0 .any), (v20.getD 1 .any), (v20.getD 2 .any), t34], s21))
  (fun i22 v20 s21 => some (.exit i22 v20, s21))
  (fun r23 s21 => some (.ret r23, s21)))
  (some (.exit 2 [(v.getD 0 .any)], s))

/- slices.Concat[[]byte,byte] -/
def f66 (callf : CallF) (N : Nat) (a0 : T) (s : St) : Option (T × St) :=
  bd (aLenSl a0) fun t10 =>
  jn (jn (loops (f66_l1 callf N) N [a0, (I .i64 0), a0, t10, (I .i64 0)] s)
  (fun v10 s11 => some (.normal [.any, .any], s11))
  (fun i12 v10 s11 => if i12 = 0 then some (.normal v10, s11) else some (.exit i12 v10, s11))
  (fun r13 s11 => some (.ret r13, s11)))
  (fun v14 s15 => bd2 (callf 86 [(Z .nils), (v14.getD 1 .any)] s15) fun t24 s18 =>
  bd (aLenSl (v14.getD 0 .any)) fun t26 =>
  jn (jn (loops (f66_l2 callf N) N [t24, (v14.getD 0 .any), t26, (I .i64 0)] s18)
  (fun v24 s25 => some (.normal [.any], s25))
  (fun i26 v24 s25 => if i26 = 2 then some (.normal v24, s25) else some (.exit i26 v24, s25))
  (fun r27 s25 => some (.ret r27, s25)))
  (fun v28 s29 => some ((v28.getD 0 .any), s29))
  (fun i30 v28 s29 => none)
  (fun r31 s29 => some (r31, s29)))
  (fun i16 v14 s15 => none)
  (fun r17 s15 => some (r17, s15))

theorem f66_eq (callf : CallF) (N : Nat) (a0 : T) (s : St) : bodyC Tryz.prog callf N Tryz.f66 [a0] s = f66 callf N a0 s := by kernel_rfl

theorem f66_run (d : Nat) (a0 : T) (s : St) : R (d + 1) 66 [a0] s = f66 (R d) 8192 a0 s := (runQ_body rfl Tryz.func66 (by kernel_rfl)).trans (f66_eq ..)

/- slices.Grow[[]byte,byte] -/
def f86 (callf : CallF) (N : Nat) (a0 : T) (a1 : T) (s : St) : Option (T × St) :=
  bd (aBin .lss a1 (I .i64 0)) fun t6 =>
  jn (br t6 (bd ((none : Option T)) fun t7 =>
  bd ((none : Option T)) fun u1 =>
  some (.normal [a0, a1], s))
  (some (.normal [a0, a1], s)))
  (fun v2 s3 => bd (aCap (v2.getD 0 .any)) fun t10 =>
  bd (aLenSl (v2.getD 0 .any)) fun t12 =>
  bd (aBin .sub t10 t12) fun t13 =>
  bd (aBin .sub (v2.getD 1 .any) t13) fun t14 =>
  bd (aBin .gtr t14 (I .i64 0)) fun t16 =>
  jn (br t16 (bd (aCap (v2.getD 0 .any)) fun t19 =>
  bd (aPieceSl 1 (v2.getD 0 .any) none (some t19) none) fun t20 =>
  bd2 (aGrow 1 1 [.int .u8 0] t20 t14 s3) fun t22 s6 =>
  bd (aLenSl (v2.getD 0 .any)) fun t24 =>
  bd (aPieceSl 1 t22 none (some t24) none) fun t25 =>
  some (.normal [t25], s6))
  (some (.normal [(v2.getD 0 .any)], s3)))
  (fun v7 s8 => some ((v7.getD 0 .any), s8))
  (fun i9 v7 s8 => none)
  (fun r10 s8 => some (r10, s8)))
  (fun i4 v2 s3 => none)
  (fun r5 s3 => some (r5, s3))

theorem f86_eq (callf : CallF) (N : Nat) (a0 : T) (a1 : T) (s : St) : bodyC Tryz.prog callf N Tryz.f86 [a0, a1] s = f86 callf N a0 a1 s := by kernel_rfl

theorem f86_run (d : Nat) (a0 : T) (a1 : T) (s : St) : R (d + 1) 86 [a0, a1] s = f86 (R d) 8192 a0 a1 s := (runQ_body rfl Tryz.func86 (by kernel_rfl)).trans (f86_eq ..)

/- twinkeep/twinkeepref1.Get: a loop; 0: t0 b, 1: t1 at, 2: t7 n, 3: t8 i -/
def f42_l1 (callf : CallF) (N : Nat) (v : List T) (s : St) : Option (JO × St) :=
  bd (aBin .lss (v.getD 3 .any) (I .i64 10)) fun t20 =>
  bd (gT (gd t20 true) (some (v.getD 1 .any))) fun t22 =>
  bd (gT (gd t20 true) (some (v.getD 3 .any))) fun t23 =>
  bd (gT (gd t20 true) (aBin .add t22 t23)) fun t24 =>
  bd (gT (gd t20 true) (some (v.getD 0 .any))) fun t25 =>
  bd (gT (gd t20 true) (aLenStr t25)) fun t26 =>
  bd (gT (gd t20 true) (aBin .lss t24 t26)) fun t27 =>
  bd (aPick t20 t27 (B false)) fun t28 =>
  br t28 (jn (bd (aBin .add (v.getD 1 .any) (v.getD 3 .any)) fun t34 =>
  bd (aAtStr (v.getD 0 .any) t34) fun t35 =>
  bd (aConv .u64 t35) fun t36 =>
  bd (aBin .eql (v.getD 3 .any) (I .i64 9)) fun t38 =>
  bd (gT (gd t38 true) (some t36)) fun t40 =>
  bd (gT (gd t38 true) (aBin .gtr t40 (I .u64 1))) fun t41 =>
  bd (aPick t38 t41 (B false)) fun t42 =>
  br t42 (some (.exit 0 [(v.getD 1 .any)], s))
  (bd (aBin .and t36 (I .u64 127)) fun t45 =>
  bd (aBin .mul (I .i64 7) (v.getD 3 .any)) fun t47 =>
  bd (aConv .u64 t47) fun t48 =>
  bd (aBin .shl t45 t48) fun t49 =>
  bd (aBin .or (v.getD 2 .any) t49) fun t50 =>
  bd (aBin .lss t36 (I .u64 128)) fun t52 =>
  br t52 (bd (aBin .eql t36 (I .u64 0)) fun t54 =>
  bd (gT (gd t54 true) (some (v.getD 3 .any))) fun t56 =>
  bd (gT (gd t54 true) (aBin .gtr t56 (I .i64 0))) fun t57 =>
  bd (aPick t54 t57 (B false)) fun t58 =>
  br t58 (some (.exit 0 [(v.getD 1 .any)], s))
  (bd (aBin .add (v.getD 1 .any) (v.getD 3 .any)) fun t62 =>
  bd (aBin .add t62 (I .i64 1)) fun t63 =>
  bd (retT [t50, t63, (I .i64 0)]) fun r2 =>
  some (.ret r2, s)))
  (some (.normal [(v.getD 0 .any), (v.getD 1 .any), t50, (v.getD 3 .any)], s))))
  (fun v3 s4 => bd (aBin .add (v3.getD 3 .any) (I .i64 1)) fun t30 =>
  some (.normal [(v3.getD 0 .any), (v3.getD 1 .any), (v3.getD 2 .any), t30], s4))
  (fun i5 v3 s4 => some (.exit i5 v3, s4))
  (fun r6 s4 => some (.ret r6, s4)))
  (some (.exit 0 [(v.getD 1 .any)], s))

/- twinkeep/twinkeepref1.Get -/
def f42 (callf : CallF) (N : Nat) (a0 : T) (a1 : T) (s : St) : Option (T × St) :=
  bd (aBin .lss a1 (I .i64 0)) fun t11 =>
  bd (gT (gd t11 false) (some a1)) fun t13 =>
  bd (gT (gd t11 false) (some a0)) fun t14 =>
  bd (gT (gd t11 false) (aLenStr t14)) fun t15 =>
  bd (gT (gd t11 false) (aBin .gtr t13 t15)) fun t16 =>
  bd (aPick t11 (B true) t16) fun t17 =>
  br t17 (bd (retT [(I .u64 0), a1, (I .i64 1)]) fun r1 =>
  some (r1, s))
  (jn (jn (loops (f42_l1 callf N) N [a0, a1, (I .u64 0), (I .i64 0)] s)
  (fun v7 s8 => some (.normal [.any], s8))
  (fun i9 v7 s8 => if i9 = 0 then some (.normal v7, s8) else some (.exit i9 v7, s8))
  (fun r10 s8 => some (.ret r10, s8)))
  (fun v11 s12 => bd (retT [(I .u64 0), (v11.getD 0 .any), (I .i64 2)]) fun r15 =>
  some (r15, s12))
  (fun i13 v11 s12 => none)
  (fun r14 s12 => some (r14, s12)))

theorem f42_eq (callf : CallF) (N : Nat) (a0 : T) (a1 : T) (s : St) : bodyC Tryz.prog callf N Tryz.f42 [a0, a1] s = f42 callf N a0 a1 s := by kernel_rfl

theorem f42_run (d : Nat) (a0 : T) (a1 : T) (s : St) : R (d + 1) 42 [a0, a1] s = f42 (R d) 8192 a0 a1 s := (runQ_body rfl Tryz.func42 (by kernel_rfl)).trans (f42_eq ..)

/- twinkeep/twinkeepref1.Put: a loop; 0: t0 n, 1: t3 out -/
def f43_l1 (callf : CallF) (N : Nat) (v : List T) (s : St) : Option (JO × St) :=
  bd (aBin .geq (v.getD 0 .any) (I .u64 128)) fun t5 =>
  br t5 (jn (bd (aConv .u8 (v.getD 0 .any)) fun t8 =>
  bd (aBin .or t8 (I .u8 128)) fun t9 =>
  bd2 (aNew s (nSlice 1 (aFill [.int .u8 0] [(0, 1, t9)]))) fun t10 s1 =>
  bd2 (aAppend 1 1 (v.getD 1 .any) t10 s1) fun t11 s2 =>
  bd (aBin .shr (v.getD 0 .any) (I .u64 7)) fun t13 =>
  some (.normal [t13, t11], s2))
  (fun v3 s4 => some (.normal [(v3.getD 0 .any), (v3.getD 1 .any)], s4))
  (fun i5 v3 s4 => some (.exit i5 v3, s4))
  (fun r6 s4 => some (.ret r6, s4)))
  (some (.exit 0 [(v.getD 0 .any), (v.getD 1 .any)], s))

/- twinkeep/twinkeepref1.Put -/
def f43 (callf : CallF) (N : Nat) (a0 : T) (s : St) : Option (T × St) :=
  jn (jn (loops (f43_l1 callf N) N [a0, (Z .nils)] s)
  (fun v7 s8 => some (.normal [.any, .any], s8))
  (fun i9 v7 s8 => if i9 = 0 then some (.normal v7, s8) else some (.exit i9 v7, s8))
  (fun r10 s8 => some (.ret r10, s8)))
  (fun v11 s12 => bd (aConv .u8 (v11.getD 0 .any)) fun t16 =>
  bd2 (aNew s12 (nSlice 1 (aFill [.int .u8 0] [(0, 1, t16)]))) fun t17 s15 =>
  bd2 (aAppend 1 1 (v11.getD 1 .any) t17 s15) fun t18 s16 =>
  bd (aBytesStr t18 s16.get) fun t19 =>
  some (t19, s16))
  (fun i13 v11 s12 => none)
  (fun r14 s12 => some (r14, s12))

theorem f43_eq (callf : CallF) (N : Nat) (a0 : T) (s : St) : bodyC Tryz.prog callf N Tryz.f43 [a0] s = f43 callf N a0 s := by kernel_rfl

theorem f43_run (d : Nat) (a0 : T) (s : St) : R (d + 1) 43 [a0] s = f43 (R d) 8192 a0 s := (runQ_body rfl Tryz.func43 (by kernel_rfl)).trans (f43_eq ..)

/- twinkeep/twinkeepref1.Four -/
def f44 (callf : CallF) (N : Nat) (a0 : T) (s : St) : Option (T × St) :=
  bd (aConv .u8 a0) fun t4 =>
  bd (aBin .shr a0 (I .u64 8)) fun t6 =>
  bd (aConv .u8 t6) fun t7 =>
  bd (aBin .shr a0 (I .u64 16)) fun t9 =>
  bd (aConv .u8 t9) fun t10 =>
  bd (aBin .shr a0 (I .u64 24)) fun t12 =>
  bd (aConv .u8 t12) fun t13 =>
  bd2 (aNew s (nSlice 4 (aFill [.int .u8 0, .int .u8 0, .int .u8 0, .int .u8 0] [(0, 1, t4), (1, 1, t7), (2, 1, t10), (3, 1, t13)]))) fun t14 s1 =>
  bd (aBytesStr t14 s1.get) fun t15 =>
  some (t15, s1)

theorem f44_eq (callf : CallF) (N : Nat) (a0 : T) (s : St) : bodyC Tryz.prog callf N Tryz.f44 [a0] s = f44 callf N a0 s := by kernel_rfl

theorem f44_run (d : Nat) (a0 : T) (s : St) : R (d + 1) 44 [a0] s = f44 (R d) 8192 a0 s := (runQ_body rfl Tryz.func44 (by kernel_rfl)).trans (f44_eq ..)

/- twinkeep/twinkeepref1.Of -/
def f45 (callf : CallF) (N : Nat) (a0 : T) (s : St) : Option (T × St) :=
  bd2 (callf 71 [(I .u32 1), a0] s) fun t4 s1 =>
  some (t4, s1)

theorem f45_eq (callf : CallF) (N : Nat) (a0 : T) (s : St) : bodyC Tryz.prog callf N Tryz.f45 [a0] s = f45 callf N a0 s := by kernel_rfl

theorem f45_run (d : Nat) (a0 : T) (s : St) : R (d + 1) 45 [a0] s = f45 (R d) 8192 a0 s := (runQ_body rfl Tryz.func45 (by kernel_rfl)).trans (f45_eq ..)

/- twinkeep/twinkeepref1.More: a loop; 0: t1 b, 1: t5 n, 2: t6 i -/
def f71_l1 (callf : CallF) (N : Nat) (v : List T) (s : St) : Option (JO × St) :=
  bd (aLenStr (v.getD 0 .any)) fun t12 =>
  bd (aBin .lss (v.getD 2 .any) t12) fun t13 =>
  br t13 (jn (bd (aBin .mul (v.getD 1 .any) (I .u64 257)) fun t17 =>
  bd (aAtStr (v.getD 0 .any) (v.getD 2 .any)) fun t20 =>
  bd (aConv .u64 t20) fun t21 =>
  bd (aBin .add t17 t21) fun t22 =>
  bd (aBin .add t22 (I .u64 1)) fun t23 =>
  bd (aBin .rem t23 (I .u64 4294967291)) fun t24 =>
  some (.normal [(v.getD 0 .any), t24, (v.getD 2 .any)], s))
  (fun v1 s2 => bd (aBin .add (v1.getD 2 .any) (I .i64 1)) fun t15 =>
  some (.normal [(v1.getD 0 .any), (v1.getD 1 .any), t15], s2))
  (fun i3 v1 s2 => some (.exit i3 v1, s2))
  (fun r4 s2 => some (.ret r4, s2)))
  (some (.exit 0 [(v.getD 1 .any)], s))

/- twinkeep/twinkeepref1.More -/
def f71 (callf : CallF) (N : Nat) (a0 : T) (a1 : T) (s : St) : Option (T × St) :=
  bd (aConv .u64 a0) fun t8 =>
  bd (aBin .rem t8 (I .u64 4294967291)) fun t9 =>
  jn (jn (loops (f71_l1 callf N) N [a1, t9, (I .i64 0)] s)
  (fun v5 s6 => some (.normal [.any], s6))
  (fun i7 v5 s6 => if i7 = 0 then some (.normal v5, s6) else some (.exit i7 v5, s6))
  (fun r8 s6 => some (.ret r8, s6)))
  (fun v9 s10 => bd (aConv .u32 (v9.getD 0 .any)) fun t26 =>
  some (t26, s10))
  (fun i11 v9 s10 => none)
  (fun r12 s10 => some (r12, s10))

theorem f71_eq (callf : CallF) (N : Nat) (a0 : T) (a1 : T) (s : St) : bodyC Tryz.prog callf N Tryz.f71 [a0, a1] s = f71 callf N a0 a1 s := by kernel_rfl

theorem f71_run (d : Nat) (a0 : T) (a1 : T) (s : St) : R (d + 1) 71 [a0, a1] s = f71 (R d) 8192 a0 a1 s := (runQ_body rfl Tryz.func71 (by kernel_rfl)).trans (f71_eq ..)

end
end Go.Proofs.YtlhbidbdmdcdeaaGreatDoor
