/-
  What functions that the laws reach compute, printed by a program of our own: each text is by definition the run of the code. No conditions.
-/
import Derived.Test.YtlhbidbdmdcdeaaGreatDoorWalk0
namespace Go.Proofs.YtlhbidbdmdcdeaaGreatDoor
open Go Go.Abs Go.Abs.F
set_option linter.unusedVariables false
noncomputable section
/- strings.Split -/
def f77 (callf : CallF) (N : Nat) (a0 : T) (a1 : T) (s : St) : Option (T × St) :=
  bd2 (callf 91 [a0, a1, (I .i64 0), (I .i64 (-1))] s) fun t7 s1 =>
  some (t7, s1)

theorem f77_eq (callf : CallF) (N : Nat) (a0 : T) (a1 : T) (s : St) : bodyC Tryz.prog callf N Tryz.f77 [a0, a1] s = f77 callf N a0 a1 s := by kernel_rfl

theorem f77_run (d : Nat) (a0 : T) (a1 : T) (s : St) : R (d + 1) 77 [a0, a1] s = f77 (R d) 8192 a0 a1 s := (runQ_body rfl Tryz.func77 (by kernel_rfl)).trans (f77_eq ..)

/- strings.genSplit: a loop; 0: t0 s, 1: t1 sep, 2: t2 sepSave, 3: t3 n, 4: t9 a, 5: t10 i -/
def f91_l1 (callf : CallF) (N : Nat) (v : List T) (s : St) : Option (JO × St) :=
  bd (aBin .lss (v.getD 5 .any) (v.getD 3 .any)) fun t36 =>
  br t36 (jn (bd2 (callf 104 [(v.getD 0 .any), (v.getD 1 .any)] s) fun t39 s8 =>
  bd (aBin .lss t39 (I .i64 0)) fun t41 =>
  br t41 (some (.exit 0 [(v.getD 0 .any), (v.getD 4 .any), (v.getD 5 .any)], s8))
  (bd (aBin .add t39 (v.getD 2 .any)) fun t47 =>
  bd (aPieceStr (v.getD 0 .any) none (some t47) none) fun t48 =>
  bd (aIndexSl 1 (v.getD 4 .any) (v.getD 5 .any)) fun t49 =>
  bd2 (aStore 1 t49 t48 s8) fun _ s9 =>
  bd (aLenStr (v.getD 1 .any)) fun t53 =>
  bd (aBin .add t39 t53) fun t54 =>
  bd (aPieceStr (v.getD 0 .any) (some t54) none none) fun t55 =>
  bd (aBin .add (v.getD 5 .any) (I .i64 1)) fun t57 =>
  some (.normal [t55, (v.getD 1 .any), (v.getD 2 .any), (v.getD 3 .any), (v.getD 4 .any), t57], s9)))
  (fun v10 s11 => some (.normal [(v10.getD 0 .any), (v10.getD 1 .any), (v10.getD 2 .any), (v10.getD 3 .any), (v10.getD 4 .any), (v10.getD 5 .any)], s11))
  (fun i12 v10 s11 => some (.exit i12 v10, s11))
  (fun r13 s11 => some (.ret r13, s11)))
  (some (.exit 0 [(v.getD 0 .any), (v.getD 4 .any), (v.getD 5 .any)], s))

/- strings.genSplit -/
def f91 (callf : CallF) (N : Nat) (a0 : T) (a1 : T) (a2 : T) (a3 : T) (s : St) : Option (T × St) :=
  bd (aBin .eql a3 (I .i64 0)) fun t13 =>
  br t13 (some ((Z .nils), s))
  (bd (aBin .eql a1 (Z (.str []))) fun t15 =>
  br t15 (bd2 (callf 102 [a0, a3] s) fun t18 s1 =>
  some (t18, s1))
  (bd (aBin .lss a3 (I .i64 0)) fun t20 =>
  jn (br t20 (bd2 (callf 103 [a0, a1] s) fun t23 s2 =>
  bd (aBin .add t23 (I .i64 1)) fun t24 =>
  some (.normal [a0, a1, a2, t24], s2))
  (some (.normal [a0, a1, a2, a3], s)))
  (fun v3 s4 => bd (aLenStr (v3.getD 0 .any)) fun t27 =>
  bd (aBin .add t27 (I .i64 1)) fun t28 =>
  bd (aFold aMin2 (v3.getD 3 .any) [t28]) fun t29 =>
  bd2 (aNew s4 (nMake 1 16 [.str []] t29 t29)) fun t31 s7 =>
  bd (aBin .sub t29 (I .i64 1)) fun t33 =>
  jn (jn (loops (f91_l1 callf N) N [(v3.getD 0 .any), (v3.getD 1 .any), (v3.getD 2 .any), t33, t31, (I .i64 0)] s7)
  (fun v14 s15 => some (.normal [.any, .any, .any], s15))
  (fun i16 v14 s15 => if i16 = 0 then some (.normal v14, s15) else some (.exit i16 v14, s15))
  (fun r17 s15 => some (.ret r17, s15)))
  (fun v18 s19 => bd (aIndexSl 1 (v18.getD 1 .any) (v18.getD 2 .any)) fun t61 =>
  bd2 (aStore 1 t61 (v18.getD 0 .any) s19) fun _ s22 =>
  bd (aBin .add (v18.getD 2 .any) (I .i64 1)) fun t64 =>
  bd (aPieceSl 1 (v18.getD 1 .any) none (some t64) none) fun t65 =>
  some (t65, s22))
  (fun i20 v18 s19 => none)
  (fun r21 s19 => some (r21, s19)))
  (fun i5 v3 s4 => none)
  (fun r6 s4 => some (r6, s4))))

theorem f91_eq (callf : CallF) (N : Nat) (a0 : T) (a1 : T) (a2 : T) (a3 : T) (s : St) : bodyC Tryz.prog callf N Tryz.f91 [a0, a1, a2, a3] s = f91 callf N a0 a1 a2 a3 s := by kernel_rfl

theorem f91_run (d : Nat) (a0 : T) (a1 : T) (a2 : T) (a3 : T) (s : St) : R (d + 1) 91 [a0, a1, a2, a3] s = f91 (R d) 8192 a0 a1 a2 a3 s := (runQ_body rfl Tryz.func91 (by kernel_rfl)).trans (f91_eq ..)

/- strings.Cut -/
def f78 (callf : CallF) (N : Nat) (a0 : T) (a1 : T) (s : St) : Option (T × St) :=
  bd2 (callf 92 [a0, a1] s) fun t9 s1 =>
  bd (aExtract t9 0) fun t10 =>
  bd (aExtract t9 1) fun t11 =>
  bd (aExtract t9 2) fun t12 =>
  bd (retT [t10, t11, t12]) fun r2 =>
  some (r2, s1)

theorem f78_eq (callf : CallF) (N : Nat) (a0 : T) (a1 : T) (s : St) : bodyC Tryz.prog callf N Tryz.f78 [a0, a1] s = f78 callf N a0 a1 s := by kernel_rfl

theorem f78_run (d : Nat) (a0 : T) (a1 : T) (s : St) : R (d + 1) 78 [a0, a1] s = f78 (R d) 8192 a0 a1 s := (runQ_body rfl Tryz.func78 (by kernel_rfl)).trans (f78_eq ..)

/- internal/stringslite.Cut -/
def f92 (callf : CallF) (N : Nat) (a0 : T) (a1 : T) (s : St) : Option (T × St) :=
  bd2 (callf 105 [a0, a1] s) fun t10 s1 =>
  bd (aBin .geq t10 (I .i64 0)) fun t12 =>
  br t12 (bd (aPieceStr a0 none (some t10) none) fun t15 =>
  bd (aLenStr a1) fun t19 =>
  bd (aBin .add t10 t19) fun t20 =>
  bd (aPieceStr a0 (some t20) none none) fun t21 =>
  bd (retT [t15, t21, (B true)]) fun r2 =>
  some (r2, s1))
  (bd (retT [a0, (Z (.str [])), (B false)]) fun r3 =>
  some (r3, s1))

theorem f92_eq (callf : CallF) (N : Nat) (a0 : T) (a1 : T) (s : St) : bodyC Tryz.prog callf N Tryz.f92 [a0, a1] s = f92 callf N a0 a1 s := by kernel_rfl

theorem f92_run (d : Nat) (a0 : T) (a1 : T) (s : St) : R (d + 1) 92 [a0, a1] s = f92 (R d) 8192 a0 a1 s := (runQ_body rfl Tryz.func92 (by kernel_rfl)).trans (f92_eq ..)

/- slices.Index[[]string,string]: a loop; 0: t0 s, 1: t1 v, 2: t7 , 3: t8  -/
def f97_l1 (callf : CallF) (N : Nat) (v : List T) (s : St) : Option (JO × St) :=
  bd (aBin .lss (v.getD 3 .any) (v.getD 2 .any)) fun t9 =>
  br t9 (jn (bd (aIndexSl 1 (v.getD 0 .any) (v.getD 3 .any)) fun t14 =>
  bd (aLoad1 t14 s.get) fun t15 =>
  bd (aBin .eql (v.getD 1 .any) t15) fun t16 =>
  br t16 (some (.ret (v.getD 3 .any), s))
  (some (.normal [(v.getD 0 .any), (v.getD 1 .any), (v.getD 2 .any), (v.getD 3 .any)], s)))
  (fun v1 s2 => bd (aBin .add (v1.getD 3 .any) (I .i64 1)) fun t18 =>
  some (.normal [(v1.getD 0 .any), (v1.getD 1 .any), (v1.getD 2 .any), t18], s2))
  (fun i3 v1 s2 => some (.exit i3 v1, s2))
  (fun r4 s2 => some (.ret r4, s2)))
  (some (.exit 0 [], s))

/- slices.Index[[]string,string] -/
def f97 (callf : CallF) (N : Nat) (a0 : T) (a1 : T) (s : St) : Option (T × St) :=
  bd (aLenSl a0) fun t7 =>
  jn (jn (loops (f97_l1 callf N) N [a0, a1, t7, (I .i64 0)] s)
  (fun v5 s6 => some (.normal [], s6))
  (fun i7 v5 s6 => if i7 = 0 then some (.normal v5, s6) else some (.exit i7 v5, s6))
  (fun r8 s6 => some (.ret r8, s6)))
  (fun v9 s10 => some ((I .i64 (-1)), s10))
  (fun i11 v9 s10 => none)
  (fun r12 s10 => some (r12, s10))

theorem f97_eq (callf : CallF) (N : Nat) (a0 : T) (a1 : T) (s : St) : bodyC Tryz.prog callf N Tryz.f97 [a0, a1] s = f97 callf N a0 a1 s := by kernel_rfl

theorem f97_run (d : Nat) (a0 : T) (a1 : T) (s : St) : R (d + 1) 97 [a0, a1] s = f97 (R d) 8192 a0 a1 s := (runQ_body rfl Tryz.func97 (by kernel_rfl)).trans (f97_eq ..)

/- slices.Contains[[]string,string] -/
def f81 (callf : CallF) (N : Nat) (a0 : T) (a1 : T) (s : St) : Option (T × St) :=
  bd2 (callf 97 [a0, a1] s) fun t7 s1 =>
  bd (aBin .geq t7 (I .i64 0)) fun t8 =>
  some (t8, s1)

theorem f81_eq (callf : CallF) (N : Nat) (a0 : T) (a1 : T) (s : St) : bodyC Tryz.prog callf N Tryz.f81 [a0, a1] s = f81 callf N a0 a1 s := by kernel_rfl

theorem f81_run (d : Nat) (a0 : T) (a1 : T) (s : St) : R (d + 1) 81 [a0, a1] s = f81 (R d) 8192 a0 a1 s := (runQ_body rfl Tryz.func81 (by kernel_rfl)).trans (f81_eq ..)

/- strings.Trim -/
def f108 (callf : CallF) (N : Nat) (a0 : T) (a1 : T) (s : St) : Option (T × St) :=
  bd (aBin .eql a0 (Z (.str []))) fun t8 =>
  bd (gT (gd t8 false) (some a1)) fun t10 =>
  bd (gT (gd t8 false) (aBin .eql t10 (Z (.str [])))) fun t11 =>
  bd (aPick t8 (B true) t11) fun t12 =>
  br t12 (some (a0, s))
  (bd (aLenStr a1) fun t15 =>
  bd (aBin .eql t15 (I .i64 1)) fun t16 =>
  bd (gT (gd t16 true) (some a1)) fun t18 =>
  bd (gT (gd t16 true) (aAtStr t18 (I .i64 0))) fun t19 =>
  bd (gT (gd t16 true) (aBin .lss t19 (I .u8 128))) fun t20 =>
  bd (aPick t16 t20 (B false)) fun t21 =>
  br t21 (bd (aAtStr a1 (I .i64 0)) fun t24 =>
  bd2 (callf 121 [a0, t24] s) fun t25 s1 =>
  bd (aAtStr a1 (I .i64 0)) fun t27 =>
  bd2 (callf 120 [t25, t27] s1) fun t28 s2 =>
  some (t28, s2))
  (bd2 (callf 122 [a1] s) fun t31 s3 =>
  bd (aExtract t31 0) fun t32 =>
  bd (aExtract t31 1) fun t33 =>
  bd2 (aNew s3 (nCells [.bool false, .bool false, .bool false, .bool false, .bool false, .bool false, .bool false, .bool false, .bool false, .bool false, .bool false, .bool false, .bool false, .bool false, .bool false, .bool false, .bool false, .bool false, .bool false, .bool false, .bool false, .bool false, .bool false, .bool false, .bool false, .bool false, .bool false, .bool false, .bool false, .bool false, .bool false, .bool false, .bool false, .bool false, .bool false, .bool false, .bool false, .bool false, .bool false, .bool false, .bool false, .bool false, .bool false, .bool false, .bool false, .bool false, .bool false, .bool false, .bool false, .bool false, .bool false, .bool false, .bool false, .bool false, .bool false, .bool false, .bool false, .bool false, .bool false, .bool false, .bool false, .bool false, .bool false, .bool false, .bool false, .bool false, .bool false, .bool false, .bool false, .bool false, .bool false, .bool false, .bool false, .bool false, .bool false, .bool false, .bool false, .bool false, .bool false, .bool false, .bool false, .bool false, .bool false, .bool false, .bool false, .bool false, .bool false, .bool false, .bool false, .bool false, .bool false, .bool false, .bool false, .bool false, .bool false, .bool false, .bool false, .bool false, .bool false, .bool false, .bool false, .bool false, .bool false, .bool false, .bool false, .bool false, .bool false, .bool false, .bool false, .bool false, .bool false, .bool false, .bool false, .bool false, .bool false, .bool false, .bool false, .bool false, .bool false, .bool false, .bool false, .bool false, .bool false, .bool false, .bool false, .bool false, .bool false, .bool false, .bool false, .bool false, .bool false, .bool false, .bool false, .bool false, .bool false, .bool false, .bool false, .bool false, .bool false, .bool false, .bool false, .bool false, .bool false, .bool false, .bool false, .bool false, .bool false, .bool false, .bool false, .bool false, .bool false, .bool false, .bool false, .bool false, .bool false, .bool false, .bool false, .bool false, .bool false, .bool false, .bool false, .bool false, .bool false, .bool false, .bool false, .bool false, .bool false, .bool false, .bool false, .bool false, .bool false, .bool false, .bool false, .bool false, .bool false, .bool false, .bool false, .bool false, .bool false, .bool false, .bool false, .bool false, .bool false, .bool false, .bool false, .bool false, .bool false, .bool false, .bool false, .bool false, .bool false, .bool false, .bool false, .bool false, .bool false, .bool false, .bool false, .bool false, .bool false, .bool false, .bool false, .bool false, .bool false, .bool false, .bool false, .bool false, .bool false, .bool false, .bool false, .bool false, .bool false, .bool false, .bool false, .bool false, .bool false, .bool false, .bool false, .bool false, .bool false, .bool false, .bool false, .bool false, .bool false, .bool false, .bool false, .bool false, .bool false, .bool false, .bool false, .bool false, .bool false, .bool false, .bool false, .bool false, .bool false, .bool false, .bool false, .bool false, .bool false, .bool false, .bool false, .bool false, .bool false, .bool false, .bool false, .bool false, .bool false, .bool false, .bool false, .bool false, .bool false, .bool false, .bool false, .bool false, .bool false, .bool false])) fun t5 s4 =>
  bd2 (aStore 256 t5 t32 s4) fun _ s5 =>
  br t33 (bd2 (callf 124 [a0, t5] s5) fun t36 s6 =>
  bd2 (callf 123 [t36, t5] s6) fun t37 s7 =>
  some (t37, s7))
  (bd2 (callf 126 [a0, a1] s5) fun t40 s8 =>
  bd2 (callf 125 [t40, a1] s8) fun t42 s9 =>
  some (t42, s9))))

theorem f108_eq (callf : CallF) (N : Nat) (a0 : T) (a1 : T) (s : St) : bodyC Tryz.prog callf N Tryz.f108 [a0, a1] s = f108 callf N a0 a1 s := by kernel_rfl

theorem f108_run (d : Nat) (a0 : T) (a1 : T) (s : St) : R (d + 1) 108 [a0, a1] s = f108 (R d) 8192 a0 a1 s := (runQ_body rfl Tryz.func108 (by kernel_rfl)).trans (f108_eq ..)

/- strings.trimLeftASCII: a loop; 0: t0 s, 1: t1 as -/
def f123_l1 (callf : CallF) (N : Nat) (v : List T) (s : St) : Option (JO × St) :=
  bd (aLenStr (v.getD 0 .any)) fun t6 =>
  bd (aBin .gtr t6 (I .i64 0)) fun t7 =>
  br t7 (jn (bd (aAtStr (v.getD 0 .any) (I .i64 0)) fun t10 =>
  bd2 (callf 132 [(v.getD 1 .any), t10] s) fun t11 s1 =>
  bd (aUn .not t11) fun t12 =>
  br t12 (some (.exit 0 [(v.getD 0 .any)], s1))
  (bd (aPieceStr (v.getD 0 .any) (some (I .i64 1)) none none) fun t14 =>
  some (.normal [t14, (v.getD 1 .any)], s1)))
  (fun v2 s3 => some (.normal [(v2.getD 0 .any), (v2.getD 1 .any)], s3))
  (fun i4 v2 s3 => some (.exit i4 v2, s3))
  (fun r5 s3 => some (.ret r5, s3)))
  (some (.exit 0 [(v.getD 0 .any)], s))

/- strings.trimLeftASCII -/
def f123 (callf : CallF) (N : Nat) (a0 : T) (a1 : T) (s : St) : Option (T × St) :=
  jn (jn (loops (f123_l1 callf N) N [a0, a1] s)
  (fun v6 s7 => some (.normal [.any], s7))
  (fun i8 v6 s7 => if i8 = 0 then some (.normal v6, s7) else some (.exit i8 v6, s7))
  (fun r9 s7 => some (.ret r9, s7)))
  (fun v10 s11 => some ((v10.getD 0 .any), s11))
  (fun i12 v10 s11 => none)
  (fun r13 s11 => some (r13, s11))

theorem f123_eq (callf : CallF) (N : Nat) (a0 : T) (a1 : T) (s : St) : bodyC Tryz.prog callf N Tryz.f123 [a0, a1] s = f123 callf N a0 a1 s := by kernel_rfl

theorem f123_run (d : Nat) (a0 : T) (a1 : T) (s : St) : R (d + 1) 123 [a0, a1] s = f123 (R d) 8192 a0 a1 s := (runQ_body rfl Tryz.func123 (by kernel_rfl)).trans (f123_eq ..)

/- strings.trimRightASCII: a loop; 0: t0 s, 1: t1 as -/
def f124_l1 (callf : CallF) (N : Nat) (v : List T) (s : St) : Option (JO × St) :=
  bd (aLenStr (v.getD 0 .any)) fun t6 =>
  bd (aBin .gtr t6 (I .i64 0)) fun t7 =>
  br t7 (jn (bd (aLenStr (v.getD 0 .any)) fun t11 =>
  bd (aBin .sub t11 (I .i64 1)) fun t12 =>
  bd (aAtStr (v.getD 0 .any) t12) fun t13 =>
  bd2 (callf 132 [(v.getD 1 .any), t13] s) fun t14 s1 =>
  bd (aUn .not t14) fun t15 =>
  br t15 (some (.exit 0 [(v.getD 0 .any)], s1))
  (bd (aLenStr (v.getD 0 .any)) fun t18 =>
  bd (aBin .sub t18 (I .i64 1)) fun t19 =>
  bd (aPieceStr (v.getD 0 .any) none (some t19) none) fun t20 =>
  some (.normal [t20, (v.getD 1 .any)], s1)))
  (fun v2 s3 => some (.normal [(v2.getD 0 .any), (v2.getD 1 .any)], s3))
  (fun i4 v2 s3 => some (.exit i4 v2, s3))
  (fun r5 s3 => some (.ret r5, s3)))
  (some (.exit 0 [(v.getD 0 .any)], s))

/- strings.trimRightASCII -/
def f124 (callf : CallF) (N : Nat) (a0 : T) (a1 : T) (s : St) : Option (T × St) :=
  jn (jn (loops (f124_l1 callf N) N [a0, a1] s)
  (fun v6 s7 => some (.normal [.any], s7))
  (fun i8 v6 s7 => if i8 = 0 then some (.normal v6, s7) else some (.exit i8 v6, s7))
  (fun r9 s7 => some (.ret r9, s7)))
  (fun v10 s11 => some ((v10.getD 0 .any), s11))
  (fun i12 v10 s11 => none)
  (fun r13 s11 => some (r13, s11))

theorem f124_eq (callf : CallF) (N : Nat) (a0 : T) (a1 : T) (s : St) : bodyC Tryz.prog callf N Tryz.f124 [a0, a1] s = f124 callf N a0 a1 s := by kernel_rfl

theorem f124_run (d : Nat) (a0 : T) (a1 : T) (s : St) : R (d + 1) 124 [a0, a1] s = f124 (R d) 8192 a0 a1 s := (runQ_body rfl Tryz.func124 (by kernel_rfl)).trans (f124_eq ..)

/- (strings.asciiSet).contains -/
def f132 (callf : CallF) (N : Nat) (a0 : T) (a1 : T) (s : St) : Option (T × St) :=
  bd (aNil a0) fun t7 =>
  bd (aIndexArr 256 1 t7 a1) fun t8 =>
  bd (aLoad1 t8 s.get) fun t9 =>
  some (t9, s)

theorem f132_eq (callf : CallF) (N : Nat) (a0 : T) (a1 : T) (s : St) : bodyC Tryz.prog callf N Tryz.f132 [a0, a1] s = f132 callf N a0 a1 s := by kernel_rfl

theorem f132_run (d : Nat) (a0 : T) (a1 : T) (s : St) : R (d + 1) 132 [a0, a1] s = f132 (R d) 8192 a0 a1 s := (runQ_body rfl Tryz.func132 (by kernel_rfl)).trans (f132_eq ..)

/- strconv.ParseInt -/
def f109 (callf : CallF) (N : Nat) (a0 : T) (a1 : T) (a2 : T) (s : St) : Option (T × St) :=
  bd2 (callf 127 [a0, a1, a2] s) fun t13 s1 =>
  bd (aExtract t13 0) fun t14 =>
  bd (aExtract t13 1) fun t15 =>
  bd (neB .i t15 (Z .nili)) fun t17 =>
  br t17 (bd2 (callf 128 [(Z (.str [80, 97, 114, 115, 101, 73, 110, 116])), a0, a1, a2, t15] s1) fun t23 s2 =>
  bd (retT [t14, t23]) fun r3 =>
  some (r3, s2))
  (bd (retT [t14, (Z .nili)]) fun r4 =>
  some (r4, s1))

theorem f109_eq (callf : CallF) (N : Nat) (a0 : T) (a1 : T) (a2 : T) (s : St) : bodyC Tryz.prog callf N Tryz.f109 [a0, a1, a2] s = f109 callf N a0 a1 a2 s := by kernel_rfl

theorem f109_run (d : Nat) (a0 : T) (a1 : T) (a2 : T) (s : St) : R (d + 1) 109 [a0, a1, a2] s = f109 (R d) 8192 a0 a1 a2 s := (runQ_body rfl Tryz.func109 (by kernel_rfl)).trans (f109_eq ..)

/- internal/strconv.ParseInt -/
def f127 (callf : CallF) (N : Nat) (a0 : T) (a1 : T) (a2 : T) (s : St) : Option (T × St) :=
  bd (aBin .eql a0 (Z (.str []))) fun t13 =>
  br t13 (bd ((none : Option T)) fun t14 =>
  bd (retT [(I .i64 0), t14]) fun r1 =>
  some (r1, s))
  (bd (aAtStr a0 (I .i64 0)) fun t16 =>
  jn (bd (aBin .eql t16 (I .u8 43)) fun t18 =>
  jn (br t18 (bd (aPieceStr a0 (some (I .i64 1)) none none) fun t20 =>
  some (.normal [t20, a1, a2, (B false)], s))
  (bd (aBin .eql t16 (I .u8 45)) fun t22 =>
  jn (br t22 (bd (aPieceStr a0 (some (I .i64 1)) none none) fun t24 =>
  some (.normal [t24, a1, a2, (B true)], s))
  (some (.normal [a0, a1, a2, (B false)], s)))
  (fun v2 s3 => some (.normal [(v2.getD 0 .any), (v2.getD 1 .any), (v2.getD 2 .any), (v2.getD 3 .any)], s3))
  (fun i4 v2 s3 => some (.exit i4 v2, s3))
  (fun r5 s3 => some (.ret r5, s3))))
  (fun v6 s7 => some (.normal [(v6.getD 0 .any), (v6.getD 1 .any), (v6.getD 2 .any), (v6.getD 3 .any)], s7))
  (fun i8 v6 s7 => if i8 = 0 then some (.normal v6, s7) else some (.exit i8 v6, s7))
  (fun r9 s7 => some (.ret r9, s7)))
  (fun v10 s11 => bd2 (callf 135 [(v10.getD 0 .any), (v10.getD 1 .any), (v10.getD 2 .any)] s11) fun t29 s14 =>
  bd (aExtract t29 0) fun t30 =>
  bd (aExtract t29 1) fun t31 =>
  bd (neB .i t31 (Z .nili)) fun t33 =>
  bd (gT (gd t33 true) (some t31)) fun t35 =>
  bd (gT (gd t33 true) ((none : Option T))) fun t36 =>
  bd (gT (gd t33 true) ((none : Option T))) fun t37 =>
  bd (aPick t33 t37 (B false)) fun t38 =>
  br t38 (bd (retT [(I .i64 0), t31]) fun r15 =>
  some (r15, s14))
  (bd (aBin .eql (v10.getD 2 .any) (I .i64 0)) fun t41 =>
  jn (br t41 (some (.normal [(I .i64 64), (v10.getD 3 .any), t30], s14))
  (some (.normal [(v10.getD 2 .any), (v10.getD 3 .any), t30], s14)))
  (fun v16 s17 => bd (aBin .sub (v16.getD 0 .any) (I .i64 1)) fun t43 =>
  bd (aConv .u64 t43) fun t44 =>
  bd (aBin .shl (I .u64 1) t44) fun t45 =>
  bd (aUn .not (v16.getD 1 .any)) fun t47 =>
  bd (gT (gd t47 true) (some (v16.getD 2 .any))) fun t49 =>
  bd (gT (gd t47 true) (some t45)) fun t50 =>
  bd (gT (gd t47 true) (aBin .geq t49 t50)) fun t51 =>
  bd (aPick t47 t51 (B false)) fun t52 =>
  br t52 (bd (aBin .sub t45 (I .u64 1)) fun t54 =>
  bd (aConv .i64 t54) fun t55 =>
  bd ((none : Option T)) fun t56 =>
  bd (retT [t55, t56]) fun r20 =>
  some (r20, s17))
  (bd (gT (gd (v16.getD 1 .any) true) (some (v16.getD 2 .any))) fun t59 =>
  bd (gT (gd (v16.getD 1 .any) true) (some t45)) fun t60 =>
  bd (gT (gd (v16.getD 1 .any) true) (aBin .gtr t59 t60)) fun t61 =>
  bd (aPick (v16.getD 1 .any) t61 (B false)) fun t62 =>
  br t62 (bd (aConv .i64 t45) fun t64 =>
  bd (aUn .neg t64) fun t65 =>
  bd ((none : Option T)) fun t66 =>
  bd (retT [t65, t66]) fun r21 =>
  some (r21, s17))
  (bd (aConv .i64 (v16.getD 2 .any)) fun t68 =>
  jn (br (v16.getD 1 .any) (bd (aUn .neg t68) fun t71 =>
  some (.normal [t71], s17))
  (some (.normal [t68], s17)))
  (fun v22 s23 => bd (retT [(v22.getD 0 .any), (Z .nili)]) fun r26 =>
  some (r26, s23))
  (fun i24 v22 s23 => none)
  (fun r25 s23 => some (r25, s23)))))
  (fun i18 v16 s17 => none)
  (fun r19 s17 => some (r19, s17))))
  (fun i12 v10 s11 => none)
  (fun r13 s11 => some (r13, s11)))

theorem f127_eq (callf : CallF) (N : Nat) (a0 : T) (a1 : T) (a2 : T) (s : St) : bodyC Tryz.prog callf N Tryz.f127 [a0, a1, a2] s = f127 callf N a0 a1 a2 s := by kernel_rfl

theorem f127_run (d : Nat) (a0 : T) (a1 : T) (a2 : T) (s : St) : R (d + 1) 127 [a0, a1, a2] s = f127 (R d) 8192 a0 a1 a2 s := (runQ_body rfl Tryz.func127 (by kernel_rfl)).trans (f127_eq ..)

/- internal/strconv.ParseUint: a loop; 0: t1 base, 1: t8 base0, 2: t9 s0, 3: t10 cutoff, 4: t11 maxVal, 5: t12 underscores, 6: t13 n, 7: t99 , 8: t100 , 9: t101  -/
def f135_l1 (callf : CallF) (N : Nat) (v : List T) (s : St) : Option (JO × St) :=
  bd (aBin .lss (v.getD 9 .any) (v.getD 8 .any)) fun t102 =>
  br t102 (jn (bd (aIndexSl 1 (v.getD 7 .any) (v.getD 9 .any)) fun t103 =>
  bd (aLoad1 t103 s.get) fun t104 =>
  jn (bd (aBin .eql t104 (I .u8 95)) fun t108 =>
  bd (gT (gd t108 true) (some (v.getD 1 .any))) fun t110 =>
  bd (aPick t108 t110 (B false)) fun t111 =>
  br t111 (some (.exit 4 [(v.getD 0 .any), (v.getD 1 .any), (v.getD 2 .any), (v.getD 3 .any), (v.getD 4 .any), (B true), (v.getD 6 .any), (v.getD 7 .any), (v.getD 8 .any), (v.getD 9 .any)], s))
  (bd (aBin .leq (I .u8 48) t104) fun t114 =>
  bd (gT (gd t114 true) (some t104)) fun t116 =>
  bd (gT (gd t114 true) (aBin .leq t116 (I .u8 57))) fun t117 =>
  bd (aPick t114 t117 (B false)) fun t118 =>
  jn (br t118 (bd (aBin .sub t104 (I .u8 48)) fun t120 =>
  some (.normal [(v.getD 0 .any), (v.getD 1 .any), (v.getD 2 .any), (v.getD 3 .any), (v.getD 4 .any), (v.getD 5 .any), (v.getD 6 .any), t120, (v.getD 7 .any), (v.getD 8 .any), (v.getD 9 .any)], s))
  (bd2 (callf 142 [t104] s) fun t123 s52 =>
  bd (aBin .leq (I .u8 97) t123) fun t124 =>
  bd (gT (gd t124 true) (some t104)) fun t126 =>
  bd2 (gS (gd t124 true) s52 (callf 142 [t126] s52)) fun t127 s53 =>
  bd (gT (gd t124 true) (aBin .leq t127 (I .u8 122))) fun t128 =>
  bd (aPick t124 t128 (B false)) fun t129 =>
  br t129 (bd2 (callf 142 [t104] s53) fun t131 s54 =>
  bd (aBin .sub t131 (I .u8 97)) fun t132 =>
  bd (aBin .add t132 (I .u8 10)) fun t133 =>
  some (.normal [(v.getD 0 .any), (v.getD 1 .any), (v.getD 2 .any), (v.getD 3 .any), (v.getD 4 .any), (v.getD 5 .any), (v.getD 6 .any), t133, (v.getD 7 .any), (v.getD 8 .any), (v.getD 9 .any)], s54))
  (bd ((none : Option T)) fun t105 =>
  bd (retT [(I .u64 0), t105]) fun r55 =>
  some (.ret r55, s53))))
  (fun v56 s57 => some (.normal [(v56.getD 0 .any), (v56.getD 1 .any), (v56.getD 2 .any), (v56.getD 3 .any), (v56.getD 4 .any), (v56.getD 5 .any), (v56.getD 6 .any), (v56.getD 7 .any), (v56.getD 8 .any), (v56.getD 9 .any), (v56.getD 10 .any)], s57))
  (fun i58 v56 s57 => if i58 = 5 then some (.normal v56, s57) else some (.exit i58 v56, s57))
  (fun r59 s57 => some (.ret r59, s57))))
  (fun v60 s61 => bd (aConv .u8 (v60.getD 0 .any)) fun t136 =>
  bd (aBin .geq (v60.getD 7 .any) t136) fun t137 =>
  br t137 (bd ((none : Option T)) fun t138 =>
  bd (retT [(I .u64 0), t138]) fun r64 =>
  some (.ret r64, s61))
  (bd (aBin .geq (v60.getD 6 .any) (v60.getD 3 .any)) fun t141 =>
  br t141 (bd ((none : Option T)) fun t143 =>
  bd (retT [(v60.getD 4 .any), t143]) fun r65 =>
  some (.ret r65, s61))
  (bd (aConv .u64 (v60.getD 0 .any)) fun t146 =>
  bd (aBin .mul (v60.getD 6 .any) t146) fun t147 =>
  bd (aConv .u64 (v60.getD 7 .any)) fun t150 =>
  bd (aBin .add t147 t150) fun t151 =>
  bd (aBin .lss t151 t147) fun t154 =>
  bd (gT (gd t154 false) (some t151)) fun t156 =>
  bd (gT (gd t154 false) (some (v60.getD 4 .any))) fun t157 =>
  bd (gT (gd t154 false) (aBin .gtr t156 t157)) fun t158 =>
  bd (aPick t154 (B true) t158) fun t159 =>
  br t159 (bd ((none : Option T)) fun t161 =>
  bd (retT [(v60.getD 4 .any), t161]) fun r66 =>
  some (.ret r66, s61))
  (some (.normal [(v60.getD 0 .any), (v60.getD 1 .any), (v60.getD 2 .any), (v60.getD 3 .any), (v60.getD 4 .any), (v60.getD 5 .any), t151, (v60.getD 8 .any), (v60.getD 9 .any), (v60.getD 10 .any)], s61)))))
  (fun i62 v60 s61 => if i62 = 4 then some (.normal v60, s61) else some (.exit i62 v60, s61))
  (fun r63 s61 => some (.ret r63, s61)))
  (fun v67 s68 => bd (aBin .add (v67.getD 9 .any) (I .i64 1)) fun t163 =>
  some (.normal [(v67.getD 0 .any), (v67.getD 1 .any), (v67.getD 2 .any), (v67.getD 3 .any), (v67.getD 4 .any), (v67.getD 5 .any), (v67.getD 6 .any), (v67.getD 7 .any), (v67.getD 8 .any), t163], s68))
  (fun i69 v67 s68 => some (.exit i69 v67, s68))
  (fun r70 s68 => some (.ret r70, s68)))
  (some (.exit 3 [(v.getD 2 .any), (v.getD 5 .any), (v.getD 6 .any)], s))

/- internal/strconv.ParseUint -/
def f135 (callf : CallF) (N : Nat) (a0 : T) (a1 : T) (a2 : T) (s : St) : Option (T × St) :=
  bd (aBin .eql a0 (Z (.str []))) fun t19 =>
  br t19 (bd ((none : Option T)) fun t20 =>
  bd (retT [(I .u64 0), t20]) fun r1 =>
  some (r1, s))
  (bd (aBin .eql a1 (I .i64 0)) fun t22 =>
  jn (bd (aBin .leq (I .i64 2) a1) fun t27 =>
  bd (gT (gd t27 true) (some a1)) fun t29 =>
  bd (gT (gd t27 true) (aBin .leq t29 (I .i64 36))) fun t30 =>
  bd (aPick t27 t30 (B false)) fun t31 =>
  jn (br t31 (some (.normal [a0, a1, a2, t22, a0], s))
  (bd (aBin .eql a1 (I .i64 0)) fun t34 =>
  br t34 (bd (aAtStr a0 (I .i64 0)) fun t36 =>
  bd (aBin .eql t36 (I .u8 48)) fun t37 =>
  jn (br t37 (jn (bd (aLenStr a0) fun t42 =>
  bd (aBin .geq t42 (I .i64 3)) fun t43 =>
  bd (gT (gd t43 true) (some a0)) fun t45 =>
  bd (gT (gd t43 true) (aAtStr t45 (I .i64 1))) fun t46 =>
  bd2 (gS (gd t43 true) s (callf 142 [t46] s)) fun t47 s2 =>
  bd (gT (gd t43 true) (aBin .eql t47 (I .u8 98))) fun t48 =>
  bd (aPick t43 t48 (B false)) fun t49 =>
  jn (br t49 (bd (aPieceStr a0 (some (I .i64 2)) none none) fun t51 =>
  some (.normal [t51, (I .i64 2), a2, t22, a0], s2))
  (bd (aLenStr a0) fun t54 =>
  bd (aBin .geq t54 (I .i64 3)) fun t55 =>
  bd (gT (gd t55 true) (some a0)) fun t57 =>
  bd (gT (gd t55 true) (aAtStr t57 (I .i64 1))) fun t58 =>
  bd2 (gS (gd t55 true) s2 (callf 142 [t58] s2)) fun t59 s3 =>
  bd (gT (gd t55 true) (aBin .eql t59 (I .u8 111))) fun t60 =>
  bd (aPick t55 t60 (B false)) fun t61 =>
  jn (br t61 (bd (aPieceStr a0 (some (I .i64 2)) none none) fun t63 =>
  some (.normal [t63, (I .i64 8), a2, t22, a0], s3))
  (bd (aLenStr a0) fun t66 =>
  bd (aBin .geq t66 (I .i64 3)) fun t67 =>
  bd (gT (gd t67 true) (some a0)) fun t69 =>
  bd (gT (gd t67 true) (aAtStr t69 (I .i64 1))) fun t70 =>
  bd2 (gS (gd t67 true) s3 (callf 142 [t70] s3)) fun t71 s4 =>
  bd (gT (gd t67 true) (aBin .eql t71 (I .u8 120))) fun t72 =>
  bd (aPick t67 t72 (B false)) fun t73 =>
  jn (br t73 (bd (aPieceStr a0 (some (I .i64 2)) none none) fun t75 =>
  some (.normal [t75, (I .i64 16), a2, t22, a0], s4))
  (bd (aPieceStr a0 (some (I .i64 1)) none none) fun t39 =>
  some (.normal [t39, (I .i64 8), a2, t22, a0], s4)))
  (fun v5 s6 => some (.normal [(v5.getD 0 .any), (v5.getD 1 .any), (v5.getD 2 .any), (v5.getD 3 .any), (v5.getD 4 .any)], s6))
  (fun i7 v5 s6 => some (.exit i7 v5, s6))
  (fun r8 s6 => some (.ret r8, s6))))
  (fun v9 s10 => some (.normal [(v9.getD 0 .any), (v9.getD 1 .any), (v9.getD 2 .any), (v9.getD 3 .any), (v9.getD 4 .any)], s10))
  (fun i11 v9 s10 => some (.exit i11 v9, s10))
  (fun r12 s10 => some (.ret r12, s10))))
  (fun v13 s14 => some (.normal [(v13.getD 0 .any), (v13.getD 1 .any), (v13.getD 2 .any), (v13.getD 3 .any), (v13.getD 4 .any)], s14))
  (fun i15 v13 s14 => if i15 = 1 then some (.normal v13, s14) else some (.exit i15 v13, s14))
  (fun r16 s14 => some (.ret r16, s14)))
  (fun v17 s18 => some (.normal [(v17.getD 0 .any), (v17.getD 1 .any), (v17.getD 2 .any), (v17.getD 3 .any), (v17.getD 4 .any)], s18))
  (fun i19 v17 s18 => some (.exit i19 v17, s18))
  (fun r20 s18 => some (.ret r20, s18)))
  (some (.normal [a0, (I .i64 10), a2, t22, a0], s)))
  (fun v21 s22 => some (.normal [(v21.getD 0 .any), (v21.getD 1 .any), (v21.getD 2 .any), (v21.getD 3 .any), (v21.getD 4 .any)], s22))
  (fun i23 v21 s22 => some (.exit i23 v21, s22))
  (fun r24 s22 => some (.ret r24, s22)))
  (bd ((none : Option T)) fun t24 =>
  bd (retT [(I .u64 0), t24]) fun r25 =>
  some (.ret r25, s))))
  (fun v26 s27 => some (.normal [(v26.getD 0 .any), (v26.getD 1 .any), (v26.getD 2 .any), (v26.getD 3 .any), (v26.getD 4 .any)], s27))
  (fun i28 v26 s27 => if i28 = 0 then some (.normal v26, s27) else some (.exit i28 v26, s27))
  (fun r29 s27 => some (.ret r29, s27)))
  (fun v30 s31 => bd (aBin .eql (v30.getD 2 .any) (I .i64 0)) fun t77 =>
  jn (br t77 (some (.normal [(v30.getD 0 .any), (v30.getD 1 .any), (I .i64 64), (v30.getD 3 .any), (v30.getD 4 .any)], s31))
  (bd (aBin .lss (v30.getD 2 .any) (I .i64 0)) fun t79 =>
  bd (gT (gd t79 false) (some (v30.getD 2 .any))) fun t81 =>
  bd (gT (gd t79 false) (aBin .gtr t81 (I .i64 64))) fun t82 =>
  bd (aPick t79 (B true) t82) fun t83 =>
  br t83 (bd ((none : Option T)) fun t84 =>
  bd (retT [(I .u64 0), t84]) fun r34 =>
  some (.ret r34, s31))
  (some (.normal [(v30.getD 0 .any), (v30.getD 1 .any), (v30.getD 2 .any), (v30.getD 3 .any), (v30.getD 4 .any)], s31))))
  (fun v35 s36 => jn (bd (aBin .eql (v35.getD 1 .any) (I .i64 10)) fun t91 =>
  jn (br t91 (some (.normal [(v35.getD 0 .any), (v35.getD 1 .any), (v35.getD 2 .any), (v35.getD 3 .any), (v35.getD 4 .any), (I .u64 1844674407370955162)], s36))
  (bd (aBin .eql (v35.getD 1 .any) (I .i64 16)) fun t93 =>
  jn (br t93 (some (.normal [(v35.getD 0 .any), (v35.getD 1 .any), (v35.getD 2 .any), (v35.getD 3 .any), (v35.getD 4 .any), (I .u64 1152921504606846976)], s36))
  (bd (aConv .u64 (v35.getD 1 .any)) fun t87 =>
  bd (aBin .quo (I .u64 18446744073709551615) t87) fun t88 =>
  bd (aBin .add t88 (I .u64 1)) fun t89 =>
  some (.normal [(v35.getD 0 .any), (v35.getD 1 .any), (v35.getD 2 .any), (v35.getD 3 .any), (v35.getD 4 .any), t89], s36)))
  (fun v39 s40 => some (.normal [(v39.getD 0 .any), (v39.getD 1 .any), (v39.getD 2 .any), (v39.getD 3 .any), (v39.getD 4 .any), (v39.getD 5 .any)], s40))
  (fun i41 v39 s40 => some (.exit i41 v39, s40))
  (fun r42 s40 => some (.ret r42, s40))))
  (fun v43 s44 => some (.normal [(v43.getD 0 .any), (v43.getD 1 .any), (v43.getD 2 .any), (v43.getD 3 .any), (v43.getD 4 .any), (v43.getD 5 .any)], s44))
  (fun i45 v43 s44 => if i45 = 2 then some (.normal v43, s44) else some (.exit i45 v43, s44))
  (fun r46 s44 => some (.ret r46, s44)))
  (fun v47 s48 => bd (aConv .u64 (v47.getD 2 .any)) fun t95 =>
  bd (aBin .shl (I .u64 1) t95) fun t96 =>
  bd (aBin .sub t96 (I .u64 1)) fun t97 =>
  bd2 (aNew s48 (nBytes (v47.getD 0 .any))) fun t99 s51 =>
  bd (aLenSl t99) fun t100 =>
  jn (jn (loops (f135_l1 callf N) N [(v47.getD 1 .any), (v47.getD 3 .any), (v47.getD 4 .any), (v47.getD 5 .any), t97, (B false), (I .u64 0), t99, t100, (I .i64 0)] s51)
  (fun v71 s72 => some (.normal [.any, .any, .any], s72))
  (fun i73 v71 s72 => if i73 = 3 then some (.normal v71, s72) else some (.exit i73 v71, s72))
  (fun r74 s72 => some (.ret r74, s72)))
  (fun v75 s76 => bd (gT (gd (v75.getD 1 .any) true) (some (v75.getD 0 .any))) fun t166 =>
  bd2 (gS (gd (v75.getD 1 .any) true) s76 (callf 143 [t166] s76)) fun t167 s79 =>
  bd (gT (gd (v75.getD 1 .any) true) (aUn .not t167)) fun t168 =>
  bd (aPick (v75.getD 1 .any) t168 (B false)) fun t169 =>
  br t169 (bd ((none : Option T)) fun t170 =>
  bd (retT [(I .u64 0), t170]) fun r80 =>
  some (r80, s79))
  (bd (retT [(v75.getD 2 .any), (Z .nili)]) fun r81 =>
  some (r81, s79)))
  (fun i77 v75 s76 => none)
  (fun r78 s76 => some (r78, s76)))
  (fun i49 v47 s48 => none)
  (fun r50 s48 => some (r50, s48)))
  (fun i37 v35 s36 => none)
  (fun r38 s36 => some (r38, s36)))
  (fun i32 v30 s31 => none)
  (fun r33 s31 => some (r33, s31)))

theorem f135_eq (callf : CallF) (N : Nat) (a0 : T) (a1 : T) (a2 : T) (s : St) : bodyC Tryz.prog callf N Tryz.f135 [a0, a1, a2] s = f135 callf N a0 a1 a2 s := by kernel_rfl

theorem f135_run (d : Nat) (a0 : T) (a1 : T) (a2 : T) (s : St) : R (d + 1) 135 [a0, a1, a2] s = f135 (R d) 8192 a0 a1 a2 s := (runQ_body rfl Tryz.func135 (by kernel_rfl)).trans (f135_eq ..)

end
end Go.Proofs.YtlhbidbdmdcdeaaGreatDoor
