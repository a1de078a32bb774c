/-
  What functions that the laws reach compute, printed by a program of our own: each text is by definition the run of the code. No conditions.
-/
import Derived.Test.YtlhbidbdmdcdeaaGreatDoorWalk0
namespace Go.Proofs.YtlhbidbdmdcdeaaGreatDoor
open Go Go.Abs Go.Abs.F
set_option linter.unusedVariables false
noncomputable section
/- twinkeep/policy.number -/
def f96 (callf : CallF) (N : Nat) (a0 : T) (s : St) : Option (T × St) :=
  bd (aLenStr a0) fun t7 =>
  bd (aBin .lss t7 (I .i64 1)) fun t8 =>
  bd (gT (gd t8 false) (some a0)) fun t10 =>
  bd (gT (gd t8 false) (aLenStr t10)) fun t11 =>
  bd (gT (gd t8 false) (aBin .gtr t11 (I .i64 13))) fun t12 =>
  bd (aPick t8 (B true) t12) fun t13 =>
  bd (gT (gd t13 false) (some a0)) fun t15 =>
  bd2 (gS (gd t13 false) s (callf 108 [t15, (Z (.str [48, 49, 50, 51, 52, 53, 54, 55, 56, 57]))] s)) fun t16 s1 =>
  bd (gT (gd t13 false) (aBin .neq t16 (Z (.str [])))) fun t17 =>
  bd (aPick t13 (B true) t17) fun t18 =>
  br t18 (bd (retT [(I .i64 0), (B false)]) fun r2 =>
  some (r2, s1))
  (bd2 (callf 109 [a0, (I .i64 10), (I .i64 64)] s1) fun t21 s3 =>
  bd (aExtract t21 0) fun t22 =>
  bd (aExtract t21 1) fun t23 =>
  bd (eqB .i t23 (Z .nili)) fun t26 =>
  bd (retT [t22, t26]) fun r4 =>
  some (r4, s3))

theorem f96_eq (callf : CallF) (N : Nat) (a0 : T) (s : St) : bodyC Tryz.prog callf N Tryz.f96 [a0] s = f96 callf N a0 s := by kernel_rfl

theorem f96_run (d : Nat) (a0 : T) (s : St) : R (d + 1) 96 [a0] s = f96 (R d) 8192 a0 s := (runQ_body rfl Tryz.func96 (by kernel_rfl)).trans (f96_eq ..)

/- twinkeep/policy.names -/
def f98 (callf : CallF) (N : Nat) (s : St) : Option (T × St) :=
  bd2 (aNew s (nSlice 4 (aFill [.str [], .str [], .str [], .str []] [(0, 1, (Z (.str [114, 97, 119]))), (1, 1, (Z (.str [53, 109]))), (2, 1, (Z (.str [49, 104]))), (3, 1, (Z (.str [49, 100])))]))) fun t1 s1 =>
  some (t1, s1)

theorem f98_eq (callf : CallF) (N : Nat) (s : St) : bodyC Tryz.prog callf N Tryz.f98 [] s = f98 callf N s := by kernel_rfl

theorem f98_run (d : Nat) (s : St) : R (d + 1) 98 [] s = f98 (R d) 8192 s := (runQ_body rfl Tryz.func98 (by kernel_rfl)).trans (f98_eq ..)

/- twinkeep/policy.line -/
def f80 (callf : CallF) (N : Nat) (a0 : T) (a1 : T) (s : St) : Option (T × St) :=
  bd (aLenSl a1) fun t11 =>
  bd (aBin .sub t11 (I .i64 1)) fun t12 =>
  bd (aIndexSl 1 a1 t12) fun t13 =>
  bd (aLoad1 t13 s.get) fun t14 =>
  bd2 (callf 96 [t14] s) fun t15 s1 =>
  bd (aExtract t15 0) fun t16 =>
  bd (aExtract t15 1) fun t17 =>
  jn (bd (aIndexSl 1 a1 (I .i64 0)) fun t20 =>
  bd (aLoad1 t20 s1.get) fun t21 =>
  bd (aBin .eql t21 (Z (.str [107, 101, 101, 112]))) fun t22 =>
  bd (gT (gd t22 true) (some a1)) fun t24 =>
  bd (gT (gd t22 true) (aLenSl t24)) fun t25 =>
  bd (gT (gd t22 true) (aBin .eql t25 (I .i64 3))) fun t26 =>
  bd (aPick t22 t26 (B false)) fun t27 =>
  jn (br t27 (bd2 (callf 98 [] s1) fun t28 s2 =>
  bd (aIndexSl 1 a1 (I .i64 1)) fun t30 =>
  bd (aLoad1 t30 s2.get) fun t31 =>
  bd2 (callf 97 [t28, t31] s2) fun t32 s3 =>
  ck ((decide (aLoad1 t30 s1.get = aLoad1 t30 s2.get) && true) && true) (bd (aBin .lss t32 (I .i64 0)) fun t34 =>
  bd (gT (gd t34 false) (some t17)) fun t36 =>
  bd (gT (gd t34 false) (aUn .not t36)) fun t37 =>
  bd (gT (gd t34 false) (some t37)) fun t38 =>
  bd (gT (gd t38 true) (some a1)) fun t39 =>
  bd (gT (gd t38 true) (aIndexSl 1 t39 (I .i64 2))) fun t40 =>
  bd (gT (gd t38 true) (aLoad1 t40 s3.get)) fun t41 =>
  bd (gT (gd t38 true) (aBin .neq t41 (Z (.str [101, 118, 101, 114])))) fun t42 =>
  bd (gT (gd t34 false) (aPick t38 t42 (B false))) fun t43 =>
  bd (aPick t34 (B true) t43) fun t44 =>
  br t44 (some (.ret (B false), s3))
  (bd (aNil a0) fun t48 =>
  bd (aFieldAddr 0 t48) fun t49 =>
  bd (aIndexArr 4 1 t49 t32) fun t50 =>
  bd2 (aStore 1 t50 t16 s3) fun _ s4 =>
  some (.normal [], s4))))
  (bd (aIndexSl 1 a1 (I .i64 0)) fun t53 =>
  bd (aLoad1 t53 s1.get) fun t54 =>
  bd (aBin .eql t54 (Z (.str [115, 101, 97, 108]))) fun t55 =>
  bd (gT (gd t55 true) (some a1)) fun t57 =>
  bd (gT (gd t55 true) (aLenSl t57)) fun t58 =>
  bd (gT (gd t55 true) (aBin .eql t58 (I .i64 2))) fun t59 =>
  bd (aPick t55 t59 (B false)) fun t60 =>
  bd (gT (gd t60 true) (some t17)) fun t62 =>
  bd (aPick t60 t62 (B false)) fun t63 =>
  jn (br t63 (bd (aNil a0) fun t66 =>
  bd (aFieldAddr 4 t66) fun t67 =>
  bd2 (aStore 1 t67 t16 s1) fun _ s5 =>
  some (.normal [], s5))
  (bd (aIndexSl 1 a1 (I .i64 0)) fun t70 =>
  bd (aLoad1 t70 s1.get) fun t71 =>
  bd (aBin .eql t71 (Z (.str [115, 112, 97, 110]))) fun t72 =>
  bd (gT (gd t72 true) (some a1)) fun t74 =>
  bd (gT (gd t72 true) (aLenSl t74)) fun t75 =>
  bd (gT (gd t72 true) (aBin .eql t75 (I .i64 2))) fun t76 =>
  bd (aPick t72 t76 (B false)) fun t77 =>
  bd (gT (gd t77 true) (some t17)) fun t79 =>
  bd (aPick t77 t79 (B false)) fun t80 =>
  br t80 (bd (aNil a0) fun t83 =>
  bd (aFieldAddr 5 t83) fun t84 =>
  bd2 (aStore 1 t84 t16 s1) fun _ s6 =>
  some (.normal [], s6))
  (some (.ret (B false), s1))))
  (fun v7 s8 => some (.normal [], s8))
  (fun i9 v7 s8 => some (.exit i9 v7, s8))
  (fun r10 s8 => some (.ret r10, s8))))
  (fun v11 s12 => some (.normal [], s12))
  (fun i13 v11 s12 => if i13 = 0 then some (.normal v11, s12) else some (.exit i13 v11, s12))
  (fun r14 s12 => some (.ret r14, s12)))
  (fun v15 s16 => some ((B true), s16))
  (fun i17 v15 s16 => none)
  (fun r18 s16 => some (r18, s16))

theorem f80_eq (callf : CallF) (N : Nat) (a0 : T) (a1 : T) (s : St) : bodyC Tryz.prog callf N Tryz.f80 [a0, a1] s = f80 callf N a0 a1 s := by kernel_rfl

theorem f80_run (d : Nat) (a0 : T) (a1 : T) (s : St) : R (d + 1) 80 [a0, a1] s = f80 (R d) 8192 a0 a1 s := (runQ_body rfl Tryz.func80 (by kernel_rfl)).trans (f80_eq ..)

/- twinkeep/policy.May: a loop; 0: t1 p, 1: t7 , 2: t8  -/
def f82_l1 (callf : CallF) (N : Nat) (v : List T) (s : St) : Option (JO × St) :=
  bd (aBin .lss (v.getD 2 .any) (I .i64 4)) fun t9 =>
  br t9 (jn (bd (aAtArr none 4 1 (v.getD 1 .any) (v.getD 2 .any)) fun t11 =>
  bd (aBin .lss t11 (I .i64 0)) fun t13 =>
  bd (gT (gd t13 false) (some t11)) fun t15 =>
  bd (gT (gd t13 false) (aBin .gtr t15 (I .i64 1099511627776))) fun t16 =>
  bd (aPick t13 (B true) t16) fun t17 =>
  br t17 (some (.ret (B false), s))
  (bd (aBin .eql (v.getD 2 .any) (I .i64 0)) fun t19 =>
  br t19 (some (.normal [(v.getD 0 .any), (v.getD 1 .any), (v.getD 2 .any)], s))
  (bd (aBin .sub (v.getD 2 .any) (I .i64 1)) fun t21 =>
  bd (aFieldAddr 0 (v.getD 0 .any)) fun t22 =>
  bd (aIndexArr 4 1 t22 t21) fun t23 =>
  bd (aLoad1 t23 s.get) fun t24 =>
  bd (aBin .neq t11 (I .i64 0)) fun t26 =>
  bd (gT (gd t26 true) (some t11)) fun t28 =>
  bd (gT (gd t26 true) (some t24)) fun t29 =>
  bd (gT (gd t26 true) (aBin .lss t28 t29)) fun t30 =>
  bd (gT (gd t26 true) (some t30)) fun t31 =>
  bd (gT (gd t31 false) (some t24)) fun t32 =>
  bd (gT (gd t31 false) (aBin .eql t32 (I .i64 0))) fun t33 =>
  bd (gT (gd t26 true) (aPick t31 (B true) t33)) fun t34 =>
  bd (aPick t26 t34 (B false)) fun t35 =>
  br t35 (some (.ret (B false), s))
  (some (.normal [(v.getD 0 .any), (v.getD 1 .any), (v.getD 2 .any)], s)))))
  (fun v2 s3 => bd (aBin .add (v2.getD 2 .any) (I .i64 1)) fun t36 =>
  some (.normal [(v2.getD 0 .any), (v2.getD 1 .any), t36], s3))
  (fun i4 v2 s3 => some (.exit i4 v2, s3))
  (fun r5 s3 => some (.ret r5, s3)))
  (some (.exit 0 [(v.getD 0 .any)], s))

/- twinkeep/policy.May -/
def f82 (callf : CallF) (N : Nat) (a0 : T) (s : St) : Option (T × St) :=
  bd2 (aNew s (nBox a0)) fun t1 s1 =>
  bd (aFieldAddr 0 t1) fun t6 =>
  bd (aLoadN 4 t6 s1.get) fun t7 =>
  jn (jn (loops (f82_l1 callf N) N [t1, t7, (I .i64 0)] s1)
  (fun v6 s7 => some (.normal [.any], s7))
  (fun i8 v6 s7 => if i8 = 0 then some (.normal v6, s7) else some (.exit i8 v6, s7))
  (fun r9 s7 => some (.ret r9, s7)))
  (fun v10 s11 => bd (aFieldAddr 0 (v10.getD 0 .any)) fun t37 =>
  bd (aIndexArr 4 1 t37 (I .i64 3)) fun t38 =>
  bd (aLoad1 t38 s11.get) fun t39 =>
  bd (aBin .eql t39 (I .i64 0)) fun t40 =>
  bd (gT (gd t40 true) (aFieldAddr 4 (v10.getD 0 .any))) fun t42 =>
  bd (gT (gd t40 true) (aLoad1 t42 s11.get)) fun t43 =>
  bd (gT (gd t40 true) (aBin .geq t43 (I .i64 1))) fun t44 =>
  bd (aPick t40 t44 (B false)) fun t45 =>
  bd (gT (gd t45 true) (aFieldAddr 4 (v10.getD 0 .any))) fun t47 =>
  bd (gT (gd t45 true) (aLoad1 t47 s11.get)) fun t48 =>
  bd (gT (gd t45 true) (aBin .leq t48 (I .i64 64))) fun t49 =>
  bd (aPick t45 t49 (B false)) fun t50 =>
  bd (gT (gd t50 true) (aFieldAddr 5 (v10.getD 0 .any))) fun t52 =>
  bd (gT (gd t50 true) (aLoad1 t52 s11.get)) fun t53 =>
  bd (gT (gd t50 true) (aBin .geq t53 (I .i64 1))) fun t54 =>
  bd (aPick t50 t54 (B false)) fun t55 =>
  bd (gT (gd t55 true) (aFieldAddr 5 (v10.getD 0 .any))) fun t57 =>
  bd (gT (gd t55 true) (aLoad1 t57 s11.get)) fun t58 =>
  bd (gT (gd t55 true) (aBin .leq t58 (I .i64 200))) fun t59 =>
  bd (aPick t55 t59 (B false)) fun t60 =>
  some (t60, s11))
  (fun i12 v10 s11 => none)
  (fun r13 s11 => some (r13, s11))

theorem f82_eq (callf : CallF) (N : Nat) (a0 : T) (s : St) : bodyC Tryz.prog callf N Tryz.f82 [a0] s = f82 callf N a0 s := by kernel_rfl

theorem f82_run (d : Nat) (a0 : T) (s : St) : R (d + 1) 82 [a0] s = f82 (R d) 8192 a0 s := (runQ_body rfl Tryz.func82 (by kernel_rfl)).trans (f82_eq ..)

/- twinkeep/policy.Parse: a loop; 0: t2 , 1: t5 p, 2: t6 seen, 3: t7 i, 4: t9 l, 5: t15 , 6: t16 , 7: t17 , 8: t29 , 9: t30 , 10: t31  -/
def f51_l2 (callf : CallF) (N : Nat) (v : List T) (s : St) : Option (JO × St) :=
  bd (aBin .lss (v.getD 10 .any) (v.getD 9 .any)) fun t32 =>
  br t32 (jn (bd (aIndexSl 1 (v.getD 8 .any) (v.getD 10 .any)) fun t33 =>
  bd (aLoad1 t33 s.get) fun t34 =>
  bd (aBin .neq t34 (Z (.str []))) fun t36 =>
  jn (br t36 (bd2 (aNew s (nSlice 1 (aFill [.str []] [(0, 1, t34)]))) fun t39 s8 =>
  bd2 (aAppend 1 16 (v.getD 4 .any) t39 s8) fun t40 s9 =>
  some (.normal [(v.getD 0 .any), (v.getD 1 .any), (v.getD 2 .any), (v.getD 3 .any), t40, (v.getD 5 .any), (v.getD 6 .any), (v.getD 7 .any), (v.getD 8 .any), (v.getD 9 .any), (v.getD 10 .any)], s9))
  (some (.normal [(v.getD 0 .any), (v.getD 1 .any), (v.getD 2 .any), (v.getD 3 .any), (v.getD 4 .any), (v.getD 5 .any), (v.getD 6 .any), (v.getD 7 .any), (v.getD 8 .any), (v.getD 9 .any), (v.getD 10 .any)], s)))
  (fun v10 s11 => some (.normal [(v10.getD 0 .any), (v10.getD 1 .any), (v10.getD 2 .any), (v10.getD 3 .any), (v10.getD 4 .any), (v10.getD 5 .any), (v10.getD 6 .any), (v10.getD 7 .any), (v10.getD 8 .any), (v10.getD 9 .any), (v10.getD 10 .any)], s11))
  (fun i12 v10 s11 => if i12 = 3 then some (.normal v10, s11) else some (.exit i12 v10, s11))
  (fun r13 s11 => some (.ret r13, s11)))
  (fun v14 s15 => bd (aBin .add (v14.getD 10 .any) (I .i64 1)) fun t41 =>
  some (.normal [(v14.getD 0 .any), (v14.getD 1 .any), (v14.getD 2 .any), (v14.getD 3 .any), (v14.getD 4 .any), (v14.getD 5 .any), (v14.getD 6 .any), (v14.getD 7 .any), (v14.getD 8 .any), (v14.getD 9 .any), t41], s15))
  (fun i16 v14 s15 => some (.exit i16 v14, s15))
  (fun r17 s15 => some (.ret r17, s15)))
  (some (.exit 2 [(v.getD 0 .any), (v.getD 1 .any), (v.getD 2 .any), (v.getD 3 .any), (v.getD 4 .any), (v.getD 5 .any), (v.getD 6 .any), (v.getD 7 .any)], s))

/- twinkeep/policy.Parse: a loop; 0: t2 , 1: t5 p, 2: t6 seen, 3: t15 , 4: t16 , 5: t17  -/
def f51_l1 (callf : CallF) (N : Nat) (v : List T) (s : St) : Option (JO × St) :=
  bd (aBin .lss (v.getD 5 .any) (v.getD 4 .any)) fun t18 =>
  br t18 (jn (bd (aIndexSl 1 (v.getD 3 .any) (v.getD 5 .any)) fun t20 =>
  bd (aLoad1 t20 s.get) fun t21 =>
  bd2 (callf 78 [t21, (Z (.str [35]))] s) fun t24 s6 =>
  bd (aExtract t24 0) fun t25 =>
  bd (aExtract t24 1) fun t26 =>
  bd (aExtract t24 2) fun t27 =>
  bd2 (callf 77 [t25, (Z (.str [32]))] s6) fun t29 s7 =>
  bd (aLenSl t29) fun t30 =>
  jn (jn (loops (f51_l2 callf N) N [(v.getD 0 .any), (v.getD 1 .any), (v.getD 2 .any), (v.getD 5 .any), (Z .nils), (v.getD 3 .any), (v.getD 4 .any), (v.getD 5 .any), t29, t30, (I .i64 0)] s7)
  (fun v18 s19 => some (.normal [.any, .any, .any, .any, .any, .any, .any, .any], s19))
  (fun i20 v18 s19 => if i20 = 2 then some (.normal v18, s19) else some (.exit i20 v18, s19))
  (fun r21 s19 => some (.ret r21, s19)))
  (fun v22 s23 => bd (aLenSl (v22.getD 4 .any)) fun t43 =>
  bd (aBin .eql t43 (I .i64 0)) fun t44 =>
  br t44 (some (.normal [(v22.getD 0 .any), (v22.getD 1 .any), (v22.getD 2 .any), (v22.getD 5 .any), (v22.getD 6 .any), (v22.getD 7 .any)], s23))
  (bd (aLenSl (v22.getD 4 .any)) fun t47 =>
  bd (aBin .sub t47 (I .i64 1)) fun t48 =>
  bd (aPieceSl 1 (v22.getD 4 .any) none (some t48) none) fun t49 =>
  bd2 (callf 79 [t49, (Z (.str [32]))] s23) fun t50 s26 =>
  bd2 (callf 80 [(v22.getD 1 .any), (v22.getD 4 .any)] s26) fun t52 s27 =>
  bd (aUn .not t52) fun t53 =>
  bd (gT (gd t53 false) (some (v22.getD 2 .any))) fun t55 =>
  bd (gT (gd t53 false) (some t50)) fun t56 =>
  bd2 (gS (gd t53 false) s27 (callf 81 [t55, t56] s27)) fun t57 s28 =>
  bd (aPick t53 (B true) t57) fun t58 =>
  br t58 (bd (asAggT (aFill [.int .i64 0, .int .i64 0, .int .i64 0, .int .i64 0, .int .i64 0, .int .i64 0] [])) fun t59 =>
  bd (aBin .add (v22.getD 3 .any) (I .i64 1)) fun t61 =>
  bd2 (aStore 6 (v22.getD 0 .any) t59 s28) fun _ s29 =>
  bd (rC (aLoadN 6 (v22.getD 0 .any) s29.get) (rT (I .i64 4) (rT t61 (some [])))) fun l30 => bd (retT l30) fun r31 =>
  some (.ret r31, s29))
  (bd2 (aNew s28 (nSlice 1 (aFill [.str []] [(0, 1, t50)]))) fun t64 s32 =>
  bd2 (aAppend 1 16 (v22.getD 2 .any) t64 s32) fun t65 s33 =>
  some (.normal [(v22.getD 0 .any), (v22.getD 1 .any), t65, (v22.getD 5 .any), (v22.getD 6 .any), (v22.getD 7 .any)], s33))))
  (fun i24 v22 s23 => if i24 = 1 then some (.normal v22, s23) else some (.exit i24 v22, s23))
  (fun r25 s23 => some (.ret r25, s23)))
  (fun v34 s35 => bd (aBin .add (v34.getD 5 .any) (I .i64 1)) fun t66 =>
  some (.normal [(v34.getD 0 .any), (v34.getD 1 .any), (v34.getD 2 .any), (v34.getD 3 .any), (v34.getD 4 .any), t66], s35))
  (fun i36 v34 s35 => some (.exit i36 v34, s35))
  (fun r37 s35 => some (.ret r37, s35)))
  (some (.exit 0 [(v.getD 0 .any), (v.getD 1 .any)], s))

/- twinkeep/policy.Parse -/
def f51 (callf : CallF) (N : Nat) (a0 : T) (s : St) : Option (T × St) :=
  bd2 (aNew s (nCells [.int .i64 0, .int .i64 0, .int .i64 0, .int .i64 0, .int .i64 0, .int .i64 0])) fun t2 s1 =>
  bd2 (callf 49 [] s1) fun t13 s2 =>
  bd2 (aNew s2 (nCells [.int .i64 0, .int .i64 0, .int .i64 0, .int .i64 0, .int .i64 0, .int .i64 0])) fun t5 s3 =>
  bd2 (aStore 6 t5 t13 s3) fun _ s4 =>
  bd2 (callf 77 [a0, (Z (.str [10]))] s4) fun t15 s5 =>
  bd (aLenSl t15) fun t16 =>
  jn (jn (loops (f51_l1 callf N) N [t2, t5, (Z .nils), t15, t16, (I .i64 0)] s5)
  (fun v38 s39 => some (.normal [.any, .any], s39))
  (fun i40 v38 s39 => if i40 = 0 then some (.normal v38, s39) else some (.exit i40 v38, s39))
  (fun r41 s39 => some (.ret r41, s39)))
  (fun v42 s43 => bd (aLoadN 6 (v42.getD 1 .any) s43.get) fun t67 =>
  bd2 (callf 82 [t67] s43) fun t68 s46 =>
  bd (aUn .not t68) fun t69 =>
  br t69 (bd (asAggT (aFill [.int .i64 0, .int .i64 0, .int .i64 0, .int .i64 0, .int .i64 0, .int .i64 0] [])) fun t70 =>
  bd2 (aStore 6 (v42.getD 0 .any) t70 s46) fun _ s47 =>
  bd (rC (aLoadN 6 (v42.getD 0 .any) s47.get) (rT (I .i64 5) (rT (I .i64 0) (some [])))) fun l48 => bd (retT l48) fun r49 =>
  some (r49, s47))
  (bd (aLoadN 6 (v42.getD 1 .any) s46.get) fun t71 =>
  bd2 (aStore 6 (v42.getD 0 .any) t71 s46) fun _ s50 =>
  bd (rC (aLoadN 6 (v42.getD 0 .any) s50.get) (rT (I .i64 0) (rT (I .i64 0) (some [])))) fun l51 => bd (retT l51) fun r52 =>
  some (r52, s50)))
  (fun i44 v42 s43 => none)
  (fun r45 s43 => some (r45, s43))

theorem f51_eq (callf : CallF) (N : Nat) (a0 : T) (s : St) : bodyC Tryz.prog callf N Tryz.f51 [a0] s = f51 callf N a0 s := by kernel_rfl

theorem f51_run (d : Nat) (a0 : T) (s : St) : R (d + 1) 51 [a0] s = f51 (R d) 8192 a0 s := (runQ_body rfl Tryz.func51 (by kernel_rfl)).trans (f51_eq ..)

/- twinkeep/policy.Default -/
def f49 (callf : CallF) (N : Nat) (s : St) : Option (T × St) :=
  bd2 (aNew s (nCells [.int .i64 0, .int .i64 0, .int .i64 0, .int .i64 0, .int .i64 0, .int .i64 0])) fun t0 s1 =>
  bd (asAggT (aFill [.int .i64 0, .int .i64 0, .int .i64 0, .int .i64 0] [(0, 1, (I .i64 60)), (1, 1, (I .i64 600)), (2, 1, (I .i64 6000)), (3, 1, (I .i64 0))])) fun t1 =>
  bd (asAggT (aFill [.int .i64 0, .int .i64 0, .int .i64 0, .int .i64 0, .int .i64 0, .int .i64 0] [(0, 4, t1), (4, 1, (I .i64 8)), (5, 1, (I .i64 30))])) fun t2 =>
  bd2 (aStore 6 t0 t2 s1) fun _ s2 =>
  bd (rC (aLoadN 6 t0 s2.get) (some [])) fun l3 => bd (retT l3) fun r4 =>
  some (r4, s2)

theorem f49_eq (callf : CallF) (N : Nat) (s : St) : bodyC Tryz.prog callf N Tryz.f49 [] s = f49 callf N s := by kernel_rfl

theorem f49_run (d : Nat) (s : St) : R (d + 1) 49 [] s = f49 (R d) 8192 s := (runQ_body rfl Tryz.func49 (by kernel_rfl)).trans (f49_eq ..)

end
end Go.Proofs.YtlhbidbdmdcdeaaGreatDoor
