/-
  What functions that the laws reach compute, printed by a program of our own: each text is by definition the run of the code. No conditions.
-/
import Derived.Test.YtlhbidbdmdcdeaaGreatDoorWalk0
namespace Go.Proofs.YtlhbidbdmdcdeaaGreatDoor
open Go Go.Abs Go.Abs.F
set_option linter.unusedVariables false
noncomputable section
/- twinkeep/entry.id -/
def f50 (callf : CallF) (N : Nat) (a0 : T) (s : St) : Option (T × St) :=
  bd (aBin .geq a0 (I .i64 1)) fun t4 =>
  bd (gT (gd t4 true) (some a0)) fun t6 =>
  bd (gT (gd t4 true) (aBin .leq t6 (I .i64 1073741824))) fun t7 =>
  bd (aPick t4 t7 (B false)) fun t8 =>
  some (t8, s)

theorem f50_eq (callf : CallF) (N : Nat) (a0 : T) (s : St) : bodyC Tryz.prog callf N Tryz.f50 [a0] s = f50 callf N a0 s := by kernel_rfl

theorem f50_run (d : Nat) (a0 : T) (s : St) : R (d + 1) 50 [a0] s = f50 (R d) 8192 a0 s := (runQ_body rfl Tryz.func50 (by kernel_rfl)).trans (f50_eq ..)

/- twinkeep/entry.May -/
def f30 (callf : CallF) (N : Nat) (a0 : T) (s : St) : Option (T × St) :=
  bd2 (aNew s (nBox a0)) fun t1 s1 =>
  bd (aFieldAddr 1 t1) fun t6 =>
  bd (aLoad1 t6 s1.get) fun t7 =>
  bd (aBin .lss t7 (I .i64 0)) fun t8 =>
  bd (gT (gd t8 false) (aFieldAddr 1 t1)) fun t10 =>
  bd (gT (gd t8 false) (aLoad1 t10 s1.get)) fun t11 =>
  bd (gT (gd t8 false) (aBin .gtr t11 (I .i64 1073741824))) fun t12 =>
  bd (aPick t8 (B true) t12) fun t13 =>
  br t13 (some ((B false), s1))
  (bd (aFieldAddr 0 t1) fun t14 =>
  bd (aLoad1 t14 s1.get) fun t15 =>
  jn (bd (aBin .eql t15 (I .i64 1)) fun t17 =>
  br t17 (bd (aFieldAddr 7 t1) fun t18 =>
  bd (aLoad1 t18 s1.get) fun t19 =>
  bd (aBin .eql t19 (Z (.str []))) fun t20 =>
  bd (gT (gd t20 true) (aFieldAddr 2 t1)) fun t22 =>
  bd (gT (gd t20 true) (aLoad1 t22 s1.get)) fun t23 =>
  bd2 (gS (gd t20 true) s1 (callf 50 [t23] s1)) fun t24 s2 =>
  bd (aPick t20 t24 (B false)) fun t25 =>
  bd (gT (gd t25 true) (aFieldAddr 3 t1)) fun t27 =>
  bd (gT (gd t25 true) (aLoad1 t27 s2.get)) fun t28 =>
  bd (gT (gd t25 true) (aBin .geq t28 (I .i64 0))) fun t29 =>
  bd (aPick t25 t29 (B false)) fun t30 =>
  bd (gT (gd t30 true) (aFieldAddr 3 t1)) fun t32 =>
  bd (gT (gd t30 true) (aLoad1 t32 s2.get)) fun t33 =>
  bd (gT (gd t30 true) (aBin .lss t33 (I .i64 4))) fun t34 =>
  bd (aPick t30 t34 (B false)) fun t35 =>
  bd (gT (gd t35 true) (aFieldAddr 4 t1)) fun t37 =>
  bd (gT (gd t35 true) (aLoad1 t37 s2.get)) fun t38 =>
  bd (gT (gd t35 true) (aBin .geq t38 (I .i64 0))) fun t39 =>
  bd (aPick t35 t39 (B false)) fun t40 =>
  bd (gT (gd t40 true) (aFieldAddr 4 t1)) fun t42 =>
  bd (gT (gd t40 true) (aLoad1 t42 s2.get)) fun t43 =>
  bd (gT (gd t40 true) (aFieldAddr 5 t1)) fun t44 =>
  bd (gT (gd t40 true) (aLoad1 t44 s2.get)) fun t45 =>
  bd (gT (gd t40 true) (aBin .lss t43 t45)) fun t46 =>
  bd (aPick t40 t46 (B false)) fun t47 =>
  bd (gT (gd t47 true) (aFieldAddr 5 t1)) fun t49 =>
  bd (gT (gd t47 true) (aLoad1 t49 s2.get)) fun t50 =>
  bd (gT (gd t47 true) (aBin .leq t50 (I .i64 1099511627776))) fun t51 =>
  bd (aPick t47 t51 (B false)) fun t52 =>
  some (.ret t52, s2))
  (bd (aBin .eql t15 (I .i64 2)) fun t54 =>
  br t54 (bd (aFieldAddr 2 t1) fun t55 =>
  bd (aLoad1 t55 s1.get) fun t56 =>
  bd2 (callf 50 [t56] s1) fun t57 s3 =>
  bd (gT (gd t57 true) (aLoadN 8 t1 s3.get)) fun t59 =>
  bd (gT (gd t57 true) (aFieldAddr 1 t1)) fun t60 =>
  bd (gT (gd t57 true) (aLoad1 t60 s3.get)) fun t61 =>
  bd (gT (gd t57 true) (aFieldAddr 2 t1)) fun t62 =>
  bd (gT (gd t57 true) (aLoad1 t62 s3.get)) fun t63 =>
  bd (gT (gd t57 true) (asAggT (aFill [.int .i64 0, .int .i64 0, .int .i64 0, .int .i64 0, .int .i64 0, .int .i64 0, .int .u32 0, .str []] [(0, 1, (I .i64 2)), (1, 1, t61), (2, 1, t63)]))) fun t64 =>
  bd (gT (gd t57 true) (eqB (.a 8 [(0, .i), (1, .i), (2, .i), (3, .i), (4, .i), (5, .i), (6, .i), (7, .s)]) t59 t64)) fun t65 =>
  bd (aPick t57 t65 (B false)) fun t66 =>
  some (.ret t66, s3))
  (bd (aBin .eql t15 (I .i64 3)) fun t68 =>
  br t68 (bd (aFieldAddr 1 t1) fun t69 =>
  bd (aLoad1 t69 s1.get) fun t70 =>
  bd (aBin .gtr t70 (I .i64 0)) fun t71 =>
  bd (gT (gd t71 true) (aLoadN 8 t1 s1.get)) fun t73 =>
  bd (gT (gd t71 true) (aFieldAddr 1 t1)) fun t74 =>
  bd (gT (gd t71 true) (aLoad1 t74 s1.get)) fun t75 =>
  bd (gT (gd t71 true) (asAggT (aFill [.int .i64 0, .int .i64 0, .int .i64 0, .int .i64 0, .int .i64 0, .int .i64 0, .int .u32 0, .str []] [(0, 1, (I .i64 3)), (1, 1, t75)]))) fun t76 =>
  bd (gT (gd t71 true) (eqB (.a 8 [(0, .i), (1, .i), (2, .i), (3, .i), (4, .i), (5, .i), (6, .i), (7, .s)]) t73 t76)) fun t77 =>
  bd (aPick t71 t77 (B false)) fun t78 =>
  some (.ret t78, s1))
  (bd (aBin .eql t15 (I .i64 4)) fun t80 =>
  br t80 (bd (aFieldAddr 7 t1) fun t81 =>
  bd (aLoad1 t81 s1.get) fun t82 =>
  bd (aLenStr t82) fun t83 =>
  bd (aBin .gtr t83 (I .i64 300)) fun t84 =>
  bd (gT (gd t84 false) (aLoadN 8 t1 s1.get)) fun t86 =>
  bd (gT (gd t84 false) (aFieldAddr 1 t1)) fun t87 =>
  bd (gT (gd t84 false) (aLoad1 t87 s1.get)) fun t88 =>
  bd (gT (gd t84 false) (aFieldAddr 7 t1)) fun t89 =>
  bd (gT (gd t84 false) (aLoad1 t89 s1.get)) fun t90 =>
  bd (gT (gd t84 false) (asAggT (aFill [.int .i64 0, .int .i64 0, .int .i64 0, .int .i64 0, .int .i64 0, .int .i64 0, .int .u32 0, .str []] [(0, 1, (I .i64 4)), (1, 1, t88), (7, 1, t90)]))) fun t91 =>
  bd (gT (gd t84 false) (neB (.a 8 [(0, .i), (1, .i), (2, .i), (3, .i), (4, .i), (5, .i), (6, .i), (7, .s)]) t86 t91)) fun t92 =>
  bd (aPick t84 (B true) t92) fun t93 =>
  br t93 (some (.ret (B false), s1))
  (bd (aFieldAddr 7 t1) fun t95 =>
  bd (aLoad1 t95 s1.get) fun t96 =>
  bd2 (callf 51 [t96] s1) fun t97 s4 =>
  bd (aExtract t97 0) fun t98 =>
  bd (aExtract t97 1) fun t99 =>
  bd (aExtract t97 2) fun t100 =>
  bd2 (aNew s4 (nCells [.int .i64 0, .int .i64 0, .int .i64 0, .int .i64 0, .int .i64 0, .int .i64 0])) fun t3 s5 =>
  bd2 (aStore 6 t3 t98 s5) fun _ s6 =>
  bd (aBin .eql t99 (I .i64 0)) fun t102 =>
  some (.ret t102, s6)))
  (some (.normal [], s1))))))
  (fun v7 s8 => some ((B false), s8))
  (fun i9 v7 s8 => none)
  (fun r10 s8 => some (r10, s8)))

theorem f30_eq (callf : CallF) (N : Nat) (a0 : T) (s : St) : bodyC Tryz.prog callf N Tryz.f30 [a0] s = f30 callf N a0 s := by kernel_rfl

theorem f30_run (d : Nat) (a0 : T) (s : St) : R (d + 1) 30 [a0] s = f30 (R d) 8192 a0 s := (runQ_body rfl Tryz.func30 (by kernel_rfl)).trans (f30_eq ..)

/- twinkeep/entry.Put: a loop; 0: t1 e, 1: t4 b, 2: t53 , 3: t54 , 4: t55  -/
def f31_l1 (callf : CallF) (N : Nat) (v : List T) (s : St) : Option (JO × St) :=
  bd (aBin .lss (v.getD 4 .any) (v.getD 3 .any)) fun t56 =>
  br t56 (jn (bd (aIndexSl 1 (v.getD 2 .any) (v.getD 4 .any)) fun t57 =>
  bd (aLoad1 t57 s.get) fun t58 =>
  bd2 (callf 52 [t58] s) fun t61 s26 =>
  bd2 (aAppend 1 1 (v.getD 1 .any) t61 s26) fun t62 s27 =>
  some (.normal [(v.getD 0 .any), t62, (v.getD 2 .any), (v.getD 3 .any), (v.getD 4 .any)], s27))
  (fun v28 s29 => bd (aBin .add (v28.getD 4 .any) (I .i64 1)) fun t63 =>
  some (.normal [(v28.getD 0 .any), (v28.getD 1 .any), (v28.getD 2 .any), (v28.getD 3 .any), t63], s29))
  (fun i30 v28 s29 => some (.exit i30 v28, s29))
  (fun r31 s29 => some (.ret r31, s29)))
  (some (.exit 1 [(v.getD 0 .any), (v.getD 1 .any)], s))

/- twinkeep/entry.Put -/
def f31 (callf : CallF) (N : Nat) (a0 : T) (s : St) : Option (T × St) :=
  bd2 (aNew s (nBox a0)) fun t1 s1 =>
  bd (aLoadN 8 t1 s1.get) fun t8 =>
  bd2 (callf 30 [t8] s1) fun t9 s2 =>
  bd (aUn .not t9) fun t10 =>
  br t10 (bd (retT [(Z .nils), (I .i64 1)]) fun r3 =>
  some (r3, s2))
  (bd (aFieldAddr 0 t1) fun t11 =>
  bd (aLoad1 t11 s2.get) fun t12 =>
  bd (aConv .u8 t12) fun t13 =>
  bd2 (aNew s2 (nSlice 1 (aFill [.int .u8 0] [(0, 1, t13)]))) fun t14 s4 =>
  bd (aFieldAddr 1 t1) fun t15 =>
  bd (aLoad1 t15 s4.get) fun t16 =>
  bd (aConv .u64 t16) fun t17 =>
  bd2 (callf 52 [t17] s4) fun t18 s5 =>
  bd2 (aAppend 1 1 t14 t18 s5) fun t19 s6 =>
  ck ((decide (aLoad1 t11 (overlay 8 s5.get (ovO 3 s2.size (nSlice 1 (aFill [.int .u8 0] [(0, 1, t13)])) [])) = aLoad1 t11 s2.get) && true) && true) (bd (aFieldAddr 0 t1) fun t20 =>
  bd (aLoad1 t20 s6.get) fun t21 =>
  jn (bd (aBin .eql t21 (I .i64 1)) fun t23 =>
  jn (br t23 (bd (aFieldAddr 2 t1) fun t24 =>
  bd (aLoad1 t24 s6.get) fun t25 =>
  bd (aConv .u64 t25) fun t26 =>
  bd (aFieldAddr 3 t1) fun t27 =>
  bd (aLoad1 t27 s6.get) fun t28 =>
  bd (aConv .u64 t28) fun t29 =>
  bd (aFieldAddr 4 t1) fun t30 =>
  bd (aLoad1 t30 s6.get) fun t31 =>
  bd (aConv .u64 t31) fun t32 =>
  bd (aFieldAddr 5 t1) fun t33 =>
  bd (aLoad1 t33 s6.get) fun t34 =>
  bd (aConv .u64 t34) fun t35 =>
  bd (aFieldAddr 6 t1) fun t36 =>
  bd (aLoad1 t36 s6.get) fun t37 =>
  bd (aConv .u64 t37) fun t38 =>
  bd2 (aNew s6 (nSlice 5 (aFill [.int .u64 0, .int .u64 0, .int .u64 0, .int .u64 0, .int .u64 0] [(0, 1, t26), (1, 1, t29), (2, 1, t32), (3, 1, t35), (4, 1, t38)]))) fun t39 s7 =>
  some (.normal [t1, t19, t39], s7))
  (bd (aBin .eql t21 (I .i64 2)) fun t41 =>
  jn (br t41 (bd (aFieldAddr 2 t1) fun t42 =>
  bd (aLoad1 t42 s6.get) fun t43 =>
  bd (aConv .u64 t43) fun t44 =>
  bd2 (aNew s6 (nSlice 1 (aFill [.int .u64 0] [(0, 1, t44)]))) fun t45 s8 =>
  some (.normal [t1, t19, t45], s8))
  (bd (aBin .eql t21 (I .i64 4)) fun t47 =>
  jn (br t47 (bd (aFieldAddr 7 t1) fun t48 =>
  bd (aLoad1 t48 s6.get) fun t49 =>
  bd (aLenStr t49) fun t50 =>
  bd (aConv .u64 t50) fun t51 =>
  bd2 (aNew s6 (nSlice 1 (aFill [.int .u64 0] [(0, 1, t51)]))) fun t52 s9 =>
  some (.normal [t1, t19, t52], s9))
  (some (.normal [t1, t19, (Z .nils)], s6)))
  (fun v10 s11 => some (.normal [(v10.getD 0 .any), (v10.getD 1 .any), (v10.getD 2 .any)], s11))
  (fun i12 v10 s11 => some (.exit i12 v10, s11))
  (fun r13 s11 => some (.ret r13, s11))))
  (fun v14 s15 => some (.normal [(v14.getD 0 .any), (v14.getD 1 .any), (v14.getD 2 .any)], s15))
  (fun i16 v14 s15 => some (.exit i16 v14, s15))
  (fun r17 s15 => some (.ret r17, s15))))
  (fun v18 s19 => some (.normal [(v18.getD 0 .any), (v18.getD 1 .any), (v18.getD 2 .any)], s19))
  (fun i20 v18 s19 => if i20 = 0 then some (.normal v18, s19) else some (.exit i20 v18, s19))
  (fun r21 s19 => some (.ret r21, s19)))
  (fun v22 s23 => bd (aLenSl (v22.getD 2 .any)) fun t54 =>
  jn (jn (loops (f31_l1 callf N) N [(v22.getD 0 .any), (v22.getD 1 .any), (v22.getD 2 .any), t54, (I .i64 0)] s23)
  (fun v32 s33 => some (.normal [.any, .any], s33))
  (fun i34 v32 s33 => if i34 = 1 then some (.normal v32, s33) else some (.exit i34 v32, s33))
  (fun r35 s33 => some (.ret r35, s33)))
  (fun v36 s37 => bd (aFieldAddr 7 (v36.getD 0 .any)) fun t65 =>
  bd (aLoad1 t65 s37.get) fun t66 =>
  bd2 (aAppend 1 1 (v36.getD 1 .any) t66 s37) fun t67 s40 =>
  bd (retT [t67, (I .i64 0)]) fun r41 =>
  some (r41, s40))
  (fun i38 v36 s37 => none)
  (fun r39 s37 => some (r39, s37)))
  (fun i24 v22 s23 => none)
  (fun r25 s23 => some (r25, s23))))

theorem f31_eq (callf : CallF) (N : Nat) (a0 : T) (s : St) : bodyC Tryz.prog callf N Tryz.f31 [a0] s = f31 callf N a0 s := by kernel_rfl

theorem f31_run (d : Nat) (a0 : T) (s : St) : R (d + 1) 31 [a0] s = f31 (R d) 8192 a0 s := (runQ_body rfl Tryz.func31 (by kernel_rfl)).trans (f31_eq ..)

/- twinkeep/entry.Get -/
def f33 (callf : CallF) (N : Nat) (a0 : T) (s : St) : Option (T × St) :=
  bd2 (aNew s (nBox a0)) fun t1 s1 =>
  bd2 (aNew s1 (nCells [.int .i64 0, .int .i64 0, .int .i64 0, .int .i64 0, .int .i64 0, .int .i64 0, .int .u32 0, .str []])) fun t2 s2 =>
  bd (aLoad1 t1 s2.get) fun t11 =>
  bd (aLenSl t11) fun t12 =>
  bd (aBin .eql t12 (I .i64 0)) fun t13 =>
  br t13 (bd (asAggT (aFill [.int .i64 0, .int .i64 0, .int .i64 0, .int .i64 0, .int .i64 0, .int .i64 0, .int .u32 0, .str []] [])) fun t14 =>
  bd2 (aStore 8 t2 t14 s2) fun _ s3 =>
  bd (rC (aLoadN 8 t2 s3.get) (rT (I .i64 2) (some []))) fun l4 => bd (retT l4) fun r5 =>
  some (r5, s3))
  (bd2 (aNew s2 (nCells [.int .i64 0])) fun t4 s6 =>
  bd2 (aNew s6 (nCells [.bool false])) fun t5 s7 =>
  bd2 (aStore 1 t4 (I .i64 1) s7) fun _ s8 =>
  bd2 (aStore 1 t5 (B false) s8) fun _ s9 =>
  bd (aClo 53 [t1, t4, t5] []) fun t15 =>
  bd (aLoad1 t1 s9.get) fun t16 =>
  bd (aIndexSl 1 t16 (I .i64 0)) fun t17 =>
  bd (aLoad1 t17 s9.get) fun t18 =>
  bd (aConv .i64 t18) fun t19 =>
  bd2 (dyn Tryz.prog callf t15 [(I .u64 1073741824)] s9) fun t21 s10 =>
  bd (asAggT (aFill [.int .i64 0, .int .i64 0, .int .i64 0, .int .i64 0, .int .i64 0, .int .i64 0, .int .u32 0, .str []] [(0, 1, t19), (1, 1, t21)])) fun t22 =>
  bd2 (aNew s10 (nCells [.int .i64 0, .int .i64 0, .int .i64 0, .int .i64 0, .int .i64 0, .int .i64 0, .int .u32 0, .str []])) fun t7 s11 =>
  bd2 (aStore 8 t7 t22 s11) fun _ s12 =>
  ck ((decide (aLoad1 t1 (updM (s10.get) s10.size (.cells true [.int .i64 0, .int .i64 0, .int .i64 0, .int .i64 0, .int .i64 0, .int .i64 0, .int .u32 0, .str []])) = aLoad1 t1 s9.get) && true) && ((decide (aLoad1 t17 (updM (s10.get) s10.size (.cells true [.int .i64 0, .int .i64 0, .int .i64 0, .int .i64 0, .int .i64 0, .int .i64 0, .int .u32 0, .str []])) = aLoad1 t17 s9.get) && true) && true)) (bd (aFieldAddr 0 t7) fun t23 =>
  bd (aLoad1 t23 s12.get) fun t24 =>
  jn (bd (aBin .eql t24 (I .i64 1)) fun t26 =>
  jn (br t26 (bd2 (dyn Tryz.prog callf t15 [(I .u64 1073741824)] s12) fun t28 s13 =>
  bd2 (dyn Tryz.prog callf t15 [(I .u64 4)] s13) fun t30 s14 =>
  bd (aFieldAddr 2 t7) fun t31 =>
  bd2 (aStore 1 t31 t28 s14) fun _ s15 =>
  bd (aFieldAddr 3 t7) fun t32 =>
  bd2 (aStore 1 t32 t30 s15) fun _ s16 =>
  bd2 (dyn Tryz.prog callf t15 [(I .u64 1099511627776)] s16) fun t34 s17 =>
  bd2 (dyn Tryz.prog callf t15 [(I .u64 1099511627776)] s17) fun t36 s18 =>
  bd (aFieldAddr 4 t7) fun t37 =>
  bd2 (aStore 1 t37 t34 s18) fun _ s19 =>
  bd (aFieldAddr 5 t7) fun t38 =>
  bd2 (aStore 1 t38 t36 s19) fun _ s20 =>
  bd2 (dyn Tryz.prog callf t15 [(I .u64 4294967295)] s20) fun t40 s21 =>
  bd (aConv .u32 t40) fun t41 =>
  bd (aFieldAddr 6 t7) fun t42 =>
  bd2 (aStore 1 t42 t41 s21) fun _ s22 =>
  some (.normal [t1, t2, t5, t7], s22))
  (bd (aBin .eql t24 (I .i64 2)) fun t44 =>
  jn (br t44 (bd2 (dyn Tryz.prog callf t15 [(I .u64 1073741824)] s12) fun t46 s23 =>
  bd (aFieldAddr 2 t7) fun t47 =>
  bd2 (aStore 1 t47 t46 s23) fun _ s24 =>
  some (.normal [t1, t2, t5, t7], s24))
  (bd (aBin .eql t24 (I .i64 4)) fun t49 =>
  jn (br t49 (bd2 (dyn Tryz.prog callf t15 [(I .u64 300)] s12) fun t51 s25 =>
  bd (aLoad1 t5 s25.get) fun t52 =>
  bd (gT (gd t52 false) (some t51)) fun t54 =>
  bd (gT (gd t52 false) (aLoad1 t1 s25.get)) fun t55 =>
  bd (gT (gd t52 false) (aLenSl t55)) fun t56 =>
  bd (gT (gd t52 false) (aLoad1 t4 s25.get)) fun t57 =>
  bd (gT (gd t52 false) (aBin .sub t56 t57)) fun t58 =>
  bd (gT (gd t52 false) (aBin .gtr t54 t58)) fun t59 =>
  bd (aPick t52 (B true) t59) fun t60 =>
  br t60 (bd (asAggT (aFill [.int .i64 0, .int .i64 0, .int .i64 0, .int .i64 0, .int .i64 0, .int .i64 0, .int .u32 0, .str []] [])) fun t61 =>
  bd2 (aStore 8 t2 t61 s25) fun _ s26 =>
  bd (rC (aLoadN 8 t2 s26.get) (rT (I .i64 2) (some []))) fun l27 => bd (retT l27) fun r28 =>
  some (.ret r28, s26))
  (bd (aLoad1 t1 s25.get) fun t62 =>
  bd (aLoad1 t4 s25.get) fun t63 =>
  bd (aLoad1 t4 s25.get) fun t64 =>
  bd (aBin .add t64 t51) fun t66 =>
  bd (aPieceSl 1 t62 (some t63) (some t66) none) fun t67 =>
  bd (aBytesStr t67 s25.get) fun t68 =>
  bd (aFieldAddr 7 t7) fun t69 =>
  bd2 (aStore 1 t69 t68 s25) fun _ s29 =>
  some (.normal [t1, t2, t5, t7], s29)))
  (some (.normal [t1, t2, t5, t7], s12)))
  (fun v30 s31 => some (.normal [(v30.getD 0 .any), (v30.getD 1 .any), (v30.getD 2 .any), (v30.getD 3 .any)], s31))
  (fun i32 v30 s31 => some (.exit i32 v30, s31))
  (fun r33 s31 => some (.ret r33, s31))))
  (fun v34 s35 => some (.normal [(v34.getD 0 .any), (v34.getD 1 .any), (v34.getD 2 .any), (v34.getD 3 .any)], s35))
  (fun i36 v34 s35 => some (.exit i36 v34, s35))
  (fun r37 s35 => some (.ret r37, s35))))
  (fun v38 s39 => some (.normal [(v38.getD 0 .any), (v38.getD 1 .any), (v38.getD 2 .any), (v38.getD 3 .any)], s39))
  (fun i40 v38 s39 => if i40 = 0 then some (.normal v38, s39) else some (.exit i40 v38, s39))
  (fun r41 s39 => some (.ret r41, s39)))
  (fun v42 s43 => bd (aLoadN 8 (v42.getD 3 .any) s43.get) fun t71 =>
  bd2 (callf 31 [t71] s43) fun t72 s46 =>
  bd (aExtract t72 0) fun t73 =>
  bd (aExtract t72 1) fun t74 =>
  bd (aLoad1 (v42.getD 2 .any) s46.get) fun t75 =>
  bd (gT (gd t75 false) (some t74)) fun t77 =>
  bd (gT (gd t75 false) (aBin .neq t77 (I .i64 0))) fun t78 =>
  bd (aPick t75 (B true) t78) fun t79 =>
  bd (gT (gd t79 false) (some t73)) fun t81 =>
  bd (gT (gd t79 false) (aLoad1 (v42.getD 0 .any) s46.get)) fun t82 =>
  bd2 (gS (gd t79 false) s46 (callf 55 [t81, t82] s46)) fun t83 s47 =>
  bd (gT (gd t79 false) (aUn .not t83)) fun t84 =>
  bd (aPick t79 (B true) t84) fun t85 =>
  br t85 (bd (asAggT (aFill [.int .i64 0, .int .i64 0, .int .i64 0, .int .i64 0, .int .i64 0, .int .i64 0, .int .u32 0, .str []] [])) fun t86 =>
  bd2 (aStore 8 (v42.getD 1 .any) t86 s47) fun _ s48 =>
  bd (rC (aLoadN 8 (v42.getD 1 .any) s48.get) (rT (I .i64 2) (some []))) fun l49 => bd (retT l49) fun r50 =>
  some (r50, s48))
  (bd (aLoadN 8 (v42.getD 3 .any) s47.get) fun t87 =>
  bd2 (aStore 8 (v42.getD 1 .any) t87 s47) fun _ s51 =>
  bd (rC (aLoadN 8 (v42.getD 1 .any) s51.get) (rT (I .i64 0) (some []))) fun l52 => bd (retT l52) fun r53 =>
  some (r53, s51)))
  (fun i44 v42 s43 => none)
  (fun r45 s43 => some (r45, s43))))

theorem f33_eq (callf : CallF) (N : Nat) (a0 : T) (s : St) : bodyC Tryz.prog callf N Tryz.f33 [a0] s = f33 callf N a0 s := by kernel_rfl

theorem f33_run (d : Nat) (a0 : T) (s : St) : R (d + 1) 33 [a0] s = f33 (R d) 8192 a0 s := (runQ_body rfl Tryz.func33 (by kernel_rfl)).trans (f33_eq ..)

/- twinkeep/entry.Get$1 -/
def f53 (callf : CallF) (N : Nat) (a0 : T) (a1 : T) (a2 : T) (a3 : T) (s : St) : Option (T × St) :=
  bd (aLoad1 a1 s.get) fun t10 =>
  bd (aLoad1 a2 s.get) fun t11 =>
  bd2 (callf 54 [t10, t11] s) fun t12 s1 =>
  bd (aExtract t12 0) fun t13 =>
  bd (aExtract t12 1) fun t14 =>
  bd (aExtract t12 2) fun t15 =>
  bd (aLoad1 a3 s1.get) fun t16 =>
  bd (gT (gd t16 false) (some t15)) fun t18 =>
  bd (gT (gd t16 false) (aBin .neq t18 (I .i64 0))) fun t19 =>
  bd (aPick t16 (B true) t19) fun t20 =>
  bd (gT (gd t20 false) (some t13)) fun t22 =>
  bd (gT (gd t20 false) (some a0)) fun t23 =>
  bd (gT (gd t20 false) (aBin .gtr t22 t23)) fun t24 =>
  bd (aPick t20 (B true) t24) fun t25 =>
  bd2 (aStore 1 a3 t25 s1) fun _ s2 =>
  bd2 (aStore 1 a2 t14 s2) fun _ s3 =>
  bd (aFold aMin2 t13 [a0]) fun t29 =>
  bd (aConv .i64 t29) fun t30 =>
  some (t30, s3)

theorem f53_eq (callf : CallF) (N : Nat) (a0 : T) (a1 : T) (a2 : T) (a3 : T) (s : St) : bodyC Tryz.prog callf N Tryz.f53 [a0, a1, a2, a3] s = f53 callf N a0 a1 a2 a3 s := by kernel_rfl

theorem f53_run (d : Nat) (a0 : T) (a1 : T) (a2 : T) (a3 : T) (s : St) : R (d + 1) 53 [a0, a1, a2, a3] s = f53 (R d) 8192 a0 a1 a2 a3 s := (runQ_body rfl Tryz.func53 (by kernel_rfl)).trans (f53_eq ..)

/- twinkeep/entry.Same -/
def f39 (callf : CallF) (N : Nat) (a0 : T) (a1 : T) (s : St) : Option (T × St) :=
  bd2 (aNew s (nBox a0)) fun t2 s1 =>
  bd2 (aNew s1 (nBox a1)) fun t3 s2 =>
  bd (aLoadN 8 t2 s2.get) fun t5 =>
  bd (aLoadN 8 t3 s2.get) fun t6 =>
  bd (eqB (.a 8 [(0, .i), (1, .i), (2, .i), (3, .i), (4, .i), (5, .i), (6, .i), (7, .s)]) t5 t6) fun t7 =>
  some (t7, s2)

theorem f39_eq (callf : CallF) (N : Nat) (a0 : T) (a1 : T) (s : St) : bodyC Tryz.prog callf N Tryz.f39 [a0, a1] s = f39 callf N a0 a1 s := by kernel_rfl

theorem f39_run (d : Nat) (a0 : T) (a1 : T) (s : St) : R (d + 1) 39 [a0, a1] s = f39 (R d) 8192 a0 a1 s := (runQ_body rfl Tryz.func39 (by kernel_rfl)).trans (f39_eq ..)

/- twinkeep/entry.SameInfo -/
def f36 (callf : CallF) (N : Nat) (a0 : T) (a1 : T) (s : St) : Option (T × St) :=
  bd2 (callf 65 [a0, a1] s) fun t7 s1 =>
  some (t7, s1)

theorem f36_eq (callf : CallF) (N : Nat) (a0 : T) (a1 : T) (s : St) : bodyC Tryz.prog callf N Tryz.f36 [a0, a1] s = f36 callf N a0 a1 s := by kernel_rfl

theorem f36_run (d : Nat) (a0 : T) (a1 : T) (s : St) : R (d + 1) 36 [a0, a1] s = f36 (R d) 8192 a0 a1 s := (runQ_body rfl Tryz.func36 (by kernel_rfl)).trans (f36_eq ..)

/- twinkeep/entry.Fold: a loop; 0: t3 , 1: t6 s, 2: t11 , 3: t12 , 4: t13  -/
def f28_l1 (callf : CallF) (N : Nat) (v : List T) (s : St) : Option (JO × St) :=
  bd (aBin .lss (v.getD 4 .any) (v.getD 3 .any)) fun t14 =>
  br t14 (jn (bd (aIndexSl 8 (v.getD 2 .any) (v.getD 4 .any)) fun t15 =>
  bd (aLoadN 8 t15 s.get) fun t16 =>
  bd2 (aNew s (nCells [.int .i64 0, .int .i64 0, .int .i64 0, .int .i64 0, .int .i64 0, .int .i64 0, .int .u32 0, .str []])) fun t8 s3 =>
  bd2 (aStore 8 t8 t16 s3) fun _ s4 =>
  bd (aLoadN 8 t8 s4.get) fun t18 =>
  bd2 (callf 47 [(v.getD 1 .any), t18] s4) fun t19 s5 =>
  bd (aBin .neq t19 (I .i64 0)) fun t21 =>
  br t21 (bd (asAggT (aFill [.int .i64 0, .int .i64 0, .int .i64 0, .int .i64 0, .int .i64 0, .int .i64 0] [])) fun t22 =>
  bd2 (aStore 6 (v.getD 0 .any) t22 s5) fun _ s6 =>
  bd (rT (Z .nils) (rC (aLoadN 6 (v.getD 0 .any) s6.get) (rT (I .i64 0) (rT t19 (some []))))) fun l7 => bd (retT l7) fun r8 =>
  some (.ret r8, s6))
  (some (.normal [(v.getD 0 .any), (v.getD 1 .any), (v.getD 2 .any), (v.getD 3 .any), (v.getD 4 .any)], s5)))
  (fun v9 s10 => bd (aBin .add (v9.getD 4 .any) (I .i64 1)) fun t24 =>
  some (.normal [(v9.getD 0 .any), (v9.getD 1 .any), (v9.getD 2 .any), (v9.getD 3 .any), t24], s10))
  (fun i11 v9 s10 => some (.exit i11 v9, s10))
  (fun r12 s10 => some (.ret r12, s10)))
  (some (.exit 0 [(v.getD 0 .any), (v.getD 1 .any)], s))

/- twinkeep/entry.Fold -/
def f28 (callf : CallF) (N : Nat) (a0 : T) (s : St) : Option (T × St) :=
  bd2 (aNew s (nCells [.int .i64 0, .int .i64 0, .int .i64 0, .int .i64 0, .int .i64 0, .int .i64 0])) fun t3 s1 =>
  bd2 (callf 46 [] s1) fun t10 s2 =>
  bd (aLenSl a0) fun t12 =>
  jn (jn (loops (f28_l1 callf N) N [t3, t10, a0, t12, (I .i64 0)] s2)
  (fun v13 s14 => some (.normal [.any, .any], s14))
  (fun i15 v13 s14 => if i15 = 0 then some (.normal v13, s14) else some (.exit i15 v13, s14))
  (fun r16 s14 => some (.ret r16, s14)))
  (fun v17 s18 => bd2 (callf 48 [(v17.getD 1 .any)] s18) fun t26 s21 =>
  bd (aNil (v17.getD 1 .any)) fun t28 =>
  bd (aFieldAddr 2 t28) fun t29 =>
  bd (aLoadN 6 t29 s21.get) fun t30 =>
  bd (aNil (v17.getD 1 .any)) fun t32 =>
  bd (aFieldAddr 8 t32) fun t33 =>
  bd (aLoad1 t33 s21.get) fun t34 =>
  bd2 (aStore 6 (v17.getD 0 .any) t30 s21) fun _ s22 =>
  ck ((decide (aLoadN 6 t29 s18.get = aLoadN 6 t29 s21.get) && true) && ((decide (aLoad1 t33 s18.get = aLoad1 t33 s21.get) && (decide (aLoad1 t33 s22.get = aLoad1 t33 s21.get) && true)) && true)) (bd (rT t26 (rC (aLoadN 6 (v17.getD 0 .any) s22.get) (rT t34 (rT (I .i64 0) (some []))))) fun l23 => bd (retT l23) fun r24 =>
  some (r24, s22)))
  (fun i19 v17 s18 => none)
  (fun r20 s18 => some (r20, s18))

theorem f28_eq (callf : CallF) (N : Nat) (a0 : T) (s : St) : bodyC Tryz.prog callf N Tryz.f28 [a0] s = f28 callf N a0 s := by kernel_rfl

theorem f28_run (d : Nat) (a0 : T) (s : St) : R (d + 1) 28 [a0] s = f28 (R d) 8192 a0 s := (runQ_body rfl Tryz.func28 (by kernel_rfl)).trans (f28_eq ..)

/- twinkeep/entry.Begin -/
def f46 (callf : CallF) (N : Nat) (s : St) : Option (T × St) :=
  bd2 (aNew s (nMap)) fun t1 s1 =>
  bd2 (callf 49 [] s1) fun t2 s2 =>
  bd (asAggT (aFill [.nils, .nilm, .int .i64 0, .int .i64 0, .int .i64 0, .int .i64 0, .int .i64 0, .int .i64 0, .int .i64 0, .int .i64 0] [(1, 1, t1), (2, 6, t2)])) fun t3 =>
  bd2 (aNew s2 (nBox t3)) fun t4 s3 =>
  some (t4, s3)

theorem f46_eq (callf : CallF) (N : Nat) (s : St) : bodyC Tryz.prog callf N Tryz.f46 [] s = f46 callf N s := by kernel_rfl

theorem f46_run (d : Nat) (s : St) : R (d + 1) 46 [] s = f46 (R d) 8192 s := (runQ_body rfl Tryz.func46 (by kernel_rfl)).trans (f46_eq ..)

/- (twinkeep/entry.State).at -/
def f73 (callf : CallF) (N : Nat) (a0 : T) (a1 : T) (s : St) : Option (T × St) :=
  bd (aNil a0) fun t7 =>
  bd (aFieldAddr 0 t7) fun t8 =>
  bd (aLoad1 t8 s.get) fun t9 =>
  bd2 (callf 87 [t9, a1, (Z (.clo 88 []))] s) fun t11 s1 =>
  bd (aExtract t11 0) fun t12 =>
  bd (aExtract t11 1) fun t13 =>
  bd (retT [t12, t13]) fun r2 =>
  some (r2, s1)

theorem f73_eq (callf : CallF) (N : Nat) (a0 : T) (a1 : T) (s : St) : bodyC Tryz.prog callf N Tryz.f73 [a0, a1] s = f73 callf N a0 a1 s := by kernel_rfl

theorem f73_run (d : Nat) (a0 : T) (a1 : T) (s : St) : R (d + 1) 73 [a0, a1] s = f73 (R d) 8192 a0 a1 s := (runQ_body rfl Tryz.func73 (by kernel_rfl)).trans (f73_eq ..)

/- (twinkeep/entry.State).Asks -/
def f72 (callf : CallF) (N : Nat) (a0 : T) (a1 : T) (s : St) : Option (T × St) :=
  bd2 (aNew s (nBox a1)) fun t3 s1 =>
  bd (aFieldAddr 2 t3) fun t9 =>
  bd (aLoad1 t9 s1.get) fun t10 =>
  bd2 (callf 73 [a0, t10] s1) fun t11 s2 =>
  bd (aExtract t11 0) fun t12 =>
  bd (aExtract t11 1) fun t13 =>
  jn (bd (aLoadN 8 t3 s2.get) fun t15 =>
  bd2 (callf 30 [t15] s2) fun t16 s3 =>
  bd (aUn .not t16) fun t17 =>
  br t17 (some (.ret (I .i64 1), s3))
  (bd (aFieldAddr 0 t3) fun t19 =>
  bd (aLoad1 t19 s3.get) fun t20 =>
  bd (aBin .eql t20 (I .i64 1)) fun t21 =>
  bd (gT (gd t21 true) (some a0)) fun t23 =>
  bd (gT (gd t21 true) (aNil t23)) fun t24 =>
  bd (gT (gd t21 true) (aFieldAddr 1 t24)) fun t25 =>
  bd (gT (gd t21 true) (aLoad1 t25 s3.get)) fun t26 =>
  bd (gT (gd t21 true) (aFieldAddr 2 t3)) fun t27 =>
  bd (gT (gd t21 true) (aLoad1 t27 s3.get)) fun t28 =>
  bd (gT (gd t21 true) (Go.Abs.F.look .i false (.s (.bool false)) t26 t28 s3.get)) fun t29 =>
  bd (aPick t21 t29 (B false)) fun t30 =>
  br t30 (some (.ret (I .i64 7), s3))
  (bd (aFieldAddr 0 t3) fun t32 =>
  bd (aLoad1 t32 s3.get) fun t33 =>
  bd (aBin .eql t33 (I .i64 2)) fun t34 =>
  bd (gT (gd t34 true) (some t13)) fun t36 =>
  bd (gT (gd t34 true) (aUn .not t36)) fun t37 =>
  bd (aPick t34 t37 (B false)) fun t38 =>
  br t38 (some (.ret (I .i64 9), s3))
  (bd (aFieldAddr 1 t3) fun t40 =>
  bd (aLoad1 t40 s3.get) fun t41 =>
  bd (aNil a0) fun t43 =>
  bd (aFieldAddr 9 t43) fun t44 =>
  bd (aLoad1 t44 s3.get) fun t45 =>
  bd (aBin .lss t41 t45) fun t46 =>
  br t46 (some (.ret (I .i64 12), s3))
  (some (.normal [], s3))))))
  (fun v4 s5 => some ((I .i64 0), s5))
  (fun i6 v4 s5 => none)
  (fun r7 s5 => some (r7, s5))

theorem f72_eq (callf : CallF) (N : Nat) (a0 : T) (a1 : T) (s : St) : bodyC Tryz.prog callf N Tryz.f72 [a0, a1] s = f72 callf N a0 a1 s := by kernel_rfl

theorem f72_run (d : Nat) (a0 : T) (a1 : T) (s : St) : R (d + 1) 72 [a0, a1] s = f72 (R d) 8192 a0 a1 s := (runQ_body rfl Tryz.func72 (by kernel_rfl)).trans (f72_eq ..)

/- (twinkeep/entry.State).Next -/
def f47 (callf : CallF) (N : Nat) (a0 : T) (a1 : T) (s : St) : Option (T × St) :=
  bd2 (aNew s (nBox a1)) fun t3 s1 =>
  bd (aLoadN 8 t3 s1.get) fun t9 =>
  bd2 (callf 72 [a0, t9] s1) fun t10 s2 =>
  bd (aBin .neq t10 (I .i64 0)) fun t12 =>
  br t12 (some (t10, s2))
  (bd (aFieldAddr 2 t3) fun t16 =>
  bd (aLoad1 t16 s2.get) fun t17 =>
  bd2 (callf 73 [a0, t17] s2) fun t18 s3 =>
  bd (aExtract t18 0) fun t19 =>
  bd (aExtract t18 1) fun t20 =>
  bd (aFieldAddr 0 t3) fun t21 =>
  bd (aLoad1 t21 s3.get) fun t22 =>
  jn (bd (aBin .eql t22 (I .i64 1)) fun t24 =>
  jn (br t24 (bd (aNil a0) fun t26 =>
  bd (aFieldAddr 1 t26) fun t27 =>
  bd (aLoad1 t27 s3.get) fun t28 =>
  bd (aFieldAddr 2 t3) fun t29 =>
  bd (aLoad1 t29 s3.get) fun t30 =>
  bd2 (mset .i t28 t30 (B true) s3) fun _ s4 =>
  bd (aNil a0) fun t33 =>
  bd (aFieldAddr 0 t33) fun t34 =>
  bd (aLoad1 t34 s4.get) fun t35 =>
  bd (aFieldAddr 2 t3) fun t37 =>
  bd (aLoad1 t37 s4.get) fun t38 =>
  bd (aFieldAddr 3 t3) fun t39 =>
  bd (aLoad1 t39 s4.get) fun t40 =>
  bd (aFieldAddr 4 t3) fun t41 =>
  bd (aLoad1 t41 s4.get) fun t42 =>
  bd (aFieldAddr 5 t3) fun t43 =>
  bd (aLoad1 t43 s4.get) fun t44 =>
  bd (aFieldAddr 6 t3) fun t45 =>
  bd (aLoad1 t45 s4.get) fun t46 =>
  bd (asAggT (aFill [.int .i64 0, .int .i64 0, .int .i64 0, .int .i64 0, .int .u32 0] [(0, 1, t38), (1, 1, t40), (2, 1, t42), (3, 1, t44), (4, 1, t46)])) fun t47 =>
  bd2 (aNew s4 (nSlice 1 (aFill [.int .i64 0, .int .i64 0, .int .i64 0, .int .i64 0, .int .u32 0] [(0, 5, t47)]))) fun t48 s5 =>
  bd2 (callf 74 [t35, t19, t48] s5) fun t49 s6 =>
  bd (aNil a0) fun t50 =>
  bd (aFieldAddr 0 t50) fun t51 =>
  bd2 (aStore 1 t51 t49 s6) fun _ s7 =>
  some (.normal [a0, t3], s7))
  (bd (aBin .eql t22 (I .i64 2)) fun t53 =>
  jn (br t53 (bd (aNil a0) fun t56 =>
  bd (aFieldAddr 0 t56) fun t57 =>
  bd (aLoad1 t57 s3.get) fun t58 =>
  bd (aBin .add t19 (I .i64 1)) fun t61 =>
  bd2 (callf 75 [t58, t19, t61] s3) fun t62 s8 =>
  bd (aNil a0) fun t63 =>
  bd (aFieldAddr 0 t63) fun t64 =>
  bd2 (aStore 1 t64 t62 s8) fun _ s9 =>
  some (.normal [a0, t3], s9))
  (bd (aBin .eql t22 (I .i64 3)) fun t66 =>
  jn (br t66 (bd (aFieldAddr 1 t3) fun t68 =>
  bd (aLoad1 t68 s3.get) fun t69 =>
  bd (aNil a0) fun t70 =>
  bd (aFieldAddr 8 t70) fun t71 =>
  bd2 (aStore 1 t71 t69 s3) fun _ s10 =>
  some (.normal [a0, t3], s10))
  (bd (aBin .eql t22 (I .i64 4)) fun t73 =>
  jn (br t73 (bd (aFieldAddr 7 t3) fun t76 =>
  bd (aLoad1 t76 s3.get) fun t77 =>
  bd2 (callf 51 [t77] s3) fun t78 s11 =>
  bd (aExtract t78 0) fun t79 =>
  bd (aExtract t78 1) fun t80 =>
  bd (aExtract t78 2) fun t81 =>
  bd (aNil a0) fun t82 =>
  bd (aFieldAddr 2 t82) fun t83 =>
  bd2 (aStore 6 t83 t79 s11) fun _ s12 =>
  some (.normal [a0, t3], s12))
  (some (.normal [a0, t3], s3)))
  (fun v13 s14 => some (.normal [(v13.getD 0 .any), (v13.getD 1 .any)], s14))
  (fun i15 v13 s14 => some (.exit i15 v13, s14))
  (fun r16 s14 => some (.ret r16, s14))))
  (fun v17 s18 => some (.normal [(v17.getD 0 .any), (v17.getD 1 .any)], s18))
  (fun i19 v17 s18 => some (.exit i19 v17, s18))
  (fun r20 s18 => some (.ret r20, s18))))
  (fun v21 s22 => some (.normal [(v21.getD 0 .any), (v21.getD 1 .any)], s22))
  (fun i23 v21 s22 => some (.exit i23 v21, s22))
  (fun r24 s22 => some (.ret r24, s22))))
  (fun v25 s26 => some (.normal [(v25.getD 0 .any), (v25.getD 1 .any)], s26))
  (fun i27 v25 s26 => if i27 = 0 then some (.normal v25, s26) else some (.exit i27 v25, s26))
  (fun r28 s26 => some (.ret r28, s26)))
  (fun v29 s30 => bd (aFieldAddr 1 (v29.getD 1 .any)) fun t85 =>
  bd (aLoad1 t85 s30.get) fun t86 =>
  bd (aNil (v29.getD 0 .any)) fun t87 =>
  bd (aFieldAddr 9 t87) fun t88 =>
  bd2 (aStore 1 t88 t86 s30) fun _ s33 =>
  some ((I .i64 0), s33))
  (fun i31 v29 s30 => none)
  (fun r32 s30 => some (r32, s30)))

theorem f47_eq (callf : CallF) (N : Nat) (a0 : T) (a1 : T) (s : St) : bodyC Tryz.prog callf N Tryz.f47 [a0, a1] s = f47 callf N a0 a1 s := by kernel_rfl

theorem f47_run (d : Nat) (a0 : T) (a1 : T) (s : St) : R (d + 1) 47 [a0, a1] s = f47 (R d) 8192 a0 a1 s := (runQ_body rfl Tryz.func47 (by kernel_rfl)).trans (f47_eq ..)

/- (twinkeep/entry.State).Infos -/
def f48 (callf : CallF) (N : Nat) (a0 : T) (s : St) : Option (T × St) :=
  bd (aNil a0) fun t4 =>
  bd (aFieldAddr 0 t4) fun t5 =>
  bd (aLoad1 t5 s.get) fun t6 =>
  bd2 (callf 76 [t6] s) fun t7 s1 =>
  some (t7, s1)

theorem f48_eq (callf : CallF) (N : Nat) (a0 : T) (s : St) : bodyC Tryz.prog callf N Tryz.f48 [a0] s = f48 callf N a0 s := by kernel_rfl

theorem f48_run (d : Nat) (a0 : T) (s : St) : R (d + 1) 48 [a0] s = f48 (R d) 8192 a0 s := (runQ_body rfl Tryz.func48 (by kernel_rfl)).trans (f48_eq ..)

/- (twinkeep/entry.State).at$1 -/
def f88 (callf : CallF) (N : Nat) (a0 : T) (a1 : T) (s : St) : Option (T × St) :=
  bd2 (aNew s (nBox a0)) fun t2 s1 =>
  bd (aFieldAddr 0 t2) fun t5 =>
  bd (aLoad1 t5 s1.get) fun t6 =>
  bd (aBin .sub t6 a1) fun t8 =>
  some (t8, s1)

theorem f88_eq (callf : CallF) (N : Nat) (a0 : T) (a1 : T) (s : St) : bodyC Tryz.prog callf N Tryz.f88 [a0, a1] s = f88 callf N a0 a1 s := by kernel_rfl

theorem f88_run (d : Nat) (a0 : T) (a1 : T) (s : St) : R (d + 1) 88 [a0, a1] s = f88 (R d) 8192 a0 a1 s := (runQ_body rfl Tryz.func88 (by kernel_rfl)).trans (f88_eq ..)

end
end Go.Proofs.YtlhbidbdmdcdeaaGreatDoor
