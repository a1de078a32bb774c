/-
  Several texts in one: what functions that the law reaches compute. No conditions but those named in each line.
-/
import Derived.Test.YtcihabdmigpklaaGreatDoorFnsA
import Derived.Shelf.SlGeneric
import Derived.Shelf.SlIter.Nil
import Derived.Shelf.SortM.Plain
import Derived.Shelf.SortM.SortNone
import Derived.Ground.GgzProg
import Derived.Ground.SlgmProg
import Derived.Test.YtcihabdmigpklaaGreatDoorProg
import Derived.Test.YtcihabdmigpklaaGreatDoorChecked
import Derived.WalkKit
import Derived.Test.YtcihabdmigpklaaGreatDoorAbsE
import Derived.Test.YtcihabdmigpklaaGreatDoorFnsB
import Derived.Test.YtcihabdmigpklaaGreatDoorFnsC
set_option linter.unusedSimpArgs false
set_option linter.unusedVariables false
/-
  What functions that the law reaches compute, printed by a program of our own in small pieces that the kernel runs fast. No conditions.
-/
namespace Go.Proofs.YtcihabdmigpklaaGreatDoor
open Go Go.Abs Go.Abs.F
set_option linter.unusedVariables false
set_option maxRecDepth 100000
noncomputable section
/- vary.Zig -/
def f277 (o : Ops) (kf : CallF) (N : Nat) (a0 : T) (s : St) : Option (T × St) :=
 bd (o.lss a0 (I .i64 0)) fun t4 =>
 o.br t4 (bd (aUn .xor a0) fun t6 =>
 bd (o.cv .u64 t6) fun t7 =>
 bd (o.bin .shl t7 (I .u64 1)) fun t8 =>
 bd (o.bin .or t8 (I .u64 1)) fun t9 =>
 jT t9 s)
 (bd (o.cv .u64 a0) fun t11 =>
 bd (o.bin .shl t11 (I .u64 1)) fun t12 =>
 jT t12 s)
theorem f277_ok : Ok Tryz.prog 277 (fun c => L1 (f277 fast c 8192)) := ok1 (fun o c => f277 o c 8192) Tryz.func277 (by kernel_rfl) (fun c a0 s => by kernel_rfl)

/- policy.May -/
def f283_l1 (o : Ops) (kf : CallF) (N : Nat) (v : List T) (s : St) : Option (JO × St) :=
 o.vk v 0 fun v_0 =>
 o.vk v 1 fun v_1 =>
 o.vk v 2 fun v_2 =>
 bd (o.lss v_2 (I .i64 4)) fun t9 =>
 o.br t9 (jn (bd (aAtArr none 4 1 v_1 v_2) fun t11 =>
 bd (o.lss t11 (I .i64 0)) fun t13 =>
 bd (gF t13 (some t11)) fun t15 =>
 bd (gF t13 (o.gtr t15 (I .i64 1099511627776))) fun t16 =>
 bd (pT t13 t16) fun t17 =>
 o.br t17 (jR (B false) s)
 (bd (o.eql v_2 (I .i64 0)) fun t19 =>
 o.br t19 (nm [v_0, v_1, v_2] s)
 (bd (o.sub v_2 (I .i64 1)) fun t21 =>
 bd (o.fa 0 v_0) fun t22 =>
 bd (aIndexArr 4 1 t22 t21) fun t23 =>
 bd (o.ld t23 s) fun t24 =>
 bd (o.neq t11 (I .i64 0)) fun t26 =>
 bd (gU t26 (some t11)) fun t28 =>
 bd (gU t26 (some t24)) fun t29 =>
 bd (gU t26 (o.lss t28 t29)) fun t30 =>
 bd (gU t26 (some t30)) fun t31 =>
 bd (gF t31 (some t24)) fun t32 =>
 bd (gF t31 (o.eql t32 (I .i64 0))) fun t33 =>
 bd (gU t26 (pT t31 t33)) fun t34 =>
 bd (pF t26 t34) fun t35 =>
 o.br t35 (jR (B false) s)
 (nm [v_0, v_1, v_2] s))))
 (fun v2 s3 => o.vk v2 0 fun v2_0 =>
 o.vk v2 1 fun v2_1 =>
 o.vk v2 2 fun v2_2 =>
 bd (o.add v2_2 (I .i64 1)) fun t36 =>
 nm [v2_0, v2_1, t36] s3)
 (fun i4 v2 s3 => jE i4 v2 s3)
 (fun r5 s3 => jR r5 s3))
 (jE 0 [v_0] s)
def f283 (o : Ops) (kf : CallF) (N : Nat) (a0 : T) (s : St) : Option (T × St) :=
 bd2 (o.new s (nBox a0)) fun t1 s1 =>
 bd (o.fa 0 t1) fun t6 =>
 bd (o.ldn 4 t6 s1) fun t7 =>
 jn (jn (o.loops (f283_l1 o kf N) N [t1, t7, (I .i64 0)] s1)
 (fun v6 s7 => nm [.any] s7)
 (fun i8 v6 s7 => if i8 = 0 then nm v6 s7 else jE i8 v6 s7)
 (fun r9 s7 => jR r9 s7))
 (fun v10 s11 => o.vk v10 0 fun v10_0 =>
 bd (o.fa 0 v10_0) fun t37 =>
 bd (aIndexArr 4 1 t37 (I .i64 3)) fun t38 =>
 bd (o.ld t38 s11) fun t39 =>
 bd (o.eql t39 (I .i64 0)) fun t40 =>
 bd (gU t40 (o.fa 4 v10_0)) fun t42 =>
 bd (gU t40 (o.ld t42 s11)) fun t43 =>
 bd (gU t40 (o.geq t43 (I .i64 1))) fun t44 =>
 bd (pF t40 t44) fun t45 =>
 bd (gU t45 (o.fa 4 v10_0)) fun t47 =>
 bd (gU t45 (o.ld t47 s11)) fun t48 =>
 bd (gU t45 (o.leq t48 (I .i64 64))) fun t49 =>
 bd (pF t45 t49) fun t50 =>
 bd (gU t50 (o.fa 5 v10_0)) fun t52 =>
 bd (gU t50 (o.ld t52 s11)) fun t53 =>
 bd (gU t50 (o.geq t53 (I .i64 1))) fun t54 =>
 bd (pF t50 t54) fun t55 =>
 bd (gU t55 (o.fa 5 v10_0)) fun t57 =>
 bd (gU t55 (o.ld t57 s11)) fun t58 =>
 bd (gU t55 (o.leq t58 (I .i64 200))) fun t59 =>
 bd (pF t55 t59) fun t60 =>
 jT t60 s11)
 (fun i12 v10 s11 => none)
 (fun r13 s11 => jT r13 s11)
theorem f283_ok : Ok Tryz.prog 283 (fun c => L1 (f283 fast c 8192)) := ok1 (fun o c => f283 o c 8192) Tryz.func283 (by kernel_rfl) (fun c a0 s => by kernel_rfl)

/- log.Frame -/
def f284 (o : Ops) (kf : CallF) (N : Nat) (a0 : T) (s : St) : Option (T × St) :=
 bd2 (o.new s (nBox a0)) fun t1 s1 =>
 bd (o.ldn 8 t1 s1) fun t7 =>
 bd2 (kf 258 [t7] s1) fun t8 s2 =>
 bd (o.ex t8 0) fun t9 =>
 bd (o.ex t8 1) fun t10 =>
 bd (o.neq t10 (I .i64 0)) fun t12 =>
 o.br t12 (bd (retT [(Z .nils), t10]) fun r3 =>
 jT r3 s2)
 (bd2 (kf 193 [t9] s2) fun t15 s4 =>
 bd (retT [t15, (I .i64 0)]) fun r5 =>
 jT r5 s4)
theorem f284_ok : Ok Tryz.prog 284 (fun c => L1 (f284 fast c 8192)) := ok1 (fun o c => f284 o c 8192) Tryz.func284 (by kernel_rfl) (fun c a0 s => by kernel_rfl)

/- entry.Get$1 -/
def f285 (o : Ops) (kf : CallF) (N : Nat) (a0 a1 a2 a3 : T) (s : St) : Option (T × St) :=
 bd (o.ld a1 s) fun t10 =>
 bd (o.ld a2 s) fun t11 =>
 bd2 (kf 153 [t10, t11] s) fun t12 s1 =>
 bd (o.ex t12 0) fun t13 =>
 bd (o.ex t12 1) fun t14 =>
 bd (o.ex t12 2) fun t15 =>
 bd (o.ld a3 s1) fun t16 =>
 bd (gF t16 (some t15)) fun t18 =>
 bd (gF t16 (o.neq t18 (I .i64 0))) fun t19 =>
 bd (pT t16 t19) fun t20 =>
 bd (gF t20 (some t13)) fun t22 =>
 bd (gF t20 (some a0)) fun t23 =>
 bd (gF t20 (o.gtr t22 t23)) fun t24 =>
 bd (pT t20 t24) fun t25 =>
 bd2 (o.st 1 a3 t25 s1) fun u2 s3 =>
 bd2 (o.st 1 a2 t14 s3) fun u4 s5 =>
 bd (aFold aMin2 t13 [a0]) fun t29 =>
 bd (o.cv .i64 t29) fun t30 =>
 jT t30 s5
theorem f285_ok : Ok Tryz.prog 285 (fun c => L4 (f285 fast c 8192)) := ok4 (fun o c => f285 o c 8192) Tryz.func285 (by kernel_rfl) (fun c a0 a1 a2 a3 s => by kernel_rfl)

/- entry.May -/
def f286_1 (o : Ops) (kf : CallF) (N : Nat) (t54 t1 : T) (s1 : St) (t15 : T) : Option (JO × St) :=
 o.br t54 (bd (o.fa 2 t1) fun t55 =>
 bd (o.ld t55 s1) fun t56 =>
 bd2 (kf 351 [t56] s1) fun t57 s3 =>
 bd (gU t57 (o.ldn 8 t1 s3)) fun t59 =>
 bd (gU t57 (o.fa 1 t1)) fun t60 =>
 bd (gU t57 (o.ld t60 s3)) fun t61 =>
 bd (gU t57 (o.fa 2 t1)) fun t62 =>
 bd (gU t57 (o.ld t62 s3)) fun t63 =>
 bd (gU t57 (asAggT (aFill [.int .i64 0, .int .i64 0, .int .i64 0, .int .i64 0, .int .i64 0, .int .i64 0, .int .u32 0, .str []] [(0, 1, (I .i64 2)), (1, 1, t61), (2, 1, t63)]))) fun t64 =>
 bd (gU t57 (eqB (.a 8 [(0, .i), (1, .i), (2, .i), (3, .i), (4, .i), (5, .i), (6, .i), (7, .s)]) t59 t64)) fun t65 =>
 bd (pF t57 t65) fun t66 =>
 jR t66 s3)
 (bd (o.eql t15 (I .i64 3)) fun t68 =>
 o.br t68 (bd (o.fa 1 t1) fun t69 =>
 bd (o.ld t69 s1) fun t70 =>
 bd (o.gtr t70 (I .i64 0)) fun t71 =>
 bd (gU t71 (o.ldn 8 t1 s1)) fun t73 =>
 bd (gU t71 (o.fa 1 t1)) fun t74 =>
 bd (gU t71 (o.ld t74 s1)) fun t75 =>
 bd (gU t71 (asAggT (aFill [.int .i64 0, .int .i64 0, .int .i64 0, .int .i64 0, .int .i64 0, .int .i64 0, .int .u32 0, .str []] [(0, 1, (I .i64 3)), (1, 1, t75)]))) fun t76 =>
 bd (gU t71 (eqB (.a 8 [(0, .i), (1, .i), (2, .i), (3, .i), (4, .i), (5, .i), (6, .i), (7, .s)]) t73 t76)) fun t77 =>
 bd (pF t71 t77) fun t78 =>
 jR t78 s1)
 (bd (o.eql t15 (I .i64 4)) fun t80 =>
 o.br t80 (bd (o.fa 7 t1) fun t81 =>
 bd (o.ld t81 s1) fun t82 =>
 bd (aLenStr t82) fun t83 =>
 bd (o.gtr t83 (I .i64 300)) fun t84 =>
 bd (gF t84 (o.ldn 8 t1 s1)) fun t86 =>
 bd (gF t84 (o.fa 1 t1)) fun t87 =>
 bd (gF t84 (o.ld t87 s1)) fun t88 =>
 bd (gF t84 (o.fa 7 t1)) fun t89 =>
 bd (gF t84 (o.ld t89 s1)) fun t90 =>
 bd (gF t84 (asAggT (aFill [.int .i64 0, .int .i64 0, .int .i64 0, .int .i64 0, .int .i64 0, .int .i64 0, .int .u32 0, .str []] [(0, 1, (I .i64 4)), (1, 1, t88), (7, 1, t90)]))) fun t91 =>
 bd (gF t84 (neB (.a 8 [(0, .i), (1, .i), (2, .i), (3, .i), (4, .i), (5, .i), (6, .i), (7, .s)]) t86 t91)) fun t92 =>
 bd (pT t84 t92) fun t93 =>
 o.br t93 (jR (B false) s1)
 (bd (o.fa 7 t1) fun t95 =>
 bd (o.ld t95 s1) fun t96 =>
 bd2 (kf 195 [t96] s1) fun t97 s4 =>
 bd (o.ex t97 0) fun t98 =>
 bd (o.ex t97 1) fun t99 =>
 bd (o.ex t97 2) fun t100 =>
 bd2 (o.new s4 (nCells [.int .i64 0, .int .i64 0, .int .i64 0, .int .i64 0, .int .i64 0, .int .i64 0])) fun t3 s5 =>
 bd2 (o.st 6 t3 t98 s5) fun u6 s7 =>
 bd (o.eql t99 (I .i64 0)) fun t102 =>
 jR t102 s7))
 (nm [] s1)))
def f286 (o : Ops) (kf : CallF) (N : Nat) (a0 : T) (s : St) : Option (T × St) :=
 bd2 (o.new s (nBox a0)) fun t1 s1 =>
 bd (o.fa 1 t1) fun t6 =>
 bd (o.ld t6 s1) fun t7 =>
 bd (o.lss t7 (I .i64 0)) fun t8 =>
 bd (gF t8 (o.fa 1 t1)) fun t10 =>
 bd (gF t8 (o.ld t10 s1)) fun t11 =>
 bd (gF t8 (o.gtr t11 (I .i64 1073741824))) fun t12 =>
 bd (pT t8 t12) fun t13 =>
 o.br t13 (jT (B false) s1)
 (bd (o.fa 0 t1) fun t14 =>
 bd (o.ld t14 s1) fun t15 =>
 jn (bd (o.eql t15 (I .i64 1)) fun t17 =>
 o.br t17 (bd (o.fa 7 t1) fun t18 =>
 bd (o.ld t18 s1) fun t19 =>
 bd (o.eql t19 (Z (.str []))) fun t20 =>
 bd (gU t20 (o.fa 2 t1)) fun t22 =>
 bd (gU t20 (o.ld t22 s1)) fun t23 =>
 bd2 (gS (gd t20 true) s1 (kf 351 [t23] s1)) fun t24 s2 =>
 bd (pF t20 t24) fun t25 =>
 bd (gU t25 (o.fa 3 t1)) fun t27 =>
 bd (gU t25 (o.ld t27 s2)) fun t28 =>
 bd (gU t25 (o.geq t28 (I .i64 0))) fun t29 =>
 bd (pF t25 t29) fun t30 =>
 bd (gU t30 (o.fa 3 t1)) fun t32 =>
 bd (gU t30 (o.ld t32 s2)) fun t33 =>
 bd (gU t30 (o.lss t33 (I .i64 4))) fun t34 =>
 bd (pF t30 t34) fun t35 =>
 bd (gU t35 (o.fa 4 t1)) fun t37 =>
 bd (gU t35 (o.ld t37 s2)) fun t38 =>
 bd (gU t35 (o.geq t38 (I .i64 0))) fun t39 =>
 bd (pF t35 t39) fun t40 =>
 bd (gU t40 (o.fa 4 t1)) fun t42 =>
 bd (gU t40 (o.ld t42 s2)) fun t43 =>
 bd (gU t40 (o.fa 5 t1)) fun t44 =>
 bd (gU t40 (o.ld t44 s2)) fun t45 =>
 bd (gU t40 (o.lss t43 t45)) fun t46 =>
 bd (pF t40 t46) fun t47 =>
 bd (gU t47 (o.fa 5 t1)) fun t49 =>
 bd (gU t47 (o.ld t49 s2)) fun t50 =>
 bd (gU t47 (o.leq t50 (I .i64 1099511627776))) fun t51 =>
 bd (pF t47 t51) fun t52 =>
 jR t52 s2)
 (bd (o.eql t15 (I .i64 2)) fun t54 =>
 f286_1 o kf N t54 t1 s1 t15))
 (fun v8 s9 => jT (B false) s9)
 (fun i10 v8 s9 => none)
 (fun r11 s9 => jT r11 s9))
theorem f286_ok : Ok Tryz.prog 286 (fun c => L1 (f286 fast c 8192)) := ok1 (fun o c => f286 o c 8192) Tryz.func286 (by kernel_rfl) (fun c a0 s => by kernel_rfl)

/- slices.BinarySearchFunc[[]api.Info,api.Info,int] -/
def f287_l1 (o : Ops) (kf : CallF) (N : Nat) (v : List T) (s : St) : Option (JO × St) :=
 o.vk v 0 fun v_0 =>
 o.vk v 1 fun v_1 =>
 o.vk v 2 fun v_2 =>
 o.vk v 3 fun v_3 =>
 o.vk v 4 fun v_4 =>
 o.vk v 5 fun v_5 =>
 bd (o.lss v_4 v_5) fun t17 =>
 o.br t17 (jn (bd (o.add v_4 v_5) fun t20 =>
 bd (o.cv .u64 t20) fun t21 =>
 bd (o.bin .shr t21 (I .u64 1)) fun t22 =>
 bd (o.cv .i64 t22) fun t23 =>
 bd (o.ix 5 v_0 t23) fun t27 =>
 bd (o.ldn 5 t27 s) fun t28 =>
 bd2 (dyn Tryz.prog kf v_2 [t28, v_1] s) fun t30 s1 =>
 bd (o.lss t30 (I .i64 0)) fun t31 =>
 jn (o.br t31 (bd (o.add t23 (I .i64 1)) fun t33 =>
 nm [v_0, v_1, v_2, v_3, t33, v_5] s1)
 (nm [v_0, v_1, v_2, v_3, v_4, t23] s1))
 (fun v2 s3 => o.vk v2 0 fun v2_0 =>
 o.vk v2 1 fun v2_1 =>
 o.vk v2 2 fun v2_2 =>
 o.vk v2 3 fun v2_3 =>
 o.vk v2 4 fun v2_4 =>
 o.vk v2 5 fun v2_5 =>
 nm [v2_0, v2_1, v2_2, v2_3, v2_4, v2_5] s3)
 (fun i4 v2 s3 => if i4 = 1 then nm v2 s3 else jE i4 v2 s3)
 (fun r5 s3 => jR r5 s3))
 (fun v6 s7 => o.vk v6 0 fun v6_0 =>
 o.vk v6 1 fun v6_1 =>
 o.vk v6 2 fun v6_2 =>
 o.vk v6 3 fun v6_3 =>
 o.vk v6 4 fun v6_4 =>
 o.vk v6 5 fun v6_5 =>
 nm [v6_0, v6_1, v6_2, v6_3, v6_4, v6_5] s7)
 (fun i8 v6 s7 => jE i8 v6 s7)
 (fun r9 s7 => jR r9 s7))
 (jE 0 [v_0, v_1, v_2, v_3, v_4] s)
def f287 (o : Ops) (kf : CallF) (N : Nat) (a0 a1 a2 : T) (s : St) : Option (T × St) :=
 bd (o.ln a0) fun t13 =>
 jn (jn (o.loops (f287_l1 o kf N) N [a0, a1, a2, t13, (I .i64 0), t13] s)
 (fun v10 s11 => nm [.any, .any, .any, .any, .any] s11)
 (fun i12 v10 s11 => if i12 = 0 then nm v10 s11 else jE i12 v10 s11)
 (fun r13 s11 => jR r13 s11))
 (fun v14 s15 => o.vk v14 0 fun v14_0 =>
 o.vk v14 1 fun v14_1 =>
 o.vk v14 2 fun v14_2 =>
 o.vk v14 3 fun v14_3 =>
 o.vk v14 4 fun v14_4 =>
 bd (o.lss v14_4 v14_3) fun t38 =>
 bd (gU t38 (some v14_2)) fun t40 =>
 bd (gU t38 (some v14_0)) fun t41 =>
 bd (gU t38 (some v14_4)) fun t42 =>
 bd (gU t38 (o.ix 5 t41 t42)) fun t43 =>
 bd (gU t38 (o.ldn 5 t43 s15)) fun t44 =>
 bd (gU t38 (some v14_1)) fun t45 =>
 bd2 (gS (gd t38 true) s15 (dyn Tryz.prog kf t40 [t44, t45] s15)) fun t46 s18 =>
 bd (gU t38 (o.eql t46 (I .i64 0))) fun t47 =>
 bd (pF t38 t47) fun t48 =>
 bd (retT [v14_4, t48]) fun r19 =>
 jT r19 s18)
 (fun i16 v14 s15 => none)
 (fun r17 s15 => jT r17 s15)
theorem f287_ok : Ok Tryz.prog 287 (fun c => L3 (f287 fast c 8192)) := ok3 (fun o c => f287 o c 8192) Tryz.func287 (by kernel_rfl) (fun c a0 a1 a2 s => by kernel_rfl)

/- (entry.State).at$1 -/
def f288 (o : Ops) (kf : CallF) (N : Nat) (a0 a1 : T) (s : St) : Option (T × St) :=
 bd2 (o.new s (nBox a0)) fun t2 s1 =>
 bd (o.fa 0 t2) fun t5 =>
 bd (o.ld t5 s1) fun t6 =>
 bd (o.sub t6 a1) fun t8 =>
 jT t8 s1
theorem f288_ok : Ok Tryz.prog 288 (fun c => L2 (f288 fast c 8192)) := ok2 (fun o c => f288 o c 8192) Tryz.func288 (by kernel_rfl) (fun c a0 a1 s => by kernel_rfl)

/- slices.rotateRight[api.Info] -/
def f290 (o : Ops) (kf : CallF) (N : Nat) (a0 a1 : T) (s : St) : Option (T × St) :=
 bd (o.ln a0) fun t6 =>
 bd (o.sub t6 a1) fun t8 =>
 bd2 (kf 352 [a0, t8] s) fun t9 s1 =>
 bd (retT []) fun r2 =>
 jT r2 s1
theorem f290_ok : Ok Tryz.prog 290 (fun c => L2 (f290 fast c 8192)) := ok2 (fun o c => f290 o c 8192) Tryz.func290 (by kernel_rfl) (fun c a0 a1 s => by kernel_rfl)

/- internal/strconv.Itoa -/
def f294 (o : Ops) (kf : CallF) (N : Nat) (a0 : T) (s : St) : Option (T × St) :=
 bd2 (kf 353 [a0, (I .i64 10)] s) fun t4 s1 =>
 jT t4 s1
theorem f294_ok : Ok Tryz.prog 294 (fun c => L1 (f294 fast c 8192)) := ok1 (fun o c => f294 o c 8192) Tryz.func294 (by kernel_rfl) (fun c a0 s => by kernel_rfl)

/- (block.reader).count -/
def f295 (o : Ops) (kf : CallF) (N : Nat) (a0 a1 : T) (s : St) : Option (T × St) :=
 bd2 (kf 296 [a0] s) fun t7 s1 =>
 bd (o.cv .u64 a1) fun t10 =>
 bd (o.gtr t7 t10) fun t11 =>
 o.br t11 (bd (o.nil a0) fun t13 =>
 bd (o.fa 2 t13) fun t14 =>
 bd2 (o.st 1 t14 (B true) s1) fun u2 s3 =>
 jT (I .i64 0) s3)
 (bd (o.cv .i64 t7) fun t16 =>
 jT t16 s1)
theorem f295_ok : Ok Tryz.prog 295 (fun c => L2 (f295 fast c 8192)) := ok2 (fun o c => f295 o c 8192) Tryz.func295 (by kernel_rfl) (fun c a0 a1 s => by kernel_rfl)

/- (block.reader).next -/
def f296 (o : Ops) (kf : CallF) (N : Nat) (a0 : T) (s : St) : Option (T × St) :=
 bd (o.nil a0) fun t8 =>
 bd (o.fa 0 t8) fun t9 =>
 bd (o.ld t9 s) fun t10 =>
 bd (o.nil a0) fun t12 =>
 bd (o.fa 1 t12) fun t13 =>
 bd (o.ld t13 s) fun t14 =>
 bd2 (kf 153 [t10, t14] s) fun t15 s1 =>
 bd (o.ex t15 0) fun t16 =>
 bd (o.ex t15 1) fun t17 =>
 bd (o.ex t15 2) fun t18 =>
 bd (o.neq t18 (I .i64 0)) fun t20 =>
 jn (o.br t20 (bd (o.nil a0) fun t22 =>
 bd (o.fa 2 t22) fun t23 =>
 bd2 (o.st 1 t23 (B true) s1) fun u2 s3 =>
 nm [a0, t16, t17] s3)
 (nm [a0, t16, t17] s1))
 (fun v4 s5 => o.vk v4 0 fun v4_0 =>
 o.vk v4 1 fun v4_1 =>
 o.vk v4 2 fun v4_2 =>
 bd (o.nil v4_0) fun t26 =>
 bd (o.fa 1 t26) fun t27 =>
 bd2 (o.st 1 t27 v4_2 s5) fun u8 s9 =>
 jT v4_1 s9)
 (fun i6 v4 s5 => none)
 (fun r7 s5 => jT r7 s5)
theorem f296_ok : Ok Tryz.prog 296 (fun c => L1 (f296 fast c 8192)) := ok1 (fun o c => f296 o c 8192) Tryz.func296 (by kernel_rfl) (fun c a0 s => by kernel_rfl)

/- block.Put -/
def f297_l1 (o : Ops) (kf : CallF) (N : Nat) (v : List T) (s : St) : Option (JO × St) :=
 o.vk v 0 fun v_0 =>
 o.vk v 1 fun v_1 =>
 o.vk v 2 fun v_2 =>
 o.vk v 3 fun v_3 =>
 o.vk v 4 fun v_4 =>
 o.vk v 5 fun v_5 =>
 bd (o.lss v_5 v_4) fun t24 =>
 o.br t24 (jn (bd (o.ix 2 v_3 v_5) fun t26 =>
 bd (o.ldn 2 t26 s) fun t27 =>
 bd2 (o.new s (nCells [.int .i64 0, .int .i64 0])) fun t7 s4 =>
 bd2 (o.st 2 t7 t27 s4) fun u5 s6 =>
 bd (o.eql v_5 (I .i64 0)) fun t29 =>
 o.br t29 (bd (o.fa 0 t7) fun t31 =>
 bd (o.ld t31 s6) fun t32 =>
 bd (o.cv .u64 t32) fun t33 =>
 bd2 (kf 238 [t33] s6) fun t34 s7 =>
 bd2 (aAppend 1 1 v_1 t34 s7) fun t35 s8 =>
 bd (o.fa 1 t7) fun t36 =>
 bd (o.ld t36 s8) fun t37 =>
 bd2 (kf 277 [t37] s8) fun t38 s9 =>
 bd2 (kf 238 [t38] s9) fun t39 s10 =>
 bd2 (aAppend 1 1 t35 t39 s10) fun t40 s11 =>
 ck ((decide (o.ld t36 s6 = o.ld t36 s8) && (decide (o.ld t36 s7 = o.ld t36 s8) && true)) && true) (nm [v_0, t40, v_2, v_3, v_4, v_5] s11))
 (bd (o.fa 0 t7) fun t41 =>
 bd (o.ld t41 s6) fun t42 =>
 bd (o.sub v_5 (I .i64 1)) fun t45 =>
 bd (o.ix 2 v_0 t45) fun t46 =>
 bd (o.fa 0 t46) fun t47 =>
 bd (o.ld t47 s6) fun t48 =>
 bd (o.sub t42 t48) fun t49 =>
 bd (o.sub t49 v_2) fun t53 =>
 bd2 (kf 277 [t53] s6) fun t54 s12 =>
 bd2 (kf 238 [t54] s12) fun t55 s13 =>
 bd2 (aAppend 1 1 v_1 t55 s13) fun t56 s14 =>
 bd (o.fa 1 t7) fun t57 =>
 bd (o.ld t57 s14) fun t58 =>
 bd (o.sub v_5 (I .i64 1)) fun t61 =>
 bd (o.ix 2 v_0 t61) fun t62 =>
 bd (o.fa 1 t62) fun t63 =>
 bd (o.ld t63 s14) fun t64 =>
 bd (o.sub t58 t64) fun t65 =>
 bd2 (kf 277 [t65] s14) fun t66 s15 =>
 bd2 (kf 238 [t66] s15) fun t67 s16 =>
 bd2 (aAppend 1 1 t56 t67 s16) fun t68 s17 =>
 ck ((decide (o.ld t57 s6 = o.ld t57 s14) && (decide (o.ld t57 s12 = o.ld t57 s14) && (decide (o.ld t57 s13 = o.ld t57 s14) && true))) && ((decide (o.ld t63 s6 = o.ld t63 s14) && (decide (o.ld t63 s12 = o.ld t63 s14) && (decide (o.ld t63 s13 = o.ld t63 s14) && true))) && true)) (nm [v_0, t68, t49, v_3, v_4, v_5] s17)))
 (fun v18 s19 => o.vk v18 0 fun v18_0 =>
 o.vk v18 1 fun v18_1 =>
 o.vk v18 2 fun v18_2 =>
 o.vk v18 3 fun v18_3 =>
 o.vk v18 4 fun v18_4 =>
 o.vk v18 5 fun v18_5 =>
 bd (o.add v18_5 (I .i64 1)) fun t70 =>
 nm [v18_0, v18_1, v18_2, v18_3, v18_4, t70] s19)
 (fun i20 v18 s19 => jE i20 v18 s19)
 (fun r21 s19 => jR r21 s19))
 (jE 0 [v_1] s)
def f297 (o : Ops) (kf : CallF) (N : Nat) (a0 : T) (s : St) : Option (T × St) :=
 bd2 (kf 219 [a0] s) fun t10 s1 =>
 bd (aUn .not t10) fun t11 =>
 bd (gF t11 (some a0)) fun t13 =>
 bd (gF t11 (o.ln t13)) fun t14 =>
 bd (gF t11 (o.gtr t14 (I .i64 64))) fun t15 =>
 bd (pT t11 t15) fun t16 =>
 o.br t16 (bd (retT [(Z .nils), (I .i64 1)]) fun r2 =>
 jT r2 s1)
 (bd (o.ln a0) fun t18 =>
 bd (o.cv .u64 t18) fun t19 =>
 bd2 (kf 238 [t19] s1) fun t20 s3 =>
 bd (o.ln a0) fun t22 =>
 jn (jn (o.loops (f297_l1 o kf N) N [a0, t20, (I .i64 0), a0, t22, (I .i64 0)] s3)
 (fun v22 s23 => nm [.any] s23)
 (fun i24 v22 s23 => if i24 = 0 then nm v22 s23 else jE i24 v22 s23)
 (fun r25 s23 => jR r25 s23))
 (fun v26 s27 => o.vk v26 0 fun v26_0 =>
 bd (retT [v26_0, (I .i64 0)]) fun r30 =>
 jT r30 s27)
 (fun i28 v26 s27 => none)
 (fun r29 s27 => jT r29 s27))
theorem f297_ok : Ok Tryz.prog 297 (fun c => L1 (f297 fast c 8192)) := ok1 (fun o c => f297 o c 8192) Tryz.func297 (by kernel_rfl) (fun c a0 s => by kernel_rfl)

/- block.PutAggs -/
def f298_l1_1 (o : Ops) (kf : CallF) (N : Nat) (v_4 v_6 : T) (s : St) (v_0 v_3 v_2 v_1 v_5 : T) : Option (JO × St) :=
 jn (bd (o.ix 7 v_4 v_6) fun t30 =>
 bd (o.ldn 7 t30 s) fun t31 =>
 bd2 (o.new s (nCells [.int .i64 0, .int .i64 0, .int .i64 0, .int .i64 0, .int .i64 0, .int .i64 0, .int .i64 0])) fun t10 s7 =>
 bd2 (o.st 7 t10 t31 s7) fun u8 s9 =>
 bd (o.fa 0 t10) fun t32 =>
 bd (o.ld t32 s9) fun t33 =>
 bd2 (kf 135 [v_0] s9) fun t35 s10 =>
 bd (o.bin .quo t33 t35) fun t36 =>
 ck ((decide (o.ld t32 s10 = o.ld t32 s9) && true) && true) (bd (o.sub t36 v_3) fun t40 =>
 bd (o.sub t40 (I .i64 1)) fun t41 =>
 bd (o.cv .u64 t41) fun t42 =>
 bd2 (dyn Tryz.prog kf v_2 [t42] s10) fun t43 s11 =>
 bd (o.fa 1 t10) fun t45 =>
 bd (o.ld t45 s11) fun t46 =>
 bd (o.sub t46 (I .i64 1)) fun t47 =>
 bd (o.cv .u64 t47) fun t48 =>
 bd2 (dyn Tryz.prog kf v_2 [t48] s11) fun t49 s12 =>
 bd (o.fa 3 t10) fun t51 =>
 bd (o.ld t51 s12) fun t52 =>
 bd2 (kf 277 [t52] s12) fun t53 s13 =>
 bd2 (dyn Tryz.prog kf v_2 [t53] s13) fun t54 s14 =>
 bd (o.fa 1 t10) fun t56 =>
 bd (o.ld t56 s14) fun t57 =>
 bd (o.eql t57 (I .i64 1)) fun t58 =>
 o.br t58 (nm [v_0, v_1, v_2, t36, v_4, v_5, v_6] s14)
 (bd (o.fa 4 t10) fun t60 =>
 bd (o.ld t60 s14) fun t61 =>
 bd (o.cv .u64 t61) fun t62 =>
 bd (o.fa 3 t10) fun t63 =>
 bd (o.ld t63 s14) fun t64 =>
 bd (o.cv .u64 t64) fun t65 =>
 bd (o.sub t62 t65) fun t66 =>
 bd2 (dyn Tryz.prog kf v_2 [t66] s14) fun t67 s15 =>
 bd (o.fa 2 t10) fun t69 =>
 bd (o.ld t69 s15) fun t70 =>
 bd2 (kf 277 [t70] s15) fun t71 s16 =>
 bd2 (dyn Tryz.prog kf v_2 [t71] s16) fun t72 s17 =>
 bd (o.fa 5 t10) fun t74 =>
 bd (o.ld t74 s17) fun t75 =>
 bd (o.cv .u64 t75) fun t76 =>
 bd (o.fa 3 t10) fun t77 =>
 bd (o.ld t77 s17) fun t78 =>
 bd (o.cv .u64 t78) fun t79 =>
 bd (o.sub t76 t79) fun t80 =>
 bd2 (dyn Tryz.prog kf v_2 [t80] s17) fun t81 s18 =>
 bd (o.fa 6 t10) fun t83 =>
 bd (o.ld t83 s18) fun t84 =>
 bd (o.cv .u64 t84) fun t85 =>
 bd (o.fa 3 t10) fun t86 =>
 bd (o.ld t86 s18) fun t87 =>
 bd (o.cv .u64 t87) fun t88 =>
 bd (o.sub t85 t88) fun t89 =>
 bd2 (dyn Tryz.prog kf v_2 [t89] s18) fun t90 s19 =>
 nm [v_0, v_1, v_2, t36, v_4, v_5, v_6] s19)))
 (fun v20 s21 => o.vk v20 0 fun v20_0 =>
 o.vk v20 1 fun v20_1 =>
 o.vk v20 2 fun v20_2 =>
 o.vk v20 3 fun v20_3 =>
 o.vk v20 4 fun v20_4 =>
 o.vk v20 5 fun v20_5 =>
 o.vk v20 6 fun v20_6 =>
 bd (o.add v20_6 (I .i64 1)) fun t91 =>
 nm [v20_0, v20_1, v20_2, v20_3, v20_4, v20_5, t91] s21)
 (fun i22 v20 s21 => jE i22 v20 s21)
 (fun r23 s21 => jR r23 s21)
def f298_l1 (o : Ops) (kf : CallF) (N : Nat) (v : List T) (s : St) : Option (JO × St) :=
 o.vk v 0 fun v_0 =>
 o.vk v 1 fun v_1 =>
 o.vk v 2 fun v_2 =>
 o.vk v 3 fun v_3 =>
 o.vk v 4 fun v_4 =>
 o.vk v 5 fun v_5 =>
 o.vk v 6 fun v_6 =>
 bd (o.lss v_6 v_5) fun t29 =>
 o.br t29 (f298_l1_1 o kf N v_4 v_6 s v_0 v_3 v_2 v_1 v_5)
 (jE 0 [v_1] s)
def f298 (o : Ops) (kf : CallF) (N : Nat) (a0 a1 : T) (s : St) : Option (T × St) :=
 bd2 (kf 301 [a0, a1] s) fun t14 s1 =>
 bd (aUn .not t14) fun t15 =>
 bd (gF t15 (some a0)) fun t17 =>
 bd (gF t15 (o.ln t17)) fun t18 =>
 bd (gF t15 (o.gtr t18 (I .i64 64))) fun t19 =>
 bd (pT t15 t19) fun t20 =>
 o.br t20 (bd (retT [(Z .nils), (I .i64 1)]) fun r2 =>
 jT r2 s1)
 (bd (o.ln a0) fun t22 =>
 bd (o.cv .u64 t22) fun t23 =>
 bd2 (kf 238 [t23] s1) fun t24 s3 =>
 bd2 (o.new s3 (nCells [.nils])) fun t6 s4 =>
 bd2 (o.st 1 t6 t24 s4) fun u5 s6 =>
 bd (aClo 354 [t6] []) fun t25 =>
 bd (o.ln a0) fun t27 =>
 jn (jn (o.loops (f298_l1 o kf N) N [a1, t6, t25, (I .i64 (-1)), a0, t27, (I .i64 0)] s6)
 (fun v24 s25 => nm [.any] s25)
 (fun i26 v24 s25 => if i26 = 0 then nm v24 s25 else jE i26 v24 s25)
 (fun r27 s25 => jR r27 s25))
 (fun v28 s29 => o.vk v28 0 fun v28_0 =>
 bd (o.ld v28_0 s29) fun t92 =>
 bd (retT [t92, (I .i64 0)]) fun r32 =>
 jT r32 s29)
 (fun i30 v28 s29 => none)
 (fun r31 s29 => jT r31 s29))
theorem f298_ok : Ok Tryz.prog 298 (fun c => L2 (f298 fast c 8192)) := ok2 (fun o c => f298 o c 8192) Tryz.func298 (by kernel_rfl) (fun c a0 a1 s => by kernel_rfl)

/- segment.low -/
def f299 (o : Ops) (kf : CallF) (N : Nat) (a0 : T) (s : St) : Option (T × St) :=
 bd (o.cv .u8 a0) fun t4 =>
 bd (o.bin .shr a0 (I .u64 8)) fun t6 =>
 bd (o.cv .u8 t6) fun t7 =>
 bd (o.bin .shr a0 (I .u64 16)) fun t9 =>
 bd (o.cv .u8 t9) fun t10 =>
 bd (o.bin .shr a0 (I .u64 24)) fun t12 =>
 bd (o.cv .u8 t12) fun t13 =>
 bd2 (o.new s (nSlice 4 (aFill [.int .u8 0, .int .u8 0, .int .u8 0, .int .u8 0] [(0, 1, t4), (1, 1, t7), (2, 1, t10), (3, 1, t13)]))) fun t14 s1 =>
 jT t14 s1
theorem f299_ok : Ok Tryz.prog 299 (fun c => L1 (f299 fast c 8192)) := ok1 (fun o c => f299 o c 8192) Tryz.func299 (by kernel_rfl) (fun c a0 s => by kernel_rfl)

/- segment.Head -/
def f300 (o : Ops) (kf : CallF) (N : Nat) (a0 a1 a2 a3 : T) (s : St) : Option (T × St) :=
 bd (o.geq a0 (I .i64 1)) fun t10 =>
 bd (gU t10 (some a0)) fun t12 =>
 bd (gU t10 (o.leq t12 (I .i64 1073741824))) fun t13 =>
 bd (pF t10 t13) fun t14 =>
 bd (gU t14 (some a1)) fun t16 =>
 bd (gU t14 (o.geq t16 (I .i64 0))) fun t17 =>
 bd (pF t14 t17) fun t18 =>
 bd (gU t18 (some a1)) fun t20 =>
 bd (gU t18 (o.lss t20 (I .i64 4))) fun t21 =>
 bd (pF t18 t21) fun t22 =>
 bd (gU t22 (some a2)) fun t24 =>
 bd (gU t22 (o.geq t24 (I .i64 0))) fun t25 =>
 bd (pF t22 t25) fun t26 =>
 bd (gU t26 (some a2)) fun t28 =>
 bd (gU t26 (some a3)) fun t29 =>
 bd (gU t26 (o.lss t28 t29)) fun t30 =>
 bd (pF t26 t30) fun t31 =>
 bd (gU t31 (some a3)) fun t33 =>
 bd (gU t31 (o.leq t33 (I .i64 1099511627776))) fun t34 =>
 bd (pF t31 t34) fun t35 =>
 jT t35 s
theorem f300_ok : Ok Tryz.prog 300 (fun c => L4 (f300 fast c 8192)) := ok4 (fun o c => f300 o c 8192) Tryz.func300 (by kernel_rfl) (fun c a0 a1 a2 a3 s => by kernel_rfl)

/- tier.Aligned -/
def f301_l1 (o : Ops) (kf : CallF) (N : Nat) (v : List T) (s : St) : Option (JO × St) :=
 o.vk v 0 fun v_0 =>
 o.vk v 1 fun v_1 =>
 o.vk v 2 fun v_2 =>
 o.vk v 3 fun v_3 =>
 o.vk v 4 fun v_4 =>
 bd (o.lss v_4 v_3) fun t14 =>
 o.br t14 (jn (bd (o.ix 7 v_2 v_4) fun t15 =>
 bd (o.ldn 7 t15 s) fun t16 =>
 bd2 (o.new s (nCells [.int .i64 0, .int .i64 0, .int .i64 0, .int .i64 0, .int .i64 0, .int .i64 0, .int .i64 0])) fun t7 s2 =>
 bd2 (o.st 7 t7 t16 s2) fun u3 s4 =>
 bd (o.ldn 7 t7 s4) fun t17 =>
 bd2 (kf 356 [t17] s4) fun t18 s5 =>
 bd (aUn .not t18) fun t19 =>
 bd (gF t19 (o.fa 0 t7)) fun t21 =>
 bd (gF t19 (o.ld t21 s5)) fun t22 =>
 bd (gF t19 (o.fa 0 t7)) fun t23 =>
 bd (gF t19 (o.ld t23 s5)) fun t24 =>
 bd (gF t19 (some v_0)) fun t25 =>
 bd2 (gS (gd t19 false) s5 (kf 302 [t24, t25] s5)) fun t26 s6 =>
 bd (gF t19 (o.neq t22 t26)) fun t27 =>
 bd (pT t19 t27) fun t28 =>
 bd (gF t28 (o.fa 0 t7)) fun t30 =>
 bd (gF t28 (o.ld t30 s6)) fun t31 =>
 bd (gF t28 (some v_1)) fun t32 =>
 bd (gF t28 (o.leq t31 t32)) fun t33 =>
 bd (pT t28 t33) fun t34 =>
 ck ((wq (gd t19 false) (decide (o.ld t21 s6 = o.ld t21 s5)) && true) && true) (o.br t34 (jR (B false) s6)
 (bd (o.fa 0 t7) fun t35 =>
 bd (o.ld t35 s6) fun t36 =>
 nm [v_0, t36, v_2, v_3, v_4] s6)))
 (fun v7 s8 => o.vk v7 0 fun v7_0 =>
 o.vk v7 1 fun v7_1 =>
 o.vk v7 2 fun v7_2 =>
 o.vk v7 3 fun v7_3 =>
 o.vk v7 4 fun v7_4 =>
 bd (o.add v7_4 (I .i64 1)) fun t37 =>
 nm [v7_0, v7_1, v7_2, v7_3, t37] s8)
 (fun i9 v7 s8 => jE i9 v7 s8)
 (fun r10 s8 => jR r10 s8))
 (jE 0 [] s)
def f301 (o : Ops) (kf : CallF) (N : Nat) (a0 a1 : T) (s : St) : Option (T × St) :=
 bd2 (kf 355 [a1] s) fun t9 s1 =>
 bd (aUn .not t9) fun t10 =>
 o.br t10 (jT (B false) s1)
 (bd (o.ln a0) fun t12 =>
 jn (jn (o.loops (f301_l1 o kf N) N [a1, (I .i64 (-1)), a0, t12, (I .i64 0)] s1)
 (fun v11 s12 => nm [] s12)
 (fun i13 v11 s12 => if i13 = 0 then nm v11 s12 else jE i13 v11 s12)
 (fun r14 s12 => jR r14 s12))
 (fun v15 s16 => jT (B true) s16)
 (fun i17 v15 s16 => none)
 (fun r18 s16 => jT r18 s16))
theorem f301_ok : Ok Tryz.prog 301 (fun c => L2 (f301 fast c 8192)) := ok2 (fun o c => f301 o c 8192) Tryz.func301 (by kernel_rfl) (fun c a0 a1 s => by kernel_rfl)

/- tier.Floor -/
def f302 (o : Ops) (kf : CallF) (N : Nat) (a0 a1 : T) (s : St) : Option (T × St) :=
 bd2 (kf 135 [a1] s) fun t7 s1 =>
 bd (o.eql t7 (I .i64 0)) fun t9 =>
 bd (gF t9 (some a0)) fun t11 =>
 bd (gF t9 (o.lss t11 (I .i64 0))) fun t12 =>
 bd (pT t9 t12) fun t13 =>
 bd (gF t13 (some a0)) fun t15 =>
 bd (gF t13 (o.gtr t15 (I .i64 1099511627776))) fun t16 =>
 bd (pT t13 t16) fun t17 =>
 o.br t17 (jT (I .i64 (-1)) s1)
 (bd (o.bin .rem a0 t7) fun t21 =>
 bd (o.sub a0 t21) fun t22 =>
 jT t22 s1)
theorem f302_ok : Ok Tryz.prog 302 (fun c => L2 (f302 fast c 8192)) := ok2 (fun o c => f302 o c 8192) Tryz.func302 (by kernel_rfl) (fun c a0 a1 s => by kernel_rfl)

/- segment.Info -/
def f309 (o : Ops) (kf : CallF) (N : Nat) (a0 : T) (s : St) : Option (T × St) :=
 bd2 (o.new s (nCells [.int .i64 0, .int .i64 0, .int .i64 0, .int .i64 0, .int .u32 0])) fun t2 s1 =>
 bd2 (kf 132 [a0] s1) fun t9 s2 =>
 bd (o.ex t9 0) fun t10 =>
 bd (o.ex t9 1) fun t11 =>
 bd2 (o.new s2 (nCells [.int .i64 0, .int .i64 0, .int .i64 0, .int .i64 0, .nils, .nils])) fun t4 s3 =>
 bd2 (o.st 6 t4 t10 s3) fun u4 s5 =>
 bd (o.neq t11 (I .i64 0)) fun t13 =>
 o.br t13 (bd (asAggT (aFill [.int .i64 0, .int .i64 0, .int .i64 0, .int .i64 0, .int .u32 0] [])) fun t14 =>
 bd2 (o.st 5 t2 t14 s5) fun u6 s7 =>
 bd (rC (o.ldn 5 t2 s7) (rT t11 (some []))) fun l8 =>
 bd (retT l8) fun r9 =>
 jT r9 s7)
 (bd (o.ln a0) fun t18 =>
 bd (o.sub t18 (I .i64 4)) fun t19 =>
 bd (aPieceSl 1 a0 (some t19) none none) fun t20 =>
 bd (o.fa 0 t4) fun t21 =>
 bd (o.ld t21 s5) fun t22 =>
 bd (o.fa 1 t4) fun t23 =>
 bd (o.ld t23 s5) fun t24 =>
 bd (o.fa 2 t4) fun t25 =>
 bd (o.ld t25 s5) fun t26 =>
 bd (o.fa 3 t4) fun t27 =>
 bd (o.ld t27 s5) fun t28 =>
 bd (o.ix 1 t20 (I .i64 0)) fun t30 =>
 bd (o.ld t30 s5) fun t31 =>
 bd (o.cv .u32 t31) fun t32 =>
 bd (o.ix 1 t20 (I .i64 1)) fun t34 =>
 bd (o.ld t34 s5) fun t35 =>
 bd (o.cv .u32 t35) fun t36 =>
 bd (o.bin .shl t36 (I .u64 8)) fun t37 =>
 bd (o.bin .or t32 t37) fun t38 =>
 bd (o.ix 1 t20 (I .i64 2)) fun t40 =>
 bd (o.ld t40 s5) fun t41 =>
 bd (o.cv .u32 t41) fun t42 =>
 bd (o.bin .shl t42 (I .u64 16)) fun t43 =>
 bd (o.bin .or t38 t43) fun t44 =>
 bd (o.ix 1 t20 (I .i64 3)) fun t46 =>
 bd (o.ld t46 s5) fun t47 =>
 bd (o.cv .u32 t47) fun t48 =>
 bd (o.bin .shl t48 (I .u64 24)) fun t49 =>
 bd (o.bin .or t44 t49) fun t50 =>
 bd (asAggT (aFill [.int .i64 0, .int .i64 0, .int .i64 0, .int .i64 0, .int .u32 0] [(0, 1, t22), (1, 1, t24), (2, 1, t26), (3, 1, t28), (4, 1, t50)])) fun t51 =>
 bd2 (o.st 5 t2 t51 s5) fun u10 s11 =>
 bd (rC (o.ldn 5 t2 s11) (rT (I .i64 0) (some []))) fun l12 =>
 bd (retT l12) fun r13 =>
 jT r13 s11)
theorem f309_ok : Ok Tryz.prog 309 (fun c => L1 (f309 fast c 8192)) := ok1 (fun o c => f309 o c 8192) Tryz.func309 (by kernel_rfl) (fun c a0 s => by kernel_rfl)

/- strconv.Atoi -/
def f310 (o : Ops) (kf : CallF) (N : Nat) (a0 : T) (s : St) : Option (T × St) :=
 bd2 (kf 358 [a0] s) fun t8 s1 =>
 bd (o.ex t8 0) fun t9 =>
 bd (o.ex t8 1) fun t10 =>
 bd (neB .i t10 (Z .nili)) fun t12 =>
 o.br t12 (bd2 (kf 359 [(Z (.str [65, 116, 111, 105])), a0, (I .i64 0), (I .i64 0), t10] s1) fun t16 s2 =>
 bd (retT [t9, t16]) fun r3 =>
 jT r3 s2)
 (bd (retT [t9, (Z .nili)]) fun r4 =>
 jT r4 s1)
theorem f310_ok : Ok Tryz.prog 310 (fun c => L1 (f310 fast c 8192)) := ok1 (fun o c => f310 o c 8192) Tryz.func310 (by kernel_rfl) (fun c a0 s => by kernel_rfl)

/- strings.trimLeftByte -/
def f311_l1 (o : Ops) (kf : CallF) (N : Nat) (v : List T) (s : St) : Option (JO × St) :=
 o.vk v 0 fun v_0 =>
 o.vk v 1 fun v_1 =>
 bd (aLenStr v_0) fun t6 =>
 bd (o.gtr t6 (I .i64 0)) fun t7 =>
 bd (gU t7 (some v_0)) fun t9 =>
 bd (gU t7 (aAtStr t9 (I .i64 0))) fun t10 =>
 bd (gU t7 (some v_1)) fun t11 =>
 bd (gU t7 (o.eql t10 t11)) fun t12 =>
 bd (pF t7 t12) fun t13 =>
 o.br t13 (jn (bd (aPieceStr v_0 (some (I .i64 1)) none none) fun t15 =>
 nm [t15, v_1] s)
 (fun v1 s2 => o.vk v1 0 fun v1_0 =>
 o.vk v1 1 fun v1_1 =>
 nm [v1_0, v1_1] s2)
 (fun i3 v1 s2 => jE i3 v1 s2)
 (fun r4 s2 => jR r4 s2))
 (jE 0 [v_0] s)
def f311 (o : Ops) (kf : CallF) (N : Nat) (a0 a1 : T) (s : St) : Option (T × St) :=
 jn (jn (o.loops (f311_l1 o kf N) N [a0, a1] s)
 (fun v5 s6 => nm [.any] s6)
 (fun i7 v5 s6 => if i7 = 0 then nm v5 s6 else jE i7 v5 s6)
 (fun r8 s6 => jR r8 s6))
 (fun v9 s10 => o.vk v9 0 fun v9_0 =>
 jT v9_0 s10)
 (fun i11 v9 s10 => none)
 (fun r12 s10 => jT r12 s10)
theorem f311_ok : Ok Tryz.prog 311 (fun c => L2 (f311 fast c 8192)) := ok2 (fun o c => f311 o c 8192) Tryz.func311 (by kernel_rfl) (fun c a0 a1 s => by kernel_rfl)

/- strings.trimRightByte -/
def f312_l1 (o : Ops) (kf : CallF) (N : Nat) (v : List T) (s : St) : Option (JO × St) :=
 o.vk v 0 fun v_0 =>
 o.vk v 1 fun v_1 =>
 bd (aLenStr v_0) fun t6 =>
 bd (o.gtr t6 (I .i64 0)) fun t7 =>
 bd (gU t7 (some v_0)) fun t9 =>
 bd (gU t7 (some v_0)) fun t10 =>
 bd (gU t7 (aLenStr t10)) fun t11 =>
 bd (gU t7 (o.sub t11 (I .i64 1))) fun t12 =>
 bd (gU t7 (aAtStr t9 t12)) fun t13 =>
 bd (gU t7 (some v_1)) fun t14 =>
 bd (gU t7 (o.eql t13 t14)) fun t15 =>
 bd (pF t7 t15) fun t16 =>
 o.br t16 (jn (bd (aLenStr v_0) fun t19 =>
 bd (o.sub t19 (I .i64 1)) fun t20 =>
 bd (aPieceStr v_0 none (some t20) none) fun t21 =>
 nm [t21, v_1] s)
 (fun v1 s2 => o.vk v1 0 fun v1_0 =>
 o.vk v1 1 fun v1_1 =>
 nm [v1_0, v1_1] s2)
 (fun i3 v1 s2 => jE i3 v1 s2)
 (fun r4 s2 => jR r4 s2))
 (jE 0 [v_0] s)
def f312 (o : Ops) (kf : CallF) (N : Nat) (a0 a1 : T) (s : St) : Option (T × St) :=
 jn (jn (o.loops (f312_l1 o kf N) N [a0, a1] s)
 (fun v5 s6 => nm [.any] s6)
 (fun i7 v5 s6 => if i7 = 0 then nm v5 s6 else jE i7 v5 s6)
 (fun r8 s6 => jR r8 s6))
 (fun v9 s10 => o.vk v9 0 fun v9_0 =>
 jT v9_0 s10)
 (fun i11 v9 s10 => none)
 (fun r12 s10 => jT r12 s10)
theorem f312_ok : Ok Tryz.prog 312 (fun c => L2 (f312 fast c 8192)) := ok2 (fun o c => f312 o c 8192) Tryz.func312 (by kernel_rfl) (fun c a0 a1 s => by kernel_rfl)

/- strings.makeASCIISet -/
def f313_l1 (o : Ops) (kf : CallF) (N : Nat) (v : List T) (s : St) : Option (JO × St) :=
 o.vk v 0 fun v_0 =>
 o.vk v 1 fun v_1 =>
 o.vk v 2 fun v_2 =>
 bd (aLenStr v_0) fun t8 =>
 bd (o.lss v_2 t8) fun t9 =>
 o.br t9 (jn (bd (aAtStr v_0 v_2) fun t14 =>
 bd (o.geq t14 (I .u8 128)) fun t16 =>
 o.br t16 (bd (o.ldn 256 v_1 s) fun t17 =>
 bd2 (o.st 256 v_1 t17 s) fun u2 s3 =>
 bd (rC (o.ldn 256 v_1 s3) (rT (B false) (some []))) fun l4 =>
 bd (retT l4) fun r5 =>
 jR r5 s3)
 (bd (aIndexArr 256 1 v_1 t14) fun t19 =>
 bd2 (o.st 1 t19 (B true) s) fun u6 s7 =>
 nm [v_0, v_1, v_2] s7))
 (fun v8 s9 => o.vk v8 0 fun v8_0 =>
 o.vk v8 1 fun v8_1 =>
 o.vk v8 2 fun v8_2 =>
 bd (o.add v8_2 (I .i64 1)) fun t11 =>
 nm [v8_0, v8_1, t11] s9)
 (fun i10 v8 s9 => jE i10 v8 s9)
 (fun r11 s9 => jR r11 s9))
 (jE 0 [v_1] s)
def f313 (o : Ops) (kf : CallF) (N : Nat) (a0 : T) (s : St) : Option (T × St) :=
 bd2 (o.new s (nCells (List.replicate 256 (.bool false)))) fun t2 s1 =>
 jn (jn (o.loops (f313_l1 o kf N) N [a0, t2, (I .i64 0)] s1)
 (fun v12 s13 => nm [.any] s13)
 (fun i14 v12 s13 => if i14 = 0 then nm v12 s13 else jE i14 v12 s13)
 (fun r15 s13 => jR r15 s13))
 (fun v16 s17 => o.vk v16 0 fun v16_0 =>
 bd (o.ldn 256 v16_0 s17) fun t20 =>
 bd2 (o.st 256 v16_0 t20 s17) fun u20 s21 =>
 bd (rC (o.ldn 256 v16_0 s21) (rT (B true) (some []))) fun l22 =>
 bd (retT l22) fun r23 =>
 jT r23 s21)
 (fun i18 v16 s17 => none)
 (fun r19 s17 => jT r19 s17)
theorem f313_ok : Ok Tryz.prog 313 (fun c => L1 (f313 fast c 8192)) := ok1 (fun o c => f313 o c 8192) Tryz.func313 (by kernel_rfl) (fun c a0 s => by kernel_rfl)

/- strings.trimLeftASCII -/
def f314_l1 (o : Ops) (kf : CallF) (N : Nat) (v : List T) (s : St) : Option (JO × St) :=
 o.vk v 0 fun v_0 =>
 o.vk v 1 fun v_1 =>
 bd (aLenStr v_0) fun t6 =>
 bd (o.gtr t6 (I .i64 0)) fun t7 =>
 o.br t7 (jn (bd (aAtStr v_0 (I .i64 0)) fun t10 =>
 bd2 (kf 360 [v_1, t10] s) fun t11 s1 =>
 bd (aUn .not t11) fun t12 =>
 o.br t12 (jE 0 [v_0] s1)
 (bd (aPieceStr v_0 (some (I .i64 1)) none none) fun t14 =>
 nm [t14, v_1] s1))
 (fun v2 s3 => o.vk v2 0 fun v2_0 =>
 o.vk v2 1 fun v2_1 =>
 nm [v2_0, v2_1] s3)
 (fun i4 v2 s3 => jE i4 v2 s3)
 (fun r5 s3 => jR r5 s3))
 (jE 0 [v_0] s)
def f314 (o : Ops) (kf : CallF) (N : Nat) (a0 a1 : T) (s : St) : Option (T × St) :=
 jn (jn (o.loops (f314_l1 o kf N) N [a0, a1] s)
 (fun v6 s7 => nm [.any] s7)
 (fun i8 v6 s7 => if i8 = 0 then nm v6 s7 else jE i8 v6 s7)
 (fun r9 s7 => jR r9 s7))
 (fun v10 s11 => o.vk v10 0 fun v10_0 =>
 jT v10_0 s11)
 (fun i12 v10 s11 => none)
 (fun r13 s11 => jT r13 s11)
theorem f314_ok : Ok Tryz.prog 314 (fun c => L2 (f314 fast c 8192)) := ok2 (fun o c => f314 o c 8192) Tryz.func314 (by kernel_rfl) (fun c a0 a1 s => by kernel_rfl)

/- strings.trimRightASCII -/
def f315_l1 (o : Ops) (kf : CallF) (N : Nat) (v : List T) (s : St) : Option (JO × St) :=
 o.vk v 0 fun v_0 =>
 o.vk v 1 fun v_1 =>
 bd (aLenStr v_0) fun t6 =>
 bd (o.gtr t6 (I .i64 0)) fun t7 =>
 o.br t7 (jn (bd (aLenStr v_0) fun t11 =>
 bd (o.sub t11 (I .i64 1)) fun t12 =>
 bd (aAtStr v_0 t12) fun t13 =>
 bd2 (kf 360 [v_1, t13] s) fun t14 s1 =>
 bd (aUn .not t14) fun t15 =>
 o.br t15 (jE 0 [v_0] s1)
 (bd (aLenStr v_0) fun t18 =>
 bd (o.sub t18 (I .i64 1)) fun t19 =>
 bd (aPieceStr v_0 none (some t19) none) fun t20 =>
 nm [t20, v_1] s1))
 (fun v2 s3 => o.vk v2 0 fun v2_0 =>
 o.vk v2 1 fun v2_1 =>
 nm [v2_0, v2_1] s3)
 (fun i4 v2 s3 => jE i4 v2 s3)
 (fun r5 s3 => jR r5 s3))
 (jE 0 [v_0] s)
def f315 (o : Ops) (kf : CallF) (N : Nat) (a0 a1 : T) (s : St) : Option (T × St) :=
 jn (jn (o.loops (f315_l1 o kf N) N [a0, a1] s)
 (fun v6 s7 => nm [.any] s7)
 (fun i8 v6 s7 => if i8 = 0 then nm v6 s7 else jE i8 v6 s7)
 (fun r9 s7 => jR r9 s7))
 (fun v10 s11 => o.vk v10 0 fun v10_0 =>
 jT v10_0 s11)
 (fun i12 v10 s11 => none)
 (fun r13 s11 => jT r13 s11)
theorem f315_ok : Ok Tryz.prog 315 (fun c => L2 (f315 fast c 8192)) := ok2 (fun o c => f315 o c 8192) Tryz.func315 (by kernel_rfl) (fun c a0 a1 s => by kernel_rfl)

/- strings.trimLeftUnicode -/
def f316_l1 (o : Ops) (kf : CallF) (N : Nat) (v : List T) (s : St) : Option (JO × St) :=
 o.vk v 0 fun v_0 =>
 o.vk v 1 fun v_1 =>
 bd (aLenStr v_0) fun t8 =>
 bd (o.gtr t8 (I .i64 0)) fun t9 =>
 o.br t9 (jn (bd2 (kf 361 [v_0] s) fun t12 s1 =>
 bd (o.ex t12 0) fun t13 =>
 bd (o.ex t12 1) fun t14 =>
 bd2 (kf 362 [v_1, t13] s1) fun t17 s2 =>
 bd (aUn .not t17) fun t18 =>
 o.br t18 (jE 0 [v_0] s2)
 (bd (aPieceStr v_0 (some t14) none none) fun t21 =>
 nm [t21, v_1] s2))
 (fun v3 s4 => o.vk v3 0 fun v3_0 =>
 o.vk v3 1 fun v3_1 =>
 nm [v3_0, v3_1] s4)
 (fun i5 v3 s4 => jE i5 v3 s4)
 (fun r6 s4 => jR r6 s4))
 (jE 0 [v_0] s)
def f316 (o : Ops) (kf : CallF) (N : Nat) (a0 a1 : T) (s : St) : Option (T × St) :=
 jn (jn (o.loops (f316_l1 o kf N) N [a0, a1] s)
 (fun v7 s8 => nm [.any] s8)
 (fun i9 v7 s8 => if i9 = 0 then nm v7 s8 else jE i9 v7 s8)
 (fun r10 s8 => jR r10 s8))
 (fun v11 s12 => o.vk v11 0 fun v11_0 =>
 jT v11_0 s12)
 (fun i13 v11 s12 => none)
 (fun r14 s12 => jT r14 s12)
theorem f316_ok : Ok Tryz.prog 316 (fun c => L2 (f316 fast c 8192)) := ok2 (fun o c => f316 o c 8192) Tryz.func316 (by kernel_rfl) (fun c a0 a1 s => by kernel_rfl)

/- strings.trimRightUnicode -/
def f317_l1 (o : Ops) (kf : CallF) (N : Nat) (v : List T) (s : St) : Option (JO × St) :=
 o.vk v 0 fun v_0 =>
 o.vk v 1 fun v_1 =>
 bd (aLenStr v_0) fun t8 =>
 bd (o.gtr t8 (I .i64 0)) fun t9 =>
 o.br t9 (jn (bd (aLenStr v_0) fun t12 =>
 bd (o.sub t12 (I .i64 1)) fun t13 =>
 bd (aAtStr v_0 t13) fun t14 =>
 bd (o.cv .i32 t14) fun t15 =>
 bd (o.geq t15 (I .i32 128)) fun t17 =>
 jn (o.br t17 (bd2 (kf 363 [v_0] s) fun t20 s1 =>
 bd (o.ex t20 0) fun t21 =>
 bd (o.ex t20 1) fun t22 =>
 nm [v_0, v_1, t21, t22] s1)
 (nm [v_0, v_1, t15, (I .i64 1)] s))
 (fun v2 s3 => o.vk v2 0 fun v2_0 =>
 o.vk v2 1 fun v2_1 =>
 o.vk v2 2 fun v2_2 =>
 o.vk v2 3 fun v2_3 =>
 bd2 (kf 362 [v2_1, v2_2] s3) fun t25 s6 =>
 bd (aUn .not t25) fun t26 =>
 o.br t26 (jE 0 [v2_0] s6)
 (bd (aLenStr v2_0) fun t29 =>
 bd (o.sub t29 v2_3) fun t31 =>
 bd (aPieceStr v2_0 none (some t31) none) fun t32 =>
 nm [t32, v2_1] s6))
 (fun i4 v2 s3 => if i4 = 1 then nm v2 s3 else jE i4 v2 s3)
 (fun r5 s3 => jR r5 s3))
 (fun v7 s8 => o.vk v7 0 fun v7_0 =>
 o.vk v7 1 fun v7_1 =>
 nm [v7_0, v7_1] s8)
 (fun i9 v7 s8 => jE i9 v7 s8)
 (fun r10 s8 => jR r10 s8))
 (jE 0 [v_0] s)
def f317 (o : Ops) (kf : CallF) (N : Nat) (a0 a1 : T) (s : St) : Option (T × St) :=
 jn (jn (o.loops (f317_l1 o kf N) N [a0, a1] s)
 (fun v11 s12 => nm [.any] s12)
 (fun i13 v11 s12 => if i13 = 0 then nm v11 s12 else jE i13 v11 s12)
 (fun r14 s12 => jR r14 s12))
 (fun v15 s16 => o.vk v15 0 fun v15_0 =>
 jT v15_0 s16)
 (fun i17 v15 s16 => none)
 (fun r18 s16 => jT r18 s16)
theorem f317_ok : Ok Tryz.prog 317 (fun c => L2 (f317 fast c 8192)) := ok2 (fun o c => f317 o c 8192) Tryz.func317 (by kernel_rfl) (fun c a0 a1 s => by kernel_rfl)

/- slices.Index[[]api.Info,api.Info] -/
def f318_l1 (o : Ops) (kf : CallF) (N : Nat) (v : List T) (s : St) : Option (JO × St) :=
 o.vk v 0 fun v_0 =>
 o.vk v 1 fun v_1 =>
 o.vk v 2 fun v_2 =>
 o.vk v 3 fun v_3 =>
 bd (o.lss v_3 v_2) fun t9 =>
 o.br t9 (jn (bd (o.ldn 5 v_1 s) fun t11 =>
 bd (o.ix 5 v_0 v_3) fun t14 =>
 bd (o.ldn 5 t14 s) fun t15 =>
 bd (eqB (.a 5 [(0, .i), (1, .i), (2, .i), (3, .i), (4, .i)]) t11 t15) fun t16 =>
 o.br t16 (jR v_3 s)
 (nm [v_0, v_1, v_2, v_3] s))
 (fun v2 s3 => o.vk v2 0 fun v2_0 =>
 o.vk v2 1 fun v2_1 =>
 o.vk v2 2 fun v2_2 =>
 o.vk v2 3 fun v2_3 =>
 bd (o.add v2_3 (I .i64 1)) fun t18 =>
 nm [v2_0, v2_1, v2_2, t18] s3)
 (fun i4 v2 s3 => jE i4 v2 s3)
 (fun r5 s3 => jR r5 s3))
 (jE 0 [] s)
def f318 (o : Ops) (kf : CallF) (N : Nat) (a0 a1 : T) (s : St) : Option (T × St) :=
 bd2 (o.new s (nBox a1)) fun t3 s1 =>
 bd (o.ln a0) fun t7 =>
 jn (jn (o.loops (f318_l1 o kf N) N [a0, t3, t7, (I .i64 0)] s1)
 (fun v6 s7 => nm [] s7)
 (fun i8 v6 s7 => if i8 = 0 then nm v6 s7 else jE i8 v6 s7)
 (fun r9 s7 => jR r9 s7))
 (fun v10 s11 => jT (I .i64 (-1)) s11)
 (fun i12 v10 s11 => none)
 (fun r13 s11 => jT r13 s11)
theorem f318_ok : Ok Tryz.prog 318 (fun c => L2 (f318 fast c 8192)) := ok2 (fun o c => f318 o c 8192) Tryz.func318 (by kernel_rfl) (fun c a0 a1 s => by kernel_rfl)

/- slices.insertionSortOrdered[int] -/
def f320_l2 (o : Ops) (kf : CallF) (N : Nat) (v : List T) (s : St) : Option (JO × St) :=
 o.vk v 0 fun v_0 =>
 o.vk v 1 fun v_1 =>
 o.vk v 2 fun v_2 =>
 o.vk v 3 fun v_3 =>
 o.vk v 4 fun v_4 =>
 bd (o.gtr v_4 v_1) fun t18 =>
 bd (gU t18 (some v_0)) fun t20 =>
 bd (gU t18 (some v_4)) fun t21 =>
 bd (gU t18 (o.ix 1 t20 t21)) fun t22 =>
 bd (gU t18 (o.ld t22 s)) fun t23 =>
 bd (gU t18 (some v_0)) fun t24 =>
 bd (gU t18 (some v_4)) fun t25 =>
 bd (gU t18 (o.sub t25 (I .i64 1))) fun t26 =>
 bd (gU t18 (o.ix 1 t24 t26)) fun t27 =>
 bd (gU t18 (o.ld t27 s)) fun t28 =>
 bd2 (gS (gd t18 true) s (kf 326 [t23, t28] s)) fun t29 s1 =>
 bd (pF t18 t29) fun t30 =>
 o.br t30 (jn (bd (o.sub v_4 (I .i64 1)) fun t37 =>
 bd (o.sub v_4 (I .i64 1)) fun t40 =>
 bd (o.ix 1 v_0 t40) fun t41 =>
 bd (o.ld t41 s1) fun t42 =>
 bd (o.ix 1 v_0 v_4) fun t45 =>
 bd (o.ld t45 s1) fun t46 =>
 bd (o.ix 1 v_0 v_4) fun t47 =>
 bd2 (o.st 1 t47 t42 s1) fun u2 s3 =>
 bd (o.ix 1 v_0 t37) fun t48 =>
 bd2 (o.st 1 t48 t46 s3) fun u4 s5 =>
 nm [v_0, v_1, v_2, v_3, v_4] s5)
 (fun v6 s7 => o.vk v6 0 fun v6_0 =>
 o.vk v6 1 fun v6_1 =>
 o.vk v6 2 fun v6_2 =>
 o.vk v6 3 fun v6_3 =>
 o.vk v6 4 fun v6_4 =>
 bd (o.sub v6_4 (I .i64 1)) fun t32 =>
 nm [v6_0, v6_1, v6_2, v6_3, t32] s7)
 (fun i8 v6 s7 => jE i8 v6 s7)
 (fun r9 s7 => jR r9 s7))
 (jE 2 [v_0, v_1, v_2, v_3] s1)
def f320_l1 (o : Ops) (kf : CallF) (N : Nat) (v : List T) (s : St) : Option (JO × St) :=
 o.vk v 0 fun v_0 =>
 o.vk v 1 fun v_1 =>
 o.vk v 2 fun v_2 =>
 o.vk v 3 fun v_3 =>
 bd (o.lss v_3 v_2) fun t12 =>
 o.br t12 (jn (jn (jn (o.loops (f320_l2 o kf N) N [v_0, v_1, v_2, v_3, v_3] s)
 (fun v10 s11 => nm [.any, .any, .any, .any] s11)
 (fun i12 v10 s11 => if i12 = 2 then nm v10 s11 else jE i12 v10 s11)
 (fun r13 s11 => jR r13 s11))
 (fun v14 s15 => o.vk v14 0 fun v14_0 =>
 o.vk v14 1 fun v14_1 =>
 o.vk v14 2 fun v14_2 =>
 o.vk v14 3 fun v14_3 =>
 nm [v14_0, v14_1, v14_2, v14_3] s15)
 (fun i16 v14 s15 => if i16 = 1 then nm v14 s15 else jE i16 v14 s15)
 (fun r17 s15 => jR r17 s15))
 (fun v18 s19 => o.vk v18 0 fun v18_0 =>
 o.vk v18 1 fun v18_1 =>
 o.vk v18 2 fun v18_2 =>
 o.vk v18 3 fun v18_3 =>
 bd (o.add v18_3 (I .i64 1)) fun t14 =>
 nm [v18_0, v18_1, v18_2, t14] s19)
 (fun i20 v18 s19 => jE i20 v18 s19)
 (fun r21 s19 => jR r21 s19))
 (jE 0 [] s)
def f320 (o : Ops) (kf : CallF) (N : Nat) (a0 a1 a2 : T) (s : St) : Option (T × St) :=
 bd (o.add a1 (I .i64 1)) fun t9 =>
 jn (jn (o.loops (f320_l1 o kf N) N [a0, a1, a2, t9] s)
 (fun v22 s23 => nm [] s23)
 (fun i24 v22 s23 => if i24 = 0 then nm v22 s23 else jE i24 v22 s23)
 (fun r25 s23 => jR r25 s23))
 (fun v26 s27 => bd (retT []) fun r30 =>
 jT r30 s27)
 (fun i28 v26 s27 => none)
 (fun r29 s27 => jT r29 s27)
theorem f320_ok : Ok Tryz.prog 320 (fun c => L3 (f320 fast c 8192)) := ok3 (fun o c => f320 o c 8192) Tryz.func320 (by kernel_rfl) (fun c a0 a1 a2 s => by kernel_rfl)

/- cmp.Less[int] -/
def f326 (o : Ops) (kf : CallF) (N : Nat) (a0 a1 : T) (s : St) : Option (T × St) :=
 bd2 (kf 240 [a0] s) fun t6 s1 =>
 bd (gU t6 (some a1)) fun t8 =>
 bd2 (gS (gd t6 true) s1 (kf 240 [t8] s1)) fun t9 s2 =>
 bd (gU t6 (aUn .not t9)) fun t10 =>
 bd (pF t6 t10) fun t11 =>
 bd (gF t11 (some a0)) fun t13 =>
 bd (gF t11 (some a1)) fun t14 =>
 bd (gF t11 (o.lss t13 t14)) fun t15 =>
 bd (pT t11 t15) fun t16 =>
 jT t16 s2
theorem f326_ok : Ok Tryz.prog 326 (fun c => L2 (f326 fast c 8192)) := ok2 (fun o c => f326 o c 8192) Tryz.func326 (by kernel_rfl) (fun c a0 a1 s => by kernel_rfl)

/- math/bits.Len32 -/
def f329 (o : Ops) (kf : CallF) (N : Nat) (a0 : T) (s : St) : Option (T × St) :=
 bd (o.geq a0 (I .u32 65536)) fun t4 =>
 jn (o.br t4 (bd (o.bin .shr a0 (I .u64 16)) fun t6 =>
 nm [t6, (I .i64 16)] s)
 (nm [a0, (I .i64 0)] s))
 (fun v1 s2 => o.vk v1 0 fun v1_0 =>
 o.vk v1 1 fun v1_1 =>
 bd (o.geq v1_0 (I .u32 256)) fun t8 =>
 jn (o.br t8 (bd (o.bin .shr v1_0 (I .u64 8)) fun t10 =>
 bd (o.add v1_1 (I .i64 8)) fun t12 =>
 nm [t10, t12] s2)
 (nm [v1_0, v1_1] s2))
 (fun v5 s6 => o.vk v5 0 fun v5_0 =>
 o.vk v5 1 fun v5_1 =>
 bd (o.cv .u8 v5_0) fun t15 =>
 bd (aAtStr (Z (.str [0, 1, 2, 2, 3, 3, 3, 3, 4, 4, 4, 4, 4, 4, 4, 4, 5, 5, 5, 5, 5, 5, 5, 5, 5, 5, 5, 5, 5, 5, 5, 5, 6, 6, 6, 6, 6, 6, 6, 6, 6, 6, 6, 6, 6, 6, 6, 6, 6, 6, 6, 6, 6, 6, 6, 6, 6, 6, 6, 6, 6, 6, 6, 6, 7, 7, 7, 7, 7, 7, 7, 7, 7, 7, 7, 7, 7, 7, 7, 7, 7, 7, 7, 7, 7, 7, 7, 7, 7, 7, 7, 7, 7, 7, 7, 7, 7, 7, 7, 7, 7, 7, 7, 7, 7, 7, 7, 7, 7, 7, 7, 7, 7, 7, 7, 7, 7, 7, 7, 7, 7, 7, 7, 7, 7, 7, 7, 7, 8, 8, 8, 8, 8, 8, 8, 8, 8, 8, 8, 8, 8, 8, 8, 8, 8, 8, 8, 8, 8, 8, 8, 8, 8, 8, 8, 8, 8, 8, 8, 8, 8, 8, 8, 8, 8, 8, 8, 8, 8, 8, 8, 8, 8, 8, 8, 8, 8, 8, 8, 8, 8, 8, 8, 8, 8, 8, 8, 8, 8, 8, 8, 8, 8, 8, 8, 8, 8, 8, 8, 8, 8, 8, 8, 8, 8, 8, 8, 8, 8, 8, 8, 8, 8, 8, 8, 8, 8, 8, 8, 8, 8, 8, 8, 8, 8, 8, 8, 8, 8, 8, 8, 8, 8, 8, 8, 8, 8, 8, 8, 8, 8, 8, 8, 8, 8, 8, 8, 8, 8, 8, 8, 8, 8, 8, 8, 8])) t15) fun t16 =>
 bd (o.cv .i64 t16) fun t17 =>
 bd (o.add v5_1 t17) fun t18 =>
 jT t18 s6)
 (fun i7 v5 s6 => none)
 (fun r8 s6 => jT r8 s6))
 (fun i3 v1 s2 => none)
 (fun r4 s2 => jT r4 s2)
theorem f329_ok : Ok Tryz.prog 329 (fun c => L1 (f329 fast c 8192)) := ok1 (fun o c => f329 o c 8192) Tryz.func329 (by kernel_rfl) (fun c a0 s => by kernel_rfl)

/- math/bits.Len64 -/
def f330 (o : Ops) (kf : CallF) (N : Nat) (a0 : T) (s : St) : Option (T × St) :=
 bd (o.geq a0 (I .u64 4294967296)) fun t4 =>
 jn (o.br t4 (bd (o.bin .shr a0 (I .u64 32)) fun t6 =>
 nm [t6, (I .i64 32)] s)
 (nm [a0, (I .i64 0)] s))
 (fun v1 s2 => o.vk v1 0 fun v1_0 =>
 o.vk v1 1 fun v1_1 =>
 bd (o.geq v1_0 (I .u64 65536)) fun t8 =>
 jn (o.br t8 (bd (o.bin .shr v1_0 (I .u64 16)) fun t10 =>
 bd (o.add v1_1 (I .i64 16)) fun t12 =>
 nm [t10, t12] s2)
 (nm [v1_0, v1_1] s2))
 (fun v5 s6 => o.vk v5 0 fun v5_0 =>
 o.vk v5 1 fun v5_1 =>
 bd (o.geq v5_0 (I .u64 256)) fun t14 =>
 jn (o.br t14 (bd (o.bin .shr v5_0 (I .u64 8)) fun t16 =>
 bd (o.add v5_1 (I .i64 8)) fun t18 =>
 nm [t16, t18] s6)
 (nm [v5_0, v5_1] s6))
 (fun v9 s10 => o.vk v9 0 fun v9_0 =>
 o.vk v9 1 fun v9_1 =>
 bd (o.cv .u8 v9_0) fun t21 =>
 bd (aAtStr (Z (.str [0, 1, 2, 2, 3, 3, 3, 3, 4, 4, 4, 4, 4, 4, 4, 4, 5, 5, 5, 5, 5, 5, 5, 5, 5, 5, 5, 5, 5, 5, 5, 5, 6, 6, 6, 6, 6, 6, 6, 6, 6, 6, 6, 6, 6, 6, 6, 6, 6, 6, 6, 6, 6, 6, 6, 6, 6, 6, 6, 6, 6, 6, 6, 6, 7, 7, 7, 7, 7, 7, 7, 7, 7, 7, 7, 7, 7, 7, 7, 7, 7, 7, 7, 7, 7, 7, 7, 7, 7, 7, 7, 7, 7, 7, 7, 7, 7, 7, 7, 7, 7, 7, 7, 7, 7, 7, 7, 7, 7, 7, 7, 7, 7, 7, 7, 7, 7, 7, 7, 7, 7, 7, 7, 7, 7, 7, 7, 7, 8, 8, 8, 8, 8, 8, 8, 8, 8, 8, 8, 8, 8, 8, 8, 8, 8, 8, 8, 8, 8, 8, 8, 8, 8, 8, 8, 8, 8, 8, 8, 8, 8, 8, 8, 8, 8, 8, 8, 8, 8, 8, 8, 8, 8, 8, 8, 8, 8, 8, 8, 8, 8, 8, 8, 8, 8, 8, 8, 8, 8, 8, 8, 8, 8, 8, 8, 8, 8, 8, 8, 8, 8, 8, 8, 8, 8, 8, 8, 8, 8, 8, 8, 8, 8, 8, 8, 8, 8, 8, 8, 8, 8, 8, 8, 8, 8, 8, 8, 8, 8, 8, 8, 8, 8, 8, 8, 8, 8, 8, 8, 8, 8, 8, 8, 8, 8, 8, 8, 8, 8, 8, 8, 8, 8, 8, 8, 8])) t21) fun t22 =>
 bd (o.cv .i64 t22) fun t23 =>
 bd (o.add v9_1 t23) fun t24 =>
 jT t24 s10)
 (fun i11 v9 s10 => none)
 (fun r12 s10 => jT r12 s10))
 (fun i7 v5 s6 => none)
 (fun r8 s6 => jT r8 s6))
 (fun i3 v1 s2 => none)
 (fun r4 s2 => jT r4 s2)
theorem f330_ok : Ok Tryz.prog 330 (fun c => L1 (f330 fast c 8192)) := ok1 (fun o c => f330 o c 8192) Tryz.func330 (by kernel_rfl) (fun c a0 s => by kernel_rfl)

/- tier.Raw -/
def f331_l2 (o : Ops) (kf : CallF) (N : Nat) (v : List T) (s : St) : Option (JO × St) :=
 o.vk v 0 fun v_0 =>
 o.vk v 1 fun v_1 =>
 o.vk v 2 fun v_2 =>
 o.vk v 3 fun v_3 =>
 o.vk v 4 fun v_4 =>
 bd (o.ln v_0) fun t30 =>
 bd (o.lss v_4 t30) fun t31 =>
 o.br t31 (jn (bd (o.ix 2 v_0 v_4) fun t34 =>
 bd (o.fa 0 t34) fun t35 =>
 bd (o.ld t35 s) fun t36 =>
 bd2 (kf 302 [t36, v_1] s) fun t38 s5 =>
 bd (o.neq t38 v_3) fun t40 =>
 o.br t40 (jE 2 [v_0, v_1, v_2, v_3, v_4] s5)
 (bd (o.add v_4 (I .i64 1)) fun t42 =>
 nm [v_0, v_1, v_2, v_3, t42] s5))
 (fun v6 s7 => o.vk v6 0 fun v6_0 =>
 o.vk v6 1 fun v6_1 =>
 o.vk v6 2 fun v6_2 =>
 o.vk v6 3 fun v6_3 =>
 o.vk v6 4 fun v6_4 =>
 nm [v6_0, v6_1, v6_2, v6_3, v6_4] s7)
 (fun i8 v6 s7 => jE i8 v6 s7)
 (fun r9 s7 => jR r9 s7))
 (jE 2 [v_0, v_1, v_2, v_3, v_4] s)
def f331_l1 (o : Ops) (kf : CallF) (N : Nat) (v : List T) (s : St) : Option (JO × St) :=
 o.vk v 0 fun v_0 =>
 o.vk v 1 fun v_1 =>
 o.vk v 2 fun v_2 =>
 bd (o.ln v_0) fun t20 =>
 bd (o.gtr t20 (I .i64 0)) fun t21 =>
 o.br t21 (jn (bd (o.ix 2 v_0 (I .i64 0)) fun t23 =>
 bd (o.fa 0 t23) fun t24 =>
 bd (o.ld t24 s) fun t25 =>
 bd2 (kf 302 [t25, v_1] s) fun t27 s4 =>
 jn (jn (o.loops (f331_l2 o kf N) N [v_0, v_1, v_2, t27, (I .i64 0)] s4)
 (fun v10 s11 => nm [.any, .any, .any, .any, .any] s11)
 (fun i12 v10 s11 => if i12 = 2 then nm v10 s11 else jE i12 v10 s11)
 (fun r13 s11 => jR r13 s11))
 (fun v14 s15 => o.vk v14 0 fun v14_0 =>
 o.vk v14 1 fun v14_1 =>
 o.vk v14 2 fun v14_2 =>
 o.vk v14 3 fun v14_3 =>
 o.vk v14 4 fun v14_4 =>
 bd (aPieceSl 2 v14_0 none (some v14_4) none) fun t46 =>
 bd2 (kf 369 [t46, v14_3] s15) fun t48 s18 =>
 bd (o.ex t48 0) fun t49 =>
 bd (o.ex t48 1) fun t50 =>
 bd2 (o.new s18 (nCells [.int .i64 0, .int .i64 0, .int .i64 0, .int .i64 0, .int .i64 0, .int .i64 0, .int .i64 0])) fun t9 s19 =>
 bd2 (o.st 7 t9 t49 s19) fun u20 s21 =>
 bd (o.neq t50 (I .i64 0)) fun t52 =>
 o.br t52 (bd (retT [(Z .nils), t50]) fun r22 =>
 jR r22 s21)
 (bd (o.ldn 7 t9 s21) fun t55 =>
 bd2 (o.new s21 (nSlice 1 (aFill [.int .i64 0, .int .i64 0, .int .i64 0, .int .i64 0, .int .i64 0, .int .i64 0, .int .i64 0] [(0, 7, t55)]))) fun t56 s23 =>
 bd2 (aAppend 7 56 v14_2 t56 s23) fun t57 s24 =>
 bd (aPieceSl 2 v14_0 (some v14_4) none none) fun t60 =>
 nm [t60, v14_1, t57] s24))
 (fun i16 v14 s15 => if i16 = 1 then nm v14 s15 else jE i16 v14 s15)
 (fun r17 s15 => jR r17 s15))
 (fun v25 s26 => o.vk v25 0 fun v25_0 =>
 o.vk v25 1 fun v25_1 =>
 o.vk v25 2 fun v25_2 =>
 nm [v25_0, v25_1, v25_2] s26)
 (fun i27 v25 s26 => jE i27 v25 s26)
 (fun r28 s26 => jR r28 s26))
 (jE 0 [v_2] s)
def f331 (o : Ops) (kf : CallF) (N : Nat) (a0 a1 : T) (s : St) : Option (T × St) :=
 bd2 (kf 219 [a0] s) fun t12 s1 =>
 bd (aUn .not t12) fun t13 =>
 bd (gF t13 (some a1)) fun t15 =>
 bd2 (gS (gd t13 false) s1 (kf 355 [t15] s1)) fun t16 s2 =>
 bd (gF t13 (aUn .not t16)) fun t17 =>
 bd (pT t13 t17) fun t18 =>
 o.br t18 (bd (retT [(Z .nils), (I .i64 1)]) fun r3 =>
 jT r3 s2)
 (jn (jn (o.loops (f331_l1 o kf N) N [a0, a1, (Z .nils)] s2)
 (fun v29 s30 => nm [.any] s30)
 (fun i31 v29 s30 => if i31 = 0 then nm v29 s30 else jE i31 v29 s30)
 (fun r32 s30 => jR r32 s30))
 (fun v33 s34 => o.vk v33 0 fun v33_0 =>
 bd (retT [v33_0, (I .i64 0)]) fun r37 =>
 jT r37 s34)
 (fun i35 v33 s34 => none)
 (fun r36 s34 => jT r36 s34))
theorem f331_ok : Ok Tryz.prog 331 (fun c => L2 (f331 fast c 8192)) := ok2 (fun o c => f331 o c 8192) Tryz.func331 (by kernel_rfl) (fun c a0 a1 s => by kernel_rfl)

/- segment.joined -/
def f332_l1 (o : Ops) (kf : CallF) (N : Nat) (v : List T) (s : St) : Option (JO × St) :=
 o.vk v 0 fun v_0 =>
 o.vk v 1 fun v_1 =>
 o.vk v 2 fun v_2 =>
 o.vk v 3 fun v_3 =>
 bd (o.lss v_3 v_2) fun t13 =>
 o.br t13 (jn (bd (o.ix 7 v_1 v_3) fun t14 =>
 bd (o.ldn 7 t14 s) fun t15 =>
 bd2 (o.new s (nCells [.int .i64 0, .int .i64 0, .int .i64 0, .int .i64 0, .int .i64 0, .int .i64 0, .int .i64 0])) fun t6 s1 =>
 bd2 (o.st 7 t6 t15 s1) fun u2 s3 =>
 bd (o.ln v_0) fun t17 =>
 bd (o.eql t17 (I .i64 0)) fun t19 =>
 bd (gF t19 (some v_0)) fun t21 =>
 bd (gF t19 (some t17)) fun t22 =>
 bd (gF t19 (o.sub t22 (I .i64 1))) fun t23 =>
 bd (gF t19 (o.ix 7 t21 t23)) fun t24 =>
 bd (gF t19 (o.fa 0 t24)) fun t25 =>
 bd (gF t19 (o.ld t25 s3)) fun t26 =>
 bd (gF t19 (o.fa 0 t6)) fun t27 =>
 bd (gF t19 (o.ld t27 s3)) fun t28 =>
 bd (gF t19 (o.neq t26 t28)) fun t29 =>
 bd (pT t19 t29) fun t30 =>
 o.br t30 (bd (o.ldn 7 t6 s3) fun t32 =>
 bd2 (o.new s3 (nSlice 1 (aFill [.int .i64 0, .int .i64 0, .int .i64 0, .int .i64 0, .int .i64 0, .int .i64 0, .int .i64 0] [(0, 7, t32)]))) fun t33 s4 =>
 bd2 (aAppend 7 56 v_0 t33 s4) fun t34 s5 =>
 nm [t34, v_1, v_2, v_3] s5)
 (bd (o.sub t17 (I .i64 1)) fun t38 =>
 bd (o.ix 7 v_0 t38) fun t39 =>
 bd (o.ldn 7 t39 s3) fun t40 =>
 bd (o.ldn 7 t6 s3) fun t41 =>
 bd2 (kf 370 [t40, t41] s3) fun t42 s6 =>
 bd (o.ex t42 0) fun t43 =>
 bd (o.ex t42 1) fun t44 =>
 bd2 (o.new s6 (nCells [.int .i64 0, .int .i64 0, .int .i64 0, .int .i64 0, .int .i64 0, .int .i64 0, .int .i64 0])) fun t8 s7 =>
 bd2 (o.st 7 t8 t43 s7) fun u8 s9 =>
 bd (o.neq t44 (I .i64 0)) fun t46 =>
 o.br t46 (bd (retT [(Z .nils), t44]) fun r10 =>
 jR r10 s9)
 (bd (o.sub t17 (I .i64 1)) fun t50 =>
 bd (o.ldn 7 t8 s9) fun t51 =>
 bd (o.ix 7 v_0 t50) fun t52 =>
 bd2 (o.st 7 t52 t51 s9) fun u11 s12 =>
 nm [v_0, v_1, v_2, v_3] s12)))
 (fun v13 s14 => o.vk v13 0 fun v13_0 =>
 o.vk v13 1 fun v13_1 =>
 o.vk v13 2 fun v13_2 =>
 o.vk v13 3 fun v13_3 =>
 bd (o.add v13_3 (I .i64 1)) fun t53 =>
 nm [v13_0, v13_1, v13_2, t53] s14)
 (fun i15 v13 s14 => jE i15 v13 s14)
 (fun r16 s14 => jR r16 s14))
 (jE 0 [v_0] s)
def f332 (o : Ops) (kf : CallF) (N : Nat) (a0 : T) (s : St) : Option (T × St) :=
 bd (o.ln a0) fun t11 =>
 jn (jn (o.loops (f332_l1 o kf N) N [(Z .nils), a0, t11, (I .i64 0)] s)
 (fun v17 s18 => nm [.any] s18)
 (fun i19 v17 s18 => if i19 = 0 then nm v17 s18 else jE i19 v17 s18)
 (fun r20 s18 => jR r20 s18))
 (fun v21 s22 => o.vk v21 0 fun v21_0 =>
 bd (retT [v21_0, (I .i64 0)]) fun r25 =>
 jT r25 s22)
 (fun i23 v21 s22 => none)
 (fun r24 s22 => jT r24 s22)
theorem f332_ok : Ok Tryz.prog 332 (fun c => L1 (f332 fast c 8192)) := ok1 (fun o c => f332 o c 8192) Tryz.func332 (by kernel_rfl) (fun c a0 s => by kernel_rfl)

/- tier.Down -/
def f333_l1 (o : Ops) (kf : CallF) (N : Nat) (v : List T) (s : St) : Option (JO × St) :=
 o.vk v 0 fun v_0 =>
 o.vk v 1 fun v_1 =>
 o.vk v 2 fun v_2 =>
 o.vk v 3 fun v_3 =>
 o.vk v 4 fun v_4 =>
 bd (o.lss v_4 v_3) fun t29 =>
 o.br t29 (jn (bd (o.ix 7 v_2 v_4) fun t30 =>
 bd (o.ldn 7 t30 s) fun t31 =>
 bd2 (o.new s (nCells [.int .i64 0, .int .i64 0, .int .i64 0, .int .i64 0, .int .i64 0, .int .i64 0, .int .i64 0])) fun t8 s4 =>
 bd2 (o.st 7 t8 t31 s4) fun u5 s6 =>
 bd (o.fa 0 t8) fun t32 =>
 bd (o.ld t32 s6) fun t33 =>
 bd2 (kf 302 [t33, v_0] s6) fun t35 s7 =>
 bd (o.fa 0 t8) fun t36 =>
 bd2 (o.st 1 t36 t35 s7) fun u8 s9 =>
 bd (o.ln v_1) fun t38 =>
 bd (o.eql t38 (I .i64 0)) fun t40 =>
 bd (gF t40 (some v_1)) fun t42 =>
 bd (gF t40 (some t38)) fun t43 =>
 bd (gF t40 (o.sub t43 (I .i64 1))) fun t44 =>
 bd (gF t40 (o.ix 7 t42 t44)) fun t45 =>
 bd (gF t40 (o.fa 0 t45)) fun t46 =>
 bd (gF t40 (o.ld t46 s9)) fun t47 =>
 bd (gF t40 (o.fa 0 t8)) fun t48 =>
 bd (gF t40 (o.ld t48 s9)) fun t49 =>
 bd (gF t40 (o.neq t47 t49)) fun t50 =>
 bd (pT t40 t50) fun t51 =>
 o.br t51 (bd (o.ldn 7 t8 s9) fun t53 =>
 bd2 (o.new s9 (nSlice 1 (aFill [.int .i64 0, .int .i64 0, .int .i64 0, .int .i64 0, .int .i64 0, .int .i64 0, .int .i64 0] [(0, 7, t53)]))) fun t54 s10 =>
 bd2 (aAppend 7 56 v_1 t54 s10) fun t55 s11 =>
 nm [v_0, t55, v_2, v_3, v_4] s11)
 (bd (o.sub t38 (I .i64 1)) fun t59 =>
 bd (o.ix 7 v_1 t59) fun t60 =>
 bd (o.ldn 7 t60 s9) fun t61 =>
 bd (o.ldn 7 t8 s9) fun t62 =>
 bd2 (kf 370 [t61, t62] s9) fun t63 s12 =>
 bd (o.ex t63 0) fun t64 =>
 bd (o.ex t63 1) fun t65 =>
 bd2 (o.new s12 (nCells [.int .i64 0, .int .i64 0, .int .i64 0, .int .i64 0, .int .i64 0, .int .i64 0, .int .i64 0])) fun t10 s13 =>
 bd2 (o.st 7 t10 t64 s13) fun u14 s15 =>
 bd (o.neq t65 (I .i64 0)) fun t67 =>
 o.br t67 (bd (retT [(Z .nils), t65]) fun r16 =>
 jR r16 s15)
 (bd (o.sub t38 (I .i64 1)) fun t71 =>
 bd (o.ldn 7 t10 s15) fun t72 =>
 bd (o.ix 7 v_1 t71) fun t73 =>
 bd2 (o.st 7 t73 t72 s15) fun u17 s18 =>
 nm [v_0, v_1, v_2, v_3, v_4] s18)))
 (fun v19 s20 => o.vk v19 0 fun v19_0 =>
 o.vk v19 1 fun v19_1 =>
 o.vk v19 2 fun v19_2 =>
 o.vk v19 3 fun v19_3 =>
 o.vk v19 4 fun v19_4 =>
 bd (o.add v19_4 (I .i64 1)) fun t74 =>
 nm [v19_0, v19_1, v19_2, v19_3, t74] s20)
 (fun i21 v19 s20 => jE i21 v19 s20)
 (fun r22 s20 => jR r22 s20))
 (jE 0 [v_1] s)
def f333 (o : Ops) (kf : CallF) (N : Nat) (a0 a1 : T) (s : St) : Option (T × St) :=
 bd (o.lss a1 (I .i64 2)) fun t13 =>
 bd (gF t13 (some a0)) fun t15 =>
 bd (gF t13 (some a1)) fun t16 =>
 bd (gF t13 (o.sub t16 (I .i64 1))) fun t17 =>
 bd2 (gS (gd t13 false) s (kf 301 [t15, t17] s)) fun t18 s1 =>
 bd (gF t13 (aUn .not t18)) fun t19 =>
 bd (pT t13 t19) fun t20 =>
 bd (gF t20 (some a1)) fun t22 =>
 bd2 (gS (gd t20 false) s1 (kf 355 [t22] s1)) fun t23 s2 =>
 bd (gF t20 (aUn .not t23)) fun t24 =>
 bd (pT t20 t24) fun t25 =>
 o.br t25 (bd (retT [(Z .nils), (I .i64 1)]) fun r3 =>
 jT r3 s2)
 (bd (o.ln a0) fun t27 =>
 jn (jn (o.loops (f333_l1 o kf N) N [a1, (Z .nils), a0, t27, (I .i64 0)] s2)
 (fun v23 s24 => nm [.any] s24)
 (fun i25 v23 s24 => if i25 = 0 then nm v23 s24 else jE i25 v23 s24)
 (fun r26 s24 => jR r26 s24))
 (fun v27 s28 => o.vk v27 0 fun v27_0 =>
 bd (retT [v27_0, (I .i64 0)]) fun r31 =>
 jT r31 s28)
 (fun i29 v27 s28 => none)
 (fun r30 s28 => jT r30 s28))
theorem f333_ok : Ok Tryz.prog 333 (fun c => L2 (f333 fast c 8192)) := ok2 (fun o c => f333 o c 8192) Tryz.func333 (by kernel_rfl) (fun c a0 a1 s => by kernel_rfl)

/- (disk.Disk).Rename -/
def f334 (o : Ops) (kf : CallF) (N : Nat) (a0 a1 a2 : T) (s : St) : Option (T × St) :=
 bd2 (kf 80 [a0, a1] s) fun t12 s1 =>
 bd (o.ex t12 0) fun t13 =>
 bd (o.ex t12 1) fun t14 =>
 jn (bd (eqB .p a0 (Z .nilp)) fun t17 =>
 o.br t17 (jR (I .i64 10) s1)
 (bd (o.eql t14 (I .i64 1)) fun t20 =>
 bd (gF t20 (some a2)) fun t22 =>
 bd2 (gS (gd t20 false) s1 (kf 152 [t22] s1)) fun t23 s2 =>
 bd (gF t20 (aUn .not t23)) fun t24 =>
 bd (pT t20 t24) fun t25 =>
 bd (gF t25 (some a1)) fun t27 =>
 bd (gF t25 (some a2)) fun t28 =>
 bd (gF t25 (o.eql t27 t28)) fun t29 =>
 bd (pT t25 t29) fun t30 =>
 o.br t30 (jR (I .i64 1) s2)
 (bd (o.neq t14 (I .i64 0)) fun t33 =>
 o.br t33 (jR t14 s2)
 (nm [a0, a1, a2, t13] s2))))
 (fun v3 s4 => o.vk v3 0 fun v3_0 =>
 o.vk v3 1 fun v3_1 =>
 o.vk v3 2 fun v3_2 =>
 o.vk v3 3 fun v3_3 =>
 bd (o.nil v3_0) fun t36 =>
 bd (o.fa 1 t36) fun t37 =>
 bd (o.ld t37 s4) fun t38 =>
 bd2 (mdel .s t38 v3_1 s4) fun u7 s8 =>
 bd (o.nil v3_0) fun t41 =>
 bd (o.fa 1 t41) fun t42 =>
 bd (o.ld t42 s8) fun t43 =>
 bd2 (mset .s t43 v3_2 v3_3 s8) fun u9 s10 =>
 jT (I .i64 0) s10)
 (fun i5 v3 s4 => none)
 (fun r6 s4 => jT r6 s4)
theorem f334_ok : Ok Tryz.prog 334 (fun c => L3 (f334 fast c 8192)) := ok3 (fun o c => f334 o c 8192) Tryz.func334 (by kernel_rfl) (fun c a0 a1 a2 s => by kernel_rfl)

/- slices.rotateLeft[api.Sample] -/
def f341 (o : Ops) (kf : CallF) (N : Nat) (a0 a1 : T) (s : St) : Option (T × St) :=
 bd (aPieceSl 2 a0 none (some a1) none) fun t6 =>
 bd2 (kf 376 [t6] s) fun t7 s1 =>
 bd (aPieceSl 2 a0 (some a1) none none) fun t10 =>
 bd2 (kf 376 [t10] s1) fun t11 s2 =>
 bd2 (kf 376 [a0] s2) fun t13 s3 =>
 bd (retT []) fun r4 =>
 jT r4 s3
theorem f341_ok : Ok Tryz.prog 341 (fun c => L2 (f341 fast c 8192)) := ok2 (fun o c => f341 o c 8192) Tryz.func341 (by kernel_rfl) (fun c a0 a1 s => by kernel_rfl)

/- slices.Grow[[]byte,byte] -/
def f342 (o : Ops) (kf : CallF) (N : Nat) (a0 a1 : T) (s : St) : Option (T × St) :=
 bd (o.lss a1 (I .i64 0)) fun t6 =>
 jn (o.br t6 (bd ((none : Option T)) fun t7 =>
 bd ((none : Option T)) fun u1 =>
 nm [a0, a1] s)
 (nm [a0, a1] s))
 (fun v2 s3 => o.vk v2 0 fun v2_0 =>
 o.vk v2 1 fun v2_1 =>
 bd (aCap v2_0) fun t10 =>
 bd (o.ln v2_0) fun t12 =>
 bd (o.sub t10 t12) fun t13 =>
 bd (o.sub v2_1 t13) fun t14 =>
 bd (o.gtr t14 (I .i64 0)) fun t16 =>
 jn (o.br t16 (bd (aCap v2_0) fun t19 =>
 bd (aPieceSl 1 v2_0 none (some t19) none) fun t20 =>
 bd2 (aGrow 1 1 [.int .u8 0] t20 t14 s3) fun t22 s6 =>
 bd (o.ln v2_0) fun t24 =>
 bd (aPieceSl 1 t22 none (some t24) none) fun t25 =>
 nm [t25] s6)
 (nm [v2_0] s3))
 (fun v7 s8 => o.vk v7 0 fun v7_0 =>
 jT v7_0 s8)
 (fun i9 v7 s8 => none)
 (fun r10 s8 => jT r10 s8))
 (fun i4 v2 s3 => none)
 (fun r5 s3 => jT r5 s3)
theorem f342_ok : Ok Tryz.prog 342 (fun c => L2 (f342 fast c 8192)) := ok2 (fun o c => f342 o c 8192) Tryz.func342 (by kernel_rfl) (fun c a0 a1 s => by kernel_rfl)

/- entry.id -/
def f351 (o : Ops) (kf : CallF) (N : Nat) (a0 : T) (s : St) : Option (T × St) :=
 bd (o.geq a0 (I .i64 1)) fun t4 =>
 bd (gU t4 (some a0)) fun t6 =>
 bd (gU t4 (o.leq t6 (I .i64 1073741824))) fun t7 =>
 bd (pF t4 t7) fun t8 =>
 jT t8 s
theorem f351_ok : Ok Tryz.prog 351 (fun c => L1 (f351 fast c 8192)) := ok1 (fun o c => f351 o c 8192) Tryz.func351 (by kernel_rfl) (fun c a0 s => by kernel_rfl)

/- slices.rotateLeft[api.Info] -/
def f352 (o : Ops) (kf : CallF) (N : Nat) (a0 a1 : T) (s : St) : Option (T × St) :=
 bd (aPieceSl 5 a0 none (some a1) none) fun t6 =>
 bd2 (kf 384 [t6] s) fun t7 s1 =>
 bd (aPieceSl 5 a0 (some a1) none none) fun t10 =>
 bd2 (kf 384 [t10] s1) fun t11 s2 =>
 bd2 (kf 384 [a0] s2) fun t13 s3 =>
 bd (retT []) fun r4 =>
 jT r4 s3
theorem f352_ok : Ok Tryz.prog 352 (fun c => L2 (f352 fast c 8192)) := ok2 (fun o c => f352 o c 8192) Tryz.func352 (by kernel_rfl) (fun c a0 a1 s => by kernel_rfl)

/- internal/strconv.FormatInt -/
def f353 (o : Ops) (kf : CallF) (N : Nat) (a0 a1 : T) (s : St) : Option (T × St) :=
 bd (o.eql a1 (I .i64 10)) fun t11 =>
 o.br t11 (bd (o.leq (I .i64 0) a0) fun t13 =>
 bd (gU t13 (some a0)) fun t15 =>
 bd (gU t13 (o.lss t15 (I .i64 100))) fun t16 =>
 bd (pF t13 t16) fun t17 =>
 o.br t17 (bd2 (kf 385 [a0] s) fun t19 s1 =>
 jT t19 s1)
 (bd2 (o.new s (nCells [.int .u8 0, .int .u8 0, .int .u8 0, .int .u8 0, .int .u8 0, .int .u8 0, .int .u8 0, .int .u8 0, .int .u8 0, .int .u8 0, .int .u8 0, .int .u8 0, .int .u8 0, .int .u8 0, .int .u8 0, .int .u8 0, .int .u8 0, .int .u8 0, .int .u8 0, .int .u8 0, .int .u8 0, .int .u8 0, .int .u8 0, .int .u8 0])) fun t5 s2 =>
 bd (o.cv .u64 a0) fun t21 =>
 bd (o.lss a0 (I .i64 0)) fun t23 =>
 jn (o.br t23 (bd (aUn .neg t21) fun t25 =>
 nm [a0, t5, t25] s2)
 (nm [a0, t5, t21] s2))
 (fun v3 s4 => o.vk v3 0 fun v3_0 =>
 o.vk v3 1 fun v3_1 =>
 o.vk v3 2 fun v3_2 =>
 bd2 (kf 386 [v3_2] s4) fun t27 s7 =>
 bd (o.add (I .i64 1) t27) fun t29 =>
 bd (aPieceArr 24 1 v3_1 (some (I .i64 1)) (some t29) none) fun t30 =>
 bd2 (kf 387 [t30, v3_2] s7) fun t32 s8 =>
 bd (o.lss v3_0 (I .i64 0)) fun t34 =>
 o.br t34 (bd (aIndexArr 24 1 v3_1 (I .i64 0)) fun t35 =>
 bd2 (o.st 1 t35 (I .u8 45) s8) fun u9 s10 =>
 bd (o.add (I .i64 1) t27) fun t37 =>
 bd (aPieceArr 24 1 v3_1 none (some t37) none) fun t38 =>
 bd (aBytesStr t38 s10.get) fun t39 =>
 jT t39 s10)
 (bd (o.add (I .i64 1) t27) fun t41 =>
 bd (aPieceArr 24 1 v3_1 (some (I .i64 1)) (some t41) none) fun t42 =>
 bd (aBytesStr t42 s8.get) fun t43 =>
 jT t43 s8))
 (fun i5 v3 s4 => none)
 (fun r6 s4 => jT r6 s4)))
 (bd (o.cv .u64 a0) fun t46 =>
 bd (o.lss a0 (I .i64 0)) fun t49 =>
 bd2 (kf 388 [(Z .nils), t46, a1, t49, (B false)] s) fun t50 s11 =>
 bd (o.ex t50 0) fun t51 =>
 bd (o.ex t50 1) fun t52 =>
 jT t52 s11)
theorem f353_ok : Ok Tryz.prog 353 (fun c => L2 (f353 fast c 8192)) := ok2 (fun o c => f353 o c 8192) Tryz.func353 (by kernel_rfl) (fun c a0 a1 s => by kernel_rfl)

/- block.PutAggs$1 -/
def f354 (o : Ops) (kf : CallF) (N : Nat) (a0 a1 : T) (s : St) : Option (T × St) :=
 bd (o.ld a1 s) fun t3 =>
 bd2 (kf 238 [a0] s) fun t5 s1 =>
 bd2 (aAppend 1 1 t3 t5 s1) fun t6 s2 =>
 bd2 (o.st 1 a1 t6 s2) fun u3 s4 =>
 ck ((decide (o.ld a1 s1 = o.ld a1 s) && true) && true) (bd (retT []) fun r5 =>
 jT r5 s4)
theorem f354_ok : Ok Tryz.prog 354 (fun c => L2 (f354 fast c 8192)) := ok2 (fun o c => f354 o c 8192) Tryz.func354 (by kernel_rfl) (fun c a0 a1 s => by kernel_rfl)

/- tier.coarse -/
def f355 (o : Ops) (kf : CallF) (N : Nat) (a0 : T) (s : St) : Option (T × St) :=
 bd (o.gtr a0 (I .i64 0)) fun t4 =>
 bd (gU t4 (some a0)) fun t6 =>
 bd (gU t4 (o.lss t6 (I .i64 4))) fun t7 =>
 bd (pF t4 t7) fun t8 =>
 jT t8 s
theorem f355_ok : Ok Tryz.prog 355 (fun c => L1 (f355 fast c 8192)) := ok1 (fun o c => f355 o c 8192) Tryz.func355 (by kernel_rfl) (fun c a0 s => by kernel_rfl)

/- fold.May -/
def f356 (o : Ops) (kf : CallF) (N : Nat) (a0 : T) (s : St) : Option (T × St) :=
 bd2 (o.new s (nBox a0)) fun t1 s1 =>
 bd (o.fa 1 t1) fun t3 =>
 bd (o.ld t3 s1) fun t4 =>
 bd (o.lss t4 (I .i64 1)) fun t5 =>
 bd (gF t5 (o.fa 1 t1)) fun t7 =>
 bd (gF t5 (o.ld t7 s1)) fun t8 =>
 bd (gF t5 (o.gtr t8 (I .i64 1099511627776))) fun t9 =>
 bd (pT t5 t9) fun t10 =>
 bd (gF t10 (o.fa 0 t1)) fun t12 =>
 bd (gF t10 (o.ld t12 s1)) fun t13 =>
 bd (gF t10 (o.lss t13 (I .i64 0))) fun t14 =>
 bd (pT t10 t14) fun t15 =>
 bd (gF t15 (o.fa 0 t1)) fun t17 =>
 bd (gF t15 (o.ld t17 s1)) fun t18 =>
 bd (gF t15 (o.gtr t18 (I .i64 1099511627776))) fun t19 =>
 bd (pT t15 t19) fun t20 =>
 o.br t20 (jT (B false) s1)
 (bd (o.fa 1 t1) fun t21 =>
 bd (o.ld t21 s1) fun t22 =>
 bd (o.eql t22 (I .i64 1)) fun t23 =>
 o.br t23 (bd (o.ldn 7 t1 s1) fun t24 =>
 bd (o.fa 2 t1) fun t25 =>
 bd (o.ld t25 s1) fun t26 =>
 bd (asAggT (aFill [.int .i64 0, .int .i64 0] [(1, 1, t26)])) fun t27 =>
 bd (o.fa 0 t1) fun t28 =>
 bd (o.ld t28 s1) fun t29 =>
 bd2 (kf 220 [t27, t29] s1) fun t30 s2 =>
 bd (eqB (.a 7 [(0, .i), (1, .i), (2, .i), (3, .i), (4, .i), (5, .i), (6, .i)]) t24 t30) fun t31 =>
 ck ((decide (o.ldn 7 t1 s2 = o.ldn 7 t1 s1) && true) && true) (jT t31 s2))
 (bd (o.fa 3 t1) fun t32 =>
 bd (o.ld t32 s1) fun t33 =>
 bd (o.fa 5 t1) fun t34 =>
 bd (o.ld t34 s1) fun t35 =>
 bd (o.fa 6 t1) fun t36 =>
 bd (o.ld t36 s1) fun t37 =>
 bd (o.fa 4 t1) fun t38 =>
 bd (o.ld t38 s1) fun t39 =>
 bd (aFold aMin2 t35 [t37, t39]) fun t40 =>
 bd (o.leq t33 t40) fun t41 =>
 bd (gU t41 (o.fa 4 t1)) fun t43 =>
 bd (gU t41 (o.ld t43 s1)) fun t44 =>
 bd (gU t41 (o.fa 5 t1)) fun t45 =>
 bd (gU t41 (o.ld t45 s1)) fun t46 =>
 bd (gU t41 (o.fa 6 t1)) fun t47 =>
 bd (gU t41 (o.ld t47 s1)) fun t48 =>
 bd (gU t41 (aFold aMax2 t46 [t48])) fun t49 =>
 bd (gU t41 (o.geq t44 t49)) fun t50 =>
 bd (pF t41 t50) fun t51 =>
 jT t51 s1))
theorem f356_ok : Ok Tryz.prog 356 (fun c => L1 (f356 fast c 8192)) := ok1 (fun o c => f356 o c 8192) Tryz.func356 (by kernel_rfl) (fun c a0 s => by kernel_rfl)

/- internal/strconv.Atoi -/
def f358_l1 (o : Ops) (kf : CallF) (N : Nat) (v : List T) (s : St) : Option (JO × St) :=
 o.vk v 0 fun v_0 =>
 o.vk v 1 fun v_1 =>
 o.vk v 2 fun v_2 =>
 o.vk v 3 fun v_3 =>
 o.vk v 4 fun v_4 =>
 bd (o.lss v_4 v_3) fun t50 =>
 o.br t50 (jn (bd (o.ix 1 v_2 v_4) fun t51 =>
 bd (o.ld t51 s) fun t52 =>
 bd (o.sub t52 (I .u8 48)) fun t54 =>
 bd (o.gtr t54 (I .u8 9)) fun t56 =>
 o.br t56 (bd ((none : Option T)) fun t57 =>
 bd (retT [(I .i64 0), t57]) fun r7 =>
 jR r7 s)
 (bd (o.bin .mul v_1 (I .i64 10)) fun t59 =>
 bd (o.cv .i64 t54) fun t61 =>
 bd (o.add t59 t61) fun t62 =>
 nm [v_0, t62, v_2, v_3, v_4] s))
 (fun v8 s9 => o.vk v8 0 fun v8_0 =>
 o.vk v8 1 fun v8_1 =>
 o.vk v8 2 fun v8_2 =>
 o.vk v8 3 fun v8_3 =>
 o.vk v8 4 fun v8_4 =>
 bd (o.add v8_4 (I .i64 1)) fun t63 =>
 nm [v8_0, v8_1, v8_2, v8_3, t63] s9)
 (fun i10 v8 s9 => jE i10 v8 s9)
 (fun r11 s9 => jR r11 s9))
 (jE 0 [v_0, v_1] s)
def f358 (o : Ops) (kf : CallF) (N : Nat) (a0 : T) (s : St) : Option (T × St) :=
 bd (aLenStr a0) fun t12 =>
 bd (gF (B true) (some t12)) fun t14 =>
 bd (gF (B true) (o.lss (I .i64 0) t14)) fun t15 =>
 bd (gF (B true) (some t15)) fun t16 =>
 bd (gU t16 (some t12)) fun t17 =>
 bd (gU t16 (o.lss t17 (I .i64 10))) fun t18 =>
 bd (gF (B true) (pF t16 t18)) fun t19 =>
 bd (aPick (B false) t19 (B false)) fun t20 =>
 bd (gF t20 (some (B true))) fun t22 =>
 bd (gU t22 (some t12)) fun t23 =>
 bd (gU t22 (o.lss (I .i64 0) t23)) fun t24 =>
 bd (gU t22 (some t24)) fun t25 =>
 bd (gU t25 (some t12)) fun t26 =>
 bd (gU t25 (o.lss t26 (I .i64 19))) fun t27 =>
 bd (gU t22 (pF t25 t27)) fun t28 =>
 bd (gF t20 (pF t22 t28)) fun t29 =>
 bd (pT t20 t29) fun t30 =>
 o.br t30 (bd (aAtStr a0 (I .i64 0)) fun t33 =>
 bd (o.eql t33 (I .u8 45)) fun t34 =>
 bd (gF t34 (some a0)) fun t36 =>
 bd (gF t34 (aAtStr t36 (I .i64 0))) fun t37 =>
 bd (gF t34 (o.eql t37 (I .u8 43))) fun t38 =>
 bd (pT t34 t38) fun t39 =>
 jn (o.br t39 (bd (aPieceStr a0 (some (I .i64 1)) none none) fun t41 =>
 bd (aLenStr t41) fun t43 =>
 bd (o.lss t43 (I .i64 1)) fun t44 =>
 o.br t44 (bd ((none : Option T)) fun t45 =>
 bd (retT [(I .i64 0), t45]) fun r1 =>
 jR r1 s)
 (nm [t41, a0] s))
 (nm [a0, a0] s))
 (fun v2 s3 => o.vk v2 0 fun v2_0 =>
 o.vk v2 1 fun v2_1 =>
 bd2 (o.new s3 (nBytes v2_0)) fun t47 s6 =>
 bd (o.ln t47) fun t48 =>
 jn (jn (o.loops (f358_l1 o kf N) N [v2_1, (I .i64 0), t47, t48, (I .i64 0)] s6)
 (fun v12 s13 => nm [.any, .any] s13)
 (fun i14 v12 s13 => if i14 = 0 then nm v12 s13 else jE i14 v12 s13)
 (fun r15 s13 => jR r15 s13))
 (fun v16 s17 => o.vk v16 0 fun v16_0 =>
 o.vk v16 1 fun v16_1 =>
 bd (aAtStr v16_0 (I .i64 0)) fun t65 =>
 bd (o.eql t65 (I .u8 45)) fun t66 =>
 jn (o.br t66 (bd (aUn .neg v16_1) fun t68 =>
 nm [t68] s17)
 (nm [v16_1] s17))
 (fun v20 s21 => o.vk v20 0 fun v20_0 =>
 bd (retT [v20_0, (Z .nili)]) fun r24 =>
 jT r24 s21)
 (fun i22 v20 s21 => none)
 (fun r23 s21 => jT r23 s21))
 (fun i18 v16 s17 => none)
 (fun r19 s17 => jT r19 s17))
 (fun i4 v2 s3 => none)
 (fun r5 s3 => jT r5 s3))
 (bd2 (kf 397 [a0, (I .i64 10), (I .i64 0)] s) fun t72 s25 =>
 bd (o.ex t72 0) fun t73 =>
 bd (o.ex t72 1) fun t74 =>
 bd (retT [t73, t74]) fun r26 =>
 jT r26 s25)
theorem f358_ok : Ok Tryz.prog 358 (fun c => L1 (f358 fast c 8192)) := ok1 (fun o c => f358 o c 8192) Tryz.func358 (by kernel_rfl) (fun c a0 s => by kernel_rfl)

/- strconv.toError -/
def f359 (o : Ops) (kf : CallF) (N : Nat) (a0 a1 a2 a3 a4 : T) (s : St) : Option (T × St) :=
 jn (bd ((none : Option T)) fun t13 =>
 bd ((none : Option T)) fun t14 =>
 o.br t14 (bd2 (kf 398 [a0, a1] s) fun t17 s1 =>
 bd ((none : Option T)) fun t18 =>
 jR t18 s1)
 (bd ((none : Option T)) fun t20 =>
 bd ((none : Option T)) fun t21 =>
 o.br t21 (bd2 (kf 399 [a0, a1] s) fun t24 s2 =>
 bd ((none : Option T)) fun t25 =>
 jR t25 s2)
 (bd ((none : Option T)) fun t27 =>
 bd ((none : Option T)) fun t28 =>
 o.br t28 (bd2 (kf 400 [a0, a1, a2] s) fun t32 s3 =>
 bd ((none : Option T)) fun t33 =>
 jR t33 s3)
 (bd ((none : Option T)) fun t35 =>
 bd ((none : Option T)) fun t36 =>
 o.br t36 (bd2 (kf 401 [a0, a1, a3] s) fun t40 s4 =>
 bd ((none : Option T)) fun t41 =>
 jR t41 s4)
 (nm [a4] s)))))
 (fun v5 s6 => o.vk v5 0 fun v5_0 =>
 jT v5_0 s6)
 (fun i7 v5 s6 => none)
 (fun r8 s6 => jT r8 s6)
theorem f359_ok : Ok Tryz.prog 359 (fun c => L5 (f359 fast c 8192)) := ok5 (fun o c => f359 o c 8192) Tryz.func359 (by kernel_rfl) (fun c a0 a1 a2 a3 a4 s => by kernel_rfl)

/- (strings.asciiSet).contains -/
def f360 (o : Ops) (kf : CallF) (N : Nat) (a0 a1 : T) (s : St) : Option (T × St) :=
 bd (o.nil a0) fun t7 =>
 bd (aIndexArr 256 1 t7 a1) fun t8 =>
 bd (o.ld t8 s) fun t9 =>
 jT t9 s
theorem f360_ok : Ok Tryz.prog 360 (fun c => L2 (f360 fast c 8192)) := ok2 (fun o c => f360 o c 8192) Tryz.func360 (by kernel_rfl) (fun c a0 a1 s => by kernel_rfl)

/- unicode/utf8.DecodeRuneInString -/
def f361 (o : Ops) (kf : CallF) (N : Nat) (a0 : T) (s : St) : Option (T × St) :=
 bd (o.neq a0 (Z (.str []))) fun t5 =>
 bd (gU t5 (some a0)) fun t7 =>
 bd (gU t5 (aAtStr t7 (I .i64 0))) fun t8 =>
 bd (gU t5 (o.lss t8 (I .u8 128))) fun t9 =>
 bd (pF t5 t9) fun t10 =>
 o.br t10 (bd (aAtStr a0 (I .i64 0)) fun t12 =>
 bd (o.cv .i32 t12) fun t13 =>
 bd (retT [t13, (I .i64 1)]) fun r1 =>
 jT r1 s)
 (bd2 (kf 402 [a0] s) fun t16 s2 =>
 bd (o.ex t16 0) fun t17 =>
 bd (o.ex t16 1) fun t18 =>
 bd (retT [t17, t18]) fun r3 =>
 jT r3 s2)
theorem f361_ok : Ok Tryz.prog 361 (fun c => L1 (f361 fast c 8192)) := ok1 (fun o c => f361 o c 8192) Tryz.func361 (by kernel_rfl) (fun c a0 s => by kernel_rfl)

/- strings.ContainsRune -/
def f362 (o : Ops) (kf : CallF) (N : Nat) (a0 a1 : T) (s : St) : Option (T × St) :=
 bd2 (kf 403 [a0, a1] s) fun t7 s1 =>
 bd (o.geq t7 (I .i64 0)) fun t8 =>
 jT t8 s1
theorem f362_ok : Ok Tryz.prog 362 (fun c => L2 (f362 fast c 8192)) := ok2 (fun o c => f362 o c 8192) Tryz.func362 (by kernel_rfl) (fun c a0 a1 s => by kernel_rfl)

/- unicode/utf8.DecodeLastRuneInString -/
def f363_l1 (o : Ops) (kf : CallF) (N : Nat) (v : List T) (s : St) : Option (JO × St) :=
 o.vk v 0 fun v_0 =>
 o.vk v 1 fun v_1 =>
 o.vk v 2 fun v_2 =>
 o.vk v 3 fun v_3 =>
 bd (o.geq v_2 v_3) fun t27 =>
 o.br t27 (jn (bd (aAtStr v_0 v_2) fun t32 =>
 bd2 (kf 404 [t32] s) fun t33 s3 =>
 o.br t33 (jE 0 [v_0, v_1, v_2] s3)
 (nm [v_0, v_1, v_2, v_3] s3))
 (fun v4 s5 => o.vk v4 0 fun v4_0 =>
 o.vk v4 1 fun v4_1 =>
 o.vk v4 2 fun v4_2 =>
 o.vk v4 3 fun v4_3 =>
 bd (o.sub v4_2 (I .i64 1)) fun t29 =>
 nm [v4_0, v4_1, t29, v4_3] s5)
 (fun i6 v4 s5 => jE i6 v4 s5)
 (fun r7 s5 => jR r7 s5))
 (jE 0 [v_0, v_1, v_2] s)
def f363 (o : Ops) (kf : CallF) (N : Nat) (a0 : T) (s : St) : Option (T × St) :=
 bd (aLenStr a0) fun t8 =>
 bd (o.eql t8 (I .i64 0)) fun t10 =>
 o.br t10 (bd (retT [(I .i32 65533), (I .i64 0)]) fun r1 =>
 jT r1 s)
 (bd (o.sub t8 (I .i64 1)) fun t12 =>
 bd (aAtStr a0 t12) fun t15 =>
 bd (o.cv .i32 t15) fun t16 =>
 bd (o.lss t16 (I .i32 128)) fun t18 =>
 o.br t18 (bd (retT [t16, (I .i64 1)]) fun r2 =>
 jT r2 s)
 (bd (o.sub t8 (I .i64 4)) fun t21 =>
 bd (aFold aMax2 t21 [(I .i64 0)]) fun t22 =>
 bd (o.sub t12 (I .i64 1)) fun t24 =>
 jn (jn (o.loops (f363_l1 o kf N) N [a0, t8, t24, t22] s)
 (fun v8 s9 => nm [.any, .any, .any] s9)
 (fun i10 v8 s9 => if i10 = 0 then nm v8 s9 else jE i10 v8 s9)
 (fun r11 s9 => jR r11 s9))
 (fun v12 s13 => o.vk v12 0 fun v12_0 =>
 o.vk v12 1 fun v12_1 =>
 o.vk v12 2 fun v12_2 =>
 bd (o.lss v12_2 (I .i64 0)) fun t35 =>
 jn (o.br t35 (nm [v12_0, v12_1, (I .i64 0)] s13)
 (nm [v12_0, v12_1, v12_2] s13))
 (fun v16 s17 => o.vk v16 0 fun v16_0 =>
 o.vk v16 1 fun v16_1 =>
 o.vk v16 2 fun v16_2 =>
 bd (aPieceStr v16_0 (some v16_2) (some v16_1) none) fun t40 =>
 bd2 (kf 361 [t40] s17) fun t41 s20 =>
 bd (o.ex t41 0) fun t42 =>
 bd (o.ex t41 1) fun t43 =>
 bd (o.add v16_2 t43) fun t46 =>
 bd (o.neq t46 v16_1) fun t48 =>
 o.br t48 (bd (retT [(I .i32 65533), (I .i64 1)]) fun r21 =>
 jT r21 s20)
 (bd (retT [t42, t43]) fun r22 =>
 jT r22 s20))
 (fun i18 v16 s17 => none)
 (fun r19 s17 => jT r19 s17))
 (fun i14 v12 s13 => none)
 (fun r15 s13 => jT r15 s13)))
theorem f363_ok : Ok Tryz.prog 363 (fun c => L1 (f363 fast c 8192)) := ok1 (fun o c => f363 o c 8192) Tryz.func363 (by kernel_rfl) (fun c a0 s => by kernel_rfl)

/- fold.All -/
def f369_l1 (o : Ops) (kf : CallF) (N : Nat) (v : List T) (s : St) : Option (JO × St) :=
 o.vk v 0 fun v_0 =>
 o.vk v 1 fun v_1 =>
 o.vk v 2 fun v_2 =>
 o.vk v 3 fun v_3 =>
 o.vk v 4 fun v_4 =>
 o.vk v 5 fun v_5 =>
 bd (o.lss v_5 v_4) fun t15 =>
 o.br t15 (jn (bd (o.ix 2 v_3 v_5) fun t17 =>
 bd (o.ldn 2 t17 s) fun t18 =>
 bd2 (o.new s (nCells [.int .i64 0, .int .i64 0])) fun t8 s3 =>
 bd2 (o.st 2 t8 t18 s3) fun u4 s5 =>
 bd (o.ldn 2 t8 s5) fun t19 =>
 bd2 (kf 220 [t19, v_0] s5) fun t21 s6 =>
 bd2 (o.new s6 (nCells [.int .i64 0, .int .i64 0, .int .i64 0, .int .i64 0, .int .i64 0, .int .i64 0, .int .i64 0])) fun t9 s7 =>
 bd2 (o.st 7 t9 t21 s7) fun u8 s9 =>
 bd (o.eql v_5 (I .i64 0)) fun t23 =>
 o.br t23 (bd (o.ldn 7 t9 s9) fun t24 =>
 bd2 (o.st 7 v_2 t24 s9) fun u10 s11 =>
 nm [v_0, v_1, v_2, v_3, v_4, v_5] s11)
 (bd (o.ldn 7 v_2 s9) fun t26 =>
 bd (o.ldn 7 t9 s9) fun t27 =>
 bd2 (kf 370 [t26, t27] s9) fun t28 s12 =>
 bd (o.ex t28 0) fun t29 =>
 bd (o.ex t28 1) fun t30 =>
 bd2 (o.new s12 (nCells [.int .i64 0, .int .i64 0, .int .i64 0, .int .i64 0, .int .i64 0, .int .i64 0, .int .i64 0])) fun t10 s13 =>
 bd2 (o.st 7 t10 t29 s13) fun u14 s15 =>
 bd (o.neq t30 (I .i64 0)) fun t32 =>
 o.br t32 (bd (asAggT (aFill [.int .i64 0, .int .i64 0, .int .i64 0, .int .i64 0, .int .i64 0, .int .i64 0, .int .i64 0] [])) fun t33 =>
 bd2 (o.st 7 v_1 t33 s15) fun u16 s17 =>
 bd (rC (o.ldn 7 v_1 s17) (rT t30 (some []))) fun l18 =>
 bd (retT l18) fun r19 =>
 jR r19 s17)
 (bd (o.ldn 7 t10 s15) fun t35 =>
 bd2 (o.st 7 v_2 t35 s15) fun u20 s21 =>
 nm [v_0, v_1, v_2, v_3, v_4, v_5] s21)))
 (fun v22 s23 => o.vk v22 0 fun v22_0 =>
 o.vk v22 1 fun v22_1 =>
 o.vk v22 2 fun v22_2 =>
 o.vk v22 3 fun v22_3 =>
 o.vk v22 4 fun v22_4 =>
 o.vk v22 5 fun v22_5 =>
 bd (o.add v22_5 (I .i64 1)) fun t36 =>
 nm [v22_0, v22_1, v22_2, v22_3, v22_4, t36] s23)
 (fun i24 v22 s23 => jE i24 v22 s23)
 (fun r25 s23 => jR r25 s23))
 (jE 0 [v_1, v_2] s)
def f369 (o : Ops) (kf : CallF) (N : Nat) (a0 a1 : T) (s : St) : Option (T × St) :=
 bd2 (o.new s (nCells [.int .i64 0, .int .i64 0, .int .i64 0, .int .i64 0, .int .i64 0, .int .i64 0, .int .i64 0])) fun t4 s1 =>
 bd2 (o.new s1 (nCells [.int .i64 0, .int .i64 0, .int .i64 0, .int .i64 0, .int .i64 0, .int .i64 0, .int .i64 0])) fun t6 s2 =>
 bd (o.ln a0) fun t13 =>
 jn (jn (o.loops (f369_l1 o kf N) N [a1, t4, t6, a0, t13, (I .i64 0)] s2)
 (fun v26 s27 => nm [.any, .any] s27)
 (fun i28 v26 s27 => if i28 = 0 then nm v26 s27 else jE i28 v26 s27)
 (fun r29 s27 => jR r29 s27))
 (fun v30 s31 => o.vk v30 0 fun v30_0 =>
 o.vk v30 1 fun v30_1 =>
 bd (o.ldn 7 v30_1 s31) fun t37 =>
 bd2 (kf 356 [t37] s31) fun t38 s34 =>
 bd (aUn .not t38) fun t39 =>
 o.br t39 (bd (asAggT (aFill [.int .i64 0, .int .i64 0, .int .i64 0, .int .i64 0, .int .i64 0, .int .i64 0, .int .i64 0] [])) fun t40 =>
 bd2 (o.st 7 v30_0 t40 s34) fun u35 s36 =>
 bd (rC (o.ldn 7 v30_0 s36) (rT (I .i64 1) (some []))) fun l37 =>
 bd (retT l37) fun r38 =>
 jT r38 s36)
 (bd (o.ldn 7 v30_1 s34) fun t41 =>
 bd2 (o.st 7 v30_0 t41 s34) fun u39 s40 =>
 bd (rC (o.ldn 7 v30_0 s40) (rT (I .i64 0) (some []))) fun l41 =>
 bd (retT l41) fun r42 =>
 jT r42 s40))
 (fun i32 v30 s31 => none)
 (fun r33 s31 => jT r33 s31)
theorem f369_ok : Ok Tryz.prog 369 (fun c => L2 (f369 fast c 8192)) := ok2 (fun o c => f369 o c 8192) Tryz.func369 (by kernel_rfl) (fun c a0 a1 s => by kernel_rfl)

/- slices.Reverse[[]api.Sample,api.Sample] -/
def f376_l1 (o : Ops) (kf : CallF) (N : Nat) (v : List T) (s : St) : Option (JO × St) :=
 o.vk v 0 fun v_0 =>
 o.vk v 1 fun v_1 =>
 o.vk v 2 fun v_2 =>
 bd (o.lss v_1 v_2) fun t9 =>
 o.br t9 (jn (bd (o.ix 2 v_0 v_2) fun t20 =>
 bd (o.ldn 2 t20 s) fun t21 =>
 bd (o.ix 2 v_0 v_1) fun t24 =>
 bd (o.ldn 2 t24 s) fun t25 =>
 bd (o.ix 2 v_0 v_1) fun t26 =>
 bd2 (o.st 2 t26 t21 s) fun u1 s2 =>
 bd (o.ix 2 v_0 v_2) fun t27 =>
 bd2 (o.st 2 t27 t25 s2) fun u3 s4 =>
 nm [v_0, v_1, v_2] s4)
 (fun v5 s6 => o.vk v5 0 fun v5_0 =>
 o.vk v5 1 fun v5_1 =>
 o.vk v5 2 fun v5_2 =>
 bd (o.add v5_1 (I .i64 1)) fun t11 =>
 bd (o.sub v5_2 (I .i64 1)) fun t13 =>
 nm [v5_0, t11, t13] s6)
 (fun i7 v5 s6 => jE i7 v5 s6)
 (fun r8 s6 => jR r8 s6))
 (jE 0 [] s)
def f376 (o : Ops) (kf : CallF) (N : Nat) (a0 : T) (s : St) : Option (T × St) :=
 bd (o.ln a0) fun t5 =>
 bd (o.sub t5 (I .i64 1)) fun t6 =>
 jn (jn (o.loops (f376_l1 o kf N) N [a0, (I .i64 0), t6] s)
 (fun v9 s10 => nm [] s10)
 (fun i11 v9 s10 => if i11 = 0 then nm v9 s10 else jE i11 v9 s10)
 (fun r12 s10 => jR r12 s10))
 (fun v13 s14 => bd (retT []) fun r17 =>
 jT r17 s14)
 (fun i15 v13 s14 => none)
 (fun r16 s14 => jT r16 s14)
theorem f376_ok : Ok Tryz.prog 376 (fun c => L1 (f376 fast c 8192)) := ok1 (fun o c => f376 o c 8192) Tryz.func376 (by kernel_rfl) (fun c a0 s => by kernel_rfl)

/- slices.Reverse[[]api.Info,api.Info] -/
def f384_l1 (o : Ops) (kf : CallF) (N : Nat) (v : List T) (s : St) : Option (JO × St) :=
 o.vk v 0 fun v_0 =>
 o.vk v 1 fun v_1 =>
 o.vk v 2 fun v_2 =>
 bd (o.lss v_1 v_2) fun t9 =>
 o.br t9 (jn (bd (o.ix 5 v_0 v_2) fun t20 =>
 bd (o.ldn 5 t20 s) fun t21 =>
 bd (o.ix 5 v_0 v_1) fun t24 =>
 bd (o.ldn 5 t24 s) fun t25 =>
 bd (o.ix 5 v_0 v_1) fun t26 =>
 bd2 (o.st 5 t26 t21 s) fun u1 s2 =>
 bd (o.ix 5 v_0 v_2) fun t27 =>
 bd2 (o.st 5 t27 t25 s2) fun u3 s4 =>
 nm [v_0, v_1, v_2] s4)
 (fun v5 s6 => o.vk v5 0 fun v5_0 =>
 o.vk v5 1 fun v5_1 =>
 o.vk v5 2 fun v5_2 =>
 bd (o.add v5_1 (I .i64 1)) fun t11 =>
 bd (o.sub v5_2 (I .i64 1)) fun t13 =>
 nm [v5_0, t11, t13] s6)
 (fun i7 v5 s6 => jE i7 v5 s6)
 (fun r8 s6 => jR r8 s6))
 (jE 0 [] s)
def f384 (o : Ops) (kf : CallF) (N : Nat) (a0 : T) (s : St) : Option (T × St) :=
 bd (o.ln a0) fun t5 =>
 bd (o.sub t5 (I .i64 1)) fun t6 =>
 jn (jn (o.loops (f384_l1 o kf N) N [a0, (I .i64 0), t6] s)
 (fun v9 s10 => nm [] s10)
 (fun i11 v9 s10 => if i11 = 0 then nm v9 s10 else jE i11 v9 s10)
 (fun r12 s10 => jR r12 s10))
 (fun v13 s14 => bd (retT []) fun r17 =>
 jT r17 s14)
 (fun i15 v13 s14 => none)
 (fun r16 s14 => jT r16 s14)
theorem f384_ok : Ok Tryz.prog 384 (fun c => L1 (f384 fast c 8192)) := ok1 (fun o c => f384 o c 8192) Tryz.func384 (by kernel_rfl) (fun c a0 s => by kernel_rfl)

/- internal/strconv.small -/
def f385 (o : Ops) (kf : CallF) (N : Nat) (a0 : T) (s : St) : Option (T × St) :=
 bd (o.lss a0 (I .i64 10)) fun t4 =>
 o.br t4 (bd (o.add a0 (I .i64 1)) fun t7 =>
 bd (aPieceStr (Z (.str [48, 49, 50, 51, 52, 53, 54, 55, 56, 57, 97, 98, 99, 100, 101, 102, 103, 104, 105, 106, 107, 108, 109, 110, 111, 112, 113, 114, 115, 116, 117, 118, 119, 120, 121, 122])) (some a0) (some t7) none) fun t8 =>
 jT t8 s)
 (bd (o.bin .mul a0 (I .i64 2)) fun t10 =>
 bd (o.bin .mul a0 (I .i64 2)) fun t12 =>
 bd (o.add t12 (I .i64 2)) fun t13 =>
 bd (aPieceStr (Z (.str [48, 48, 48, 49, 48, 50, 48, 51, 48, 52, 48, 53, 48, 54, 48, 55, 48, 56, 48, 57, 49, 48, 49, 49, 49, 50, 49, 51, 49, 52, 49, 53, 49, 54, 49, 55, 49, 56, 49, 57, 50, 48, 50, 49, 50, 50, 50, 51, 50, 52, 50, 53, 50, 54, 50, 55, 50, 56, 50, 57, 51, 48, 51, 49, 51, 50, 51, 51, 51, 52, 51, 53, 51, 54, 51, 55, 51, 56, 51, 57, 52, 48, 52, 49, 52, 50, 52, 51, 52, 52, 52, 53, 52, 54, 52, 55, 52, 56, 52, 57, 53, 48, 53, 49, 53, 50, 53, 51, 53, 52, 53, 53, 53, 54, 53, 55, 53, 56, 53, 57, 54, 48, 54, 49, 54, 50, 54, 51, 54, 52, 54, 53, 54, 54, 54, 55, 54, 56, 54, 57, 55, 48, 55, 49, 55, 50, 55, 51, 55, 52, 55, 53, 55, 54, 55, 55, 55, 56, 55, 57, 56, 48, 56, 49, 56, 50, 56, 51, 56, 52, 56, 53, 56, 54, 56, 55, 56, 56, 56, 57, 57, 48, 57, 49, 57, 50, 57, 51, 57, 52, 57, 53, 57, 54, 57, 55, 57, 56, 57, 57])) (some t10) (some t13) none) fun t14 =>
 jT t14 s)
theorem f385_ok : Ok Tryz.prog 385 (fun c => L1 (f385 fast c 8192)) := ok1 (fun o c => f385 o c 8192) Tryz.func385 (by kernel_rfl) (fun c a0 s => by kernel_rfl)

/- internal/strconv.numDigits -/
def f386 (o : Ops) (kf : CallF) (N : Nat) (a0 : T) (s : St) : Option (T × St) :=
 bd2 (kf 330 [a0] s) fun t5 s1 =>
 bd2 (kf 424 [t5] s1) fun t6 s2 =>
 bd (aIndexArr 20 1 .any t6) fun t10 =>
 bd (o.ld t10 s2) fun t11 =>
 bd (o.geq a0 t11) fun t12 =>
 bd2 (kf 425 [t12] s2) fun t13 s3 =>
 bd (o.add t6 t13) fun t14 =>
 jT t14 s3
theorem f386_ok : Ok Tryz.prog 386 (fun c => L1 (f386 fast c 8192)) := ok1 (fun o c => f386 o c 8192) Tryz.func386 (by kernel_rfl) (fun c a0 s => by kernel_rfl)

/- internal/strconv.formatBase10 -/
def f387_l1_1 (o : Ops) (kf : CallF) (N : Nat) (t41 v_0 t70 t76 : T) (s8 : St) (t73 v_2 t38 t25 : T) : Option (JO × St) :=
 bd (aAtStr (Z (.str [48, 48, 48, 49, 48, 50, 48, 51, 48, 52, 48, 53, 48, 54, 48, 55, 48, 56, 48, 57, 49, 48, 49, 49, 49, 50, 49, 51, 49, 52, 49, 53, 49, 54, 49, 55, 49, 56, 49, 57, 50, 48, 50, 49, 50, 50, 50, 51, 50, 52, 50, 53, 50, 54, 50, 55, 50, 56, 50, 57, 51, 48, 51, 49, 51, 50, 51, 51, 51, 52, 51, 53, 51, 54, 51, 55, 51, 56, 51, 57, 52, 48, 52, 49, 52, 50, 52, 51, 52, 52, 52, 53, 52, 54, 52, 55, 52, 56, 52, 57, 53, 48, 53, 49, 53, 50, 53, 51, 53, 52, 53, 53, 53, 54, 53, 55, 53, 56, 53, 57, 54, 48, 54, 49, 54, 50, 54, 51, 54, 52, 54, 53, 54, 54, 54, 55, 54, 56, 54, 57, 55, 48, 55, 49, 55, 50, 55, 51, 55, 52, 55, 53, 55, 54, 55, 55, 55, 56, 55, 57, 56, 48, 56, 49, 56, 50, 56, 51, 56, 52, 56, 53, 56, 54, 56, 55, 56, 56, 56, 57, 57, 48, 57, 49, 57, 50, 57, 51, 57, 52, 57, 53, 57, 54, 57, 55, 57, 56, 57, 57])) t41) fun t78 =>
 bd (o.ix 1 v_0 t70) fun t79 =>
 bd2 (o.st 1 t79 t76 s8) fun u9 s10 =>
 bd (o.ix 1 v_0 t73) fun t80 =>
 bd2 (o.st 1 t80 t78 s10) fun u11 s12 =>
 bd (o.sub v_2 (I .i64 7)) fun t83 =>
 bd (o.sub v_2 (I .i64 8)) fun t86 =>
 bd (o.add t38 (I .u32 1)) fun t88 =>
 bd (aAtStr (Z (.str [48, 48, 48, 49, 48, 50, 48, 51, 48, 52, 48, 53, 48, 54, 48, 55, 48, 56, 48, 57, 49, 48, 49, 49, 49, 50, 49, 51, 49, 52, 49, 53, 49, 54, 49, 55, 49, 56, 49, 57, 50, 48, 50, 49, 50, 50, 50, 51, 50, 52, 50, 53, 50, 54, 50, 55, 50, 56, 50, 57, 51, 48, 51, 49, 51, 50, 51, 51, 51, 52, 51, 53, 51, 54, 51, 55, 51, 56, 51, 57, 52, 48, 52, 49, 52, 50, 52, 51, 52, 52, 52, 53, 52, 54, 52, 55, 52, 56, 52, 57, 53, 48, 53, 49, 53, 50, 53, 51, 53, 52, 53, 53, 53, 54, 53, 55, 53, 56, 53, 57, 54, 48, 54, 49, 54, 50, 54, 51, 54, 52, 54, 53, 54, 54, 54, 55, 54, 56, 54, 57, 55, 48, 55, 49, 55, 50, 55, 51, 55, 52, 55, 53, 55, 54, 55, 55, 55, 56, 55, 57, 56, 48, 56, 49, 56, 50, 56, 51, 56, 52, 56, 53, 56, 54, 56, 55, 56, 56, 56, 57, 57, 48, 57, 49, 57, 50, 57, 51, 57, 52, 57, 53, 57, 54, 57, 55, 57, 56, 57, 57])) t88) fun t89 =>
 bd (aAtStr (Z (.str [48, 48, 48, 49, 48, 50, 48, 51, 48, 52, 48, 53, 48, 54, 48, 55, 48, 56, 48, 57, 49, 48, 49, 49, 49, 50, 49, 51, 49, 52, 49, 53, 49, 54, 49, 55, 49, 56, 49, 57, 50, 48, 50, 49, 50, 50, 50, 51, 50, 52, 50, 53, 50, 54, 50, 55, 50, 56, 50, 57, 51, 48, 51, 49, 51, 50, 51, 51, 51, 52, 51, 53, 51, 54, 51, 55, 51, 56, 51, 57, 52, 48, 52, 49, 52, 50, 52, 51, 52, 52, 52, 53, 52, 54, 52, 55, 52, 56, 52, 57, 53, 48, 53, 49, 53, 50, 53, 51, 53, 52, 53, 53, 53, 54, 53, 55, 53, 56, 53, 57, 54, 48, 54, 49, 54, 50, 54, 51, 54, 52, 54, 53, 54, 54, 54, 55, 54, 56, 54, 57, 55, 48, 55, 49, 55, 50, 55, 51, 55, 52, 55, 53, 55, 54, 55, 55, 55, 56, 55, 57, 56, 48, 56, 49, 56, 50, 56, 51, 56, 52, 56, 53, 56, 54, 56, 55, 56, 56, 56, 57, 57, 48, 57, 49, 57, 50, 57, 51, 57, 52, 57, 53, 57, 54, 57, 55, 57, 56, 57, 57])) t38) fun t91 =>
 bd (o.ix 1 v_0 t83) fun t92 =>
 bd2 (o.st 1 t92 t89 s12) fun u13 s14 =>
 bd (o.ix 1 v_0 t86) fun t93 =>
 bd2 (o.st 1 t93 t91 s14) fun u15 s16 =>
 bd (o.sub v_2 (I .i64 8)) fun t95 =>
 nm [v_0, t25, t95] s16
def f387_l1_2 (o : Ops) (kf : CallF) (N : Nat) (t62 t32 v_0 t57 : T) (s4 : St) (t60 v_2 t41 t38 t25 : T) : Option (JO × St) :=
 bd (aAtStr (Z (.str [48, 48, 48, 49, 48, 50, 48, 51, 48, 52, 48, 53, 48, 54, 48, 55, 48, 56, 48, 57, 49, 48, 49, 49, 49, 50, 49, 51, 49, 52, 49, 53, 49, 54, 49, 55, 49, 56, 49, 57, 50, 48, 50, 49, 50, 50, 50, 51, 50, 52, 50, 53, 50, 54, 50, 55, 50, 56, 50, 57, 51, 48, 51, 49, 51, 50, 51, 51, 51, 52, 51, 53, 51, 54, 51, 55, 51, 56, 51, 57, 52, 48, 52, 49, 52, 50, 52, 51, 52, 52, 52, 53, 52, 54, 52, 55, 52, 56, 52, 57, 53, 48, 53, 49, 53, 50, 53, 51, 53, 52, 53, 53, 53, 54, 53, 55, 53, 56, 53, 57, 54, 48, 54, 49, 54, 50, 54, 51, 54, 52, 54, 53, 54, 54, 54, 55, 54, 56, 54, 57, 55, 48, 55, 49, 55, 50, 55, 51, 55, 52, 55, 53, 55, 54, 55, 55, 55, 56, 55, 57, 56, 48, 56, 49, 56, 50, 56, 51, 56, 52, 56, 53, 56, 54, 56, 55, 56, 56, 56, 57, 57, 48, 57, 49, 57, 50, 57, 51, 57, 52, 57, 53, 57, 54, 57, 55, 57, 56, 57, 57])) t62) fun t63 =>
 bd (aAtStr (Z (.str [48, 48, 48, 49, 48, 50, 48, 51, 48, 52, 48, 53, 48, 54, 48, 55, 48, 56, 48, 57, 49, 48, 49, 49, 49, 50, 49, 51, 49, 52, 49, 53, 49, 54, 49, 55, 49, 56, 49, 57, 50, 48, 50, 49, 50, 50, 50, 51, 50, 52, 50, 53, 50, 54, 50, 55, 50, 56, 50, 57, 51, 48, 51, 49, 51, 50, 51, 51, 51, 52, 51, 53, 51, 54, 51, 55, 51, 56, 51, 57, 52, 48, 52, 49, 52, 50, 52, 51, 52, 52, 52, 53, 52, 54, 52, 55, 52, 56, 52, 57, 53, 48, 53, 49, 53, 50, 53, 51, 53, 52, 53, 53, 53, 54, 53, 55, 53, 56, 53, 57, 54, 48, 54, 49, 54, 50, 54, 51, 54, 52, 54, 53, 54, 54, 54, 55, 54, 56, 54, 57, 55, 48, 55, 49, 55, 50, 55, 51, 55, 52, 55, 53, 55, 54, 55, 55, 55, 56, 55, 57, 56, 48, 56, 49, 56, 50, 56, 51, 56, 52, 56, 53, 56, 54, 56, 55, 56, 56, 56, 57, 57, 48, 57, 49, 57, 50, 57, 51, 57, 52, 57, 53, 57, 54, 57, 55, 57, 56, 57, 57])) t32) fun t65 =>
 bd (o.ix 1 v_0 t57) fun t66 =>
 bd2 (o.st 1 t66 t63 s4) fun u5 s6 =>
 bd (o.ix 1 v_0 t60) fun t67 =>
 bd2 (o.st 1 t67 t65 s6) fun u7 s8 =>
 bd (o.sub v_2 (I .i64 5)) fun t70 =>
 bd (o.sub v_2 (I .i64 6)) fun t73 =>
 bd (o.add t41 (I .u32 1)) fun t75 =>
 bd (aAtStr (Z (.str [48, 48, 48, 49, 48, 50, 48, 51, 48, 52, 48, 53, 48, 54, 48, 55, 48, 56, 48, 57, 49, 48, 49, 49, 49, 50, 49, 51, 49, 52, 49, 53, 49, 54, 49, 55, 49, 56, 49, 57, 50, 48, 50, 49, 50, 50, 50, 51, 50, 52, 50, 53, 50, 54, 50, 55, 50, 56, 50, 57, 51, 48, 51, 49, 51, 50, 51, 51, 51, 52, 51, 53, 51, 54, 51, 55, 51, 56, 51, 57, 52, 48, 52, 49, 52, 50, 52, 51, 52, 52, 52, 53, 52, 54, 52, 55, 52, 56, 52, 57, 53, 48, 53, 49, 53, 50, 53, 51, 53, 52, 53, 53, 53, 54, 53, 55, 53, 56, 53, 57, 54, 48, 54, 49, 54, 50, 54, 51, 54, 52, 54, 53, 54, 54, 54, 55, 54, 56, 54, 57, 55, 48, 55, 49, 55, 50, 55, 51, 55, 52, 55, 53, 55, 54, 55, 55, 55, 56, 55, 57, 56, 48, 56, 49, 56, 50, 56, 51, 56, 52, 56, 53, 56, 54, 56, 55, 56, 56, 56, 57, 57, 48, 57, 49, 57, 50, 57, 51, 57, 52, 57, 53, 57, 54, 57, 55, 57, 56, 57, 57])) t75) fun t76 =>
 f387_l1_1 o kf N t41 v_0 t70 t76 s8 t73 v_2 t38 t25
def f387_l1_3 (o : Ops) (kf : CallF) (N : Nat) (t23 t27 v_2 v_0 : T) (s : St) (t25 : T) : Option (JO × St) :=
 bd (o.bin .rem t23 (I .u32 10000)) fun t29 =>
 bd (o.bin .quo t29 (I .u32 100)) fun t31 =>
 bd (o.bin .mul t31 (I .u32 2)) fun t32 =>
 bd (o.bin .rem t29 (I .u32 100)) fun t34 =>
 bd (o.bin .mul t34 (I .u32 2)) fun t35 =>
 bd (o.bin .quo t27 (I .u32 100)) fun t37 =>
 bd (o.bin .mul t37 (I .u32 2)) fun t38 =>
 bd (o.bin .rem t27 (I .u32 100)) fun t40 =>
 bd (o.bin .mul t40 (I .u32 2)) fun t41 =>
 bd (o.sub v_2 (I .i64 1)) fun t44 =>
 bd (o.sub v_2 (I .i64 2)) fun t47 =>
 bd (o.add t35 (I .u32 1)) fun t49 =>
 bd (aAtStr (Z (.str [48, 48, 48, 49, 48, 50, 48, 51, 48, 52, 48, 53, 48, 54, 48, 55, 48, 56, 48, 57, 49, 48, 49, 49, 49, 50, 49, 51, 49, 52, 49, 53, 49, 54, 49, 55, 49, 56, 49, 57, 50, 48, 50, 49, 50, 50, 50, 51, 50, 52, 50, 53, 50, 54, 50, 55, 50, 56, 50, 57, 51, 48, 51, 49, 51, 50, 51, 51, 51, 52, 51, 53, 51, 54, 51, 55, 51, 56, 51, 57, 52, 48, 52, 49, 52, 50, 52, 51, 52, 52, 52, 53, 52, 54, 52, 55, 52, 56, 52, 57, 53, 48, 53, 49, 53, 50, 53, 51, 53, 52, 53, 53, 53, 54, 53, 55, 53, 56, 53, 57, 54, 48, 54, 49, 54, 50, 54, 51, 54, 52, 54, 53, 54, 54, 54, 55, 54, 56, 54, 57, 55, 48, 55, 49, 55, 50, 55, 51, 55, 52, 55, 53, 55, 54, 55, 55, 55, 56, 55, 57, 56, 48, 56, 49, 56, 50, 56, 51, 56, 52, 56, 53, 56, 54, 56, 55, 56, 56, 56, 57, 57, 48, 57, 49, 57, 50, 57, 51, 57, 52, 57, 53, 57, 54, 57, 55, 57, 56, 57, 57])) t49) fun t50 =>
 bd (aAtStr (Z (.str [48, 48, 48, 49, 48, 50, 48, 51, 48, 52, 48, 53, 48, 54, 48, 55, 48, 56, 48, 57, 49, 48, 49, 49, 49, 50, 49, 51, 49, 52, 49, 53, 49, 54, 49, 55, 49, 56, 49, 57, 50, 48, 50, 49, 50, 50, 50, 51, 50, 52, 50, 53, 50, 54, 50, 55, 50, 56, 50, 57, 51, 48, 51, 49, 51, 50, 51, 51, 51, 52, 51, 53, 51, 54, 51, 55, 51, 56, 51, 57, 52, 48, 52, 49, 52, 50, 52, 51, 52, 52, 52, 53, 52, 54, 52, 55, 52, 56, 52, 57, 53, 48, 53, 49, 53, 50, 53, 51, 53, 52, 53, 53, 53, 54, 53, 55, 53, 56, 53, 57, 54, 48, 54, 49, 54, 50, 54, 51, 54, 52, 54, 53, 54, 54, 54, 55, 54, 56, 54, 57, 55, 48, 55, 49, 55, 50, 55, 51, 55, 52, 55, 53, 55, 54, 55, 55, 55, 56, 55, 57, 56, 48, 56, 49, 56, 50, 56, 51, 56, 52, 56, 53, 56, 54, 56, 55, 56, 56, 56, 57, 57, 48, 57, 49, 57, 50, 57, 51, 57, 52, 57, 53, 57, 54, 57, 55, 57, 56, 57, 57])) t35) fun t52 =>
 bd (o.ix 1 v_0 t44) fun t53 =>
 bd2 (o.st 1 t53 t50 s) fun u1 s2 =>
 bd (o.ix 1 v_0 t47) fun t54 =>
 bd2 (o.st 1 t54 t52 s2) fun u3 s4 =>
 bd (o.sub v_2 (I .i64 3)) fun t57 =>
 bd (o.sub v_2 (I .i64 4)) fun t60 =>
 bd (o.add t32 (I .u32 1)) fun t62 =>
 f387_l1_2 o kf N t62 t32 v_0 t57 s4 t60 v_2 t41 t38 t25
def f387_l1 (o : Ops) (kf : CallF) (N : Nat) (v : List T) (s : St) : Option (JO × St) :=
 o.vk v 0 fun v_0 =>
 o.vk v 1 fun v_1 =>
 o.vk v 2 fun v_2 =>
 bd (o.geq v_2 (I .i64 8)) fun t20 =>
 o.br t20 (jn (bd (o.bin .rem v_1 (I .u64 100000000)) fun t22 =>
 bd (o.cv .u32 t22) fun t23 =>
 bd (o.bin .quo v_1 (I .u64 100000000)) fun t25 =>
 bd (o.bin .quo t23 (I .u32 10000)) fun t27 =>
 f387_l1_3 o kf N t23 t27 v_2 v_0 s t25)
 (fun v17 s18 => o.vk v17 0 fun v17_0 =>
 o.vk v17 1 fun v17_1 =>
 o.vk v17 2 fun v17_2 =>
 nm [v17_0, v17_1, v17_2] s18)
 (fun i19 v17 s18 => jE i19 v17 s18)
 (fun r20 s18 => jR r20 s18))
 (jE 0 [v_0, v_1, v_2] s)
def f387_1 (o : Ops) (kf : CallF) (N : Nat) (t109 v25_0 t112 t118 : T) (s26 : St) (t115 v25_2 t106 t103 : T) : Option (JO × St) :=
 bd (aAtStr (Z (.str [48, 48, 48, 49, 48, 50, 48, 51, 48, 52, 48, 53, 48, 54, 48, 55, 48, 56, 48, 57, 49, 48, 49, 49, 49, 50, 49, 51, 49, 52, 49, 53, 49, 54, 49, 55, 49, 56, 49, 57, 50, 48, 50, 49, 50, 50, 50, 51, 50, 52, 50, 53, 50, 54, 50, 55, 50, 56, 50, 57, 51, 48, 51, 49, 51, 50, 51, 51, 51, 52, 51, 53, 51, 54, 51, 55, 51, 56, 51, 57, 52, 48, 52, 49, 52, 50, 52, 51, 52, 52, 52, 53, 52, 54, 52, 55, 52, 56, 52, 57, 53, 48, 53, 49, 53, 50, 53, 51, 53, 52, 53, 53, 53, 54, 53, 55, 53, 56, 53, 57, 54, 48, 54, 49, 54, 50, 54, 51, 54, 52, 54, 53, 54, 54, 54, 55, 54, 56, 54, 57, 55, 48, 55, 49, 55, 50, 55, 51, 55, 52, 55, 53, 55, 54, 55, 55, 55, 56, 55, 57, 56, 48, 56, 49, 56, 50, 56, 51, 56, 52, 56, 53, 56, 54, 56, 55, 56, 56, 56, 57, 57, 48, 57, 49, 57, 50, 57, 51, 57, 52, 57, 53, 57, 54, 57, 55, 57, 56, 57, 57])) t109) fun t120 =>
 bd (o.ix 1 v25_0 t112) fun t121 =>
 bd2 (o.st 1 t121 t118 s26) fun u29 s30 =>
 bd (o.ix 1 v25_0 t115) fun t122 =>
 bd2 (o.st 1 t122 t120 s30) fun u31 s32 =>
 bd (o.sub v25_2 (I .i64 3)) fun t125 =>
 bd (o.sub v25_2 (I .i64 4)) fun t128 =>
 bd (o.add t106 (I .u32 1)) fun t130 =>
 bd (aAtStr (Z (.str [48, 48, 48, 49, 48, 50, 48, 51, 48, 52, 48, 53, 48, 54, 48, 55, 48, 56, 48, 57, 49, 48, 49, 49, 49, 50, 49, 51, 49, 52, 49, 53, 49, 54, 49, 55, 49, 56, 49, 57, 50, 48, 50, 49, 50, 50, 50, 51, 50, 52, 50, 53, 50, 54, 50, 55, 50, 56, 50, 57, 51, 48, 51, 49, 51, 50, 51, 51, 51, 52, 51, 53, 51, 54, 51, 55, 51, 56, 51, 57, 52, 48, 52, 49, 52, 50, 52, 51, 52, 52, 52, 53, 52, 54, 52, 55, 52, 56, 52, 57, 53, 48, 53, 49, 53, 50, 53, 51, 53, 52, 53, 53, 53, 54, 53, 55, 53, 56, 53, 57, 54, 48, 54, 49, 54, 50, 54, 51, 54, 52, 54, 53, 54, 54, 54, 55, 54, 56, 54, 57, 55, 48, 55, 49, 55, 50, 55, 51, 55, 52, 55, 53, 55, 54, 55, 55, 55, 56, 55, 57, 56, 48, 56, 49, 56, 50, 56, 51, 56, 52, 56, 53, 56, 54, 56, 55, 56, 56, 56, 57, 57, 48, 57, 49, 57, 50, 57, 51, 57, 52, 57, 53, 57, 54, 57, 55, 57, 56, 57, 57])) t130) fun t131 =>
 bd (aAtStr (Z (.str [48, 48, 48, 49, 48, 50, 48, 51, 48, 52, 48, 53, 48, 54, 48, 55, 48, 56, 48, 57, 49, 48, 49, 49, 49, 50, 49, 51, 49, 52, 49, 53, 49, 54, 49, 55, 49, 56, 49, 57, 50, 48, 50, 49, 50, 50, 50, 51, 50, 52, 50, 53, 50, 54, 50, 55, 50, 56, 50, 57, 51, 48, 51, 49, 51, 50, 51, 51, 51, 52, 51, 53, 51, 54, 51, 55, 51, 56, 51, 57, 52, 48, 52, 49, 52, 50, 52, 51, 52, 52, 52, 53, 52, 54, 52, 55, 52, 56, 52, 57, 53, 48, 53, 49, 53, 50, 53, 51, 53, 52, 53, 53, 53, 54, 53, 55, 53, 56, 53, 57, 54, 48, 54, 49, 54, 50, 54, 51, 54, 52, 54, 53, 54, 54, 54, 55, 54, 56, 54, 57, 55, 48, 55, 49, 55, 50, 55, 51, 55, 52, 55, 53, 55, 54, 55, 55, 55, 56, 55, 57, 56, 48, 56, 49, 56, 50, 56, 51, 56, 52, 56, 53, 56, 54, 56, 55, 56, 56, 56, 57, 57, 48, 57, 49, 57, 50, 57, 51, 57, 52, 57, 53, 57, 54, 57, 55, 57, 56, 57, 57])) t106) fun t133 =>
 bd (o.ix 1 v25_0 t125) fun t134 =>
 bd2 (o.st 1 t134 t131 s32) fun u33 s34 =>
 bd (o.ix 1 v25_0 t128) fun t135 =>
 bd2 (o.st 1 t135 t133 s34) fun u35 s36 =>
 bd (o.sub v25_2 (I .i64 4)) fun t137 =>
 nm [v25_0, t137, t103] s36
def f387_2 (o : Ops) (kf : CallF) (N : Nat) (t139 v37_2 v37_1 v37_0 : T) (s38 : St) : Option (T × St) :=
 jn (o.br t139 (bd (o.bin .rem v37_2 (I .u32 100)) fun t141 =>
 bd (o.bin .mul t141 (I .u32 2)) fun t142 =>
 bd (o.bin .quo v37_2 (I .u32 100)) fun t144 =>
 bd (o.sub v37_1 (I .i64 1)) fun t147 =>
 bd (o.sub v37_1 (I .i64 2)) fun t150 =>
 bd (o.add t142 (I .u32 1)) fun t152 =>
 bd (aAtStr (Z (.str [48, 48, 48, 49, 48, 50, 48, 51, 48, 52, 48, 53, 48, 54, 48, 55, 48, 56, 48, 57, 49, 48, 49, 49, 49, 50, 49, 51, 49, 52, 49, 53, 49, 54, 49, 55, 49, 56, 49, 57, 50, 48, 50, 49, 50, 50, 50, 51, 50, 52, 50, 53, 50, 54, 50, 55, 50, 56, 50, 57, 51, 48, 51, 49, 51, 50, 51, 51, 51, 52, 51, 53, 51, 54, 51, 55, 51, 56, 51, 57, 52, 48, 52, 49, 52, 50, 52, 51, 52, 52, 52, 53, 52, 54, 52, 55, 52, 56, 52, 57, 53, 48, 53, 49, 53, 50, 53, 51, 53, 52, 53, 53, 53, 54, 53, 55, 53, 56, 53, 57, 54, 48, 54, 49, 54, 50, 54, 51, 54, 52, 54, 53, 54, 54, 54, 55, 54, 56, 54, 57, 55, 48, 55, 49, 55, 50, 55, 51, 55, 52, 55, 53, 55, 54, 55, 55, 55, 56, 55, 57, 56, 48, 56, 49, 56, 50, 56, 51, 56, 52, 56, 53, 56, 54, 56, 55, 56, 56, 56, 57, 57, 48, 57, 49, 57, 50, 57, 51, 57, 52, 57, 53, 57, 54, 57, 55, 57, 56, 57, 57])) t152) fun t153 =>
 bd (aAtStr (Z (.str [48, 48, 48, 49, 48, 50, 48, 51, 48, 52, 48, 53, 48, 54, 48, 55, 48, 56, 48, 57, 49, 48, 49, 49, 49, 50, 49, 51, 49, 52, 49, 53, 49, 54, 49, 55, 49, 56, 49, 57, 50, 48, 50, 49, 50, 50, 50, 51, 50, 52, 50, 53, 50, 54, 50, 55, 50, 56, 50, 57, 51, 48, 51, 49, 51, 50, 51, 51, 51, 52, 51, 53, 51, 54, 51, 55, 51, 56, 51, 57, 52, 48, 52, 49, 52, 50, 52, 51, 52, 52, 52, 53, 52, 54, 52, 55, 52, 56, 52, 57, 53, 48, 53, 49, 53, 50, 53, 51, 53, 52, 53, 53, 53, 54, 53, 55, 53, 56, 53, 57, 54, 48, 54, 49, 54, 50, 54, 51, 54, 52, 54, 53, 54, 54, 54, 55, 54, 56, 54, 57, 55, 48, 55, 49, 55, 50, 55, 51, 55, 52, 55, 53, 55, 54, 55, 55, 55, 56, 55, 57, 56, 48, 56, 49, 56, 50, 56, 51, 56, 52, 56, 53, 56, 54, 56, 55, 56, 56, 56, 57, 57, 48, 57, 49, 57, 50, 57, 51, 57, 52, 57, 53, 57, 54, 57, 55, 57, 56, 57, 57])) t142) fun t155 =>
 bd (o.ix 1 v37_0 t147) fun t156 =>
 bd2 (o.st 1 t156 t153 s38) fun u41 s42 =>
 bd (o.ix 1 v37_0 t150) fun t157 =>
 bd2 (o.st 1 t157 t155 s42) fun u43 s44 =>
 bd (o.sub v37_1 (I .i64 2)) fun t159 =>
 nm [v37_0, t159, t144] s44)
 (nm [v37_0, v37_1, v37_2] s38))
 (fun v45 s46 => o.vk v45 0 fun v45_0 =>
 o.vk v45 1 fun v45_1 =>
 o.vk v45 2 fun v45_2 =>
 bd (o.gtr v45_1 (I .i64 0)) fun t161 =>
 jn (o.br t161 (bd (o.add (I .u32 48) v45_2) fun t164 =>
 bd (o.cv .u8 t164) fun t165 =>
 bd (o.ix 1 v45_0 (I .i64 0)) fun t166 =>
 bd2 (o.st 1 t166 t165 s46) fun u49 s50 =>
 nm [] s50)
 (nm [] s46))
 (fun v51 s52 => bd (retT []) fun r55 =>
 jT r55 s52)
 (fun i53 v51 s52 => none)
 (fun r54 s52 => jT r54 s52))
 (fun i47 v45 s46 => none)
 (fun r48 s46 => jT r48 s46)
def f387 (o : Ops) (kf : CallF) (N : Nat) (a0 a1 : T) (s : St) : Option (T × St) :=
 bd (o.ln a0) fun t18 =>
 jn (jn (o.loops (f387_l1 o kf N) N [a0, a1, t18] s)
 (fun v21 s22 => nm [.any, .any, .any] s22)
 (fun i23 v21 s22 => if i23 = 0 then nm v21 s22 else jE i23 v21 s22)
 (fun r24 s22 => jR r24 s22))
 (fun v25 s26 => o.vk v25 0 fun v25_0 =>
 o.vk v25 1 fun v25_1 =>
 o.vk v25 2 fun v25_2 =>
 bd (o.cv .u32 v25_1) fun t97 =>
 bd (o.geq v25_2 (I .i64 4)) fun t99 =>
 jn (o.br t99 (bd (o.bin .rem t97 (I .u32 10000)) fun t101 =>
 bd (o.bin .quo t97 (I .u32 10000)) fun t103 =>
 bd (o.bin .quo t101 (I .u32 100)) fun t105 =>
 bd (o.bin .mul t105 (I .u32 2)) fun t106 =>
 bd (o.bin .rem t101 (I .u32 100)) fun t108 =>
 bd (o.bin .mul t108 (I .u32 2)) fun t109 =>
 bd (o.sub v25_2 (I .i64 1)) fun t112 =>
 bd (o.sub v25_2 (I .i64 2)) fun t115 =>
 bd (o.add t109 (I .u32 1)) fun t117 =>
 bd (aAtStr (Z (.str [48, 48, 48, 49, 48, 50, 48, 51, 48, 52, 48, 53, 48, 54, 48, 55, 48, 56, 48, 57, 49, 48, 49, 49, 49, 50, 49, 51, 49, 52, 49, 53, 49, 54, 49, 55, 49, 56, 49, 57, 50, 48, 50, 49, 50, 50, 50, 51, 50, 52, 50, 53, 50, 54, 50, 55, 50, 56, 50, 57, 51, 48, 51, 49, 51, 50, 51, 51, 51, 52, 51, 53, 51, 54, 51, 55, 51, 56, 51, 57, 52, 48, 52, 49, 52, 50, 52, 51, 52, 52, 52, 53, 52, 54, 52, 55, 52, 56, 52, 57, 53, 48, 53, 49, 53, 50, 53, 51, 53, 52, 53, 53, 53, 54, 53, 55, 53, 56, 53, 57, 54, 48, 54, 49, 54, 50, 54, 51, 54, 52, 54, 53, 54, 54, 54, 55, 54, 56, 54, 57, 55, 48, 55, 49, 55, 50, 55, 51, 55, 52, 55, 53, 55, 54, 55, 55, 55, 56, 55, 57, 56, 48, 56, 49, 56, 50, 56, 51, 56, 52, 56, 53, 56, 54, 56, 55, 56, 56, 56, 57, 57, 48, 57, 49, 57, 50, 57, 51, 57, 52, 57, 53, 57, 54, 57, 55, 57, 56, 57, 57])) t117) fun t118 =>
 f387_1 o kf N t109 v25_0 t112 t118 s26 t115 v25_2 t106 t103)
 (nm [v25_0, v25_2, t97] s26))
 (fun v37 s38 => o.vk v37 0 fun v37_0 =>
 o.vk v37 1 fun v37_1 =>
 o.vk v37 2 fun v37_2 =>
 bd (o.geq v37_1 (I .i64 2)) fun t139 =>
 f387_2 o kf N t139 v37_2 v37_1 v37_0 s38)
 (fun i39 v37 s38 => none)
 (fun r40 s38 => jT r40 s38))
 (fun i27 v25 s26 => none)
 (fun r28 s26 => jT r28 s26)
theorem f387_ok : Ok Tryz.prog 387 (fun c => L2 (f387 fast c 8192)) := ok2 (fun o c => f387 o c 8192) Tryz.func387 (by kernel_rfl) (fun c a0 a1 s => by kernel_rfl)

/- internal/strconv.formatBits -/
def f388_l1 (o : Ops) (kf : CallF) (N : Nat) (v : List T) (s : St) : Option (JO × St) :=
 o.vk v 0 fun v_0 =>
 o.vk v 1 fun v_1 =>
 o.vk v 2 fun v_2 =>
 o.vk v 3 fun v_3 =>
 o.vk v 4 fun v_4 =>
 o.vk v 5 fun v_5 =>
 o.vk v 6 fun v_6 =>
 o.vk v 7 fun v_7 =>
 o.vk v 8 fun v_8 =>
 o.vk v 9 fun v_9 =>
 o.vk v 10 fun v_10 =>
 bd (o.geq v_1 v_9) fun t46 =>
 o.br t46 (jn (bd (o.sub v_7 (I .i64 1)) fun t48 =>
 bd (o.bin .and v_1 v_10) fun t52 =>
 bd (aAtStr (Z (.str [48, 49, 50, 51, 52, 53, 54, 55, 56, 57, 97, 98, 99, 100, 101, 102, 103, 104, 105, 106, 107, 108, 109, 110, 111, 112, 113, 114, 115, 116, 117, 118, 119, 120, 121, 122])) t52) fun t53 =>
 bd (aIndexArr 65 1 v_6 t48) fun t54 =>
 bd2 (o.st 1 t54 t53 s) fun u13 s14 =>
 bd (o.bin .shr v_1 v_8) fun t57 =>
 nm [v_0, t57, v_2, v_3, v_4, v_5, v_6, t48, v_8, v_9, v_10] s14)
 (fun v15 s16 => o.vk v15 0 fun v15_0 =>
 o.vk v15 1 fun v15_1 =>
 o.vk v15 2 fun v15_2 =>
 o.vk v15 3 fun v15_3 =>
 o.vk v15 4 fun v15_4 =>
 o.vk v15 5 fun v15_5 =>
 o.vk v15 6 fun v15_6 =>
 o.vk v15 7 fun v15_7 =>
 o.vk v15 8 fun v15_8 =>
 o.vk v15 9 fun v15_9 =>
 o.vk v15 10 fun v15_10 =>
 nm [v15_0, v15_1, v15_2, v15_3, v15_4, v15_5, v15_6, v15_7, v15_8, v15_9, v15_10] s16)
 (fun i17 v15 s16 => jE i17 v15 s16)
 (fun r18 s16 => jR r18 s16))
 (jE 0 [v_0, v_1, v_2, v_3, v_4, v_5, v_6, v_7] s)
def f388_l2 (o : Ops) (kf : CallF) (N : Nat) (v : List T) (s : St) : Option (JO × St) :=
 o.vk v 0 fun v_0 =>
 o.vk v 1 fun v_1 =>
 o.vk v 2 fun v_2 =>
 o.vk v 3 fun v_3 =>
 o.vk v 4 fun v_4 =>
 o.vk v 5 fun v_5 =>
 o.vk v 6 fun v_6 =>
 o.vk v 7 fun v_7 =>
 o.vk v 8 fun v_8 =>
 bd (o.geq v_1 v_8) fun t68 =>
 o.br t68 (jn (bd (o.sub v_7 (I .i64 1)) fun t70 =>
 bd (o.bin .quo v_1 v_8) fun t73 =>
 bd (o.bin .mul t73 v_8) fun t78 =>
 bd (o.sub v_1 t78) fun t79 =>
 bd (aAtStr (Z (.str [48, 49, 50, 51, 52, 53, 54, 55, 56, 57, 97, 98, 99, 100, 101, 102, 103, 104, 105, 106, 107, 108, 109, 110, 111, 112, 113, 114, 115, 116, 117, 118, 119, 120, 121, 122])) t79) fun t80 =>
 bd (aIndexArr 65 1 v_6 t70) fun t81 =>
 bd2 (o.st 1 t81 t80 s) fun u29 s30 =>
 nm [v_0, t73, v_2, v_3, v_4, v_5, v_6, t70, v_8] s30)
 (fun v31 s32 => o.vk v31 0 fun v31_0 =>
 o.vk v31 1 fun v31_1 =>
 o.vk v31 2 fun v31_2 =>
 o.vk v31 3 fun v31_3 =>
 o.vk v31 4 fun v31_4 =>
 o.vk v31 5 fun v31_5 =>
 o.vk v31 6 fun v31_6 =>
 o.vk v31 7 fun v31_7 =>
 o.vk v31 8 fun v31_8 =>
 nm [v31_0, v31_1, v31_2, v31_3, v31_4, v31_5, v31_6, v31_7, v31_8] s32)
 (fun i33 v31 s32 => jE i33 v31 s32)
 (fun r34 s32 => jR r34 s32))
 (jE 2 [v_0, v_1, v_2, v_3, v_4, v_5, v_6, v_7] s)
def f388_1 (o : Ops) (kf : CallF) (N : Nat) (t34 v7_2 : T) (s11 : St) (v7_0 v7_1 v7_3 v7_4 v7_5 v7_6 v7_7 v7_8 : T) : Option (T × St) :=
 jn (o.br t34 (bd (o.cv .u64 v7_2) fun t36 =>
 bd2 (kf 427 [t36] s11) fun t37 s12 =>
 bd (o.cv .u64 t37) fun t38 =>
 bd (o.cv .u64 v7_2) fun t40 =>
 bd (o.cv .u64 v7_2) fun t42 =>
 bd (o.sub t42 (I .u64 1)) fun t43 =>
 jn (jn (o.loops (f388_l1 o kf N) N [v7_0, v7_1, v7_3, v7_4, v7_5, v7_6, v7_7, v7_8, t38, t40, t43] s12)
 (fun v19 s20 => nm [.any, .any, .any, .any, .any, .any, .any, .any] s20)
 (fun i21 v19 s20 => if i21 = 0 then nm v19 s20 else jE i21 v19 s20)
 (fun r22 s20 => jR r22 s20))
 (fun v23 s24 => o.vk v23 0 fun v23_0 =>
 o.vk v23 1 fun v23_1 =>
 o.vk v23 2 fun v23_2 =>
 o.vk v23 3 fun v23_3 =>
 o.vk v23 4 fun v23_4 =>
 o.vk v23 5 fun v23_5 =>
 o.vk v23 6 fun v23_6 =>
 o.vk v23 7 fun v23_7 =>
 bd (o.sub v23_7 (I .i64 1)) fun t59 =>
 bd (aAtStr (Z (.str [48, 49, 50, 51, 52, 53, 54, 55, 56, 57, 97, 98, 99, 100, 101, 102, 103, 104, 105, 106, 107, 108, 109, 110, 111, 112, 113, 114, 115, 116, 117, 118, 119, 120, 121, 122])) v23_1) fun t62 =>
 bd (aIndexArr 65 1 v23_6 t59) fun t63 =>
 bd2 (o.st 1 t63 t62 s24) fun u27 s28 =>
 nm [v23_0, v23_2, v23_3, v23_4, v23_5, v23_6, t59] s28)
 (fun i25 v23 s24 => jE i25 v23 s24)
 (fun r26 s24 => jR r26 s24))
 (bd (o.cv .u64 v7_2) fun t65 =>
 jn (jn (o.loops (f388_l2 o kf N) N [v7_0, v7_1, v7_3, v7_4, v7_5, v7_6, v7_7, v7_8, t65] s11)
 (fun v35 s36 => nm [.any, .any, .any, .any, .any, .any, .any, .any] s36)
 (fun i37 v35 s36 => if i37 = 2 then nm v35 s36 else jE i37 v35 s36)
 (fun r38 s36 => jR r38 s36))
 (fun v39 s40 => o.vk v39 0 fun v39_0 =>
 o.vk v39 1 fun v39_1 =>
 o.vk v39 2 fun v39_2 =>
 o.vk v39 3 fun v39_3 =>
 o.vk v39 4 fun v39_4 =>
 o.vk v39 5 fun v39_5 =>
 o.vk v39 6 fun v39_6 =>
 o.vk v39 7 fun v39_7 =>
 bd (o.sub v39_7 (I .i64 1)) fun t84 =>
 bd (aAtStr (Z (.str [48, 49, 50, 51, 52, 53, 54, 55, 56, 57, 97, 98, 99, 100, 101, 102, 103, 104, 105, 106, 107, 108, 109, 110, 111, 112, 113, 114, 115, 116, 117, 118, 119, 120, 121, 122])) v39_1) fun t87 =>
 bd (aIndexArr 65 1 v39_6 t84) fun t88 =>
 bd2 (o.st 1 t88 t87 s40) fun u43 s44 =>
 nm [v39_0, v39_2, v39_3, v39_4, v39_5, v39_6, t84] s44)
 (fun i41 v39 s40 => jE i41 v39 s40)
 (fun r42 s40 => jR r42 s40)))
 (fun v45 s46 => o.vk v45 0 fun v45_0 =>
 o.vk v45 1 fun v45_1 =>
 o.vk v45 2 fun v45_2 =>
 o.vk v45 3 fun v45_3 =>
 o.vk v45 4 fun v45_4 =>
 o.vk v45 5 fun v45_5 =>
 o.vk v45 6 fun v45_6 =>
 jn (o.br v45_1 (bd (o.sub v45_6 (I .i64 1)) fun t91 =>
 bd (aIndexArr 65 1 v45_5 t91) fun t93 =>
 bd2 (o.st 1 t93 (I .u8 45) s46) fun u49 s50 =>
 nm [v45_0, v45_2, v45_3, v45_4, v45_5, t91] s50)
 (nm [v45_0, v45_2, v45_3, v45_4, v45_5, v45_6] s46))
 (fun v51 s52 => o.vk v51 0 fun v51_0 =>
 o.vk v51 1 fun v51_1 =>
 o.vk v51 2 fun v51_2 =>
 o.vk v51 3 fun v51_3 =>
 o.vk v51 4 fun v51_4 =>
 o.vk v51 5 fun v51_5 =>
 o.br v51_1 (bd (aPieceArr 65 1 v51_4 (some v51_5) none none) fun t97 =>
 bd2 (aAppend 1 1 v51_0 t97 s52) fun t98 s55 =>
 bd (retT [t98, v51_3]) fun r56 =>
 jT r56 s55)
 (bd (aPieceArr 65 1 v51_4 (some v51_5) none none) fun t100 =>
 bd (aBytesStr t100 s52.get) fun t101 =>
 bd (retT [v51_2, t101]) fun r57 =>
 jT r57 s52))
 (fun i53 v51 s52 => none)
 (fun r54 s52 => jT r54 s52))
 (fun i47 v45 s46 => none)
 (fun r48 s46 => jT r48 s46)
def f388 (o : Ops) (kf : CallF) (N : Nat) (a0 a1 a2 a3 a4 : T) (s : St) : Option (T × St) :=
 bd (o.lss a2 (I .i64 2)) fun t20 =>
 bd (gF t20 (some a2)) fun t22 =>
 bd (gF t20 (o.eql t22 (I .i64 10))) fun t23 =>
 bd (pT t20 t23) fun t24 =>
 bd (gF t24 (some a2)) fun t26 =>
 bd (gF t24 (o.gtr t26 (I .i64 36))) fun t27 =>
 bd (pT t24 t27) fun t28 =>
 jn (o.br t28 (bd ((none : Option T)) fun t29 =>
 bd ((none : Option T)) fun u1 =>
 nm [a0, a1, a2, a3, a4, (Z .nils), (Z (.str []))] s)
 (nm [a0, a1, a2, a3, a4, (Z .nils), (Z (.str []))] s))
 (fun v2 s3 => o.vk v2 0 fun v2_0 =>
 o.vk v2 1 fun v2_1 =>
 o.vk v2 2 fun v2_2 =>
 o.vk v2 3 fun v2_3 =>
 o.vk v2 4 fun v2_4 =>
 o.vk v2 5 fun v2_5 =>
 o.vk v2 6 fun v2_6 =>
 bd2 (o.new s3 (nCells [.int .u8 0, .int .u8 0, .int .u8 0, .int .u8 0, .int .u8 0, .int .u8 0, .int .u8 0, .int .u8 0, .int .u8 0, .int .u8 0, .int .u8 0, .int .u8 0, .int .u8 0, .int .u8 0, .int .u8 0, .int .u8 0, .int .u8 0, .int .u8 0, .int .u8 0, .int .u8 0, .int .u8 0, .int .u8 0, .int .u8 0, .int .u8 0, .int .u8 0, .int .u8 0, .int .u8 0, .int .u8 0, .int .u8 0, .int .u8 0, .int .u8 0, .int .u8 0, .int .u8 0, .int .u8 0, .int .u8 0, .int .u8 0, .int .u8 0, .int .u8 0, .int .u8 0, .int .u8 0, .int .u8 0, .int .u8 0, .int .u8 0, .int .u8 0, .int .u8 0, .int .u8 0, .int .u8 0, .int .u8 0, .int .u8 0, .int .u8 0, .int .u8 0, .int .u8 0, .int .u8 0, .int .u8 0, .int .u8 0, .int .u8 0, .int .u8 0, .int .u8 0, .int .u8 0, .int .u8 0, .int .u8 0, .int .u8 0, .int .u8 0, .int .u8 0, .int .u8 0])) fun t12 s6 =>
 jn (o.br v2_3 (bd (aUn .neg v2_1) fun t32 =>
 nm [v2_0, t32, v2_2, v2_3, v2_4, v2_5, v2_6, t12, (I .i64 65)] s6)
 (nm [v2_0, v2_1, v2_2, v2_3, v2_4, v2_5, v2_6, t12, (I .i64 65)] s6))
 (fun v7 s8 => o.vk v7 0 fun v7_0 =>
 o.vk v7 1 fun v7_1 =>
 o.vk v7 2 fun v7_2 =>
 o.vk v7 3 fun v7_3 =>
 o.vk v7 4 fun v7_4 =>
 o.vk v7 5 fun v7_5 =>
 o.vk v7 6 fun v7_6 =>
 o.vk v7 7 fun v7_7 =>
 o.vk v7 8 fun v7_8 =>
 bd2 (kf 426 [v7_2] s8) fun t34 s11 =>
 f388_1 o kf N t34 v7_2 s11 v7_0 v7_1 v7_3 v7_4 v7_5 v7_6 v7_7 v7_8)
 (fun i9 v7 s8 => none)
 (fun r10 s8 => jT r10 s8))
 (fun i4 v2 s3 => none)
 (fun r5 s3 => jT r5 s3)
theorem f388_ok : Ok Tryz.prog 388 (fun c => L5 (f388 fast c 8192)) := ok5 (fun o c => f388 o c 8192) Tryz.func388 (by kernel_rfl) (fun c a0 a1 a2 a3 a4 s => by kernel_rfl)

/- internal/strconv.ParseInt -/
def f397_1 (o : Ops) (kf : CallF) (N : Nat) (t16 a0 a1 a2 : T) (s : St) : Option (T × St) :=
 jn (bd (o.eql t16 (I .u8 43)) fun t18 =>
 jn (o.br t18 (bd (aPieceStr a0 (some (I .i64 1)) none none) fun t20 =>
 nm [t20, a1, a2, (B false)] s)
 (bd (o.eql t16 (I .u8 45)) fun t22 =>
 jn (o.br t22 (bd (aPieceStr a0 (some (I .i64 1)) none none) fun t24 =>
 nm [t24, a1, a2, (B true)] s)
 (nm [a0, a1, a2, (B false)] s))
 (fun v2 s3 => o.vk v2 0 fun v2_0 =>
 o.vk v2 1 fun v2_1 =>
 o.vk v2 2 fun v2_2 =>
 o.vk v2 3 fun v2_3 =>
 nm [v2_0, v2_1, v2_2, v2_3] s3)
 (fun i4 v2 s3 => jE i4 v2 s3)
 (fun r5 s3 => jR r5 s3)))
 (fun v6 s7 => o.vk v6 0 fun v6_0 =>
 o.vk v6 1 fun v6_1 =>
 o.vk v6 2 fun v6_2 =>
 o.vk v6 3 fun v6_3 =>
 nm [v6_0, v6_1, v6_2, v6_3] s7)
 (fun i8 v6 s7 => if i8 = 0 then nm v6 s7 else jE i8 v6 s7)
 (fun r9 s7 => jR r9 s7))
 (fun v10 s11 => o.vk v10 0 fun v10_0 =>
 o.vk v10 1 fun v10_1 =>
 o.vk v10 2 fun v10_2 =>
 o.vk v10 3 fun v10_3 =>
 bd2 (kf 431 [v10_0, v10_1, v10_2] s11) fun t29 s14 =>
 bd (o.ex t29 0) fun t30 =>
 bd (o.ex t29 1) fun t31 =>
 bd (neB .i t31 (Z .nili)) fun t33 =>
 bd (gU t33 (some t31)) fun t35 =>
 bd (gU t33 ((none : Option T))) fun t36 =>
 bd (gU t33 ((none : Option T))) fun t37 =>
 bd (pF t33 t37) fun t38 =>
 o.br t38 (bd (retT [(I .i64 0), t31]) fun r15 =>
 jT r15 s14)
 (bd (o.eql v10_2 (I .i64 0)) fun t41 =>
 jn (o.br t41 (nm [(I .i64 64), v10_3, t30] s14)
 (nm [v10_2, v10_3, t30] s14))
 (fun v16 s17 => o.vk v16 0 fun v16_0 =>
 o.vk v16 1 fun v16_1 =>
 o.vk v16 2 fun v16_2 =>
 bd (o.sub v16_0 (I .i64 1)) fun t43 =>
 bd (o.cv .u64 t43) fun t44 =>
 bd (o.bin .shl (I .u64 1) t44) fun t45 =>
 bd (aUn .not v16_1) fun t47 =>
 bd (gU t47 (some v16_2)) fun t49 =>
 bd (gU t47 (some t45)) fun t50 =>
 bd (gU t47 (o.geq t49 t50)) fun t51 =>
 bd (pF t47 t51) fun t52 =>
 o.br t52 (bd (o.sub t45 (I .u64 1)) fun t54 =>
 bd (o.cv .i64 t54) fun t55 =>
 bd ((none : Option T)) fun t56 =>
 bd (retT [t55, t56]) fun r20 =>
 jT r20 s17)
 (bd (gU v16_1 (some v16_2)) fun t59 =>
 bd (gU v16_1 (some t45)) fun t60 =>
 bd (gU v16_1 (o.gtr t59 t60)) fun t61 =>
 bd (pF v16_1 t61) fun t62 =>
 o.br t62 (bd (o.cv .i64 t45) fun t64 =>
 bd (aUn .neg t64) fun t65 =>
 bd ((none : Option T)) fun t66 =>
 bd (retT [t65, t66]) fun r21 =>
 jT r21 s17)
 (bd (o.cv .i64 v16_2) fun t68 =>
 jn (o.br v16_1 (bd (aUn .neg t68) fun t71 =>
 nm [t71] s17)
 (nm [t68] s17))
 (fun v22 s23 => o.vk v22 0 fun v22_0 =>
 bd (retT [v22_0, (Z .nili)]) fun r26 =>
 jT r26 s23)
 (fun i24 v22 s23 => none)
 (fun r25 s23 => jT r25 s23))))
 (fun i18 v16 s17 => none)
 (fun r19 s17 => jT r19 s17)))
 (fun i12 v10 s11 => none)
 (fun r13 s11 => jT r13 s11)
def f397 (o : Ops) (kf : CallF) (N : Nat) (a0 a1 a2 : T) (s : St) : Option (T × St) :=
 bd (o.eql a0 (Z (.str []))) fun t13 =>
 o.br t13 (bd ((none : Option T)) fun t14 =>
 bd (retT [(I .i64 0), t14]) fun r1 =>
 jT r1 s)
 (bd (aAtStr a0 (I .i64 0)) fun t16 =>
 f397_1 o kf N t16 a0 a1 a2 s)
theorem f397_ok : Ok Tryz.prog 397 (fun c => L3 (f397 fast c 8192)) := ok3 (fun o c => f397 o c 8192) Tryz.func397 (by kernel_rfl) (fun c a0 a1 a2 s => by kernel_rfl)

/- strconv.syntaxError -/
def f398 (o : Ops) (kf : CallF) (N : Nat) (a0 a1 : T) (s : St) : Option (T × St) :=
 bd2 (kf 432 [a1] s) fun t7 s1 =>
 bd (aLoad1 .any s1.get) fun t8 =>
 bd (asAggT (aFill [.str [], .str [], .nili] [(0, 1, a0), (1, 1, t7), (2, 1, t8)])) fun t9 =>
 bd2 (o.new s1 (nBox t9)) fun t10 s2 =>
 ck ((decide (aLoad1 .any (overlay 0 s.get (ovO 5 s1.size (nBox t9) [])) = aLoad1 .any s1.get) && true) && true) (jT t10 s2)
theorem f398_ok : Ok Tryz.prog 398 (fun c => L2 (f398 fast c 8192)) := ok2 (fun o c => f398 o c 8192) Tryz.func398 (by kernel_rfl) (fun c a0 a1 s => by kernel_rfl)

/- strconv.rangeError -/
def f399 (o : Ops) (kf : CallF) (N : Nat) (a0 a1 : T) (s : St) : Option (T × St) :=
 bd2 (kf 432 [a1] s) fun t7 s1 =>
 bd (aLoad1 .any s1.get) fun t8 =>
 bd (asAggT (aFill [.str [], .str [], .nili] [(0, 1, a0), (1, 1, t7), (2, 1, t8)])) fun t9 =>
 bd2 (o.new s1 (nBox t9)) fun t10 s2 =>
 ck ((decide (aLoad1 .any (overlay 0 s.get (ovO 5 s1.size (nBox t9) [])) = aLoad1 .any s1.get) && true) && true) (jT t10 s2)
theorem f399_ok : Ok Tryz.prog 399 (fun c => L2 (f399 fast c 8192)) := ok2 (fun o c => f399 o c 8192) Tryz.func399 (by kernel_rfl) (fun c a0 a1 s => by kernel_rfl)

/- strconv.baseError -/
def f400 (o : Ops) (kf : CallF) (N : Nat) (a0 a1 a2 : T) (s : St) : Option (T × St) :=
 bd2 (kf 432 [a1] s) fun t9 s1 =>
 bd2 (kf 211 [a2] s1) fun t11 s2 =>
 bd (o.add (Z (.str [105, 110, 118, 97, 108, 105, 100, 32, 98, 97, 115, 101, 32])) t11) fun t12 =>
 bd2 (kf 433 [t12] s2) fun t13 s3 =>
 bd (asAggT (aFill [.str [], .str [], .nili] [(0, 1, a0), (1, 1, t9), (2, 1, t13)])) fun t14 =>
 bd2 (o.new s3 (nBox t14)) fun t15 s4 =>
 jT t15 s4
theorem f400_ok : Ok Tryz.prog 400 (fun c => L3 (f400 fast c 8192)) := ok3 (fun o c => f400 o c 8192) Tryz.func400 (by kernel_rfl) (fun c a0 a1 a2 s => by kernel_rfl)

/- strconv.bitSizeError -/
def f401 (o : Ops) (kf : CallF) (N : Nat) (a0 a1 a2 : T) (s : St) : Option (T × St) :=
 bd2 (kf 432 [a1] s) fun t9 s1 =>
 bd2 (kf 211 [a2] s1) fun t11 s2 =>
 bd (o.add (Z (.str [105, 110, 118, 97, 108, 105, 100, 32, 98, 105, 116, 32, 115, 105, 122, 101, 32])) t11) fun t12 =>
 bd2 (kf 433 [t12] s2) fun t13 s3 =>
 bd (asAggT (aFill [.str [], .str [], .nili] [(0, 1, a0), (1, 1, t9), (2, 1, t13)])) fun t14 =>
 bd2 (o.new s3 (nBox t14)) fun t15 s4 =>
 jT t15 s4
theorem f401_ok : Ok Tryz.prog 401 (fun c => L3 (f401 fast c 8192)) := ok3 (fun o c => f401 o c 8192) Tryz.func401 (by kernel_rfl) (fun c a0 a1 a2 s => by kernel_rfl)

/- unicode/utf8.decodeRuneInStringSlow -/
def f402_1 (o : Ops) (kf : CallF) (N : Nat) (t14 t38 : T) (s5 : St) (a0 t9 t18 : T) : Option (T × St) :=
 bd (o.lss t14 t38) fun t45 =>
 o.br t45 (bd (retT [(I .i32 65533), (I .i64 1)]) fun r6 =>
 jT r6 s5)
 (bd (aAtStr a0 (I .i64 1)) fun t47 =>
 bd (o.fa 0 t9) fun t49 =>
 bd (o.ld t49 s5) fun t50 =>
 bd (o.lss t47 t50) fun t51 =>
 bd (gF t51 (o.fa 1 t9)) fun t53 =>
 bd (gF t51 (o.ld t53 s5)) fun t54 =>
 bd (gF t51 (some t47)) fun t55 =>
 bd (gF t51 (o.lss t54 t55)) fun t56 =>
 bd (pT t51 t56) fun t57 =>
 o.br t57 (bd (retT [(I .i32 65533), (I .i64 1)]) fun r7 =>
 jT r7 s5)
 (bd (o.leq t38 (I .i64 2)) fun t59 =>
 o.br t59 (bd (o.bin .and t18 (I .u8 31)) fun t61 =>
 bd (o.cv .i32 t61) fun t62 =>
 bd (o.bin .shl t62 (I .u64 6)) fun t63 =>
 bd (o.bin .and t47 (I .u8 63)) fun t65 =>
 bd (o.cv .i32 t65) fun t66 =>
 bd (o.bin .or t63 t66) fun t67 =>
 bd (retT [t67, (I .i64 2)]) fun r8 =>
 jT r8 s5)
 (bd (aAtStr a0 (I .i64 2)) fun t69 =>
 bd (o.lss t69 (I .u8 128)) fun t71 =>
 bd (gF t71 (some t69)) fun t73 =>
 bd (gF t71 (o.lss (I .u8 191) t73)) fun t74 =>
 bd (pT t71 t74) fun t75 =>
 o.br t75 (bd (retT [(I .i32 65533), (I .i64 1)]) fun r9 =>
 jT r9 s5)
 (bd (o.leq t38 (I .i64 3)) fun t77 =>
 o.br t77 (bd (o.bin .and t18 (I .u8 15)) fun t79 =>
 bd (o.cv .i32 t79) fun t80 =>
 bd (o.bin .shl t80 (I .u64 12)) fun t81 =>
 bd (o.bin .and t47 (I .u8 63)) fun t83 =>
 bd (o.cv .i32 t83) fun t84 =>
 bd (o.bin .shl t84 (I .u64 6)) fun t85 =>
 bd (o.bin .or t81 t85) fun t86 =>
 bd (o.bin .and t69 (I .u8 63)) fun t88 =>
 bd (o.cv .i32 t88) fun t89 =>
 bd (o.bin .or t86 t89) fun t90 =>
 bd (retT [t90, (I .i64 3)]) fun r10 =>
 jT r10 s5)
 (bd (aAtStr a0 (I .i64 3)) fun t92 =>
 bd (o.lss t92 (I .u8 128)) fun t94 =>
 bd (gF t94 (some t92)) fun t96 =>
 bd (gF t94 (o.lss (I .u8 191) t96)) fun t97 =>
 bd (pT t94 t97) fun t98 =>
 o.br t98 (bd (retT [(I .i32 65533), (I .i64 1)]) fun r11 =>
 jT r11 s5)
 (bd (o.bin .and t18 (I .u8 7)) fun t100 =>
 bd (o.cv .i32 t100) fun t101 =>
 bd (o.bin .shl t101 (I .u64 18)) fun t102 =>
 bd (o.bin .and t47 (I .u8 63)) fun t104 =>
 bd (o.cv .i32 t104) fun t105 =>
 bd (o.bin .shl t105 (I .u64 12)) fun t106 =>
 bd (o.bin .or t102 t106) fun t107 =>
 bd (o.bin .and t69 (I .u8 63)) fun t109 =>
 bd (o.cv .i32 t109) fun t110 =>
 bd (o.bin .shl t110 (I .u64 6)) fun t111 =>
 bd (o.bin .or t107 t111) fun t112 =>
 bd (o.bin .and t92 (I .u8 63)) fun t114 =>
 bd (o.cv .i32 t114) fun t115 =>
 bd (o.bin .or t112 t115) fun t116 =>
 bd (retT [t116, (I .i64 4)]) fun r12 =>
 jT r12 s5))))))
def f402 (o : Ops) (kf : CallF) (N : Nat) (a0 : T) (s : St) : Option (T × St) :=
 bd (aLenStr a0) fun t14 =>
 bd (o.lss t14 (I .i64 1)) fun t16 =>
 o.br t16 (bd (retT [(I .i32 65533), (I .i64 0)]) fun r1 =>
 jT r1 s)
 (bd (aAtStr a0 (I .i64 0)) fun t18 =>
 bd (aIndexArr 256 1 .any t18) fun t20 =>
 bd (o.ld t20 s) fun t21 =>
 bd (o.geq t21 (I .u8 240)) fun t23 =>
 o.br t23 (bd (o.cv .i32 t21) fun t25 =>
 bd (o.bin .shl t25 (I .u64 31)) fun t26 =>
 bd (o.bin .shr t26 (I .u64 31)) fun t27 =>
 bd (aAtStr a0 (I .i64 0)) fun t29 =>
 bd (o.cv .i32 t29) fun t30 =>
 bd (o.bin .andNot t30 t27) fun t32 =>
 bd (o.bin .and (I .i32 65533) t27) fun t34 =>
 bd (o.bin .or t32 t34) fun t35 =>
 bd (retT [t35, (I .i64 1)]) fun r2 =>
 jT r2 s)
 (bd (o.bin .and t21 (I .u8 7)) fun t37 =>
 bd (o.cv .i64 t37) fun t38 =>
 bd (o.bin .shr t21 (I .u64 4)) fun t40 =>
 bd (aIndexArr 16 2 .any t40) fun t41 =>
 bd (o.ldn 2 t41 s) fun t42 =>
 bd2 (o.new s (nCells [.int .u8 0, .int .u8 0])) fun t9 s3 =>
 bd2 (o.st 2 t9 t42 s3) fun u4 s5 =>
 f402_1 o kf N t14 t38 s5 a0 t9 t18))
theorem f402_ok : Ok Tryz.prog 402 (fun c => L1 (f402 fast c 8192)) := ok1 (fun o c => f402 o c 8192) Tryz.func402 (by kernel_rfl) (fun c a0 s => by kernel_rfl)

/- unicode/utf8.RuneStart -/
def f404 (o : Ops) (kf : CallF) (N : Nat) (a0 : T) (s : St) : Option (T × St) :=
 bd (o.bin .and a0 (I .u8 192)) fun t4 =>
 bd (o.neq t4 (I .u8 128)) fun t5 =>
 jT t5 s
theorem f404_ok : Ok Tryz.prog 404 (fun c => L1 (f404 fast c 8192)) := ok1 (fun o c => f404 o c 8192) Tryz.func404 (by kernel_rfl) (fun c a0 s => by kernel_rfl)

/- cmp.Less[string] -/
def f413 (o : Ops) (kf : CallF) (N : Nat) (a0 a1 : T) (s : St) : Option (T × St) :=
 bd2 (kf 439 [a0] s) fun t6 s1 =>
 bd (gU t6 (some a1)) fun t8 =>
 bd2 (gS (gd t6 true) s1 (kf 439 [t8] s1)) fun t9 s2 =>
 bd (gU t6 (aUn .not t9)) fun t10 =>
 bd (pF t6 t10) fun t11 =>
 bd (gF t11 (some a0)) fun t13 =>
 bd (gF t11 (some a1)) fun t14 =>
 bd (gF t11 (o.lss t13 t14)) fun t15 =>
 bd (pT t11 t15) fun t16 =>
 jT t16 s2
theorem f413_ok : Ok Tryz.prog 413 (fun c => L2 (f413 fast c 8192)) := ok2 (fun o c => f413 o c 8192) Tryz.func413 (by kernel_rfl) (fun c a0 a1 s => by kernel_rfl)

/- internal/stringslite.IndexByte -/
def f418 (o : Ops) (kf : CallF) (N : Nat) (a0 a1 : T) (s : St) : Option (T × St) :=
 bd2 (xOver Tryz.prog 440 [a0, a1] s) fun t7 s1 =>
 jT t7 s1
theorem f418_ok : Ok Tryz.prog 418 (fun c => L2 (f418 fast c 8192)) := ok2 (fun o c => f418 o c 8192) Tryz.func418 (by kernel_rfl) (fun c a0 a1 s => by kernel_rfl)

/- internal/bytealg.Cutover -/
def f420 (o : Ops) (kf : CallF) (N : Nat) (a0 : T) (s : St) : Option (T × St) :=
 bd (o.add a0 (I .i64 16)) fun t4 =>
 bd (o.bin .quo t4 (I .i64 8)) fun t5 =>
 jT t5 s
theorem f420_ok : Ok Tryz.prog 420 (fun c => L1 (f420 fast c 8192)) := ok1 (fun o c => f420 o c 8192) Tryz.func420 (by kernel_rfl) (fun c a0 s => by kernel_rfl)

/- internal/strconv.log10Pow2 -/
def f424 (o : Ops) (kf : CallF) (N : Nat) (a0 : T) (s : St) : Option (T × St) :=
 bd (o.bin .mul a0 (I .i64 78913)) fun t4 =>
 bd (o.bin .shr t4 (I .u64 18)) fun t5 =>
 jT t5 s
theorem f424_ok : Ok Tryz.prog 424 (fun c => L1 (f424 fast c 8192)) := ok1 (fun o c => f424 o c 8192) Tryz.func424 (by kernel_rfl) (fun c a0 s => by kernel_rfl)

/- internal/strconv.bool2[int] -/
def f425 (o : Ops) (kf : CallF) (N : Nat) (a0 : T) (s : St) : Option (T × St) :=
 o.br a0 (jT (I .i64 1) s)
 (jT (I .i64 0) s)
theorem f425_ok : Ok Tryz.prog 425 (fun c => L1 (f425 fast c 8192)) := ok1 (fun o c => f425 o c 8192) Tryz.func425 (by kernel_rfl) (fun c a0 s => by kernel_rfl)

/- internal/strconv.isPowerOfTwo -/
def f426 (o : Ops) (kf : CallF) (N : Nat) (a0 : T) (s : St) : Option (T × St) :=
 bd (o.sub a0 (I .i64 1)) fun t5 =>
 bd (o.bin .and a0 t5) fun t6 =>
 bd (o.eql t6 (I .i64 0)) fun t7 =>
 jT t7 s
theorem f426_ok : Ok Tryz.prog 426 (fun c => L1 (f426 fast c 8192)) := ok1 (fun o c => f426 o c 8192) Tryz.func426 (by kernel_rfl) (fun c a0 s => by kernel_rfl)

/- math/bits.TrailingZeros -/
def f427 (o : Ops) (kf : CallF) (N : Nat) (a0 : T) (s : St) : Option (T × St) :=
 bd2 (kf 443 [a0] s) fun t7 s1 =>
 jT t7 s1
theorem f427_ok : Ok Tryz.prog 427 (fun c => L1 (f427 fast c 8192)) := ok1 (fun o c => f427 o c 8192) Tryz.func427 (by kernel_rfl) (fun c a0 s => by kernel_rfl)

end
end Go.Proofs.YtcihabdmigpklaaGreatDoor

/-
  What functions that the law reaches compute, printed by a program of our own in small pieces that the kernel runs fast. No conditions.
-/
namespace Go.Proofs.YtcihabdmigpklaaGreatDoor
open Go Go.Abs Go.Abs.F
set_option linter.unusedVariables false
set_option maxRecDepth 100000
noncomputable section
/- internal/strconv.ParseUint -/
def f431_l1_1 (o : Ops) (kf : CallF) (N : Nat) (t104 v_1 v_0 v_2 v_3 v_4 v_6 v_7 v_8 v_9 : T) (s : St) (v_5 : T) : Option (JO × St) :=
 jn (bd (o.eql t104 (I .u8 95)) fun t108 =>
 bd (gU t108 (some v_1)) fun t110 =>
 bd (pF t108 t110) fun t111 =>
 o.br t111 (jE 4 [v_0, v_1, v_2, v_3, v_4, (B true), v_6, v_7, v_8, v_9] s)
 (bd (o.leq (I .u8 48) t104) fun t114 =>
 bd (gU t114 (some t104)) fun t116 =>
 bd (gU t114 (o.leq t116 (I .u8 57))) fun t117 =>
 bd (pF t114 t117) fun t118 =>
 jn (o.br t118 (bd (o.sub t104 (I .u8 48)) fun t120 =>
 nm [v_0, v_1, v_2, v_3, v_4, v_5, v_6, t120, v_7, v_8, v_9] s)
 (bd2 (kf 445 [t104] s) fun t123 s52 =>
 bd (o.leq (I .u8 97) t123) fun t124 =>
 bd (gU t124 (some t104)) fun t126 =>
 bd2 (gS (gd t124 true) s52 (kf 445 [t126] s52)) fun t127 s53 =>
 bd (gU t124 (o.leq t127 (I .u8 122))) fun t128 =>
 bd (pF t124 t128) fun t129 =>
 o.br t129 (bd2 (kf 445 [t104] s53) fun t131 s54 =>
 bd (o.sub t131 (I .u8 97)) fun t132 =>
 bd (o.add t132 (I .u8 10)) fun t133 =>
 nm [v_0, v_1, v_2, v_3, v_4, v_5, v_6, t133, v_7, v_8, v_9] s54)
 (bd ((none : Option T)) fun t105 =>
 bd (retT [(I .u64 0), t105]) fun r55 =>
 jR r55 s53)))
 (fun v56 s57 => o.vk v56 0 fun v56_0 =>
 o.vk v56 1 fun v56_1 =>
 o.vk v56 2 fun v56_2 =>
 o.vk v56 3 fun v56_3 =>
 o.vk v56 4 fun v56_4 =>
 o.vk v56 5 fun v56_5 =>
 o.vk v56 6 fun v56_6 =>
 o.vk v56 7 fun v56_7 =>
 o.vk v56 8 fun v56_8 =>
 o.vk v56 9 fun v56_9 =>
 o.vk v56 10 fun v56_10 =>
 nm [v56_0, v56_1, v56_2, v56_3, v56_4, v56_5, v56_6, v56_7, v56_8, v56_9, v56_10] s57)
 (fun i58 v56 s57 => if i58 = 5 then nm v56 s57 else jE i58 v56 s57)
 (fun r59 s57 => jR r59 s57)))
 (fun v60 s61 => o.vk v60 0 fun v60_0 =>
 o.vk v60 1 fun v60_1 =>
 o.vk v60 2 fun v60_2 =>
 o.vk v60 3 fun v60_3 =>
 o.vk v60 4 fun v60_4 =>
 o.vk v60 5 fun v60_5 =>
 o.vk v60 6 fun v60_6 =>
 o.vk v60 7 fun v60_7 =>
 o.vk v60 8 fun v60_8 =>
 o.vk v60 9 fun v60_9 =>
 o.vk v60 10 fun v60_10 =>
 bd (o.cv .u8 v60_0) fun t136 =>
 bd (o.geq v60_7 t136) fun t137 =>
 o.br t137 (bd ((none : Option T)) fun t138 =>
 bd (retT [(I .u64 0), t138]) fun r64 =>
 jR r64 s61)
 (bd (o.geq v60_6 v60_3) fun t141 =>
 o.br t141 (bd ((none : Option T)) fun t143 =>
 bd (retT [v60_4, t143]) fun r65 =>
 jR r65 s61)
 (bd (o.cv .u64 v60_0) fun t146 =>
 bd (o.bin .mul v60_6 t146) fun t147 =>
 bd (o.cv .u64 v60_7) fun t150 =>
 bd (o.add t147 t150) fun t151 =>
 bd (o.lss t151 t147) fun t154 =>
 bd (gF t154 (some t151)) fun t156 =>
 bd (gF t154 (some v60_4)) fun t157 =>
 bd (gF t154 (o.gtr t156 t157)) fun t158 =>
 bd (pT t154 t158) fun t159 =>
 o.br t159 (bd ((none : Option T)) fun t161 =>
 bd (retT [v60_4, t161]) fun r66 =>
 jR r66 s61)
 (nm [v60_0, v60_1, v60_2, v60_3, v60_4, v60_5, t151, v60_8, v60_9, v60_10] s61))))
 (fun i62 v60 s61 => if i62 = 4 then nm v60 s61 else jE i62 v60 s61)
 (fun r63 s61 => jR r63 s61)
def f431_l1 (o : Ops) (kf : CallF) (N : Nat) (v : List T) (s : St) : Option (JO × St) :=
 o.vk v 0 fun v_0 =>
 o.vk v 1 fun v_1 =>
 o.vk v 2 fun v_2 =>
 o.vk v 3 fun v_3 =>
 o.vk v 4 fun v_4 =>
 o.vk v 5 fun v_5 =>
 o.vk v 6 fun v_6 =>
 o.vk v 7 fun v_7 =>
 o.vk v 8 fun v_8 =>
 o.vk v 9 fun v_9 =>
 bd (o.lss v_9 v_8) fun t102 =>
 o.br t102 (jn (bd (o.ix 1 v_7 v_9) fun t103 =>
 bd (o.ld t103 s) fun t104 =>
 f431_l1_1 o kf N t104 v_1 v_0 v_2 v_3 v_4 v_6 v_7 v_8 v_9 s v_5)
 (fun v67 s68 => o.vk v67 0 fun v67_0 =>
 o.vk v67 1 fun v67_1 =>
 o.vk v67 2 fun v67_2 =>
 o.vk v67 3 fun v67_3 =>
 o.vk v67 4 fun v67_4 =>
 o.vk v67 5 fun v67_5 =>
 o.vk v67 6 fun v67_6 =>
 o.vk v67 7 fun v67_7 =>
 o.vk v67 8 fun v67_8 =>
 o.vk v67 9 fun v67_9 =>
 bd (o.add v67_9 (I .i64 1)) fun t163 =>
 nm [v67_0, v67_1, v67_2, v67_3, v67_4, v67_5, v67_6, v67_7, v67_8, t163] s68)
 (fun i69 v67 s68 => jE i69 v67 s68)
 (fun r70 s68 => jR r70 s68))
 (jE 3 [v_2, v_5, v_6] s)
def f431_1 (o : Ops) (kf : CallF) (N : Nat) (t37 a0 : T) (s : St) (a2 t22 : T) : Option (JO × St) :=
 jn (o.br t37 (jn (bd (aLenStr a0) fun t42 =>
 bd (o.geq t42 (I .i64 3)) fun t43 =>
 bd (gU t43 (some a0)) fun t45 =>
 bd (gU t43 (aAtStr t45 (I .i64 1))) fun t46 =>
 bd2 (gS (gd t43 true) s (kf 445 [t46] s)) fun t47 s2 =>
 bd (gU t43 (o.eql t47 (I .u8 98))) fun t48 =>
 bd (pF t43 t48) fun t49 =>
 jn (o.br t49 (bd (aPieceStr a0 (some (I .i64 2)) none none) fun t51 =>
 nm [t51, (I .i64 2), a2, t22, a0] s2)
 (bd (aLenStr a0) fun t54 =>
 bd (o.geq t54 (I .i64 3)) fun t55 =>
 bd (gU t55 (some a0)) fun t57 =>
 bd (gU t55 (aAtStr t57 (I .i64 1))) fun t58 =>
 bd2 (gS (gd t55 true) s2 (kf 445 [t58] s2)) fun t59 s3 =>
 bd (gU t55 (o.eql t59 (I .u8 111))) fun t60 =>
 bd (pF t55 t60) fun t61 =>
 jn (o.br t61 (bd (aPieceStr a0 (some (I .i64 2)) none none) fun t63 =>
 nm [t63, (I .i64 8), a2, t22, a0] s3)
 (bd (aLenStr a0) fun t66 =>
 bd (o.geq t66 (I .i64 3)) fun t67 =>
 bd (gU t67 (some a0)) fun t69 =>
 bd (gU t67 (aAtStr t69 (I .i64 1))) fun t70 =>
 bd2 (gS (gd t67 true) s3 (kf 445 [t70] s3)) fun t71 s4 =>
 bd (gU t67 (o.eql t71 (I .u8 120))) fun t72 =>
 bd (pF t67 t72) fun t73 =>
 jn (o.br t73 (bd (aPieceStr a0 (some (I .i64 2)) none none) fun t75 =>
 nm [t75, (I .i64 16), a2, t22, a0] s4)
 (bd (aPieceStr a0 (some (I .i64 1)) none none) fun t39 =>
 nm [t39, (I .i64 8), a2, t22, a0] s4))
 (fun v5 s6 => o.vk v5 0 fun v5_0 =>
 o.vk v5 1 fun v5_1 =>
 o.vk v5 2 fun v5_2 =>
 o.vk v5 3 fun v5_3 =>
 o.vk v5 4 fun v5_4 =>
 nm [v5_0, v5_1, v5_2, v5_3, v5_4] s6)
 (fun i7 v5 s6 => jE i7 v5 s6)
 (fun r8 s6 => jR r8 s6)))
 (fun v9 s10 => o.vk v9 0 fun v9_0 =>
 o.vk v9 1 fun v9_1 =>
 o.vk v9 2 fun v9_2 =>
 o.vk v9 3 fun v9_3 =>
 o.vk v9 4 fun v9_4 =>
 nm [v9_0, v9_1, v9_2, v9_3, v9_4] s10)
 (fun i11 v9 s10 => jE i11 v9 s10)
 (fun r12 s10 => jR r12 s10)))
 (fun v13 s14 => o.vk v13 0 fun v13_0 =>
 o.vk v13 1 fun v13_1 =>
 o.vk v13 2 fun v13_2 =>
 o.vk v13 3 fun v13_3 =>
 o.vk v13 4 fun v13_4 =>
 nm [v13_0, v13_1, v13_2, v13_3, v13_4] s14)
 (fun i15 v13 s14 => if i15 = 1 then nm v13 s14 else jE i15 v13 s14)
 (fun r16 s14 => jR r16 s14))
 (fun v17 s18 => o.vk v17 0 fun v17_0 =>
 o.vk v17 1 fun v17_1 =>
 o.vk v17 2 fun v17_2 =>
 o.vk v17 3 fun v17_3 =>
 o.vk v17 4 fun v17_4 =>
 nm [v17_0, v17_1, v17_2, v17_3, v17_4] s18)
 (fun i19 v17 s18 => jE i19 v17 s18)
 (fun r20 s18 => jR r20 s18))
 (nm [a0, (I .i64 10), a2, t22, a0] s))
 (fun v21 s22 => o.vk v21 0 fun v21_0 =>
 o.vk v21 1 fun v21_1 =>
 o.vk v21 2 fun v21_2 =>
 o.vk v21 3 fun v21_3 =>
 o.vk v21 4 fun v21_4 =>
 nm [v21_0, v21_1, v21_2, v21_3, v21_4] s22)
 (fun i23 v21 s22 => jE i23 v21 s22)
 (fun r24 s22 => jR r24 s22)
def f431_2 (o : Ops) (kf : CallF) (N : Nat) (t77 v30_0 v30_1 v30_3 v30_4 : T) (s31 : St) (v30_2 : T) : Option (T × St) :=
 jn (o.br t77 (nm [v30_0, v30_1, (I .i64 64), v30_3, v30_4] s31)
 (bd (o.lss v30_2 (I .i64 0)) fun t79 =>
 bd (gF t79 (some v30_2)) fun t81 =>
 bd (gF t79 (o.gtr t81 (I .i64 64))) fun t82 =>
 bd (pT t79 t82) fun t83 =>
 o.br t83 (bd ((none : Option T)) fun t84 =>
 bd (retT [(I .u64 0), t84]) fun r34 =>
 jR r34 s31)
 (nm [v30_0, v30_1, v30_2, v30_3, v30_4] s31)))
 (fun v35 s36 => o.vk v35 0 fun v35_0 =>
 o.vk v35 1 fun v35_1 =>
 o.vk v35 2 fun v35_2 =>
 o.vk v35 3 fun v35_3 =>
 o.vk v35 4 fun v35_4 =>
 jn (bd (o.eql v35_1 (I .i64 10)) fun t91 =>
 jn (o.br t91 (nm [v35_0, v35_1, v35_2, v35_3, v35_4, (I .u64 1844674407370955162)] s36)
 (bd (o.eql v35_1 (I .i64 16)) fun t93 =>
 jn (o.br t93 (nm [v35_0, v35_1, v35_2, v35_3, v35_4, (I .u64 1152921504606846976)] s36)
 (bd (o.cv .u64 v35_1) fun t87 =>
 bd (o.bin .quo (I .u64 18446744073709551615) t87) fun t88 =>
 bd (o.add t88 (I .u64 1)) fun t89 =>
 nm [v35_0, v35_1, v35_2, v35_3, v35_4, t89] s36))
 (fun v39 s40 => o.vk v39 0 fun v39_0 =>
 o.vk v39 1 fun v39_1 =>
 o.vk v39 2 fun v39_2 =>
 o.vk v39 3 fun v39_3 =>
 o.vk v39 4 fun v39_4 =>
 o.vk v39 5 fun v39_5 =>
 nm [v39_0, v39_1, v39_2, v39_3, v39_4, v39_5] s40)
 (fun i41 v39 s40 => jE i41 v39 s40)
 (fun r42 s40 => jR r42 s40)))
 (fun v43 s44 => o.vk v43 0 fun v43_0 =>
 o.vk v43 1 fun v43_1 =>
 o.vk v43 2 fun v43_2 =>
 o.vk v43 3 fun v43_3 =>
 o.vk v43 4 fun v43_4 =>
 o.vk v43 5 fun v43_5 =>
 nm [v43_0, v43_1, v43_2, v43_3, v43_4, v43_5] s44)
 (fun i45 v43 s44 => if i45 = 2 then nm v43 s44 else jE i45 v43 s44)
 (fun r46 s44 => jR r46 s44))
 (fun v47 s48 => o.vk v47 0 fun v47_0 =>
 o.vk v47 1 fun v47_1 =>
 o.vk v47 2 fun v47_2 =>
 o.vk v47 3 fun v47_3 =>
 o.vk v47 4 fun v47_4 =>
 o.vk v47 5 fun v47_5 =>
 bd (o.cv .u64 v47_2) fun t95 =>
 bd (o.bin .shl (I .u64 1) t95) fun t96 =>
 bd (o.sub t96 (I .u64 1)) fun t97 =>
 bd2 (o.new s48 (nBytes v47_0)) fun t99 s51 =>
 bd (o.ln t99) fun t100 =>
 jn (jn (o.loops (f431_l1 o kf N) N [v47_1, v47_3, v47_4, v47_5, t97, (B false), (I .u64 0), t99, t100, (I .i64 0)] s51)
 (fun v71 s72 => nm [.any, .any, .any] s72)
 (fun i73 v71 s72 => if i73 = 3 then nm v71 s72 else jE i73 v71 s72)
 (fun r74 s72 => jR r74 s72))
 (fun v75 s76 => o.vk v75 0 fun v75_0 =>
 o.vk v75 1 fun v75_1 =>
 o.vk v75 2 fun v75_2 =>
 bd (gU v75_1 (some v75_0)) fun t166 =>
 bd2 (gS (gd v75_1 true) s76 (kf 446 [t166] s76)) fun t167 s79 =>
 bd (gU v75_1 (aUn .not t167)) fun t168 =>
 bd (pF v75_1 t168) fun t169 =>
 o.br t169 (bd ((none : Option T)) fun t170 =>
 bd (retT [(I .u64 0), t170]) fun r80 =>
 jT r80 s79)
 (bd (retT [v75_2, (Z .nili)]) fun r81 =>
 jT r81 s79))
 (fun i77 v75 s76 => none)
 (fun r78 s76 => jT r78 s76))
 (fun i49 v47 s48 => none)
 (fun r50 s48 => jT r50 s48))
 (fun i37 v35 s36 => none)
 (fun r38 s36 => jT r38 s36)
def f431 (o : Ops) (kf : CallF) (N : Nat) (a0 a1 a2 : T) (s : St) : Option (T × St) :=
 bd (o.eql a0 (Z (.str []))) fun t19 =>
 o.br t19 (bd ((none : Option T)) fun t20 =>
 bd (retT [(I .u64 0), t20]) fun r1 =>
 jT r1 s)
 (bd (o.eql a1 (I .i64 0)) fun t22 =>
 jn (bd (o.leq (I .i64 2) a1) fun t27 =>
 bd (gU t27 (some a1)) fun t29 =>
 bd (gU t27 (o.leq t29 (I .i64 36))) fun t30 =>
 bd (pF t27 t30) fun t31 =>
 jn (o.br t31 (nm [a0, a1, a2, t22, a0] s)
 (bd (o.eql a1 (I .i64 0)) fun t34 =>
 o.br t34 (bd (aAtStr a0 (I .i64 0)) fun t36 =>
 bd (o.eql t36 (I .u8 48)) fun t37 =>
 f431_1 o kf N t37 a0 s a2 t22)
 (bd ((none : Option T)) fun t24 =>
 bd (retT [(I .u64 0), t24]) fun r25 =>
 jR r25 s)))
 (fun v26 s27 => o.vk v26 0 fun v26_0 =>
 o.vk v26 1 fun v26_1 =>
 o.vk v26 2 fun v26_2 =>
 o.vk v26 3 fun v26_3 =>
 o.vk v26 4 fun v26_4 =>
 nm [v26_0, v26_1, v26_2, v26_3, v26_4] s27)
 (fun i28 v26 s27 => if i28 = 0 then nm v26 s27 else jE i28 v26 s27)
 (fun r29 s27 => jR r29 s27))
 (fun v30 s31 => o.vk v30 0 fun v30_0 =>
 o.vk v30 1 fun v30_1 =>
 o.vk v30 2 fun v30_2 =>
 o.vk v30 3 fun v30_3 =>
 o.vk v30 4 fun v30_4 =>
 bd (o.eql v30_2 (I .i64 0)) fun t77 =>
 f431_2 o kf N t77 v30_0 v30_1 v30_3 v30_4 s31 v30_2)
 (fun i32 v30 s31 => none)
 (fun r33 s31 => jT r33 s31))
theorem f431_ok : Ok Tryz.prog 431 (fun c => L3 (f431 fast c 8192)) := ok3 (fun o c => f431 o c 8192) Tryz.func431 (by kernel_rfl) (fun c a0 a1 a2 s => by kernel_rfl)

/- errors.New -/
def f433 (o : Ops) (kf : CallF) (N : Nat) (a0 : T) (s : St) : Option (T × St) :=
 bd (asAggT (aFill [.str []] [(0, 1, a0)])) fun t4 =>
 bd2 (o.new s (nBox t4)) fun t5 s1 =>
 bd ((none : Option T)) fun t6 =>
 jT t6 s1
theorem f433_ok : Ok Tryz.prog 433 (fun c => L1 (f433 fast c 8192)) := ok1 (fun o c => f433 o c 8192) Tryz.func433 (by kernel_rfl) (fun c a0 s => by kernel_rfl)

/- strings.IndexByte -/
def f434 (o : Ops) (kf : CallF) (N : Nat) (a0 a1 : T) (s : St) : Option (T × St) :=
 bd2 (kf 418 [a0, a1] s) fun t7 s1 =>
 jT t7 s1
theorem f434_ok : Ok Tryz.prog 434 (fun c => L2 (f434 fast c 8192)) := ok2 (fun o c => f434 o c 8192) Tryz.func434 (by kernel_rfl) (fun c a0 a1 s => by kernel_rfl)

/- unicode/utf8.ValidRune -/
def f435 (o : Ops) (kf : CallF) (N : Nat) (a0 : T) (s : St) : Option (T × St) :=
 jn (bd (o.leq (I .i32 0) a0) fun t5 =>
 bd (gU t5 (some a0)) fun t7 =>
 bd (gU t5 (o.lss t7 (I .i32 55296))) fun t8 =>
 bd (pF t5 t8) fun t9 =>
 o.br t9 (jR (B true) s)
 (bd (o.lss (I .i32 57343) a0) fun t12 =>
 bd (gU t12 (some a0)) fun t14 =>
 bd (gU t12 (o.leq t14 (I .i32 1114111))) fun t15 =>
 bd (pF t12 t15) fun t16 =>
 o.br t16 (jR (B true) s)
 (nm [] s)))
 (fun v1 s2 => jT (B false) s2)
 (fun i3 v1 s2 => none)
 (fun r4 s2 => jT r4 s2)
theorem f435_ok : Ok Tryz.prog 435 (fun c => L1 (f435 fast c 8192)) := ok1 (fun o c => f435 o c 8192) Tryz.func435 (by kernel_rfl) (fun c a0 s => by kernel_rfl)

/- cmp.isNaN[string] -/
def f439 (o : Ops) (kf : CallF) (N : Nat) (a0 : T) (s : St) : Option (T × St) :=
 bd (o.neq a0 a0) fun t5 =>
 jT t5 s
theorem f439_ok : Ok Tryz.prog 439 (fun c => L1 (f439 fast c 8192)) := ok1 (fun o c => f439 o c 8192) Tryz.func439 (by kernel_rfl) (fun c a0 s => by kernel_rfl)

/- math/bits.TrailingZeros32 -/
def f442 (o : Ops) (kf : CallF) (N : Nat) (a0 : T) (s : St) : Option (T × St) :=
 bd (o.eql a0 (I .u32 0)) fun t4 =>
 o.br t4 (jT (I .i64 32) s)
 (bd (aUn .neg a0) fun t7 =>
 bd (o.bin .and a0 t7) fun t8 =>
 bd (o.bin .mul t8 (I .u32 125613361)) fun t9 =>
 bd (o.bin .shr t9 (I .u64 27)) fun t10 =>
 bd (aIndexArr 32 1 .any t10) fun t11 =>
 bd (o.ld t11 s) fun t12 =>
 bd (o.cv .i64 t12) fun t13 =>
 jT t13 s)
theorem f442_ok : Ok Tryz.prog 442 (fun c => L1 (f442 fast c 8192)) := ok1 (fun o c => f442 o c 8192) Tryz.func442 (by kernel_rfl) (fun c a0 s => by kernel_rfl)

/- math/bits.TrailingZeros64 -/
def f443 (o : Ops) (kf : CallF) (N : Nat) (a0 : T) (s : St) : Option (T × St) :=
 bd (o.eql a0 (I .u64 0)) fun t4 =>
 o.br t4 (jT (I .i64 64) s)
 (bd (aUn .neg a0) fun t7 =>
 bd (o.bin .and a0 t7) fun t8 =>
 bd (o.bin .mul t8 (I .u64 285870213051353865)) fun t9 =>
 bd (o.bin .shr t9 (I .u64 58)) fun t10 =>
 bd (aIndexArr 64 1 .any t10) fun t11 =>
 bd (o.ld t11 s) fun t12 =>
 bd (o.cv .i64 t12) fun t13 =>
 jT t13 s)
theorem f443_ok : Ok Tryz.prog 443 (fun c => L1 (f443 fast c 8192)) := ok1 (fun o c => f443 o c 8192) Tryz.func443 (by kernel_rfl) (fun c a0 s => by kernel_rfl)

/- internal/strconv.lower -/
def f445 (o : Ops) (kf : CallF) (N : Nat) (a0 : T) (s : St) : Option (T × St) :=
 bd (o.bin .or a0 (I .u8 32)) fun t4 =>
 jT t4 s
theorem f445_ok : Ok Tryz.prog 445 (fun c => L1 (f445 fast c 8192)) := ok1 (fun o c => f445 o c 8192) Tryz.func445 (by kernel_rfl) (fun c a0 s => by kernel_rfl)

/- internal/strconv.underscoreOK -/
def f446_l1 (o : Ops) (kf : CallF) (N : Nat) (v : List T) (s : St) : Option (JO × St) :=
 o.vk v 0 fun v_0 =>
 o.vk v 1 fun v_1 =>
 o.vk v 2 fun v_2 =>
 o.vk v 3 fun v_3 =>
 bd (aLenStr v_0) fun t53 =>
 bd (o.lss v_2 t53) fun t54 =>
 o.br t54 (jn (bd (aAtStr v_0 v_2) fun t59 =>
 bd (o.leq (I .u8 48) t59) fun t60 =>
 bd (gU t60 (some v_0)) fun t62 =>
 bd (gU t60 (some v_2)) fun t63 =>
 bd (gU t60 (aAtStr t62 t63)) fun t64 =>
 bd (gU t60 (o.leq t64 (I .u8 57))) fun t65 =>
 bd (pF t60 t65) fun t66 =>
 bd (gF t66 (some v_3)) fun t68 =>
 bd (gF t66 (some t68)) fun t69 =>
 bd (gU t69 (some v_0)) fun t70 =>
 bd (gU t69 (some v_2)) fun t71 =>
 bd (gU t69 (aAtStr t70 t71)) fun t72 =>
 bd2 (gS (gd t69 true) s (kf 445 [t72] s)) fun t73 s13 =>
 bd (gU t69 (o.leq (I .u8 97) t73)) fun t74 =>
 bd (gF t66 (pF t69 t74)) fun t75 =>
 bd (gF t66 (some t75)) fun t76 =>
 bd (gU t76 (some v_0)) fun t77 =>
 bd (gU t76 (some v_2)) fun t78 =>
 bd (gU t76 (aAtStr t77 t78)) fun t79 =>
 bd2 (gS (gd t76 true) s13 (kf 445 [t79] s13)) fun t80 s14 =>
 bd (gU t76 (o.leq t80 (I .u8 102))) fun t81 =>
 bd (gF t66 (pF t76 t81)) fun t82 =>
 bd (pT t66 t82) fun t83 =>
 o.br t83 (nm [v_0, (I .i32 48), v_2, v_3] s14)
 (bd (aAtStr v_0 v_2) fun t86 =>
 bd (o.eql t86 (I .u8 95)) fun t87 =>
 o.br t87 (bd (o.neq v_1 (I .i32 48)) fun t89 =>
 o.br t89 (jR (B false) s14)
 (nm [v_0, (I .i32 95), v_2, v_3] s14))
 (bd (o.eql v_1 (I .i32 95)) fun t91 =>
 o.br t91 (jR (B false) s14)
 (nm [v_0, (I .i32 33), v_2, v_3] s14))))
 (fun v15 s16 => o.vk v15 0 fun v15_0 =>
 o.vk v15 1 fun v15_1 =>
 o.vk v15 2 fun v15_2 =>
 o.vk v15 3 fun v15_3 =>
 bd (o.add v15_2 (I .i64 1)) fun t56 =>
 nm [v15_0, v15_1, t56, v15_3] s16)
 (fun i17 v15 s16 => jE i17 v15 s16)
 (fun r18 s16 => jR r18 s16))
 (jE 0 [v_1] s)
def f446_1 (o : Ops) (kf : CallF) (N : Nat) (t8 t11 a0 : T) (s : St) : Option (T × St) :=
 bd (gU t8 (o.eql t11 (I .u8 45))) fun t12 =>
 bd (gU t8 (some t12)) fun t13 =>
 bd (gF t13 (some a0)) fun t14 =>
 bd (gF t13 (aAtStr t14 (I .i64 0))) fun t15 =>
 bd (gF t13 (o.eql t15 (I .u8 43))) fun t16 =>
 bd (gU t8 (pT t13 t16)) fun t17 =>
 bd (pF t8 t17) fun t18 =>
 jn (o.br t18 (bd (aPieceStr a0 (some (I .i64 1)) none none) fun t20 =>
 nm [t20, (I .i32 94), (I .i64 0)] s)
 (nm [a0, (I .i32 94), (I .i64 0)] s))
 (fun v1 s2 => o.vk v1 0 fun v1_0 =>
 o.vk v1 1 fun v1_1 =>
 o.vk v1 2 fun v1_2 =>
 bd (aLenStr v1_0) fun t22 =>
 bd (o.geq t22 (I .i64 2)) fun t23 =>
 bd (gU t23 (some v1_0)) fun t25 =>
 bd (gU t23 (aAtStr t25 (I .i64 0))) fun t26 =>
 bd (gU t23 (o.eql t26 (I .u8 48))) fun t27 =>
 bd (pF t23 t27) fun t28 =>
 bd (gU t28 (some v1_0)) fun t30 =>
 bd (gU t28 (aAtStr t30 (I .i64 1))) fun t31 =>
 bd2 (gS (gd t28 true) s2 (kf 445 [t31] s2)) fun t32 s5 =>
 bd (gU t28 (o.eql t32 (I .u8 98))) fun t33 =>
 bd (gU t28 (some t33)) fun t34 =>
 bd (gF t34 (some v1_0)) fun t35 =>
 bd (gF t34 (aAtStr t35 (I .i64 1))) fun t36 =>
 bd2 (gS (gd t34 false) s5 (kf 445 [t36] s5)) fun t37 s6 =>
 bd (gF t34 (o.eql t37 (I .u8 111))) fun t38 =>
 bd (gU t28 (pT t34 t38)) fun t39 =>
 bd (gU t28 (some t39)) fun t40 =>
 bd (gF t40 (some v1_0)) fun t41 =>
 bd (gF t40 (aAtStr t41 (I .i64 1))) fun t42 =>
 bd2 (gS (gd t40 false) s6 (kf 445 [t42] s6)) fun t43 s7 =>
 bd (gF t40 (o.eql t43 (I .u8 120))) fun t44 =>
 bd (gU t28 (pT t40 t44)) fun t45 =>
 bd (pF t28 t45) fun t46 =>
 jn (o.br t46 (bd (aAtStr v1_0 (I .i64 1)) fun t48 =>
 bd2 (kf 445 [t48] s7) fun t49 s8 =>
 bd (o.eql t49 (I .u8 120)) fun t50 =>
 nm [v1_0, (I .i32 48), (I .i64 2), t50] s8)
 (nm [v1_0, v1_1, v1_2, (B false)] s7))
 (fun v9 s10 => o.vk v9 0 fun v9_0 =>
 o.vk v9 1 fun v9_1 =>
 o.vk v9 2 fun v9_2 =>
 o.vk v9 3 fun v9_3 =>
 jn (jn (o.loops (f446_l1 o kf N) N [v9_0, v9_1, v9_2, v9_3] s10)
 (fun v19 s20 => nm [.any] s20)
 (fun i21 v19 s20 => if i21 = 0 then nm v19 s20 else jE i21 v19 s20)
 (fun r22 s20 => jR r22 s20))
 (fun v23 s24 => o.vk v23 0 fun v23_0 =>
 bd (o.neq v23_0 (I .i32 95)) fun t93 =>
 jT t93 s24)
 (fun i25 v23 s24 => none)
 (fun r26 s24 => jT r26 s24))
 (fun i11 v9 s10 => none)
 (fun r12 s10 => jT r12 s10))
 (fun i3 v1 s2 => none)
 (fun r4 s2 => jT r4 s2)
def f446 (o : Ops) (kf : CallF) (N : Nat) (a0 : T) (s : St) : Option (T × St) :=
 bd (aLenStr a0) fun t7 =>
 bd (o.geq t7 (I .i64 1)) fun t8 =>
 bd (gU t8 (some a0)) fun t10 =>
 bd (gU t8 (aAtStr t10 (I .i64 0))) fun t11 =>
 f446_1 o kf N t8 t11 a0 s
theorem f446_ok : Ok Tryz.prog 446 (fun c => L1 (f446 fast c 8192)) := ok1 (fun o c => f446 o c 8192) Tryz.func446 (by kernel_rfl) (fun c a0 s => by kernel_rfl)

end
end Go.Proofs.YtcihabdmigpklaaGreatDoor

/-
  The layouts of maps.Keys, slices.Sorted and slices.Sort in this program, as the kit lays them. No conditions.
-/
namespace Go.Proofs
open Go.Shelf
def Tryz.keysA_ren : Go.Shelf.Ren := ⟨fun | 7 => 271 | 10 => 340 | n => n, fun | 23 => 229 | 26 => 9 | 3 => 157 | 28 => 320 | 0 => 0 | 27 => 319 | 33 => 242 | 4 => 4 | n => n, fun | n => n⟩
theorem Tryz.keysA : Go.Proofs.SlLaysZ.n7 Tryz.prog Tryz.keysA_ren := {
  mixed := by kernel_rfl
  f7 := ⟨Tryz.f271.name, by decide, Tryz.func271.trans (congrArg some (by kernel_rfl))⟩
  f10 := ⟨Tryz.f340.name, by decide, Tryz.func340.trans (congrArg some (by kernel_rfl))⟩
  t0 := Tryz.underlying0
  a0 := Tryz.isAgg0
  z0 := Tryz.sizeOf0
  v0 := Tryz.zeroValue0
  t4 := Tryz.underlying4
  a4 := Tryz.isAgg4
  z4 := Tryz.sizeOf4
  v4 := Tryz.zeroValue4
  t23 := Tryz.underlying229
  a23 := Tryz.isAgg229
  z23 := Tryz.sizeOf229
  v23 := Tryz.zeroValue229
  t26 := Tryz.underlying9
  a26 := Tryz.isAgg9
  z26 := Tryz.sizeOf9
  v26 := Tryz.zeroValue9
  t27 := Tryz.underlying319
  a27 := Tryz.isAgg319
  z27 := Tryz.sizeOf319
  v27 := Tryz.zeroValue319
  t28 := Tryz.underlying320
  a28 := Tryz.isAgg320
  z28 := Tryz.sizeOf320
  v28 := Tryz.zeroValue320
  t33 := Tryz.underlying242
  a33 := Tryz.isAgg242
  z33 := Tryz.sizeOf242
  v33 := Tryz.zeroValue242 }
def Tryz.sortedA_ren : Go.Shelf.Ren := ⟨fun | 6 => 270 | 8 => 338 | 9 => 339 | 11 => 374 | 13 => 246 | 12 => 375 | 23 => 329 | 24 => 330 | 14 => 407 | 15 => 408 | 16 => 409 | 17 => 410 | 18 => 411 | 19 => 412 | 20 => 413 | 21 => 414 | 22 => 415 | 25 => 436 | 26 => 365 | 27 => 366 | 28 => 437 | 29 => 438 | 30 => 439 | 31 => 447 | n => n, fun | 26 => 9 | 28 => 320 | 24 => 109 | 0 => 0 | 3 => 3 | 37 => 39 | 48 => 131 | 50 => 107 | 4 => 4 | 40 => 371 | 39 => 370 | 45 => 42 | 5 => 5 | 9 => 9 | 51 => 402 | 55 => 405 | 57 => 429 | 58 => 166 | 33 => 242 | n => n, fun | n => n⟩
theorem Tryz.sortedA : Go.Proofs.SlLaysZ.n6 Tryz.prog Tryz.sortedA_ren := {
  mixed := by kernel_rfl
  f6 := ⟨Tryz.f270.name, by decide, Tryz.func270.trans (congrArg some (by kernel_rfl))⟩
  f8 := ⟨Tryz.f338.name, by decide, Tryz.func338.trans (congrArg some (by kernel_rfl))⟩
  f11 := ⟨Tryz.f374.name, by decide, Tryz.func374.trans (congrArg some (by kernel_rfl))⟩
  t0 := Tryz.underlying0
  a0 := Tryz.isAgg0
  z0 := Tryz.sizeOf0
  v0 := Tryz.zeroValue0
  t24 := Tryz.underlying109
  a24 := Tryz.isAgg109
  z24 := Tryz.sizeOf109
  v24 := Tryz.zeroValue109
  t26 := Tryz.underlying9
  a26 := Tryz.isAgg9
  z26 := Tryz.sizeOf9
  v26 := Tryz.zeroValue9
  t28 := Tryz.underlying320
  a28 := Tryz.isAgg320
  z28 := Tryz.sizeOf320
  v28 := Tryz.zeroValue320
  i26 := by kernel_rfl }
def Tryz.sortA_ren : Go.Shelf.Ren := ⟨fun | 6 => 339 | 8 => 246 | 9 => 375 | 19 => 329 | 20 => 330 | 21 => 407 | 22 => 408 | 23 => 409 | 24 => 410 | 25 => 411 | 26 => 412 | 27 => 413 | 28 => 414 | 29 => 415 | 36 => 436 | 31 => 365 | 32 => 366 | 37 => 437 | 38 => 438 | 39 => 439 | 41 => 447 | n => n, fun | 27 => 109 | 29 => 9 | 3 => 3 | 32 => 39 | 26 => 109 | 0 => 0 | 44 => 131 | 46 => 107 | 4 => 4 | 36 => 371 | 35 => 370 | 41 => 42 | 5 => 5 | 9 => 9 | 53 => 402 | 57 => 405 | 63 => 429 | 64 => 166 | n => n, fun | n => n⟩
theorem Tryz.sortA : Go.Proofs.SlLaysM.n6 Tryz.prog Tryz.sortA_ren := {
  mixed := by kernel_rfl
  f6 := ⟨Tryz.f339.name, by decide, Tryz.func339.trans (congrArg some (by kernel_rfl))⟩
  f8 := Tryz.func246.trans (congrArg some (by kernel_rfl))
  f9 := ⟨Tryz.f375.name, by decide, Tryz.func375.trans (congrArg some (by kernel_rfl))⟩
  f19 := Tryz.func329.trans (congrArg some (by kernel_rfl))
  f20 := Tryz.func330.trans (congrArg some (by kernel_rfl))
  f21 := ⟨Tryz.f407.name, by decide, Tryz.func407.trans (congrArg some (by kernel_rfl))⟩
  f22 := ⟨Tryz.f408.name, by decide, Tryz.func408.trans (congrArg some (by kernel_rfl))⟩
  f23 := ⟨Tryz.f409.name, by decide, Tryz.func409.trans (congrArg some (by kernel_rfl))⟩
  f24 := ⟨Tryz.f410.name, by decide, Tryz.func410.trans (congrArg some (by kernel_rfl))⟩
  f25 := ⟨Tryz.f411.name, by decide, Tryz.func411.trans (congrArg some (by kernel_rfl))⟩
  f26 := ⟨Tryz.f412.name, by decide, Tryz.func412.trans (congrArg some (by kernel_rfl))⟩
  f27 := ⟨Tryz.f413.name, by decide, Tryz.func413.trans (congrArg some (by kernel_rfl))⟩
  f28 := ⟨Tryz.f414.name, by decide, Tryz.func414.trans (congrArg some (by kernel_rfl))⟩
  f29 := ⟨Tryz.f415.name, by decide, Tryz.func415.trans (congrArg some (by kernel_rfl))⟩
  f31 := Tryz.func365.trans (congrArg some (by kernel_rfl))
  f32 := Tryz.func366.trans (congrArg some (by kernel_rfl))
  f36 := ⟨Tryz.f436.name, by decide, Tryz.func436.trans (congrArg some (by kernel_rfl))⟩
  f37 := ⟨Tryz.f437.name, by decide, Tryz.func437.trans (congrArg some (by kernel_rfl))⟩
  f38 := ⟨Tryz.f438.name, by decide, Tryz.func438.trans (congrArg some (by kernel_rfl))⟩
  f39 := ⟨Tryz.f439.name, by decide, Tryz.func439.trans (congrArg some (by kernel_rfl))⟩
  f41 := ⟨Tryz.f447.name, by decide, Tryz.func447.trans (congrArg some (by kernel_rfl))⟩
  t0 := Tryz.underlying0
  a0 := Tryz.isAgg0
  z0 := Tryz.sizeOf0
  v0 := Tryz.zeroValue0
  t3 := Tryz.underlying3
  a3 := Tryz.isAgg3
  z3 := Tryz.sizeOf3
  v3 := Tryz.zeroValue3
  t4 := Tryz.underlying4
  a4 := Tryz.isAgg4
  z4 := Tryz.sizeOf4
  v4 := Tryz.zeroValue4
  t5 := Tryz.underlying5
  a5 := Tryz.isAgg5
  z5 := Tryz.sizeOf5
  v5 := Tryz.zeroValue5
  t9 := Tryz.underlying9
  a9 := Tryz.isAgg9
  z9 := Tryz.sizeOf9
  v9 := Tryz.zeroValue9
  t26 := Tryz.underlying109
  a26 := Tryz.isAgg109
  z26 := Tryz.sizeOf109
  v26 := Tryz.zeroValue109
  t27 := Tryz.underlying109
  a27 := Tryz.isAgg109
  z27 := Tryz.sizeOf109
  v27 := Tryz.zeroValue109
  t29 := Tryz.underlying9
  a29 := Tryz.isAgg9
  z29 := Tryz.sizeOf9
  v29 := Tryz.zeroValue9
  t32 := Tryz.underlying39
  a32 := Tryz.isAgg39
  z32 := Tryz.sizeOf39
  v32 := Tryz.zeroValue39
  t35 := Tryz.underlying370
  a35 := Tryz.isAgg370
  z35 := Tryz.sizeOf370
  v35 := Tryz.zeroValue370
  t36 := Tryz.underlying371
  a36 := Tryz.isAgg371
  z36 := Tryz.sizeOf371
  v36 := Tryz.zeroValue371
  t41 := Tryz.underlying42
  a41 := Tryz.isAgg42
  z41 := Tryz.sizeOf42
  v41 := Tryz.zeroValue42
  t44 := Tryz.underlying131
  a44 := Tryz.isAgg131
  z44 := Tryz.sizeOf131
  v44 := Tryz.zeroValue131
  t46 := Tryz.underlying107
  a46 := Tryz.isAgg107
  z46 := Tryz.sizeOf107
  v46 := Tryz.zeroValue107
  t53 := Tryz.underlying402
  a53 := Tryz.isAgg402
  z53 := Tryz.sizeOf402
  v53 := Tryz.zeroValue402
  t57 := Tryz.underlying405
  a57 := Tryz.isAgg405
  z57 := Tryz.sizeOf405
  v57 := Tryz.zeroValue405
  t63 := Tryz.underlying429
  a63 := Tryz.isAgg429
  z63 := Tryz.sizeOf429
  v63 := Tryz.zeroValue429
  t64 := Tryz.underlying166
  a64 := Tryz.isAgg166
  z64 := Tryz.sizeOf166
  v64 := Tryz.zeroValue166 }
end Go.Proofs

/-
  What Names gives at a map: its keys, sorted, in a new slice; nil where it has none; nothing that was there has changed. Conditions: the disk's second cell holds the map; it has few keys.
-/
namespace Go.Proofs
open Go.RowKit Go.Maps Go.Sort Go.Shelf

theorem Tryz.sortsA (m : Nat) : AnyZ.SortsIn Tryz.prog Tryz.sortedA_ren Fence.wide m :=
  ⟨fun blk off cap ss W hH hblk hsz => callsIn_wide.2 (AnyM.slices_Sort_string Tryz.sortA blk off cap ss W hH hblk hsz),
   fun p cap W => callsIn_wide.2 (AnyM.slices_Sort_string_none Tryz.sortA p cap W)⟩

set_option maxHeartbeats 1000000 in
theorem Tryz.kept_calls {H : Type} (rb ro b nn : Nat) (D0 : DataW H) (R : Value → Option (DataW H × List MemPlace)) (w : World) (hc : w.cell? ⟨rb, ro + 1, none⟩ = some (.map (some b))) (hown : w.ownsMap Tryz.prog 9 R b nn D0) (hmax : Maps.size D0 ≤ maxLen) (hbytes : Maps.size D0 * 16 ≤ 140737488355328) :
    Calls Tryz.prog 189 #[.pointer (some ⟨rb, ro, none⟩)] w fun e w' => ∃ (v : Value) (ss : List (List UInt8)), e = .returned v ∧ ss.Perm (strKeys D0) ∧
      w'.ownsRow w.heap.size 9 1 v ss.length ((ss.mergeSort (fun x y => decide (x ≤ y))).map encStr) ∧ (v = .slice none 0 0 ↔ ss = []) ∧ Below w.heap.size w w' := by
  refine (callsIn_wide (n := 6)).1 ?_
  have hbl := hown.lt
  have hseq : SeqGives Fence.wide 2 Tryz.prog 340 #[.pointer (some ⟨w.heap.size, 0, none⟩)] encStr (fun ss => ss.Perm (strKeys D0)) (Maps.size D0) (w.alloc (.cells #[.map (some b)] 229)) :=
    AnyZ.keys_gives (ρ := Tryz.keysA_ren) { Tryz.keysA with } Fence.wide _ trivial rfl (by omega) w.heap.size b nn D0 _ (by simp) (by simp) (by
      obtain ⟨es, clock, hb, Ft, hs, hD⟩ := hown
      exact ⟨es, clock, (Below.heap_alloc _ _ b hbl).trans hb, Ft, hs, hD⟩)
  have cK : ∀ mb W, CallsIn Fence.wide 5 Tryz.prog 271 #[.map mb] W fun e w' => e = .returned (.func (.func 340) #[] #[.pointer (some ⟨W.heap.size, 0, none⟩)]) ∧ w' = W.alloc (.cells #[.map mb] 229) := fun mb W => AnyZ.keys_in Tryz.keysA Fence.wide 5 trivial rfl mb W
  have cS := AnyZ.sorted_in Tryz.sortedA Fence.wide 5 trivial trivial trivial trivial rfl (by omega) (Tryz.sortsA _) (enters_of Tryz.func339 (by kernel_rfl) rfl) 340 #[.pointer (some ⟨w.heap.size, 0, none⟩)] trivial (enters_of Tryz.func340 (by kernel_rfl) rfl) _ _ hmax hbytes _ hseq
  change CallsIn _ _ Tryz.prog 270 _ _ _ at cS
  have hfK : Fence.wide.fn 271 := trivial
  have hfS : Fence.wide.fn 270 := trivial
  refine callsIn_of_wp Tryz.func189 rfl trivial ?_ rfl
  simp only [Tryz.ntmps189, List.size_toArray, List.length_cons, List.length_nil, Nat.reduceAdd, Nat.reduceSub, Array.replicate_succ, Array.replicate_zero, List.push_toArray, List.append_toArray, List.nil_append, List.cons_append]
  gi_wp2_with (first
    | (gi_at_call 271; refine (cK _ _).mono ?_; rintro e w' ⟨rfl, rfl⟩)
    | (gi_at_call 270; refine cS.mono ?_; rintro e w' ⟨v, ss, rfl, hS, hrow, hnil, hb⟩))
  go_ret
  exact ⟨v, ss, rfl, hS, ownsRow_base_a hrow (by simp), hnil, ((Below.refl _ w).alloc (Nat.le_refl _) _).trans (hb.mono (by simp))⟩
end Go.Proofs

/-
  Texts in Go's order. No conditions but those named in each line.
-/
namespace Go.Proofs.YtcihabdmigpklaaGreatDoor
open Go Go.Abs Go.Abs.F
set_option linter.unusedVariables false

theorem lexLe_iff : ∀ a b : List UInt8, lexLe a b = true ↔ a ≤ b
  | [], b => by simp [lexLe]
  | x :: r, [] => by simp [lexLe]
  | x :: r, y :: t => by
    rw [List.cons_le_cons_iff, ← lexLe_iff r t]
    have hb : ∀ a b : Nat, Nat.blt a b = decide (a < b) := fun a b => by
      by_cases h : a < b
      · rw [decide_eq_true h]; simpa using h
      · rw [decide_eq_false h, ← Bool.not_eq_true]; simpa using h
    have he : ∀ a b : Nat, Nat.beq a b = decide (a = b) := fun a b => by
      by_cases h : a = b
      · rw [decide_eq_true h]; subst h; exact Nat.beq_refl a
      · rw [decide_eq_false h, ← Bool.not_eq_true]; exact fun e => h (Nat.eq_of_beq_eq_true e)
    rw [lexLe, hb, he]
    by_cases h : x.toNat < y.toNat
    · simp only [decide_eq_true h, true_iff]
      exact .inl (UInt8.lt_iff_toNat_lt.2 h)
    · have h2 : ¬ x < y := fun e => h (UInt8.lt_iff_toNat_lt.1 e)
      simp only [decide_eq_false h]
      by_cases e : x.toNat = y.toNat
      · have h4 : x = y := UInt8.toNat.inj e
        simp [h2, h4]
      · have h4 : x ≠ y := fun e' => e (by rw [e'])
        simp [e, h2, h4]

theorem nkeysOf_facts : ∀ {es : List (S × V)} {ks : List (List UInt8)}, nkeysOf es = some ks → es.map (·.1) = ks.map S.str ∧ ks.Nodup ∧ ∀ n ∈ ks, n.length ≤ 1000 := by
  intro es
  induction es with
  | nil => intro ks h; cases h; exact ⟨rfl, .nil, fun n hn => by cases hn⟩
  | cons p r ih =>
    intro ks h
    obtain ⟨k, v⟩ := p
    unfold nkeysOf at h
    split at h
    · rename_i heq; cases heq
    · rename_i n v' r' heq
      cases heq
      split at h
      · rename_i l hl
        split at h
        · rename_i hw
          cases h
          obtain ⟨h1, h2, h3⟩ := ih hl
          rw [Bool.and_eq_true] at hw
          have hn : n ∉ l := by simpa using hw.2
          refine ⟨by simp [h1], List.nodup_cons.2 ⟨hn, h2⟩, fun m hm => ?_⟩
          rcases List.mem_cons.1 hm with rfl | hm
          · exact Nat.le_of_ble_eq_true hw.1
          · exact h3 m hm
        · cases h
      · cases h
    · cases h

theorem nput_perm (n : List UInt8) : ∀ l : List (List UInt8), (nput n l).Perm (n :: l)
  | [] => .refl _
  | m :: r => by
    unfold nput
    cases lexLe n m with
    | true => exact .refl _
    | false => exact ((nput_perm n r).cons m).trans (.swap n m r)

theorem nput_sorted (n : List UInt8) : ∀ l : List (List UInt8), l.Pairwise (· ≤ ·) → (nput n l).Pairwise (· ≤ ·)
  | [], _ => List.pairwise_singleton _ _
  | m :: r, h => by
    unfold nput
    cases hd : lexLe n m with
    | true =>
      have hd' := (lexLe_iff n m).1 hd
      refine List.pairwise_cons.2 ⟨fun x hx => ?_, h⟩
      rcases List.mem_cons.1 hx with rfl | hx
      · exact hd'
      · exact List.le_trans hd' ((List.pairwise_cons.1 h).1 x hx)
    | false =>
      have hd' : m ≤ n := by
        rcases List.le_total m n with h | h
        · exact h
        · rw [(lexLe_iff n m).2 h] at hd; cases hd
      refine List.pairwise_cons.2 ⟨fun x hx => ?_, nput_sorted n r (List.pairwise_cons.1 h).2⟩
      rcases List.mem_cons.1 ((nput_perm n r).mem_iff.1 hx) with rfl | hx
      · exact hd'
      · exact (List.pairwise_cons.1 h).1 x hx

theorem nsorted_perm' : ∀ l : List (List UInt8), (nsorted l).Perm l
  | [] => .refl _
  | n :: r => (nput_perm n _).trans ((nsorted_perm' r).cons n)

theorem nsorted_sorted : ∀ l : List (List UInt8), (nsorted l).Pairwise (· ≤ ·)
  | [] => .nil
  | n :: r => nput_sorted n _ (nsorted_sorted r)

theorem nsorted_merge (l : List (List UInt8)) : l.mergeSort (fun x y => decide (x ≤ y)) = nsorted l := by
  have h1 : (l.mergeSort (fun x y => decide (x ≤ y))).Perm (nsorted l) := (List.mergeSort_perm _ _).trans (nsorted_perm' l).symm
  have h2 : (l.mergeSort (fun x y => decide (x ≤ y))).Pairwise (· ≤ ·) := by
    have := List.pairwise_mergeSort (le := fun x y : List UInt8 => decide (x ≤ y)) (by intro a b c; simp only [decide_eq_true_eq]; exact List.le_trans) (by intro a b; simp only [Bool.or_eq_true, decide_eq_true_eq]; exact List.le_total a b) l
    exact this.imp fun h => by simpa using h
  exact h1.eq_of_pairwise (fun a b _ _ h h' => List.le_antisymm h h') h2 (nsorted_sorted l)
end Go.Proofs.YtcihabdmigpklaaGreatDoor

/-
  What stands for Names in our runs is what Names does. No conditions.
-/
namespace Go.Proofs.YtcihabdmigpklaaGreatDoor
open Go Go.Abs Go.Abs.F
open Go.WideElems (Fit rd rg)
set_option linter.unusedVariables false

theorem names_shape {f : FuncId} {ts : List T} {σ τ : St} {t : T} (h : namesP f ts σ = some (t, τ)) :
    f = 189 ∧ ∃ i o own vs m es ks, ts = [Z (.ptr i o)] ∧ σ.get i = some (.cells own vs) ∧ vs[o + 1]? = some (.map m) ∧ σ.get m = some (.map es) ∧ es.length ≤ 1000 ∧ nkeysOf es = some ks ∧
      ((ks = [] ∧ t = Z .nils ∧ τ = σ) ∨ (ks ≠ [] ∧ t = Z (.sl σ.size 0 ks.length (.grown 1)) ∧ τ = σ.push (.cells false ((nsorted ks).map S.str)))) := by
  unfold namesP at h
  split at h
  · cases h
  · rename_i hf
    refine ⟨Nat.eq_of_beq_eq_true hf, ?_⟩
    split at h
    · rename_i i o
      split at h
      · rename_i own vs hi
        split at h
        · rename_i m hm
          split at h
          · rename_i es hes
            split at h
            · rename_i hl hk
              cases h
              exact ⟨i, o, own, vs, m, es, _, rfl, hi, hm, hes, Nat.le_of_ble_eq_true hl, hk, .inl ⟨rfl, rfl, rfl⟩⟩
            · rename_i k l hl hk
              cases h
              exact ⟨i, o, own, vs, m, es, _, rfl, hi, hm, hes, Nat.le_of_ble_eq_true hl, hk, .inr ⟨by simp, rfl, rfl⟩⟩
            · cases h
          · cases h
        · cases h
      · cases h
    · cases h

/-- A map's block as the kit speaks of it. -/
theorem owns_map {ι : Inj} {w : World} {L : Abs.Loc} {es : List (S × V)} {ks : List (List UInt8)} (hb : BlkRel ι L w (.map es)) (hk : nkeysOf es = some ks) (hl : es.length ≤ 1000) :
    ∃ D0 : DataW Unit, w.ownsMap Tryz.prog 9 (fun _ => some (.nil, [])) L.b 1000 D0 ∧ (strKeys D0).Perm ks ∧ Maps.size D0 ≤ 1000 := by
  obtain ⟨mes, clk, h1, h2, h3, h4⟩ := hb
  obtain ⟨k1, k2, k3⟩ := nkeysOf_facts hk
  have hlen : mes.size = es.length := by rw [← Array.length_toList, ← forall2_length h2]
  have hkeys : mes.toList.map (·.key) = ks.map encStr := by
    have : ∀ {es : List (S × V)} {l : List MapEntry} {ks : List (List UInt8)}, All2 (EntRel ι) es l → es.map (·.1) = ks.map S.str → l.map (·.key) = ks.map encStr := by
      intro es l ks h
      induction h generalizing ks with
      | nil => intro e; cases ks with
        | nil => rfl
        | cons _ _ => simp at e
      | cons a b ih =>
        intro e
        cases ks with
        | nil => simp at e
        | cons k ks =>
          simp only [List.map_cons, List.cons.injEq] at e ⊢
          refine ⟨?_, ih e.2⟩
          have := a.1
          rw [e.1] at this
          obtain ⟨s, hs, hl⟩ := this
          rw [hs]
          show Value.string s = Value.string ⟨k.toArray⟩
          rw [← hl]
    exact this h2 k1
  have hrd : ∀ x ∈ mes.toList, ∃ n, n ∈ ks ∧ x.key = encStr n ∧ rd (H := Unit) Tryz.prog 9 (fun _ => some (.nil, [])) x = some (.string n, .nil) := by
    intro x hx
    have : x.key ∈ ks.map encStr := by rw [← hkeys]; exact List.mem_map_of_mem hx
    obtain ⟨n, hn, e⟩ := List.mem_map.1 this
    refine ⟨n, hn, e.symm, ?_⟩
    unfold rd
    rw [← e, Go.WideMaps.keyOf_string_mk Tryz.underlying9 (by have := k3 n hn; exact Nat.le_trans (by simpa [ByteArray.size] using this) (by decide))]
    simp
  refine ⟨_, ⟨mes, clk, h1, ⟨by rw [hlen]; exact Nat.le_trans hl (by decide), ⟨h4, ?_, ?_⟩, fun x hx => ?_⟩, by omega, rfl⟩, ?_, ?_⟩
  · rw [List.nodup_iff_pairwise_ne, List.pairwise_map]
    exact h3.imp fun h => by omega
  · rw [hkeys]
    rw [List.nodup_iff_pairwise_ne, List.pairwise_map]
    exact (List.nodup_iff_pairwise_ne.1 k2).imp fun h e => h (by simpa using e)
  · obtain ⟨n, _, _, h⟩ := hrd x hx
    exact ⟨_, h⟩
  · show (List.map (fun p : Lit × DataW Unit => Go.strOf p.1) _).Perm ks
    refine ((WideShapes.sorted_perm _).map _).trans ?_
    rw [List.map_map]
    have : mes.toList.map ((fun p : Lit × DataW Unit => Go.strOf p.1) ∘ rg (H := Unit) Tryz.prog 9 (fun _ => some (.nil, []))) = ks := by
      have e1 : mes.toList.map ((fun p : Lit × DataW Unit => Go.strOf p.1) ∘ rg (H := Unit) Tryz.prog 9 (fun _ => some (.nil, []))) = mes.toList.map (fun x => match x.key with | .string s => s.data.toList | _ => []) := by
        apply List.map_congr_left
        intro x hx
        obtain ⟨n, _, hn, h⟩ := hrd x hx
        simp [rg, h, hn, Go.strOf]
      rw [e1]
      have e2 : mes.toList.map (fun x => match x.key with | .string s => s.data.toList | _ => []) = (mes.toList.map (·.key)).map (fun v => match v with | .string s => s.data.toList | _ => []) := by rw [List.map_map]; rfl
      rw [e2, hkeys, List.map_map]
      simp [Function.comp_def]
    rw [this]
  · show (List.foldr DataW.insert [] _).length ≤ 1000
    rw [(WideShapes.sorted_perm _).length_eq, List.length_map, Array.length_toList]
    omega

theorem namesP_sound : CallSound Tryz.prog namesP := by
  constructor
  · intro f ts σ t τ h wf
    obtain ⟨_, i, o, own, vs, m, es, ks, _, _, _, _, _, _, h | h⟩ := names_shape h
    · obtain ⟨_, _, rfl⟩ := h
      exact ⟨wf, Nat.le_refl _⟩
    · obtain ⟨_, _, rfl⟩ := h
      exact ⟨St.wf_push wf _, by simp⟩
  · intro f ts σ t τ h wf ι w vs hR hF hA
    obtain ⟨rfl, i, o, own, cs, m, es, ks, rfl, hi, hm, hes, hl, hk, h⟩ := names_shape h
    cases hA with
    | cons a b =>
    cases b
    obtain ⟨L, hL, rfl⟩ := a
    obtain ⟨c, e, fz, h1, h2, h3, h4, h5⟩ := hR.blk i L _ hL hi
    obtain ⟨v, hv, hr⟩ := h4 (o + 1) _ hm
    obtain ⟨M, hM, rfl⟩ := hr
    have hb := hR.blk m M _ hM hes
    obtain ⟨D0, hown, hp, hs⟩ := owns_map hb hk hl
    have hc : w.cell? ⟨L.b, L.base + o + 1, none⟩ = some (.map (some M.b)) := by
      unfold World.cell?
      simp only [h1]
      rw [Nat.add_assoc]
      simpa using hv
    refine (Tryz.kept_calls L.b (L.base + o) M.b 1000 D0 _ w hc hown (Nat.le_trans hs (by decide)) (by omega)).mono ?_
    rintro e' u ⟨v, ss, rfl, hss, hrow, hnil, hbel⟩
    have hperm := hss.trans hp
    have hmerge : ss.mergeSort (fun x y => decide (x ≤ y)) = nsorted ks := by
      rw [← nsorted_merge ks]
      exact mergeSort_of_perm hperm
    rw [hmerge] at hrow
    have hlen := hperm.length_eq
    rcases h with ⟨rfl, rfl, rfl⟩ | ⟨hne, rfl, rfl⟩
    · have : ss = [] := List.eq_nil_of_length_eq_zero (by simpa using hlen)
      refine ⟨ι, v, rfl, ⟨Nat.le_refl _, fun _ _ => rfl, fun _ _ h => h, fun _ _ h => h, fun _ _ _ => rfl, fun i L h1 h2 => by omega, hbel.os, hbel.output, hbel.size, fun k hk _ => hbel.block k hk⟩, ⟨fun i L b hi' hb' => ?_, hR.sep, hR.glob⟩, hnil.2 this⟩
      have hB := hR.blk i L b hi' hb'
      cases b with
      | dead => trivial
      | cells own vs => exact hB.congr (hbel.block _ (hB.lt trivial))
      | map es => exact hB.congr (hbel.block _ (hB.lt trivial))
      | glob g vs => exact hB.congr (hbel.block _ (hB.lt trivial))
      | mark vs => exact hB.congr (hbel.block _ (hB.lt trivial))
      | chan cap vs => exact hB.congr (hbel.block _ (hB.lt trivial))
    · have hssne : ss ≠ [] := fun e => hne (by rw [e] at hlen; exact List.eq_nil_of_length_eq_zero (by simpa using hlen.symm))
      rcases hrow.2 with ⟨e, _⟩ | ⟨g, cap, cur, rfl, hg, hcur, hle, hcap, hsz, htk⟩
      · exact absurd (hnil.1 e) hssne
      have hsl : (nsorted ks).length = ks.length := (nsorted_perm' ks).length_eq
      let κ : Inj := fun j => if j = σ.size then some ⟨g, 0, cap, 0⟩ else ι j
      have hκ : ι.le κ := by
        intro j M hj
        have : j ≠ σ.size := fun e => by rw [hF j (by omega) (by simp; omega)] at hj; cases hj
        simp [κ, this, hj]
      have hnew : BlkRel κ ⟨g, 0, cap, 0⟩ u (.cells false ((nsorted ks).map S.str)) := by
        refine ⟨cur, _, (0, 0), hcur, by rw [hsz, Nat.mul_one], by simp [hsl, ← hlen]; exact hle, fun j x hx => ?_, fun e => by cases e⟩
        rw [List.getElem?_map, Option.map_eq_some_iff] at hx
        obtain ⟨n, hn, rfl⟩ := hx
        have hj : j < (nsorted ks).length := (List.getElem?_eq_some_iff.1 hn).1
        have e1 : (cur.toList.take (ss.length * 1))[j]? = some (encStr n) := by rw [htk, List.getElem?_map, hn]; rfl
        rw [List.getElem?_take, if_pos (by omega), Array.getElem?_toList] at e1
        exact ⟨_, by simpa using e1, ⟨_, rfl, by simp⟩⟩
      refine ⟨κ, _, rfl, ?_, ⟨fun j M b hj hb' => ?_, fun j k M N hj hk' hl' hh hjk => ?_, fun j n vs hg => ?_⟩, ?_⟩
      · refine ⟨by simp, fun j hj => ?_, fun j hj hl' => ?_, fun j hj hl' => ?_, fun j hj hn => ?_, fun j M h1 h2 hj _ => ?_, hbel.os, hbel.output, hbel.size, fun k hk' _ => hbel.block k hk'⟩
        · have : j ≠ σ.size := by simp at hj; omega
          simp [κ, this]
        · rwa [St.get_push_ne _ _ (by omega)] at hl'
        · rwa [St.get_push_ne _ _ (by omega)] at hl'
        · rw [St.get_push_ne _ _ (by omega)]
        · have : j = σ.size := by simp at h2; omega
          subst this
          simp [κ] at hj
          subst hj
          exact .inl hg
      · by_cases e : j = σ.size
        · subst e
          simp [κ] at hj
          subst hj
          rw [St.get_push_same] at hb'
          cases hb'
          exact hnew
        · simp [κ, e] at hj
          rw [St.get_push_ne _ _ e] at hb'
          have hB := (hR.blk j M b hj hb').mono hκ
          cases b with
          | dead => trivial
          | cells own vs => exact hB.congr (hbel.block _ (hB.lt trivial))
          | map es => exact hB.congr (hbel.block _ (hB.lt trivial))
          | glob g vs => exact hB.congr (hbel.block _ (hB.lt trivial))
          | mark vs => exact hB.congr (hbel.block _ (hB.lt trivial))
          | chan cap vs => exact hB.congr (hbel.block _ (hB.lt trivial))
      · have old : ∀ {j : Nat} {M : Abs.Loc}, j ≠ σ.size → κ j = some M → held ((σ.push (.cells false ((nsorted ks).map S.str))).get j) → M.b < w.heap.size := by
          intro j M e hj hh
          simp [κ, e] at hj
          rw [St.get_push_ne _ _ e] at hh
          cases hbj : σ.get j with
          | none => rw [hbj] at hh; exact hh.elim
          | some b => rw [hbj] at hh; exact (hR.blk j M b hj hbj).lt hh
        by_cases e1 : j = σ.size
        · subst e1
          have hb2 := old (fun e => hjk e.symm) hk' hh
          simp [κ] at hj
          subst hj
          intro e
          have : g = N.b := e
          omega
        · by_cases e2 : k = σ.size
          · subst e2
            have hb2 := old e1 hj hl'.held
            simp [κ] at hk'
            subst hk'
            intro e
            have : M.b = g := e
            omega
          · simp [κ, e1] at hj
            simp [κ, e2] at hk'
            rw [St.get_push_ne _ _ e1] at hl'
            rw [St.get_push_ne _ _ e2] at hh
            exact hR.sep j k M N hj hk' hl' hh hjk
      · by_cases e : j = σ.size
        · subst e
          rw [St.get_push_same] at hg
          cases hg
        · rw [St.get_push_ne _ _ e] at hg
          obtain ⟨L, hL⟩ := hR.glob j n vs hg
          exact ⟨L, hκ j L hL⟩
      · refine ⟨⟨g, 0, cap, 0⟩, cap, by simp [κ], ?_, by rw [← hlen]; exact hle, by simp⟩
        rw [hlen]

end Go.Proofs.YtcihabdmigpklaaGreatDoor

/-
  What stands for Names in the fast runs is what Names does. No conditions.
-/
namespace Go.Proofs.YtcihabdmigpklaaGreatDoor
open Go Go.Abs Go.Abs.F
theorem namesP_ok : Ok Tryz.prog 189 (fun _ => namesP 189) := ok_prim namesP_sound _
end Go.Proofs.YtcihabdmigpklaaGreatDoor

/-
  What functions that the law reaches compute, printed by a program of our own in small pieces that the kernel runs fast. No conditions.
-/
namespace Go.Proofs.YtcihabdmigpklaaGreatDoor
open Go Go.Abs Go.Abs.F
set_option linter.unusedVariables false
set_option maxRecDepth 100000
noncomputable section
def tree (p q : CallF → List T → St → Res) : DT := .node 198 (.node 107 (.node 65 (.node 40 (.node 15 (.node 11 (.node 9 (.node 3 (.leaf 3 (fun c => L2 (f3 fast c 8192)))
 (.leaf 9 (fun c => L1 (f9 fast c 8192))))
 (.node 10 (.leaf 10 (fun c => L1 (f10 fast c 8192)))
 (.leaf 11 (fun c => L2 (f11 fast c 8192)))))
 (.node 13 (.node 12 (.leaf 12 (fun c => L2 (f12 fast c 8192)))
 (.leaf 13 (fun c => L1 (f13 fast c 8192))))
 (.node 14 (.leaf 14 (fun c => L1 (f14 fast c 8192)))
 (.leaf 15 (fun c => L2 (f15 fast c 8192))))))
 (.node 31 (.node 19 (.node 16 (.leaf 16 p)
 (.leaf 19 (fun c => L1 (f19 fast c 8192))))
 (.node 24 (.leaf 24 (fun c => L2 (f24 fast c 8192)))
 (.leaf 31 (fun c => L1 (f31 fast c 8192)))))
 (.node 34 (.node 33 (.leaf 33 (fun c => L1 (f33 fast c 8192)))
 (.leaf 34 (fun c => L2 (f34 fast c 8192))))
 (.node 38 (.leaf 38 (fun c => L1 (f38 fast c 8192)))
 (.node 39 (.leaf 39 (fun c => L1 (f39 fast c 8192)))
 (.leaf 40 (fun c => L2 (f40 fast c 8192))))))))
 (.node 49 (.node 44 (.node 42 (.node 41 (.leaf 41 (fun c => L1 (f41 fast c 8192)))
 (.leaf 42 (fun c => L1 (f42 fast c 8192))))
 (.node 43 (.leaf 43 (fun c => L2 (f43 fast c 8192)))
 (.leaf 44 (fun c => L2 (f44 fast c 8192)))))
 (.node 46 (.node 45 (.leaf 45 (fun c => L3 (f45 fast c 8192)))
 (.leaf 46 (fun c => L2 (f46 fast c 8192))))
 (.node 48 (.leaf 48 (fun c => L3 (f48 fast c 8192)))
 (.leaf 49 (fun c => L2 (f49 fast c 8192))))))
 (.node 56 (.node 51 (.node 50 (.leaf 50 (fun c => L2 (f50 fast c 8192)))
 (.leaf 51 (fun c => L3 (f51 fast c 8192))))
 (.node 54 (.leaf 54 (fun c => L1 (f54 fast c 8192)))
 (.leaf 56 (fun c => L2 (f56 fast c 8192)))))
 (.node 60 (.node 57 (.leaf 57 (fun c => L1 (f57 fast c 8192)))
 (.leaf 60 (fun c => L1 (f60 fast c 8192))))
 (.node 63 (.leaf 63 (fun c => L1 (f63 fast c 8192)))
 (.node 64 (.leaf 64 (fun c => L1 (f64 fast c 8192)))
 (.leaf 65 (fun c => L1 (f65 fast c 8192)))))))))
 (.node 89 (.node 80 (.node 76 (.node 68 (.node 66 (.leaf 66 (fun c => L2 (f66 fast c 8192)))
 (.leaf 68 (fun c => L1 (f68 fast c 8192))))
 (.node 75 (.leaf 75 (fun c => L1 (f75 fast c 8192)))
 (.leaf 76 (fun c => L0 (f76 fast c 8192)))))
 (.node 78 (.node 77 (.leaf 77 (fun c => L1 (f77 fast c 8192)))
 (.leaf 78 (fun c => L2 (f78 fast c 8192))))
 (.node 79 (.leaf 79 (fun c => L1 (f79 fast c 8192)))
 (.leaf 80 (fun c => L2 (f80 fast c 8192))))))
 (.node 84 (.node 82 (.node 81 (.leaf 81 (fun c => L1 (f81 fast c 8192)))
 (.leaf 82 (fun c => L2 (f82 fast c 8192))))
 (.node 83 (.leaf 83 (fun c => L1 (f83 fast c 8192)))
 (.leaf 84 (fun c => L1 (f84 fast c 8192)))))
 (.node 86 (.node 85 (.leaf 85 (fun c => L2 (f85 fast c 8192)))
 (.leaf 86 (fun c => L1 (f86 fast c 8192))))
 (.node 87 (.leaf 87 (fun c => L1 (f87 fast c 8192)))
 (.node 88 (.leaf 88 (fun c => L4 (f88 fast c 8192)))
 (.leaf 89 (fun c => L1 (f89 fast c 8192))))))))
 (.node 98 (.node 93 (.node 91 (.node 90 (.leaf 90 (fun c => L0 (f90 fast c 8192)))
 (.leaf 91 (fun c => L1 (f91 fast c 8192))))
 (.node 92 (.leaf 92 (fun c => L2 (f92 fast c 8192)))
 (.leaf 93 (fun c => L3 (f93 fast c 8192)))))
 (.node 95 (.node 94 (.leaf 94 (fun c => L2 (f94 fast c 8192)))
 (.leaf 95 (fun c => L1 (f95 fast c 8192))))
 (.node 96 (.leaf 96 (fun c => L4 (f96 fast c 8192)))
 (.node 97 (.leaf 97 (fun c => L4 (f97 fast c 8192)))
 (.leaf 98 (fun c => L2 (f98 fast c 8192)))))))
 (.node 102 (.node 100 (.node 99 (.leaf 99 (fun c => L2 (f99 fast c 8192)))
 (.leaf 100 (fun c => L2 (f100 fast c 8192))))
 (.node 101 (.leaf 101 (fun c => L3 (f101 fast c 8192)))
 (.leaf 102 (fun c => L2 (f102 fast c 8192)))))
 (.node 104 (.node 103 (.leaf 103 (fun c => L2 (f103 fast c 8192)))
 (.leaf 104 (fun c => L2 (f104 fast c 8192))))
 (.node 105 (.leaf 105 (fun c => L1 (f105 fast c 8192)))
 (.node 106 (.leaf 106 (fun c => L2 (f106 fast c 8192)))
 (.leaf 107 (fun c => L1 (f107 fast c 8192))))))))))
 (.node 161 (.node 144 (.node 119 (.node 115 (.node 111 (.node 108 (.leaf 108 (fun c => L1 (f108 fast c 8192)))
 (.leaf 111 (fun c => L2 (f111 fast c 8192))))
 (.node 114 (.leaf 114 (fun c => L1 (f114 fast c 8192)))
 (.leaf 115 (fun c => L1 (f115 fast c 8192)))))
 (.node 117 (.node 116 (.leaf 116 (fun c => L0 (f116 fast c 8192)))
 (.leaf 117 (fun c => L2 (f117 fast c 8192))))
 (.node 118 (.leaf 118 (fun c => L2 (f118 fast c 8192)))
 (.leaf 119 (fun c => L2 (f119 fast c 8192))))))
 (.node 131 (.node 129 (.node 128 (.leaf 128 (fun c => L1 (f128 fast c 8192)))
 (.leaf 129 (fun c => L2 (f129 fast c 8192))))
 (.node 130 (.leaf 130 (fun c => L2 (f130 fast c 8192)))
 (.leaf 131 (fun c => L1 (f131 fast c 8192)))))
 (.node 135 (.node 132 (.leaf 132 (fun c => L1 (f132 fast c 8192)))
 (.leaf 135 (fun c => L1 (f135 fast c 8192))))
 (.node 142 (.leaf 142 (fun c => L3 (f142 fast c 8192)))
 (.node 143 (.leaf 143 (fun c => L3 (f143 fast c 8192)))
 (.leaf 144 (fun c => L2 (f144 fast c 8192))))))))
 (.node 152 (.node 148 (.node 146 (.node 145 (.leaf 145 (fun c => L1 (f145 fast c 8192)))
 (.leaf 146 (fun c => L2 (f146 fast c 8192))))
 (.node 147 (.leaf 147 (fun c => L1 (f147 fast c 8192)))
 (.leaf 148 (fun c => L2 (f148 fast c 8192)))))
 (.node 150 (.node 149 (.leaf 149 (fun c => L1 (f149 fast c 8192)))
 (.leaf 150 (fun c => L2 (f150 fast c 8192))))
 (.node 151 (.leaf 151 (fun c => L1 (f151 fast c 8192)))
 (.leaf 152 q))))
 (.node 156 (.node 154 (.node 153 (.leaf 153 (fun c => L2 (f153 fast c 8192)))
 (.leaf 154 (fun c => L1 (f154 fast c 8192))))
 (.node 155 (.leaf 155 (fun c => L2 (f155 fast c 8192)))
 (.leaf 156 (fun c => L2 (f156 fast c 8192)))))
 (.node 158 (.node 157 (.leaf 157 (fun c => L0 (f157 fast c 8192)))
 (.leaf 158 (fun c => L2 (f158 fast c 8192))))
 (.node 159 (.leaf 159 (fun c => L1 (f159 fast c 8192)))
 (.node 160 (.leaf 160 (fun c => L2 (f160 fast c 8192)))
 (.leaf 161 (fun c => L2 (f161 fast c 8192)))))))))
 (.node 179 (.node 169 (.node 165 (.node 163 (.node 162 (.leaf 162 (fun c => L5 (f162 fast c 8192)))
 (.leaf 163 (fun c => L1 (f163 fast c 8192))))
 (.node 164 (.leaf 164 (fun c => L1 (f164 fast c 8192)))
 (.leaf 165 (fun c => L2 (f165 fast c 8192)))))
 (.node 167 (.node 166 (.leaf 166 (fun c => L2 (f166 fast c 8192)))
 (.leaf 167 (fun c => L2 (f167 fast c 8192))))
 (.node 168 (.leaf 168 (fun c => L2 (f168 fast c 8192)))
 (.leaf 169 (fun c => L3 (f169 fast c 8192))))))
 (.node 173 (.node 171 (.node 170 (.leaf 170 (fun c => L1 (f170 fast c 8192)))
 (.leaf 171 (fun c => L2 (f171 fast c 8192))))
 (.node 172 (.leaf 172 (fun c => L3 (f172 fast c 8192)))
 (.leaf 173 (fun c => L3 (f173 fast c 8192)))))
 (.node 175 (.node 174 (.leaf 174 (fun c => L4 (f174 fast c 8192)))
 (.leaf 175 (fun c => L2 (f175 fast c 8192))))
 (.node 176 (.leaf 176 (fun c => L2 (f176 fast c 8192)))
 (.node 177 (.leaf 177 (fun c => L1 (f177 fast c 8192)))
 (.leaf 179 (fun c => L3 (f179 fast c 8192))))))))
 (.node 188 (.node 183 (.node 181 (.node 180 (.leaf 180 (fun c => L4 (f180 fast c 8192)))
 (.leaf 181 (fun c => L1 (f181 fast c 8192))))
 (.node 182 (.leaf 182 (fun c => L1 (f182 fast c 8192)))
 (.leaf 183 (fun c => L2 (f183 fast c 8192)))))
 (.node 185 (.node 184 (.leaf 184 (fun c => L1 (f184 fast c 8192)))
 (.leaf 185 (fun c => L2 (f185 fast c 8192))))
 (.node 186 (.leaf 186 (fun c => L2 (f186 fast c 8192)))
 (.node 187 (.leaf 187 (fun c => L3 (f187 fast c 8192)))
 (.leaf 188 (fun c => L2 (f188 fast c 8192)))))))
 (.node 192 (.node 190 (.node 189 (.leaf 189 (fun c => namesP 189))
 (.leaf 190 (fun c => L1 (f190 fast c 8192))))
 (.node 191 (.leaf 191 (fun c => L3 (f191 fast c 8192)))
 (.leaf 192 (fun c => L1 (f192 fast c 8192)))))
 (.node 194 (.node 193 (.leaf 193 (fun c => L1 (f193 fast c 8192)))
 (.leaf 194 (fun c => L1 (f194 fast c 8192))))
 (.node 196 (.leaf 196 (fun c => L2 (f196 fast c 8192)))
 (.node 197 (.leaf 197 (fun c => L2 (f197 fast c 8192)))
 (.leaf 198 (fun c => L1 (f198 fast c 8192)))))))))))
 (.node 294 (.node 243 (.node 220 (.node 206 (.node 202 (.node 200 (.node 199 (.leaf 199 (fun c => L1 (f199 fast c 8192)))
 (.leaf 200 (fun c => L2 (f200 fast c 8192))))
 (.node 201 (.leaf 201 (fun c => L1 (f201 fast c 8192)))
 (.leaf 202 (fun c => L0 (f202 fast c 8192)))))
 (.node 204 (.node 203 (.leaf 203 (fun c => L2 (f203 fast c 8192)))
 (.leaf 204 (fun c => L2 (f204 fast c 8192))))
 (.node 205 (.leaf 205 (fun c => L3 (f205 fast c 8192)))
 (.leaf 206 (fun c => L3 (f206 fast c 8192))))))
 (.node 212 (.node 210 (.node 209 (.leaf 209 (fun c => L1 (f209 fast c 8192)))
 (.leaf 210 (fun c => L2 (f210 fast c 8192))))
 (.node 211 (.leaf 211 (fun c => L1 (f211 fast c 8192)))
 (.leaf 212 (fun c => L1 (f212 fast c 8192)))))
 (.node 214 (.node 213 (.leaf 213 (fun c => L2 (f213 fast c 8192)))
 (.leaf 214 (fun c => L1 (f214 fast c 8192))))
 (.node 215 (.leaf 215 (fun c => L1 (f215 fast c 8192)))
 (.node 219 (.leaf 219 (fun c => L1 (f219 fast c 8192)))
 (.leaf 220 (fun c => L2 (f220 fast c 8192))))))))
 (.node 234 (.node 229 (.node 227 (.node 222 (.leaf 222 (fun c => L2 (f222 fast c 8192)))
 (.leaf 227 (fun c => L1 (f227 fast c 8192))))
 (.node 228 (.leaf 228 (fun c => L2 (f228 fast c 8192)))
 (.leaf 229 (fun c => L2 (f229 fast c 8192)))))
 (.node 232 (.node 230 (.leaf 230 (fun c => L2 (f230 fast c 8192)))
 (.leaf 232 (fun c => L1 (f232 fast c 8192))))
 (.node 233 (.leaf 233 (fun c => L2 (f233 fast c 8192)))
 (.leaf 234 (fun c => L2 (f234 fast c 8192))))))
 (.node 238 (.node 236 (.node 235 (.leaf 235 (fun c => L1 (f235 fast c 8192)))
 (.leaf 236 (fun c => L1 (f236 fast c 8192))))
 (.node 237 (.leaf 237 (fun c => L2 (f237 fast c 8192)))
 (.leaf 238 (fun c => L1 (f238 fast c 8192)))))
 (.node 240 (.node 239 (.leaf 239 (fun c => L1 (f239 fast c 8192)))
 (.leaf 240 (fun c => L1 (f240 fast c 8192))))
 (.node 241 (.leaf 241 (fun c => L1 (f241 fast c 8192)))
 (.node 242 (.leaf 242 (fun c => L3 (f242 fast c 8192)))
 (.leaf 243 (fun c => L2 (f243 fast c 8192)))))))))
 (.node 262 (.node 252 (.node 248 (.node 246 (.node 245 (.leaf 245 (fun c => L4 (f245 fast c 8192)))
 (.leaf 246 (fun c => L1 (f246 fast c 8192))))
 (.node 247 (.leaf 247 (fun c => L1 (f247 fast c 8192)))
 (.leaf 248 (fun c => L3 (f248 fast c 8192)))))
 (.node 250 (.node 249 (.leaf 249 (fun c => L1 (f249 fast c 8192)))
 (.leaf 250 (fun c => L1 (f250 fast c 8192))))
 (.node 251 (.leaf 251 (fun c => L3 (f251 fast c 8192)))
 (.leaf 252 (fun c => L3 (f252 fast c 8192))))))
 (.node 257 (.node 255 (.node 253 (.leaf 253 (fun c => L1 (f253 fast c 8192)))
 (.leaf 255 (fun c => L1 (f255 fast c 8192))))
 (.node 256 (.leaf 256 (fun c => L3 (f256 fast c 8192)))
 (.leaf 257 (fun c => L1 (f257 fast c 8192)))))
 (.node 259 (.node 258 (.leaf 258 (fun c => L1 (f258 fast c 8192)))
 (.leaf 259 (fun c => L1 (f259 fast c 8192))))
 (.node 260 (.leaf 260 (fun c => L4 (f260 fast c 8192)))
 (.node 261 (.leaf 261 (fun c => L1 (f261 fast c 8192)))
 (.leaf 262 (fun c => L1 (f262 fast c 8192))))))))
 (.node 276 (.node 268 (.node 264 (.node 263 (.leaf 263 (fun c => L1 (f263 fast c 8192)))
 (.leaf 264 (fun c => L1 (f264 fast c 8192))))
 (.node 267 (.leaf 267 (fun c => L2 (f267 fast c 8192)))
 (.leaf 268 (fun c => L2 (f268 fast c 8192)))))
 (.node 273 (.node 269 (.leaf 269 (fun c => L1 (f269 fast c 8192)))
 (.leaf 273 (fun c => L2 (f273 fast c 8192))))
 (.node 274 (.leaf 274 (fun c => L1 (f274 fast c 8192)))
 (.node 275 (.leaf 275 (fun c => L1 (f275 fast c 8192)))
 (.leaf 276 (fun c => L2 (f276 fast c 8192)))))))
 (.node 285 (.node 283 (.node 277 (.leaf 277 (fun c => L1 (f277 fast c 8192)))
 (.leaf 283 (fun c => L1 (f283 fast c 8192))))
 (.node 284 (.leaf 284 (fun c => L1 (f284 fast c 8192)))
 (.leaf 285 (fun c => L4 (f285 fast c 8192)))))
 (.node 287 (.node 286 (.leaf 286 (fun c => L1 (f286 fast c 8192)))
 (.leaf 287 (fun c => L3 (f287 fast c 8192))))
 (.node 288 (.leaf 288 (fun c => L2 (f288 fast c 8192)))
 (.node 290 (.leaf 290 (fun c => L2 (f290 fast c 8192)))
 (.leaf 294 (fun c => L1 (f294 fast c 8192))))))))))
 (.node 358 (.node 317 (.node 302 (.node 298 (.node 296 (.node 295 (.leaf 295 (fun c => L2 (f295 fast c 8192)))
 (.leaf 296 (fun c => L1 (f296 fast c 8192))))
 (.node 297 (.leaf 297 (fun c => L1 (f297 fast c 8192)))
 (.leaf 298 (fun c => L2 (f298 fast c 8192)))))
 (.node 300 (.node 299 (.leaf 299 (fun c => L1 (f299 fast c 8192)))
 (.leaf 300 (fun c => L4 (f300 fast c 8192))))
 (.node 301 (.leaf 301 (fun c => L2 (f301 fast c 8192)))
 (.leaf 302 (fun c => L2 (f302 fast c 8192))))))
 (.node 312 (.node 310 (.node 309 (.leaf 309 (fun c => L1 (f309 fast c 8192)))
 (.leaf 310 (fun c => L1 (f310 fast c 8192))))
 (.node 311 (.leaf 311 (fun c => L2 (f311 fast c 8192)))
 (.leaf 312 (fun c => L2 (f312 fast c 8192)))))
 (.node 314 (.node 313 (.leaf 313 (fun c => L1 (f313 fast c 8192)))
 (.leaf 314 (fun c => L2 (f314 fast c 8192))))
 (.node 315 (.leaf 315 (fun c => L2 (f315 fast c 8192)))
 (.node 316 (.leaf 316 (fun c => L2 (f316 fast c 8192)))
 (.leaf 317 (fun c => L2 (f317 fast c 8192))))))))
 (.node 334 (.node 329 (.node 320 (.node 318 (.leaf 318 (fun c => L2 (f318 fast c 8192)))
 (.leaf 320 (fun c => L3 (f320 fast c 8192))))
 (.node 326 (.leaf 326 (fun c => L2 (f326 fast c 8192)))
 (.leaf 329 (fun c => L1 (f329 fast c 8192)))))
 (.node 331 (.node 330 (.leaf 330 (fun c => L1 (f330 fast c 8192)))
 (.leaf 331 (fun c => L2 (f331 fast c 8192))))
 (.node 332 (.leaf 332 (fun c => L1 (f332 fast c 8192)))
 (.node 333 (.leaf 333 (fun c => L2 (f333 fast c 8192)))
 (.leaf 334 (fun c => L3 (f334 fast c 8192)))))))
 (.node 352 (.node 342 (.node 341 (.leaf 341 (fun c => L2 (f341 fast c 8192)))
 (.leaf 342 (fun c => L2 (f342 fast c 8192))))
 (.node 351 (.leaf 351 (fun c => L1 (f351 fast c 8192)))
 (.leaf 352 (fun c => L2 (f352 fast c 8192)))))
 (.node 354 (.node 353 (.leaf 353 (fun c => L2 (f353 fast c 8192)))
 (.leaf 354 (fun c => L2 (f354 fast c 8192))))
 (.node 355 (.leaf 355 (fun c => L1 (f355 fast c 8192)))
 (.node 356 (.leaf 356 (fun c => L1 (f356 fast c 8192)))
 (.leaf 358 (fun c => L1 (f358 fast c 8192)))))))))
 (.node 401 (.node 384 (.node 362 (.node 360 (.node 359 (.leaf 359 (fun c => L5 (f359 fast c 8192)))
 (.leaf 360 (fun c => L2 (f360 fast c 8192))))
 (.node 361 (.leaf 361 (fun c => L1 (f361 fast c 8192)))
 (.leaf 362 (fun c => L2 (f362 fast c 8192)))))
 (.node 369 (.node 363 (.leaf 363 (fun c => L1 (f363 fast c 8192)))
 (.leaf 369 (fun c => L2 (f369 fast c 8192))))
 (.node 376 (.leaf 376 (fun c => L1 (f376 fast c 8192)))
 (.leaf 384 (fun c => L1 (f384 fast c 8192))))))
 (.node 388 (.node 386 (.node 385 (.leaf 385 (fun c => L1 (f385 fast c 8192)))
 (.leaf 386 (fun c => L1 (f386 fast c 8192))))
 (.node 387 (.leaf 387 (fun c => L2 (f387 fast c 8192)))
 (.leaf 388 (fun c => L5 (f388 fast c 8192)))))
 (.node 398 (.node 397 (.leaf 397 (fun c => L3 (f397 fast c 8192)))
 (.leaf 398 (fun c => L2 (f398 fast c 8192))))
 (.node 399 (.leaf 399 (fun c => L2 (f399 fast c 8192)))
 (.node 400 (.leaf 400 (fun c => L3 (f400 fast c 8192)))
 (.leaf 401 (fun c => L3 (f401 fast c 8192))))))))
 (.node 427 (.node 418 (.node 404 (.node 402 (.leaf 402 (fun c => L1 (f402 fast c 8192)))
 (.leaf 404 (fun c => L1 (f404 fast c 8192))))
 (.node 413 (.leaf 413 (fun c => L2 (f413 fast c 8192)))
 (.leaf 418 (fun c => L2 (f418 fast c 8192)))))
 (.node 424 (.node 420 (.leaf 420 (fun c => L1 (f420 fast c 8192)))
 (.leaf 424 (fun c => L1 (f424 fast c 8192))))
 (.node 425 (.leaf 425 (fun c => L1 (f425 fast c 8192)))
 (.node 426 (.leaf 426 (fun c => L1 (f426 fast c 8192)))
 (.leaf 427 (fun c => L1 (f427 fast c 8192)))))))
 (.node 435 (.node 433 (.node 431 (.leaf 431 (fun c => L3 (f431 fast c 8192)))
 (.leaf 433 (fun c => L1 (f433 fast c 8192))))
 (.node 434 (.leaf 434 (fun c => L2 (f434 fast c 8192)))
 (.leaf 435 (fun c => L1 (f435 fast c 8192)))))
 (.node 442 (.node 439 (.leaf 439 (fun c => L1 (f439 fast c 8192)))
 (.leaf 442 (fun c => L1 (f442 fast c 8192))))
 (.node 443 (.leaf 443 (fun c => L1 (f443 fast c 8192)))
 (.node 445 (.leaf 445 (fun c => L1 (f445 fast c 8192)))
 (.leaf 446 (fun c => L1 (f446 fast c 8192)))))))))))
theorem tree_ok {p q : CallF → List T → St → Res} (hp : Ok Tryz.prog 16 p) (hq : Ok Tryz.prog 152 q) : (tree p q).ok Tryz.prog :=
 ⟨⟨⟨⟨⟨⟨⟨⟨f3_ok,
 f9_ok⟩,
 ⟨f10_ok,
 f11_ok⟩⟩,
 ⟨⟨f12_ok,
 f13_ok⟩,
 ⟨f14_ok,
 f15_ok⟩⟩⟩,
 ⟨⟨⟨hp,
 f19_ok⟩,
 ⟨f24_ok,
 f31_ok⟩⟩,
 ⟨⟨f33_ok,
 f34_ok⟩,
 ⟨f38_ok,
 ⟨f39_ok,
 f40_ok⟩⟩⟩⟩⟩,
 ⟨⟨⟨⟨f41_ok,
 f42_ok⟩,
 ⟨f43_ok,
 f44_ok⟩⟩,
 ⟨⟨f45_ok,
 f46_ok⟩,
 ⟨f48_ok,
 f49_ok⟩⟩⟩,
 ⟨⟨⟨f50_ok,
 f51_ok⟩,
 ⟨f54_ok,
 f56_ok⟩⟩,
 ⟨⟨f57_ok,
 f60_ok⟩,
 ⟨f63_ok,
 ⟨f64_ok,
 f65_ok⟩⟩⟩⟩⟩⟩,
 ⟨⟨⟨⟨⟨f66_ok,
 f68_ok⟩,
 ⟨f75_ok,
 f76_ok⟩⟩,
 ⟨⟨f77_ok,
 f78_ok⟩,
 ⟨f79_ok,
 f80_ok⟩⟩⟩,
 ⟨⟨⟨f81_ok,
 f82_ok⟩,
 ⟨f83_ok,
 f84_ok⟩⟩,
 ⟨⟨f85_ok,
 f86_ok⟩,
 ⟨f87_ok,
 ⟨f88_ok,
 f89_ok⟩⟩⟩⟩⟩,
 ⟨⟨⟨⟨f90_ok,
 f91_ok⟩,
 ⟨f92_ok,
 f93_ok⟩⟩,
 ⟨⟨f94_ok,
 f95_ok⟩,
 ⟨f96_ok,
 ⟨f97_ok,
 f98_ok⟩⟩⟩⟩,
 ⟨⟨⟨f99_ok,
 f100_ok⟩,
 ⟨f101_ok,
 f102_ok⟩⟩,
 ⟨⟨f103_ok,
 f104_ok⟩,
 ⟨f105_ok,
 ⟨f106_ok,
 f107_ok⟩⟩⟩⟩⟩⟩⟩,
 ⟨⟨⟨⟨⟨⟨f108_ok,
 f111_ok⟩,
 ⟨f114_ok,
 f115_ok⟩⟩,
 ⟨⟨f116_ok,
 f117_ok⟩,
 ⟨f118_ok,
 f119_ok⟩⟩⟩,
 ⟨⟨⟨f128_ok,
 f129_ok⟩,
 ⟨f130_ok,
 f131_ok⟩⟩,
 ⟨⟨f132_ok,
 f135_ok⟩,
 ⟨f142_ok,
 ⟨f143_ok,
 f144_ok⟩⟩⟩⟩⟩,
 ⟨⟨⟨⟨f145_ok,
 f146_ok⟩,
 ⟨f147_ok,
 f148_ok⟩⟩,
 ⟨⟨f149_ok,
 f150_ok⟩,
 ⟨f151_ok,
 hq⟩⟩⟩,
 ⟨⟨⟨f153_ok,
 f154_ok⟩,
 ⟨f155_ok,
 f156_ok⟩⟩,
 ⟨⟨f157_ok,
 f158_ok⟩,
 ⟨f159_ok,
 ⟨f160_ok,
 f161_ok⟩⟩⟩⟩⟩⟩,
 ⟨⟨⟨⟨⟨f162_ok,
 f163_ok⟩,
 ⟨f164_ok,
 f165_ok⟩⟩,
 ⟨⟨f166_ok,
 f167_ok⟩,
 ⟨f168_ok,
 f169_ok⟩⟩⟩,
 ⟨⟨⟨f170_ok,
 f171_ok⟩,
 ⟨f172_ok,
 f173_ok⟩⟩,
 ⟨⟨f174_ok,
 f175_ok⟩,
 ⟨f176_ok,
 ⟨f177_ok,
 f179_ok⟩⟩⟩⟩⟩,
 ⟨⟨⟨⟨f180_ok,
 f181_ok⟩,
 ⟨f182_ok,
 f183_ok⟩⟩,
 ⟨⟨f184_ok,
 f185_ok⟩,
 ⟨f186_ok,
 ⟨f187_ok,
 f188_ok⟩⟩⟩⟩,
 ⟨⟨⟨namesP_ok,
 f190_ok⟩,
 ⟨f191_ok,
 f192_ok⟩⟩,
 ⟨⟨f193_ok,
 f194_ok⟩,
 ⟨f196_ok,
 ⟨f197_ok,
 f198_ok⟩⟩⟩⟩⟩⟩⟩⟩,
 ⟨⟨⟨⟨⟨⟨⟨f199_ok,
 f200_ok⟩,
 ⟨f201_ok,
 f202_ok⟩⟩,
 ⟨⟨f203_ok,
 f204_ok⟩,
 ⟨f205_ok,
 f206_ok⟩⟩⟩,
 ⟨⟨⟨f209_ok,
 f210_ok⟩,
 ⟨f211_ok,
 f212_ok⟩⟩,
 ⟨⟨f213_ok,
 f214_ok⟩,
 ⟨f215_ok,
 ⟨f219_ok,
 f220_ok⟩⟩⟩⟩⟩,
 ⟨⟨⟨⟨f222_ok,
 f227_ok⟩,
 ⟨f228_ok,
 f229_ok⟩⟩,
 ⟨⟨f230_ok,
 f232_ok⟩,
 ⟨f233_ok,
 f234_ok⟩⟩⟩,
 ⟨⟨⟨f235_ok,
 f236_ok⟩,
 ⟨f237_ok,
 f238_ok⟩⟩,
 ⟨⟨f239_ok,
 f240_ok⟩,
 ⟨f241_ok,
 ⟨f242_ok,
 f243_ok⟩⟩⟩⟩⟩⟩,
 ⟨⟨⟨⟨⟨f245_ok,
 f246_ok⟩,
 ⟨f247_ok,
 f248_ok⟩⟩,
 ⟨⟨f249_ok,
 f250_ok⟩,
 ⟨f251_ok,
 f252_ok⟩⟩⟩,
 ⟨⟨⟨f253_ok,
 f255_ok⟩,
 ⟨f256_ok,
 f257_ok⟩⟩,
 ⟨⟨f258_ok,
 f259_ok⟩,
 ⟨f260_ok,
 ⟨f261_ok,
 f262_ok⟩⟩⟩⟩⟩,
 ⟨⟨⟨⟨f263_ok,
 f264_ok⟩,
 ⟨f267_ok,
 f268_ok⟩⟩,
 ⟨⟨f269_ok,
 f273_ok⟩,
 ⟨f274_ok,
 ⟨f275_ok,
 f276_ok⟩⟩⟩⟩,
 ⟨⟨⟨f277_ok,
 f283_ok⟩,
 ⟨f284_ok,
 f285_ok⟩⟩,
 ⟨⟨f286_ok,
 f287_ok⟩,
 ⟨f288_ok,
 ⟨f290_ok,
 f294_ok⟩⟩⟩⟩⟩⟩⟩,
 ⟨⟨⟨⟨⟨⟨f295_ok,
 f296_ok⟩,
 ⟨f297_ok,
 f298_ok⟩⟩,
 ⟨⟨f299_ok,
 f300_ok⟩,
 ⟨f301_ok,
 f302_ok⟩⟩⟩,
 ⟨⟨⟨f309_ok,
 f310_ok⟩,
 ⟨f311_ok,
 f312_ok⟩⟩,
 ⟨⟨f313_ok,
 f314_ok⟩,
 ⟨f315_ok,
 ⟨f316_ok,
 f317_ok⟩⟩⟩⟩⟩,
 ⟨⟨⟨⟨f318_ok,
 f320_ok⟩,
 ⟨f326_ok,
 f329_ok⟩⟩,
 ⟨⟨f330_ok,
 f331_ok⟩,
 ⟨f332_ok,
 ⟨f333_ok,
 f334_ok⟩⟩⟩⟩,
 ⟨⟨⟨f341_ok,
 f342_ok⟩,
 ⟨f351_ok,
 f352_ok⟩⟩,
 ⟨⟨f353_ok,
 f354_ok⟩,
 ⟨f355_ok,
 ⟨f356_ok,
 f358_ok⟩⟩⟩⟩⟩⟩,
 ⟨⟨⟨⟨⟨f359_ok,
 f360_ok⟩,
 ⟨f361_ok,
 f362_ok⟩⟩,
 ⟨⟨f363_ok,
 f369_ok⟩,
 ⟨f376_ok,
 f384_ok⟩⟩⟩,
 ⟨⟨⟨f385_ok,
 f386_ok⟩,
 ⟨f387_ok,
 f388_ok⟩⟩,
 ⟨⟨f397_ok,
 f398_ok⟩,
 ⟨f399_ok,
 ⟨f400_ok,
 f401_ok⟩⟩⟩⟩⟩,
 ⟨⟨⟨⟨f402_ok,
 f404_ok⟩,
 ⟨f413_ok,
 f418_ok⟩⟩,
 ⟨⟨f420_ok,
 f424_ok⟩,
 ⟨f425_ok,
 ⟨f426_ok,
 f427_ok⟩⟩⟩⟩,
 ⟨⟨⟨f431_ok,
 f433_ok⟩,
 ⟨f434_ok,
 f435_ok⟩⟩,
 ⟨⟨f439_ok,
 f442_ok⟩,
 ⟨f443_ok,
 ⟨f445_ok,
 f446_ok⟩⟩⟩⟩⟩⟩⟩⟩⟩
def E (p q : CallF → List T → St → Res) (d : Nat) : CallF := treeF (tree p q) d
theorem E_sound {p q : CallF → List T → St → Res} (hp : Ok Tryz.prog 16 p) (hq : Ok Tryz.prog 152 q) (d : Nat) : CallSound Tryz.prog (E p q d) := treeF_sound (tree_ok hp hq) d
end
end Go.Proofs.YtcihabdmigpklaaGreatDoor
