/-
  What functions that the law reaches compute, printed by a program of our own in small pieces that the kernel runs fast. No conditions.
-/
import Derived.Test.YtcihabdmigpklaaGreatDoorFnsA
namespace Go.Proofs.YtcihabdmigpklaaGreatDoor
open Go Go.Abs Go.Abs.F
set_option linter.unusedVariables false
set_option maxRecDepth 100000
noncomputable section
/- (twin.site).lead -/
def f105_l1 (o : Ops) (kf : CallF) (N : Nat) (v : List T) (s : St) : Option (JO × St) :=
 o.vk v 0 fun v_0 =>
 o.vk v 1 fun v_1 =>
 o.vk v 2 fun v_2 =>
 o.vk v 3 fun v_3 =>
 o.vk v 4 fun v_4 =>
 bd (o.lss v_4 v_3) fun t34 =>
 o.br t34 (jn (bd (o.ix 2 v_2 v_4) fun t35 =>
 bd (o.ldn 2 t35 s) fun t36 =>
 bd2 (o.new s (nCells [.int .i64 0, .int .i64 0])) fun t5 s5 =>
 bd2 (o.st 2 t5 t36 s5) fun u6 s7 =>
 bd (o.fa 1 v_1) fun t37 =>
 bd (o.ld t37 s7) fun t38 =>
 bd (o.add t38 (I .i64 1)) fun t39 =>
 bd (o.fa 1 v_1) fun t40 =>
 bd2 (o.st 1 t40 t39 s7) fun u8 s9 =>
 bd (o.fa 4 v_1) fun t41 =>
 bd (o.ld t41 s9) fun t42 =>
 bd (o.fa 1 v_1) fun t43 =>
 bd (o.ld t43 s9) fun t44 =>
 bd (o.ldn 2 t5 s9) fun t45 =>
 bd (asAggT (aFill [.int .i64 0, .int .i64 0, .int .i64 0] [(0, 1, t44), (1, 2, t45)])) fun t46 =>
 bd2 (o.new s9 (nSlice 1 (aFill [.int .i64 0, .int .i64 0, .int .i64 0] [(0, 3, t46)]))) fun t47 s10 =>
 bd2 (aAppend 3 24 t42 t47 s10) fun t48 s11 =>
 bd (o.fa 4 v_1) fun t49 =>
 bd2 (o.st 1 t49 t48 s11) fun u12 s13 =>
 nm [v_0, v_1, v_2, v_3, v_4] s13)
 (fun v14 s15 => o.vk v14 0 fun v14_0 =>
 o.vk v14 1 fun v14_1 =>
 o.vk v14 2 fun v14_2 =>
 o.vk v14 3 fun v14_3 =>
 o.vk v14 4 fun v14_4 =>
 bd (o.add v14_4 (I .i64 1)) fun t50 =>
 nm [v14_0, v14_1, v14_2, v14_3, t50] s15)
 (fun i16 v14 s15 => jE i16 v14 s15)
 (fun r17 s15 => jR r17 s15))
 (jE 0 [v_0, v_1] s)
def f105 (o : Ops) (kf : CallF) (N : Nat) (a0 : T) (s : St) : Option (T × St) :=
 bd (o.nil a0) fun t7 =>
 bd (o.fa 8 t7) fun t8 =>
 bd (o.fa 0 t8) fun t9 =>
 bd (o.ld t9 s) fun t10 =>
 bd (o.nil a0) fun t12 =>
 bd (o.fa 5 t12) fun t13 =>
 bd (o.ld t13 s) fun t14 =>
 bd (o.eql t10 t14) fun t15 =>
 o.br t15 (jT (B true) s)
 (bd (o.nil a0) fun t17 =>
 bd (o.fa 5 t17) fun t18 =>
 bd (o.ld t18 s) fun t19 =>
 bd (o.nil a0) fun t21 =>
 bd (o.fa 3 t21) fun t22 =>
 bd (o.ld t22 s) fun t23 =>
 bd2 (kf 114 [t23] s) fun t24 s1 =>
 bd (o.ln t24) fun t25 =>
 bd (asAggT (aFill [.int .i64 0, .int .i64 0, .int .i64 0, .int .i64 0, .nils] [(0, 1, t19), (3, 1, t25)])) fun t26 =>
 bd2 (o.new s1 (nCells [.int .i64 0, .int .i64 0, .int .i64 0, .int .i64 0, .nils])) fun t3 s2 =>
 bd2 (o.st 5 t3 t26 s2) fun u3 s4 =>
 ck ((decide (aLoad1 t18 (updM (s1.get) s1.size (.cells true [.int .i64 0, .int .i64 0, .int .i64 0, .int .i64 0, .nils])) = o.ld t18 s) && true) && true) (bd (o.nil a0) fun t28 =>
 bd (o.fa 13 t28) fun t29 =>
 bd (o.fa 1 t29) fun t30 =>
 bd (o.ld t30 s4) fun t31 =>
 bd (o.ln t31) fun t32 =>
 jn (jn (o.loops (f105_l1 o kf N) N [a0, t3, t31, t32, (I .i64 0)] s4)
 (fun v18 s19 => nm [.any, .any] s19)
 (fun i20 v18 s19 => if i20 = 0 then nm v18 s19 else jE i20 v18 s19)
 (fun r21 s19 => jR r21 s19))
 (fun v22 s23 => o.vk v22 0 fun v22_0 =>
 o.vk v22 1 fun v22_1 =>
 bd (o.ldn 5 v22_1 s23) fun t52 =>
 bd2 (kf 185 [v22_0, t52] s23) fun t53 s26 =>
 jT t53 s26)
 (fun i24 v22 s23 => none)
 (fun r25 s23 => jT r25 s23)))
theorem f105_ok : Ok Tryz.prog 105 (fun c => L1 (f105 fast c 8192)) := ok1 (fun o c => f105 o c 8192) Tryz.func105 (by kernel_rfl) (fun c a0 s => by kernel_rfl)

/- (twin.site).note -/
def f106 (o : Ops) (kf : CallF) (N : Nat) (a0 a1 : T) (s : St) : Option (T × St) :=
 bd (o.nil a0) fun t6 =>
 bd (o.fa 1 t6) fun t7 =>
 bd (o.ld t7 s) fun t8 =>
 bd2 (kf 142 [t8, (Z (.str [104, 101, 97, 100])), a1] s) fun t10 s1 =>
 bd (o.neq t10 (I .i64 0)) fun t11 =>
 o.br t11 (jT (B false) s1)
 (bd (o.nil a0) fun t13 =>
 bd (o.fa 1 t13) fun t14 =>
 bd (o.ld t14 s1) fun t15 =>
 bd2 (kf 144 [t15, (Z (.str [104, 101, 97, 100]))] s1) fun t16 s2 =>
 bd (o.eql t16 (I .i64 0)) fun t17 =>
 jT t17 s2)
theorem f106_ok : Ok Tryz.prog 106 (fun c => L2 (f106 fast c 8192)) := ok2 (fun o c => f106 o c 8192) Tryz.func106 (by kernel_rfl) (fun c a0 a1 s => by kernel_rfl)

/- (twin.write).record -/
def f107 (o : Ops) (kf : CallF) (N : Nat) (a0 : T) (s : St) : Option (T × St) :=
 bd2 (o.new s (nBox a0)) fun t1 s1 =>
 bd (o.fa 0 t1) fun t3 =>
 bd (o.ld t3 s1) fun t4 =>
 bd (o.fa 1 t1) fun t5 =>
 bd (o.fa 0 t5) fun t6 =>
 bd (o.ld t6 s1) fun t7 =>
 bd (o.fa 1 t1) fun t8 =>
 bd (o.fa 1 t8) fun t9 =>
 bd (o.ld t9 s1) fun t10 =>
 bd2 (o.new s1 (nSlice 4 (aFill [.int .i64 0, .int .i64 0, .int .i64 0, .int .i64 0] [(0, 1, (I .i64 1)), (1, 1, t4), (2, 1, t7), (3, 1, t10)]))) fun t11 s2 =>
 bd2 (kf 194 [t11] s2) fun t12 s3 =>
 bd2 (kf 193 [t12] s3) fun t13 s4 =>
 jT t13 s4
theorem f107_ok : Ok Tryz.prog 107 (fun c => L1 (f107 fast c 8192)) := ok1 (fun o c => f107 o c 8192) Tryz.func107 (by kernel_rfl) (fun c a0 s => by kernel_rfl)

/- (twin.site).ring -/
def f108 (o : Ops) (kf : CallF) (N : Nat) (a0 : T) (s : St) : Option (T × St) :=
 bd (o.nil a0) fun t3 =>
 bd (o.fa 22 t3) fun t4 =>
 bd (o.ld t4 s) fun t5 =>
 bd2 (aSelS t5 (B true) s) fun t6 s1 =>
 bd (o.ex t6 0) fun t7 =>
 bd (o.eql t7 (I .i64 0)) fun t8 =>
 jn (jn (o.br t8 (nm [] s1)
 (nm [] s1))
 (fun v2 s3 => nm [] s3)
 (fun i4 v2 s3 => if i4 = 0 then nm v2 s3 else jE i4 v2 s3)
 (fun r5 s3 => jR r5 s3))
 (fun v6 s7 => bd (retT []) fun r10 =>
 jT r10 s7)
 (fun i8 v6 s7 => none)
 (fun r9 s7 => jT r9 s7)
theorem f108_ok : Ok Tryz.prog 108 (fun c => L1 (f108 fast c 8192)) := ok1 (fun o c => f108 o c 8192) Tryz.func108 (by kernel_rfl) (fun c a0 s => by kernel_rfl)

/- (twin.Twin).done -/
def f111 (o : Ops) (kf : CallF) (N : Nat) (a0 a1 : T) (s : St) : Option (T × St) :=
 bd (o.nil a1) fun t5 =>
 bd (o.fa 3 t5) fun t6 =>
 bd (o.ld t6 s) fun t7 =>
 bd2 (kf 198 [t7] s) fun t8 s1 =>
 bd (o.nil a1) fun t10 =>
 bd (o.fa 4 t10) fun t11 =>
 bd (o.ld t11 s1) fun t12 =>
 bd (o.nil a1) fun t14 =>
 bd (o.fa 3 t14) fun t15 =>
 bd (o.ld t15 s1) fun t16 =>
 bd2 (kf 151 [t16] s1) fun t17 s2 =>
 bd2 (kf 176 [t12, t17] s2) fun t18 s3 =>
 ck ((decide (o.ld t11 s2 = o.ld t11 s1) && true) && true) (bd2 (kf 108 [a1] s3) fun t20 s4 =>
 bd (retT []) fun r5 =>
 jT r5 s4)
theorem f111_ok : Ok Tryz.prog 111 (fun c => L2 (f111 fast c 8192)) := ok2 (fun o c => f111 o c 8192) Tryz.func111 (by kernel_rfl) (fun c a0 a1 s => by kernel_rfl)

/- (store.Store).Entries -/
def f114 (o : Ops) (kf : CallF) (N : Nat) (a0 : T) (s : St) : Option (T × St) :=
 bd (eqB .p a0 (Z .nilp)) fun t4 =>
 o.br t4 (jT (Z .nils) s)
 (bd (o.nil a0) fun t6 =>
 bd (o.fa 1 t6) fun t7 =>
 bd (o.ld t7 s) fun t8 =>
 bd2 (kf 199 [t8] s) fun t9 s1 =>
 jT t9 s1)
theorem f114_ok : Ok Tryz.prog 114 (fun c => L1 (f114 fast c 8192)) := ok1 (fun o c => f114 o c 8192) Tryz.func114 (by kernel_rfl) (fun c a0 s => by kernel_rfl)

/- log.Read -/
def f115_l1 (o : Ops) (kf : CallF) (N : Nat) (v : List T) (s : St) : Option (JO × St) :=
 o.vk v 0 fun v_0 =>
 o.vk v 1 fun v_1 =>
 o.vk v 2 fun v_2 =>
 bd (o.ln v_1) fun t12 =>
 bd (o.lss t12 (I .i64 2000)) fun t13 =>
 o.br t13 (jn (bd2 (kf 200 [v_0, v_2] s) fun t17 s1 =>
 bd (o.ex t17 0) fun t18 =>
 bd (o.ex t17 1) fun t19 =>
 bd (o.ex t17 2) fun t20 =>
 bd (aUn .not t20) fun t22 =>
 o.br t22 (jE 0 [v_1, v_2] s1)
 (bd2 (kf 201 [t18] s1) fun t25 s2 =>
 bd (o.ex t25 0) fun t26 =>
 bd (o.ex t25 1) fun t27 =>
 bd2 (o.new s2 (nCells [.int .i64 0, .int .i64 0, .int .i64 0, .int .i64 0, .int .i64 0, .int .i64 0, .int .u32 0, .str []])) fun t9 s3 =>
 bd2 (o.st 8 t9 t26 s3) fun u4 s5 =>
 bd (o.neq t27 (I .i64 0)) fun t29 =>
 o.br t29 (jE 0 [v_1, v_2] s5)
 (bd (o.ldn 8 t9 s5) fun t31 =>
 bd2 (o.new s5 (nSlice 1 (aFill [.int .i64 0, .int .i64 0, .int .i64 0, .int .i64 0, .int .i64 0, .int .i64 0, .int .u32 0, .str []] [(0, 8, t31)]))) fun t32 s6 =>
 bd2 (aAppend 8 72 v_1 t32 s6) fun t33 s7 =>
 nm [v_0, t33, t19] s7)))
 (fun v8 s9 => o.vk v8 0 fun v8_0 =>
 o.vk v8 1 fun v8_1 =>
 o.vk v8 2 fun v8_2 =>
 nm [v8_0, v8_1, v8_2] s9)
 (fun i10 v8 s9 => jE i10 v8 s9)
 (fun r11 s9 => jR r11 s9))
 (jE 0 [v_1, v_2] s)
def f115 (o : Ops) (kf : CallF) (N : Nat) (a0 : T) (s : St) : Option (T × St) :=
 jn (jn (o.loops (f115_l1 o kf N) N [a0, (Z .nils), (I .i64 0)] s)
 (fun v12 s13 => nm [.any, .any] s13)
 (fun i14 v12 s13 => if i14 = 0 then nm v12 s13 else jE i14 v12 s13)
 (fun r15 s13 => jR r15 s13))
 (fun v16 s17 => o.vk v16 0 fun v16_0 =>
 o.vk v16 1 fun v16_1 =>
 bd (retT [v16_0, v16_1]) fun r20 =>
 jT r20 s17)
 (fun i18 v16 s17 => none)
 (fun r19 s17 => jT r19 s17)
theorem f115_ok : Ok Tryz.prog 115 (fun c => L1 (f115 fast c 8192)) := ok1 (fun o c => f115 o c 8192) Tryz.func115 (by kernel_rfl) (fun c a0 s => by kernel_rfl)

/- entry.Begin -/
def f116 (o : Ops) (kf : CallF) (N : Nat) (s : St) : Option (T × St) :=
 bd2 (o.new s (nMap)) fun t1 s1 =>
 bd2 (kf 202 [] s1) fun t2 s2 =>
 bd (asAggT (aFill [.nils, .nilm, .int .i64 0, .int .i64 0, .int .i64 0, .int .i64 0, .int .i64 0, .int .i64 0, .int .i64 0, .int .i64 0] [(1, 1, t1), (2, 6, t2)])) fun t3 =>
 bd2 (o.new s2 (nBox t3)) fun t4 s3 =>
 jT t4 s3
theorem f116_ok : Ok Tryz.prog 116 (fun c => L0 (f116 fast c 8192)) := ok0 (fun o c => f116 o c 8192) Tryz.func116 (by kernel_rfl) (fun c s => by kernel_rfl)

/- slices.IndexFunc[[]api.Entry,api.Entry] -/
def f117_l1 (o : Ops) (kf : CallF) (N : Nat) (v : List T) (s : St) : Option (JO × St) :=
 o.vk v 0 fun v_0 =>
 o.vk v 1 fun v_1 =>
 o.vk v 2 fun v_2 =>
 o.vk v 3 fun v_3 =>
 bd (o.lss v_3 v_2) fun t9 =>
 o.br t9 (jn (bd (o.ix 8 v_0 v_3) fun t14 =>
 bd (o.ldn 8 t14 s) fun t15 =>
 bd2 (dyn Tryz.prog kf v_1 [t15] s) fun t16 s1 =>
 o.br t16 (jR v_3 s1)
 (nm [v_0, v_1, v_2, v_3] s1))
 (fun v2 s3 => o.vk v2 0 fun v2_0 =>
 o.vk v2 1 fun v2_1 =>
 o.vk v2 2 fun v2_2 =>
 o.vk v2 3 fun v2_3 =>
 bd (o.add v2_3 (I .i64 1)) fun t18 =>
 nm [v2_0, v2_1, v2_2, t18] s3)
 (fun i4 v2 s3 => jE i4 v2 s3)
 (fun r5 s3 => jR r5 s3))
 (jE 0 [] s)
def f117 (o : Ops) (kf : CallF) (N : Nat) (a0 a1 : T) (s : St) : Option (T × St) :=
 bd (o.ln a0) fun t7 =>
 jn (jn (o.loops (f117_l1 o kf N) N [a0, a1, t7, (I .i64 0)] s)
 (fun v6 s7 => nm [] s7)
 (fun i8 v6 s7 => if i8 = 0 then nm v6 s7 else jE i8 v6 s7)
 (fun r9 s7 => jR r9 s7))
 (fun v10 s11 => jT (I .i64 (-1)) s11)
 (fun i12 v10 s11 => none)
 (fun r13 s11 => jT r13 s11)
theorem f117_ok : Ok Tryz.prog 117 (fun c => L2 (f117 fast c 8192)) := ok2 (fun o c => f117 o c 8192) Tryz.func117 (by kernel_rfl) (fun c a0 a1 s => by kernel_rfl)

/- (twin.site).entries$1 -/
def f118 (o : Ops) (kf : CallF) (N : Nat) (a0 a1 : T) (s : St) : Option (T × St) :=
 bd2 (o.new s (nBox a0)) fun t2 s1 =>
 bd (o.ld a1 s1) fun t4 =>
 bd (o.ldn 8 t2 s1) fun t5 =>
 bd2 (kf 119 [t4, t5] s1) fun t6 s2 =>
 bd (o.neq t6 (I .i64 0)) fun t7 =>
 jT t7 s2
theorem f118_ok : Ok Tryz.prog 118 (fun c => L2 (f118 fast c 8192)) := ok2 (fun o c => f118 o c 8192) Tryz.func118 (by kernel_rfl) (fun c a0 a1 s => by kernel_rfl)

/- (entry.State).Next -/
def f119_1 (o : Ops) (kf : CallF) (N : Nat) (t24 a0 : T) (s3 : St) (t3 t19 t22 : T) : Option (JO × St) :=
 o.br t24 (bd (o.nil a0) fun t26 =>
 bd (o.fa 1 t26) fun t27 =>
 bd (o.ld t27 s3) fun t28 =>
 bd (o.fa 2 t3) fun t29 =>
 bd (o.ld t29 s3) fun t30 =>
 bd2 (mset .i t28 t30 (B true) s3) fun u4 s5 =>
 bd (o.nil a0) fun t33 =>
 bd (o.fa 0 t33) fun t34 =>
 bd (o.ld t34 s5) fun t35 =>
 bd (o.fa 2 t3) fun t37 =>
 bd (o.ld t37 s5) fun t38 =>
 bd (o.fa 3 t3) fun t39 =>
 bd (o.ld t39 s5) fun t40 =>
 bd (o.fa 4 t3) fun t41 =>
 bd (o.ld t41 s5) fun t42 =>
 bd (o.fa 5 t3) fun t43 =>
 bd (o.ld t43 s5) fun t44 =>
 bd (o.fa 6 t3) fun t45 =>
 bd (o.ld t45 s5) fun t46 =>
 bd (asAggT (aFill [.int .i64 0, .int .i64 0, .int .i64 0, .int .i64 0, .int .u32 0] [(0, 1, t38), (1, 1, t40), (2, 1, t42), (3, 1, t44), (4, 1, t46)])) fun t47 =>
 bd2 (o.new s5 (nSlice 1 (aFill [.int .i64 0, .int .i64 0, .int .i64 0, .int .i64 0, .int .u32 0] [(0, 5, t47)]))) fun t48 s6 =>
 bd2 (kf 205 [t35, t19, t48] s6) fun t49 s7 =>
 bd (o.nil a0) fun t50 =>
 bd (o.fa 0 t50) fun t51 =>
 bd2 (o.st 1 t51 t49 s7) fun u8 s9 =>
 nm [a0, t3] s9)
 (bd (o.eql t22 (I .i64 2)) fun t53 =>
 jn (o.br t53 (bd (o.nil a0) fun t56 =>
 bd (o.fa 0 t56) fun t57 =>
 bd (o.ld t57 s3) fun t58 =>
 bd (o.add t19 (I .i64 1)) fun t61 =>
 bd2 (kf 206 [t58, t19, t61] s3) fun t62 s10 =>
 bd (o.nil a0) fun t63 =>
 bd (o.fa 0 t63) fun t64 =>
 bd2 (o.st 1 t64 t62 s10) fun u11 s12 =>
 nm [a0, t3] s12)
 (bd (o.eql t22 (I .i64 3)) fun t66 =>
 jn (o.br t66 (bd (o.fa 1 t3) fun t68 =>
 bd (o.ld t68 s3) fun t69 =>
 bd (o.nil a0) fun t70 =>
 bd (o.fa 8 t70) fun t71 =>
 bd2 (o.st 1 t71 t69 s3) fun u13 s14 =>
 nm [a0, t3] s14)
 (bd (o.eql t22 (I .i64 4)) fun t73 =>
 jn (o.br t73 (bd (o.fa 7 t3) fun t76 =>
 bd (o.ld t76 s3) fun t77 =>
 bd2 (kf 195 [t77] s3) fun t78 s15 =>
 bd (o.ex t78 0) fun t79 =>
 bd (o.ex t78 1) fun t80 =>
 bd (o.ex t78 2) fun t81 =>
 bd (o.nil a0) fun t82 =>
 bd (o.fa 2 t82) fun t83 =>
 bd2 (o.st 6 t83 t79 s15) fun u16 s17 =>
 nm [a0, t3] s17)
 (nm [a0, t3] s3))
 (fun v18 s19 => o.vk v18 0 fun v18_0 =>
 o.vk v18 1 fun v18_1 =>
 nm [v18_0, v18_1] s19)
 (fun i20 v18 s19 => jE i20 v18 s19)
 (fun r21 s19 => jR r21 s19)))
 (fun v22 s23 => o.vk v22 0 fun v22_0 =>
 o.vk v22 1 fun v22_1 =>
 nm [v22_0, v22_1] s23)
 (fun i24 v22 s23 => jE i24 v22 s23)
 (fun r25 s23 => jR r25 s23)))
 (fun v26 s27 => o.vk v26 0 fun v26_0 =>
 o.vk v26 1 fun v26_1 =>
 nm [v26_0, v26_1] s27)
 (fun i28 v26 s27 => jE i28 v26 s27)
 (fun r29 s27 => jR r29 s27))
def f119 (o : Ops) (kf : CallF) (N : Nat) (a0 a1 : T) (s : St) : Option (T × St) :=
 bd2 (o.new s (nBox a1)) fun t3 s1 =>
 bd (o.ldn 8 t3 s1) fun t9 =>
 bd2 (kf 203 [a0, t9] s1) fun t10 s2 =>
 bd (o.neq t10 (I .i64 0)) fun t12 =>
 o.br t12 (jT t10 s2)
 (bd (o.fa 2 t3) fun t16 =>
 bd (o.ld t16 s2) fun t17 =>
 bd2 (kf 204 [a0, t17] s2) fun t18 s3 =>
 bd (o.ex t18 0) fun t19 =>
 bd (o.ex t18 1) fun t20 =>
 bd (o.fa 0 t3) fun t21 =>
 bd (o.ld t21 s3) fun t22 =>
 jn (bd (o.eql t22 (I .i64 1)) fun t24 =>
 jn (f119_1 o kf N t24 a0 s3 t3 t19 t22)
 (fun v30 s31 => o.vk v30 0 fun v30_0 =>
 o.vk v30 1 fun v30_1 =>
 nm [v30_0, v30_1] s31)
 (fun i32 v30 s31 => if i32 = 0 then nm v30 s31 else jE i32 v30 s31)
 (fun r33 s31 => jR r33 s31))
 (fun v34 s35 => o.vk v34 0 fun v34_0 =>
 o.vk v34 1 fun v34_1 =>
 bd (o.fa 1 v34_1) fun t85 =>
 bd (o.ld t85 s35) fun t86 =>
 bd (o.nil v34_0) fun t87 =>
 bd (o.fa 9 t87) fun t88 =>
 bd2 (o.st 1 t88 t86 s35) fun u38 s39 =>
 jT (I .i64 0) s39)
 (fun i36 v34 s35 => none)
 (fun r37 s35 => jT r37 s35))
theorem f119_ok : Ok Tryz.prog 119 (fun c => L2 (f119 fast c 8192)) := ok2 (fun o c => f119 o c 8192) Tryz.func119 (by kernel_rfl) (fun c a0 a1 s => by kernel_rfl)

/- (entry.State).Infos -/
def f128 (o : Ops) (kf : CallF) (N : Nat) (a0 : T) (s : St) : Option (T × St) :=
 bd (o.nil a0) fun t4 =>
 bd (o.fa 0 t4) fun t5 =>
 bd (o.ld t5 s) fun t6 =>
 bd2 (kf 209 [t6] s) fun t7 s1 =>
 jT t7 s1
theorem f128_ok : Ok Tryz.prog 128 (fun c => L1 (f128 fast c 8192)) := ok1 (fun o c => f128 o c 8192) Tryz.func128 (by kernel_rfl) (fun c a0 s => by kernel_rfl)

/- slices.ContainsFunc[[]api.Info,api.Info] -/
def f129 (o : Ops) (kf : CallF) (N : Nat) (a0 a1 : T) (s : St) : Option (T × St) :=
 bd2 (kf 210 [a0, a1] s) fun t7 s1 =>
 bd (o.geq t7 (I .i64 0)) fun t8 =>
 jT t8 s1
theorem f129_ok : Ok Tryz.prog 129 (fun c => L2 (f129 fast c 8192)) := ok2 (fun o c => f129 o c 8192) Tryz.func129 (by kernel_rfl) (fun c a0 a1 s => by kernel_rfl)

/- (store.Store).Seg$1 -/
def f130 (o : Ops) (kf : CallF) (N : Nat) (a0 a1 : T) (s : St) : Option (T × St) :=
 bd2 (o.new s (nBox a0)) fun t2 s1 =>
 bd (o.fa 0 t2) fun t4 =>
 bd (o.ld t4 s1) fun t5 =>
 bd (o.ld a1 s1) fun t6 =>
 bd (o.eql t5 t6) fun t7 =>
 jT t7 s1
theorem f130_ok : Ok Tryz.prog 130 (fun c => L2 (f130 fast c 8192)) := ok2 (fun o c => f130 o c 8192) Tryz.func130 (by kernel_rfl) (fun c a0 a1 s => by kernel_rfl)

/- segment.Name -/
def f131 (o : Ops) (kf : CallF) (N : Nat) (a0 : T) (s : St) : Option (T × St) :=
 bd (o.lss a0 (I .i64 1)) fun t4 =>
 o.br t4 (jT (Z (.str [])) s)
 (bd2 (kf 211 [a0] s) fun t6 s1 =>
 bd (o.add (Z (.str [115])) t6) fun t7 =>
 jT t7 s1)
theorem f131_ok : Ok Tryz.prog 131 (fun c => L1 (f131 fast c 8192)) := ok1 (fun o c => f131 o c 8192) Tryz.func131 (by kernel_rfl) (fun c a0 s => by kernel_rfl)

/- segment.Get -/
def f132_l1 (o : Ops) (kf : CallF) (N : Nat) (v : List T) (s : St) : Option (JO × St) :=
 o.vk v 0 fun v_0 =>
 o.vk v 1 fun v_1 =>
 o.vk v 2 fun v_2 =>
 o.vk v 3 fun v_3 =>
 o.vk v 4 fun v_4 =>
 o.vk v 5 fun v_5 =>
 bd (o.lss v_5 (I .i64 4)) fun t34 =>
 o.br t34 (jn (bd (aPieceSl 1 v_0 none (some v_2) none) fun t39 =>
 bd2 (kf 153 [t39, v_4] s) fun t41 s7 =>
 bd (o.ex t41 0) fun t42 =>
 bd (o.ex t41 1) fun t43 =>
 bd (o.ex t41 2) fun t44 =>
 bd (o.neq t44 (I .i64 0)) fun t46 =>
 bd (gF t46 (some t42)) fun t48 =>
 bd (gF t46 (o.gtr t48 (I .u64 1099511627776))) fun t49 =>
 bd (pT t46 t49) fun t50 =>
 o.br t50 (bd (asAggT (aFill [.int .i64 0, .int .i64 0, .int .i64 0, .int .i64 0, .nils, .nils] [])) fun t51 =>
 bd2 (o.st 6 v_1 t51 s7) fun u8 s9 =>
 bd (rC (o.ldn 6 v_1 s9) (rT (I .i64 2) (some []))) fun l10 =>
 bd (retT l10) fun r11 =>
 jR r11 s9)
 (bd (aIndexArr 4 1 v_3 v_5) fun t55 =>
 bd2 (o.st 1 t55 t42 s7) fun u12 s13 =>
 nm [v_0, v_1, v_2, v_3, t43, v_5] s13))
 (fun v14 s15 => o.vk v14 0 fun v14_0 =>
 o.vk v14 1 fun v14_1 =>
 o.vk v14 2 fun v14_2 =>
 o.vk v14 3 fun v14_3 =>
 o.vk v14 4 fun v14_4 =>
 o.vk v14 5 fun v14_5 =>
 bd (o.add v14_5 (I .i64 1)) fun t56 =>
 nm [v14_0, v14_1, v14_2, v14_3, v14_4, t56] s15)
 (fun i16 v14 s15 => jE i16 v14 s15)
 (fun r17 s15 => jR r17 s15))
 (jE 0 [v_0, v_1, v_2, v_3, v_4] s)
def f132_1 (o : Ops) (kf : CallF) (N : Nat) (v22_3 : T) (s23 : St) (t59 t62 t65 v22_0 v22_4 v22_2 v22_1 : T) : Option (T × St) :=
 bd (aIndexArr 4 1 v22_3 (I .i64 2)) fun t66 =>
 bd (o.ld t66 s23) fun t67 =>
 bd (aIndexArr 4 1 v22_3 (I .i64 3)) fun t68 =>
 bd (o.ld t68 s23) fun t69 =>
 bd (o.add t67 t69) fun t70 =>
 bd (o.cv .i64 t70) fun t71 =>
 bd (asAggT (aFill [.int .i64 0, .int .i64 0, .int .i64 0, .int .i64 0, .nils, .nils] [(0, 1, t59), (1, 1, t62), (2, 1, t65), (3, 1, t71)])) fun t72 =>
 bd2 (o.new s23 (nCells [.int .i64 0, .int .i64 0, .int .i64 0, .int .i64 0, .nils, .nils])) fun t11 s26 =>
 bd2 (o.st 6 t11 t72 s26) fun u27 s28 =>
 bd (o.fa 1 t11) fun t73 =>
 bd (o.ld t73 s28) fun t74 =>
 bd (o.eql t74 (I .i64 0)) fun t75 =>
 jn (o.br t75 (bd (aPieceSl 1 v22_0 (some v22_4) (some v22_2) none) fun t80 =>
 bd2 (kf 212 [t80] s28) fun t81 s29 =>
 bd (o.ex t81 0) fun t82 =>
 bd (o.ex t81 1) fun t83 =>
 bd (o.fa 4 t11) fun t84 =>
 bd2 (o.st 1 t84 t82 s29) fun u30 s31 =>
 nm [v22_0, v22_1, t11, t83] s31)
 (bd (aPieceSl 1 v22_0 (some v22_4) (some v22_2) none) fun t89 =>
 bd (o.fa 1 t11) fun t90 =>
 bd (o.ld t90 s28) fun t91 =>
 bd2 (kf 213 [t89, t91] s28) fun t92 s32 =>
 bd (o.ex t92 0) fun t93 =>
 bd (o.ex t92 1) fun t94 =>
 bd (o.fa 5 t11) fun t95 =>
 bd2 (o.st 1 t95 t93 s32) fun u33 s34 =>
 nm [v22_0, v22_1, t11, t94] s34))
 (fun v35 s36 => o.vk v35 0 fun v35_0 =>
 o.vk v35 1 fun v35_1 =>
 o.vk v35 2 fun v35_2 =>
 o.vk v35 3 fun v35_3 =>
 bd (o.ldn 6 v35_2 s36) fun t97 =>
 bd2 (kf 214 [t97] s36) fun t98 s39 =>
 bd (o.ex t98 0) fun t99 =>
 bd (o.ex t98 1) fun t100 =>
 bd (o.neq v35_3 (I .i64 0)) fun t102 =>
 bd (gF t102 (some t100)) fun t104 =>
 bd (gF t102 (o.neq t104 (I .i64 0))) fun t105 =>
 bd (pT t102 t105) fun t106 =>
 bd (gF t106 (some t99)) fun t108 =>
 bd (gF t106 (some v35_0)) fun t109 =>
 bd2 (gS (gd t106 false) s39 (kf 171 [t108, t109] s39)) fun t110 s40 =>
 bd (gF t106 (aUn .not t110)) fun t111 =>
 bd (pT t106 t111) fun t112 =>
 o.br t112 (bd (asAggT (aFill [.int .i64 0, .int .i64 0, .int .i64 0, .int .i64 0, .nils, .nils] [])) fun t113 =>
 bd2 (o.st 6 v35_1 t113 s40) fun u41 s42 =>
 bd (rC (o.ldn 6 v35_1 s42) (rT (I .i64 2) (some []))) fun l43 =>
 bd (retT l43) fun r44 =>
 jT r44 s42)
 (bd (o.ldn 6 v35_2 s40) fun t114 =>
 bd2 (o.st 6 v35_1 t114 s40) fun u45 s46 =>
 bd (rC (o.ldn 6 v35_1 s46) (rT (I .i64 0) (some []))) fun l47 =>
 bd (retT l47) fun r48 =>
 jT r48 s46))
 (fun i37 v35 s36 => none)
 (fun r38 s36 => jT r38 s36)
def f132 (o : Ops) (kf : CallF) (N : Nat) (a0 : T) (s : St) : Option (T × St) :=
 bd2 (o.new s (nCells [.int .i64 0, .int .i64 0, .int .i64 0, .int .i64 0, .nils, .nils])) fun t2 s1 =>
 bd (o.ln a0) fun t16 =>
 bd (o.sub t16 (I .i64 4)) fun t17 =>
 bd (o.lss t17 (I .i64 2)) fun t19 =>
 bd (gF t19 (some a0)) fun t21 =>
 bd (gF t19 (o.ix 1 t21 (I .i64 0))) fun t22 =>
 bd (gF t19 (o.ld t22 s1)) fun t23 =>
 bd (gF t19 (o.neq t23 (I .u8 84))) fun t24 =>
 bd (pT t19 t24) fun t25 =>
 bd (gF t25 (some a0)) fun t27 =>
 bd (gF t25 (o.ix 1 t27 (I .i64 1))) fun t28 =>
 bd (gF t25 (o.ld t28 s1)) fun t29 =>
 bd (gF t25 (o.neq t29 (I .u8 75))) fun t30 =>
 bd (pT t25 t30) fun t31 =>
 o.br t31 (bd (asAggT (aFill [.int .i64 0, .int .i64 0, .int .i64 0, .int .i64 0, .nils, .nils] [])) fun t32 =>
 bd2 (o.st 6 t2 t32 s1) fun u2 s3 =>
 bd (rC (o.ldn 6 t2 s3) (rT (I .i64 2) (some []))) fun l4 =>
 bd (retT l4) fun r5 =>
 jT r5 s3)
 (bd2 (o.new s1 (nCells [.int .u64 0, .int .u64 0, .int .u64 0, .int .u64 0])) fun t5 s6 =>
 jn (jn (o.loops (f132_l1 o kf N) N [a0, t2, t17, t5, (I .i64 2), (I .i64 0)] s6)
 (fun v18 s19 => nm [.any, .any, .any, .any, .any] s19)
 (fun i20 v18 s19 => if i20 = 0 then nm v18 s19 else jE i20 v18 s19)
 (fun r21 s19 => jR r21 s19))
 (fun v22 s23 => o.vk v22 0 fun v22_0 =>
 o.vk v22 1 fun v22_1 =>
 o.vk v22 2 fun v22_2 =>
 o.vk v22 3 fun v22_3 =>
 o.vk v22 4 fun v22_4 =>
 bd (aIndexArr 4 1 v22_3 (I .i64 0)) fun t57 =>
 bd (o.ld t57 s23) fun t58 =>
 bd (o.cv .i64 t58) fun t59 =>
 bd (aIndexArr 4 1 v22_3 (I .i64 1)) fun t60 =>
 bd (o.ld t60 s23) fun t61 =>
 bd (o.cv .i64 t61) fun t62 =>
 bd (aIndexArr 4 1 v22_3 (I .i64 2)) fun t63 =>
 bd (o.ld t63 s23) fun t64 =>
 bd (o.cv .i64 t64) fun t65 =>
 f132_1 o kf N v22_3 s23 t59 t62 t65 v22_0 v22_4 v22_2 v22_1)
 (fun i24 v22 s23 => none)
 (fun r25 s23 => jT r25 s23))
theorem f132_ok : Ok Tryz.prog 132 (fun c => L1 (f132 fast c 8192)) := ok1 (fun o c => f132 o c 8192) Tryz.func132 (by kernel_rfl) (fun c a0 s => by kernel_rfl)

/- tier.Width -/
def f135 (o : Ops) (kf : CallF) (N : Nat) (a0 : T) (s : St) : Option (T × St) :=
 bd (o.lss a0 (I .i64 0)) fun t4 =>
 bd (gF t4 (some a0)) fun t6 =>
 bd (gF t4 (o.geq t6 (I .i64 4))) fun t7 =>
 bd (pT t4 t7) fun t8 =>
 o.br t8 (jT (I .i64 0) s)
 (bd (asAggT (aFill [.int .i64 0, .int .i64 0, .int .i64 0, .int .i64 0] [(0, 1, (I .i64 1)), (1, 1, (I .i64 5)), (2, 1, (I .i64 60)), (3, 1, (I .i64 1440))])) fun t9 =>
 bd (aAtArr none 4 1 t9 a0) fun t11 =>
 jT t11 s)
theorem f135_ok : Ok Tryz.prog 135 (fun c => L1 (f135 fast c 8192)) := ok1 (fun o c => f135 o c 8192) Tryz.func135 (by kernel_rfl) (fun c a0 s => by kernel_rfl)

/- (disk.Disk).Append -/
def f142 (o : Ops) (kf : CallF) (N : Nat) (a0 a1 a2 : T) (s : St) : Option (T × St) :=
 bd2 (kf 80 [a0, a1] s) fun t12 s1 =>
 bd (o.ex t12 0) fun t13 =>
 bd (o.ex t12 1) fun t14 =>
 bd (o.neq t14 (I .i64 0)) fun t16 =>
 bd (gU t16 (some t14)) fun t18 =>
 bd (gU t16 (o.neq t18 (I .i64 9))) fun t19 =>
 bd (pF t16 t19) fun t20 =>
 o.br t20 (jT t14 s1)
 (bd (eqB .p t13 (Z .nilp)) fun t23 =>
 bd (gU t23 (some a0)) fun t25 =>
 bd (gU t23 (o.nil t25)) fun t26 =>
 bd (gU t23 (o.fa 1 t26)) fun t27 =>
 bd (gU t23 (o.ld t27 s1)) fun t28 =>
 bd (gU t23 (aLenMap t28 s1.get)) fun t29 =>
 bd (gU t23 (o.eql t29 (I .i64 200))) fun t30 =>
 bd (pF t23 t30) fun t31 =>
 bd (gF t31 (some a0)) fun t33 =>
 bd2 (gS (gd t31 false) s1 (kf 227 [t33] s1)) fun t34 s2 =>
 bd (gF t31 (some a2)) fun t35 =>
 bd (gF t31 (o.ln t35)) fun t36 =>
 bd (gF t31 (o.add t34 t36)) fun t37 =>
 bd (gF t31 (some a0)) fun t38 =>
 bd (gF t31 (o.nil t38)) fun t39 =>
 bd (gF t31 (o.fa 0 t39)) fun t40 =>
 bd (gF t31 (o.ld t40 s2)) fun t41 =>
 bd (gF t31 (o.gtr t37 t41)) fun t42 =>
 bd (pT t31 t42) fun t43 =>
 ck ((wq (gd t31 false) (decide (o.ld t40 s1 = o.ld t40 s2)) && true) && true) (o.br t43 (jT (I .i64 8) s2)
 (bd (eqB .p t13 (Z .nilp)) fun t45 =>
 jn (o.br t45 (bd (asAggT (aFill [.nils, .int .i64 0] [])) fun t46 =>
 bd2 (o.new s2 (nBox t46)) fun t47 s3 =>
 bd (o.nil a0) fun t49 =>
 bd (o.fa 1 t49) fun t50 =>
 bd (o.ld t50 s3) fun t51 =>
 bd2 (mset .s t51 a1 t47 s3) fun u4 s5 =>
 nm [a2, t47] s5)
 (nm [a2, t13] s2))
 (fun v6 s7 => o.vk v6 0 fun v6_0 =>
 o.vk v6 1 fun v6_1 =>
 bd (o.nil v6_1) fun t56 =>
 bd (o.fa 0 t56) fun t57 =>
 bd (o.ld t57 s7) fun t58 =>
 bd2 (aAppend 1 1 t58 v6_0 s7) fun t60 s10 =>
 bd (o.nil v6_1) fun t61 =>
 bd (o.fa 0 t61) fun t62 =>
 bd2 (o.st 1 t62 t60 s10) fun u11 s12 =>
 jT (I .i64 0) s12)
 (fun i8 v6 s7 => none)
 (fun r9 s7 => jT r9 s7))))
theorem f142_ok : Ok Tryz.prog 142 (fun c => L3 (f142 fast c 8192)) := ok3 (fun o c => f142 o c 8192) Tryz.func142 (by kernel_rfl) (fun c a0 a1 a2 s => by kernel_rfl)

/- (disk.Disk).Cut -/
def f143 (o : Ops) (kf : CallF) (N : Nat) (a0 a1 a2 : T) (s : St) : Option (T × St) :=
 bd2 (kf 80 [a0, a1] s) fun t12 s1 =>
 bd (o.ex t12 0) fun t13 =>
 bd (o.ex t12 1) fun t14 =>
 jn (bd (o.neq t14 (I .i64 0)) fun t17 =>
 o.br t17 (jR t14 s1)
 (bd (o.lss a2 (I .i64 0)) fun t21 =>
 bd (gF t21 (some a2)) fun t23 =>
 bd (gF t21 (some t13)) fun t24 =>
 bd (gF t21 (o.nil t24)) fun t25 =>
 bd (gF t21 (o.fa 0 t25)) fun t26 =>
 bd (gF t21 (o.ld t26 s1)) fun t27 =>
 bd (gF t21 (o.ln t27)) fun t28 =>
 bd (gF t21 (o.gtr t23 t28)) fun t29 =>
 bd (pT t21 t29) fun t30 =>
 o.br t30 (jR (I .i64 5) s1)
 (nm [a2, t13] s1)))
 (fun v2 s3 => o.vk v2 0 fun v2_0 =>
 o.vk v2 1 fun v2_1 =>
 bd (o.nil v2_1) fun t34 =>
 bd (o.fa 0 t34) fun t35 =>
 bd (o.ld t35 s3) fun t36 =>
 bd (aPieceSl 1 t36 none (some v2_0) none) fun t38 =>
 bd (o.nil v2_1) fun t40 =>
 bd (o.fa 1 t40) fun t41 =>
 bd (o.ld t41 s3) fun t42 =>
 bd (aFold aMin2 t42 [v2_0]) fun t44 =>
 bd (o.nil v2_1) fun t45 =>
 bd (o.fa 0 t45) fun t46 =>
 bd2 (o.st 1 t46 t38 s3) fun u6 s7 =>
 bd (o.nil v2_1) fun t47 =>
 bd (o.fa 1 t47) fun t48 =>
 bd2 (o.st 1 t48 t44 s7) fun u8 s9 =>
 jT (I .i64 0) s9)
 (fun i4 v2 s3 => none)
 (fun r5 s3 => jT r5 s3)
theorem f143_ok : Ok Tryz.prog 143 (fun c => L3 (f143 fast c 8192)) := ok3 (fun o c => f143 o c 8192) Tryz.func143 (by kernel_rfl) (fun c a0 a1 a2 s => by kernel_rfl)

/- (disk.Disk).Sync -/
def f144 (o : Ops) (kf : CallF) (N : Nat) (a0 a1 : T) (s : St) : Option (T × St) :=
 bd2 (kf 80 [a0, a1] s) fun t10 s1 =>
 bd (o.ex t10 0) fun t11 =>
 bd (o.ex t10 1) fun t12 =>
 bd (o.eql t12 (I .i64 0)) fun t14 =>
 jn (o.br t14 (bd (o.nil t11) fun t17 =>
 bd (o.fa 0 t17) fun t18 =>
 bd (o.ld t18 s1) fun t19 =>
 bd (o.ln t19) fun t20 =>
 bd (o.nil t11) fun t21 =>
 bd (o.fa 1 t21) fun t22 =>
 bd2 (o.st 1 t22 t20 s1) fun u2 s3 =>
 nm [t12] s3)
 (nm [t12] s1))
 (fun v4 s5 => o.vk v4 0 fun v4_0 =>
 jT v4_0 s5)
 (fun i6 v4 s5 => none)
 (fun r7 s5 => jT r7 s5)
theorem f144_ok : Ok Tryz.prog 144 (fun c => L2 (f144 fast c 8192)) := ok2 (fun o c => f144 o c 8192) Tryz.func144 (by kernel_rfl) (fun c a0 a1 s => by kernel_rfl)

/- store.Open -/
def f145_l1 (o : Ops) (kf : CallF) (N : Nat) (v : List T) (s : St) : Option (JO × St) :=
 o.vk v 0 fun v_0 =>
 o.vk v 1 fun v_1 =>
 o.vk v 2 fun v_2 =>
 o.vk v 3 fun v_3 =>
 o.vk v 4 fun v_4 =>
 bd (o.lss v_4 v_3) fun t34 =>
 o.br t34 (jn (bd (o.ix 8 v_2 v_4) fun t35 =>
 bd (o.ldn 8 t35 s) fun t36 =>
 bd2 (o.new s (nCells [.int .i64 0, .int .i64 0, .int .i64 0, .int .i64 0, .int .i64 0, .int .i64 0, .int .u32 0, .str []])) fun t10 s7 =>
 bd2 (o.st 8 t10 t36 s7) fun u8 s9 =>
 bd (o.ldn 8 t10 s9) fun t38 =>
 bd2 (kf 228 [v_1, t38] s9) fun t39 s10 =>
 bd (aUn .not t39) fun t40 =>
 o.br t40 (jE 0 [v_0, v_1] s10)
 (nm [v_0, v_1, v_2, v_3, v_4] s10))
 (fun v11 s12 => o.vk v11 0 fun v11_0 =>
 o.vk v11 1 fun v11_1 =>
 o.vk v11 2 fun v11_2 =>
 o.vk v11 3 fun v11_3 =>
 o.vk v11 4 fun v11_4 =>
 bd (o.add v11_4 (I .i64 1)) fun t41 =>
 nm [v11_0, v11_1, v11_2, v11_3, t41] s12)
 (fun i13 v11 s12 => jE i13 v11 s12)
 (fun r14 s12 => jR r14 s12))
 (jE 0 [v_0, v_1] s)
def f145_l2 (o : Ops) (kf : CallF) (N : Nat) (v : List T) (s : St) : Option (JO × St) :=
 o.vk v 0 fun v_0 =>
 o.vk v 1 fun v_1 =>
 o.vk v 2 fun v_2 =>
 o.vk v 3 fun v_3 =>
 o.vk v 4 fun v_4 =>
 o.vk v 5 fun v_5 =>
 bd (o.lss v_5 v_4) fun t73 =>
 o.br t73 (jn (bd (o.ix 1 v_3 v_5) fun t74 =>
 bd (o.ld t74 s) fun t75 =>
 bd2 (kf 232 [t75] s) fun t77 s32 =>
 bd2 (o.new s32 (nCells [.int .i64 0])) fun t14 s33 =>
 bd2 (o.st 1 t14 t77 s33) fun u34 s35 =>
 bd (o.ld t14 s35) fun t78 =>
 bd (o.eql t78 (I .i64 0)) fun t79 =>
 bd (gF t79 (some v_2)) fun t81 =>
 bd (gF t79 (aClo 233 [t14] [])) fun t82 =>
 bd2 (gS (gd t79 false) s35 (kf 129 [t81, t82] s35)) fun t83 s36 =>
 bd (pT t79 t83) fun t84 =>
 o.br t84 (nm [v_0, v_1, v_2, v_3, v_4, v_5] s36)
 (bd (o.ld v_0 s36) fun t85 =>
 bd2 (kf 146 [t85, t75] s36) fun t87 s37 =>
 nm [v_0, v_1, v_2, v_3, v_4, v_5] s37))
 (fun v38 s39 => o.vk v38 0 fun v38_0 =>
 o.vk v38 1 fun v38_1 =>
 o.vk v38 2 fun v38_2 =>
 o.vk v38 3 fun v38_3 =>
 o.vk v38 4 fun v38_4 =>
 o.vk v38 5 fun v38_5 =>
 bd (o.add v38_5 (I .i64 1)) fun t88 =>
 nm [v38_0, v38_1, v38_2, v38_3, v38_4, t88] s39)
 (fun i40 v38 s39 => jE i40 v38 s39)
 (fun r41 s39 => jR r41 s39))
 (jE 2 [v_1] s)
def f145_1 (o : Ops) (kf : CallF) (N : Nat) (t1 : T) (s1 : St) : Option (T × St) :=
 bd (o.ld t1 s1) fun t15 =>
 bd (eqB .p t15 (Z .nilp)) fun t16 =>
 o.br t16 (bd (retT [(Z .nilp), (I .i64 1)]) fun r2 =>
 jT r2 s1)
 (bd (o.ld t1 s1) fun t17 =>
 bd2 (kf 116 [] s1) fun t18 s3 =>
 bd (asAggT (aFill [.nilp, .nils, .nils, .nilp, .int .i64 0] [(0, 1, t17), (3, 1, t18)])) fun t19 =>
 bd2 (o.new s3 (nBox t19)) fun t20 s4 =>
 ck ((decide (aLoad1 t1 (overlay 2 s3.get (ovO 3 s3.size (nBox t19) [])) = o.ld t1 s1) && true) && true) (bd (o.ld t1 s4) fun t22 =>
 bd2 (kf 40 [t22, (Z (.str [108, 111, 103]))] s4) fun t23 s5 =>
 bd (o.ex t23 0) fun t24 =>
 bd (o.ex t23 1) fun t25 =>
 bd2 (kf 115 [t24] s5) fun t28 s6 =>
 bd (o.ex t28 0) fun t29 =>
 bd (o.ex t28 1) fun t30 =>
 bd (o.ln t29) fun t32 =>
 jn (jn (o.loops (f145_l1 o kf N) N [t1, t20, t29, t32, (I .i64 0)] s6)
 (fun v15 s16 => nm [.any, .any] s16)
 (fun i17 v15 s16 => if i17 = 0 then nm v15 s16 else jE i17 v15 s16)
 (fun r18 s16 => jR r18 s16))
 (fun v19 s20 => o.vk v19 0 fun v19_0 =>
 o.vk v19 1 fun v19_1 =>
 bd (o.ld v19_0 s20) fun t42 =>
 bd (o.nil v19_1) fun t45 =>
 bd (o.fa 1 t45) fun t46 =>
 bd (o.ld t46 s20) fun t47 =>
 bd (o.ln t47) fun t48 =>
 bd2 (kf 229 [v19_1, t48] s20) fun t49 s23 =>
 bd2 (kf 143 [t42, (Z (.str [108, 111, 103])), t49] s23) fun t50 s24 =>
 ck ((decide (o.ld v19_0 s23 = o.ld v19_0 s20) && true) && true) (bd (o.ld v19_0 s24) fun t51 =>
 bd2 (kf 144 [t51, (Z (.str [108, 111, 103]))] s24) fun t52 s25 =>
 bd (o.nil v19_1) fun t55 =>
 bd (o.fa 1 t55) fun t56 =>
 bd (o.ld t56 s25) fun t57 =>
 bd (o.ln t57) fun t58 =>
 bd (o.nil v19_1) fun t59 =>
 bd (o.fa 4 t59) fun t60 =>
 bd2 (o.st 1 t60 t58 s25) fun u26 s27 =>
 bd (o.nil v19_1) fun t62 =>
 bd (o.fa 3 t62) fun t63 =>
 bd (o.ld t63 s27) fun t64 =>
 bd2 (kf 128 [t64] s27) fun t65 s28 =>
 bd (aClo 230 [v19_0] []) fun t67 =>
 bd2 (kf 129 [t65, t67] s28) fun t68 s29 =>
 o.br t68 (bd (retT [(Z .nilp), (I .i64 2)]) fun r30 =>
 jT r30 s29)
 (bd (o.ld v19_0 s29) fun t69 =>
 bd2 (kf 189 [t69] s29) fun t70 s31 =>
 bd (o.ln t70) fun t71 =>
 jn (jn (o.loops (f145_l2 o kf N) N [v19_0, v19_1, t65, t70, t71, (I .i64 0)] s31)
 (fun v42 s43 => nm [.any] s43)
 (fun i44 v42 s43 => if i44 = 2 then nm v42 s43 else jE i44 v42 s43)
 (fun r45 s43 => jR r45 s43))
 (fun v46 s47 => o.vk v46 0 fun v46_0 =>
 bd (retT [v46_0, (I .i64 0)]) fun r50 =>
 jT r50 s47)
 (fun i48 v46 s47 => none)
 (fun r49 s47 => jT r49 s47))))
 (fun i21 v19 s20 => none)
 (fun r22 s20 => jT r22 s20)))
def f145 (o : Ops) (kf : CallF) (N : Nat) (a0 : T) (s : St) : Option (T × St) :=
 bd2 (o.new s (nBox a0)) fun t1 s1 =>
 f145_1 o kf N t1 s1
theorem f145_ok : Ok Tryz.prog 145 (fun c => L1 (f145 fast c 8192)) := ok1 (fun o c => f145 o c 8192) Tryz.func145 (by kernel_rfl) (fun c a0 s => by kernel_rfl)

/- (disk.Disk).Remove -/
def f146 (o : Ops) (kf : CallF) (N : Nat) (a0 a1 : T) (s : St) : Option (T × St) :=
 bd2 (kf 80 [a0, a1] s) fun t10 s1 =>
 bd (o.ex t10 0) fun t11 =>
 bd (o.ex t10 1) fun t12 =>
 bd (o.eql t12 (I .i64 0)) fun t14 =>
 jn (o.br t14 (bd (o.nil a0) fun t16 =>
 bd (o.fa 1 t16) fun t17 =>
 bd (o.ld t17 s1) fun t18 =>
 bd2 (mdel .s t18 a1 s1) fun u2 s3 =>
 nm [t12] s3)
 (nm [t12] s1))
 (fun v4 s5 => o.vk v4 0 fun v4_0 =>
 jT v4_0 s5)
 (fun i6 v4 s5 => none)
 (fun r7 s5 => jT r7 s5)
theorem f146_ok : Ok Tryz.prog 146 (fun c => L2 (f146 fast c 8192)) := ok2 (fun o c => f146 o c 8192) Tryz.func146 (by kernel_rfl) (fun c a0 a1 s => by kernel_rfl)

/- twin.grant -/
def f147 (o : Ops) (kf : CallF) (N : Nat) (a0 : T) (s : St) : Option (T × St) :=
 bd2 (kf 234 [a0, (Z (.str [118, 105, 101, 119]))] s) fun t8 s1 =>
 bd (o.ln t8) fun t10 =>
 bd (o.eql t10 (I .i64 0)) fun t11 =>
 o.br t11 (bd (retT [(I .i64 0), (I .i64 (-1)), (I .i64 0)]) fun r2 =>
 jT r2 s1)
 (bd (o.ix 1 t8 (I .i64 0)) fun t13 =>
 bd (o.ld t13 s1) fun t14 =>
 bd2 (kf 95 [t14] s1) fun t16 s3 =>
 bd2 (kf 95 [t14] s3) fun t18 s4 =>
 bd2 (kf 95 [t14] s4) fun t20 s5 =>
 bd (retT [t16, t18, t20]) fun r6 =>
 jT r6 s5)
theorem f147_ok : Ok Tryz.prog 147 (fun c => L1 (f147 fast c 8192)) := ok1 (fun o c => f147 o c 8192) Tryz.func147 (by kernel_rfl) (fun c a0 s => by kernel_rfl)

/- twin.tidy -/
def f148_l1_1 (o : Ops) (kf : CallF) (N : Nat) (t9 t21 : T) (s8 : St) (v_4 v_1 v_0 v_2 v_3 v_5 v_6 v_7 v_8 : T) : Option (JO × St) :=
 bd2 (o.st 3 t9 t21 s8) fun u9 s10 =>
 bd (o.fa 1 t9) fun t22 =>
 bd (o.fa 0 t22) fun t23 =>
 bd (o.ld t23 s10) fun t24 =>
 bd (o.fa 0 v_4) fun t25 =>
 bd (o.ld t25 s10) fun t26 =>
 bd (o.lss t24 t26) fun t27 =>
 o.br t27 (bd (o.fa 0 t9) fun t28 =>
 bd (o.ld t28 s10) fun t29 =>
 bd (o.fa 2 v_1) fun t30 =>
 bd (o.ld t30 s10) fun t31 =>
 bd (o.gtr t29 t31) fun t32 =>
 jn (o.br t32 (bd (o.fa 0 t9) fun t33 =>
 bd (o.ld t33 s10) fun t34 =>
 bd (o.ln v_0) fun t36 =>
 bd (o.fa 2 v_1) fun t37 =>
 bd2 (o.st 1 t37 t34 s10) fun u11 s12 =>
 bd (o.fa 3 v_1) fun t38 =>
 bd2 (o.st 1 t38 t36 s12) fun u13 s14 =>
 nm [v_0, v_1, v_2, v_3, v_4, v_5, v_6, v_7, v_8] s14)
 (nm [v_0, v_1, v_2, v_3, v_4, v_5, v_6, v_7, v_8] s10))
 (fun v15 s16 => o.vk v15 0 fun v15_0 =>
 o.vk v15 1 fun v15_1 =>
 o.vk v15 2 fun v15_2 =>
 o.vk v15 3 fun v15_3 =>
 o.vk v15 4 fun v15_4 =>
 o.vk v15 5 fun v15_5 =>
 o.vk v15 6 fun v15_6 =>
 o.vk v15 7 fun v15_7 =>
 o.vk v15 8 fun v15_8 =>
 nm [v15_0, v15_1, v15_2, v15_3, v15_4, v15_5, v15_6, v15_7, v15_8] s16)
 (fun i17 v15 s16 => if i17 = 1 then nm v15 s16 else jE i17 v15 s16)
 (fun r18 s16 => jR r18 s16))
 (bd (o.ldn 2 v_4 s10) fun t40 =>
 bd (o.fa 1 t9) fun t41 =>
 bd (o.ldn 2 t41 s10) fun t42 =>
 bd2 (kf 104 [t40, t42] s10) fun t43 s19 =>
 bd (o.ex t43 0) fun t44 =>
 bd (o.ex t43 1) fun t45 =>
 bd2 (o.new s19 (nCells [.int .i64 0, .nils])) fun t10 s20 =>
 bd2 (o.st 2 t10 t44 s20) fun u21 s22 =>
 bd (o.eql t45 (I .i64 0)) fun t47 =>
 jn (o.br t47 (bd (o.ldn 2 t10 s22) fun t48 =>
 bd (o.ldn 3 t9 s22) fun t50 =>
 bd2 (o.new s22 (nSlice 1 (aFill [.int .i64 0, .int .i64 0, .int .i64 0] [(0, 3, t50)]))) fun t51 s23 =>
 bd2 (aAppend 3 24 v_5 t51 s23) fun t52 s24 =>
 bd2 (o.st 2 v_4 t48 s24) fun u25 s26 =>
 ck ((decide (aLoadN 2 t10 (overlay 5 s24.get (ovO 3 s22.size (nSlice 1 (aFill [.int .i64 0, .int .i64 0, .int .i64 0] [(0, 3, t50)])) [])) = o.ldn 2 t10 s22) && true) && true) (nm [v_0, v_1, v_2, v_3, v_4, t52, v_6, v_7, v_8] s26))
 (nm [v_0, v_1, v_2, v_3, v_4, v_5, v_6, v_7, v_8] s22))
 (fun v27 s28 => o.vk v27 0 fun v27_0 =>
 o.vk v27 1 fun v27_1 =>
 o.vk v27 2 fun v27_2 =>
 o.vk v27 3 fun v27_3 =>
 o.vk v27 4 fun v27_4 =>
 o.vk v27 5 fun v27_5 =>
 o.vk v27 6 fun v27_6 =>
 o.vk v27 7 fun v27_7 =>
 o.vk v27 8 fun v27_8 =>
 nm [v27_0, v27_1, v27_2, v27_3, v27_4, v27_5, v27_6, v27_7, v27_8] s28)
 (fun i29 v27 s28 => if i29 = 1 then nm v27 s28 else jE i29 v27 s28)
 (fun r30 s28 => jR r30 s28))
def f148_l1 (o : Ops) (kf : CallF) (N : Nat) (v : List T) (s : St) : Option (JO × St) :=
 o.vk v 0 fun v_0 =>
 o.vk v 1 fun v_1 =>
 o.vk v 2 fun v_2 =>
 o.vk v 3 fun v_3 =>
 o.vk v 4 fun v_4 =>
 o.vk v 5 fun v_5 =>
 o.vk v 6 fun v_6 =>
 o.vk v 7 fun v_7 =>
 o.vk v 8 fun v_8 =>
 bd (o.lss v_8 v_7) fun t19 =>
 o.br t19 (jn (bd (o.ix 3 v_6 v_8) fun t20 =>
 bd (o.ldn 3 t20 s) fun t21 =>
 bd2 (o.new s (nCells [.int .i64 0, .int .i64 0, .int .i64 0])) fun t9 s8 =>
 f148_l1_1 o kf N t9 t21 s8 v_4 v_1 v_0 v_2 v_3 v_5 v_6 v_7 v_8)
 (fun v31 s32 => o.vk v31 0 fun v31_0 =>
 o.vk v31 1 fun v31_1 =>
 o.vk v31 2 fun v31_2 =>
 o.vk v31 3 fun v31_3 =>
 o.vk v31 4 fun v31_4 =>
 o.vk v31 5 fun v31_5 =>
 o.vk v31 6 fun v31_6 =>
 o.vk v31 7 fun v31_7 =>
 o.vk v31 8 fun v31_8 =>
 bd (o.add v31_8 (I .i64 1)) fun t53 =>
 nm [v31_0, v31_1, v31_2, v31_3, v31_4, v31_5, v31_6, v31_7, t53] s32)
 (fun i33 v31 s32 => jE i33 v31 s32)
 (fun r34 s32 => jR r34 s32))
 (jE 0 [v_1, v_2, v_3, v_4, v_5] s)
def f148 (o : Ops) (kf : CallF) (N : Nat) (a0 a1 : T) (s : St) : Option (T × St) :=
 bd2 (o.new s (nBox a0)) fun t2 s1 =>
 bd2 (o.new s1 (nCells [.int .i64 0, .int .i64 0, .int .i64 0, .int .i64 0, .nils])) fun t4 s2 =>
 bd2 (o.new s2 (nCells [.int .i64 0, .nils])) fun t5 s3 =>
 bd2 (kf 235 [a1] s3) fun t13 s4 =>
 bd (asAggT (aFill [.int .i64 0, .nils] [(0, 1, t13)])) fun t14 =>
 bd2 (o.new s4 (nCells [.int .i64 0, .nils])) fun t6 s5 =>
 bd2 (o.st 2 t6 t14 s5) fun u6 s7 =>
 bd (o.fa 4 t2) fun t15 =>
 bd (o.ld t15 s7) fun t16 =>
 bd (o.ln t16) fun t17 =>
 jn (jn (o.loops (f148_l1 o kf N) N [a1, t2, t4, t5, t6, (Z .nils), t16, t17, (I .i64 0)] s7)
 (fun v35 s36 => nm [.any, .any, .any, .any, .any] s36)
 (fun i37 v35 s36 => if i37 = 0 then nm v35 s36 else jE i37 v35 s36)
 (fun r38 s36 => jR r38 s36))
 (fun v39 s40 => o.vk v39 0 fun v39_0 =>
 o.vk v39 1 fun v39_1 =>
 o.vk v39 2 fun v39_2 =>
 o.vk v39 3 fun v39_3 =>
 o.vk v39 4 fun v39_4 =>
 bd (o.fa 4 v39_0) fun t55 =>
 bd2 (o.st 1 t55 v39_4 s40) fun u43 s44 =>
 bd (o.ldn 5 v39_0 s44) fun t56 =>
 bd (o.ldn 2 v39_3 s44) fun t57 =>
 bd2 (o.st 5 v39_1 t56 s44) fun u45 s46 =>
 bd2 (o.st 2 v39_2 t57 s46) fun u47 s48 =>
 ck ((decide (o.ldn 2 v39_3 s46 = o.ldn 2 v39_3 s44) && true) && true) (bd (rC (o.ldn 5 v39_1 s48) (rC (o.ldn 2 v39_2 s48) (some []))) fun l49 =>
 bd (retT l49) fun r50 =>
 jT r50 s48))
 (fun i41 v39 s40 => none)
 (fun r42 s40 => jT r42 s40)
theorem f148_ok : Ok Tryz.prog 148 (fun c => L2 (f148 fast c 8192)) := ok2 (fun o c => f148 o c 8192) Tryz.func148 (by kernel_rfl) (fun c a0 a1 s => by kernel_rfl)

/- twin.readJournal -/
def f149_l1_1 (o : Ops) (kf : CallF) (N : Nat) (t17 t13 : T) (s4 : St) (v_1 v_0 v_2 v_3 v_4 t15 : T) : Option (JO × St) :=
 o.br t17 (bd2 (kf 95 [t13] s4) fun t19 s5 =>
 bd2 (kf 95 [t13] s5) fun t21 s6 =>
 bd2 (kf 95 [t13] s6) fun t23 s7 =>
 bd2 (kf 95 [t13] s7) fun t25 s8 =>
 bd (asAggT (aFill [.int .i64 0, .int .i64 0, .int .i64 0, .int .i64 0, .nils] [(0, 1, t19), (1, 1, t21), (2, 1, t23), (3, 1, t25)])) fun t26 =>
 bd2 (o.st 5 v_1 t26 s8) fun u9 s10 =>
 nm [v_0, v_1, v_2, v_3, v_4] s10)
 (bd (o.eql t15 (I .i64 1)) fun t28 =>
 jn (o.br t28 (bd2 (kf 95 [t13] s4) fun t30 s11 =>
 bd2 (kf 95 [t13] s11) fun t32 s12 =>
 bd2 (kf 95 [t13] s12) fun t34 s13 =>
 bd (asAggT (aFill [.int .i64 0, .int .i64 0] [(0, 1, t32), (1, 1, t34)])) fun t35 =>
 bd (asAggT (aFill [.int .i64 0, .int .i64 0, .int .i64 0] [(0, 1, t30), (1, 2, t35)])) fun t36 =>
 bd2 (o.new s13 (nCells [.int .i64 0, .int .i64 0, .int .i64 0])) fun t6 s14 =>
 bd2 (o.st 3 t6 t36 s14) fun u15 s16 =>
 bd (o.fa 4 v_1) fun t37 =>
 bd (o.ld t37 s16) fun t38 =>
 bd (o.ldn 3 t6 s16) fun t39 =>
 bd2 (o.new s16 (nSlice 1 (aFill [.int .i64 0, .int .i64 0, .int .i64 0] [(0, 3, t39)]))) fun t40 s17 =>
 bd2 (aAppend 3 24 t38 t40 s17) fun t41 s18 =>
 bd (o.fa 1 v_1) fun t42 =>
 bd (o.ld t42 s18) fun t43 =>
 bd (o.fa 0 t6) fun t44 =>
 bd (o.ld t44 s18) fun t45 =>
 bd (aFold aMax2 t43 [t45]) fun t46 =>
 bd (o.fa 4 v_1) fun t47 =>
 bd2 (o.st 1 t47 t41 s18) fun u19 s20 =>
 bd (o.fa 1 v_1) fun t48 =>
 bd2 (o.st 1 t48 t46 s20) fun u21 s22 =>
 ck ((decide (aLoad1 t42 (overlay 0 s16.get (ovO 3 s16.size (nSlice 1 (aFill [.int .i64 0, .int .i64 0, .int .i64 0] [(0, 3, t39)])) [])) = o.ld t42 s18) && true) && ((decide (aLoad1 t44 (overlay 0 s16.get (ovO 3 s16.size (nSlice 1 (aFill [.int .i64 0, .int .i64 0, .int .i64 0] [(0, 3, t39)])) [])) = o.ld t44 s18) && (decide (aLoad1 t44 (overlay 12 s20.get (ovO 3 s16.size (nSlice 1 (aFill [.int .i64 0, .int .i64 0, .int .i64 0] [(0, 3, t39)])) [])) = o.ld t44 s18) && true)) && true)) (nm [v_0, v_1, v_2, v_3, v_4] s22))
 (bd (o.eql t15 (I .i64 2)) fun t50 =>
 jn (o.br t50 (bd (o.fa 1 v_1) fun t51 =>
 bd (o.ld t51 s4) fun t52 =>
 bd2 (kf 95 [t13] s4) fun t54 s23 =>
 bd (aFold aMax2 t52 [t54]) fun t55 =>
 bd (o.fa 1 v_1) fun t56 =>
 bd2 (o.st 1 t56 t55 s23) fun u24 s25 =>
 ck ((decide (o.ld t51 s23 = o.ld t51 s4) && true) && true) (nm [v_0, v_1, v_2, v_3, v_4] s25))
 (nm [v_0, v_1, v_2, v_3, v_4] s4))
 (fun v26 s27 => o.vk v26 0 fun v26_0 =>
 o.vk v26 1 fun v26_1 =>
 o.vk v26 2 fun v26_2 =>
 o.vk v26 3 fun v26_3 =>
 o.vk v26 4 fun v26_4 =>
 nm [v26_0, v26_1, v26_2, v26_3, v26_4] s27)
 (fun i28 v26 s27 => jE i28 v26 s27)
 (fun r29 s27 => jR r29 s27)))
 (fun v30 s31 => o.vk v30 0 fun v30_0 =>
 o.vk v30 1 fun v30_1 =>
 o.vk v30 2 fun v30_2 =>
 o.vk v30 3 fun v30_3 =>
 o.vk v30 4 fun v30_4 =>
 nm [v30_0, v30_1, v30_2, v30_3, v30_4] s31)
 (fun i32 v30 s31 => jE i32 v30 s31)
 (fun r33 s31 => jR r33 s31))
def f149_l1 (o : Ops) (kf : CallF) (N : Nat) (v : List T) (s : St) : Option (JO × St) :=
 o.vk v 0 fun v_0 =>
 o.vk v 1 fun v_1 =>
 o.vk v 2 fun v_2 =>
 o.vk v 3 fun v_3 =>
 o.vk v 4 fun v_4 =>
 bd (o.lss v_4 v_3) fun t11 =>
 o.br t11 (jn (bd (o.ix 1 v_2 v_4) fun t12 =>
 bd (o.ld t12 s) fun t13 =>
 bd2 (kf 95 [t13] s) fun t15 s4 =>
 jn (bd (o.eql t15 (I .i64 0)) fun t17 =>
 jn (f149_l1_1 o kf N t17 t13 s4 v_1 v_0 v_2 v_3 v_4 t15)
 (fun v34 s35 => o.vk v34 0 fun v34_0 =>
 o.vk v34 1 fun v34_1 =>
 o.vk v34 2 fun v34_2 =>
 o.vk v34 3 fun v34_3 =>
 o.vk v34 4 fun v34_4 =>
 nm [v34_0, v34_1, v34_2, v34_3, v34_4] s35)
 (fun i36 v34 s35 => if i36 = 2 then nm v34 s35 else jE i36 v34 s35)
 (fun r37 s35 => jR r37 s35))
 (fun v38 s39 => o.vk v38 0 fun v38_0 =>
 o.vk v38 1 fun v38_1 =>
 o.vk v38 2 fun v38_2 =>
 o.vk v38 3 fun v38_3 =>
 o.vk v38 4 fun v38_4 =>
 nm [v38_0, v38_1, v38_2, v38_3, v38_4] s39)
 (fun i40 v38 s39 => if i40 = 1 then nm v38 s39 else jE i40 v38 s39)
 (fun r41 s39 => jR r41 s39))
 (fun v42 s43 => o.vk v42 0 fun v42_0 =>
 o.vk v42 1 fun v42_1 =>
 o.vk v42 2 fun v42_2 =>
 o.vk v42 3 fun v42_3 =>
 o.vk v42 4 fun v42_4 =>
 bd (o.add v42_4 (I .i64 1)) fun t57 =>
 nm [v42_0, v42_1, v42_2, v42_3, t57] s43)
 (fun i44 v42 s43 => jE i44 v42 s43)
 (fun r45 s43 => jR r45 s43))
 (jE 0 [v_0, v_1] s)
def f149 (o : Ops) (kf : CallF) (N : Nat) (a0 : T) (s : St) : Option (T × St) :=
 bd2 (o.new s (nCells [.int .i64 0, .int .i64 0, .int .i64 0, .int .i64 0, .nils])) fun t2 s1 =>
 bd2 (o.new s1 (nCells [.int .i64 0, .int .i64 0, .int .i64 0, .int .i64 0, .nils])) fun t3 s2 =>
 bd2 (kf 234 [a0, (Z (.str [104, 101, 97, 100]))] s2) fun t8 s3 =>
 bd (o.ln t8) fun t9 =>
 jn (jn (o.loops (f149_l1 o kf N) N [t2, t3, t8, t9, (I .i64 0)] s3)
 (fun v46 s47 => nm [.any, .any] s47)
 (fun i48 v46 s47 => if i48 = 0 then nm v46 s47 else jE i48 v46 s47)
 (fun r49 s47 => jR r49 s47))
 (fun v50 s51 => o.vk v50 0 fun v50_0 =>
 o.vk v50 1 fun v50_1 =>
 bd (o.ldn 5 v50_1 s51) fun t58 =>
 bd2 (o.st 5 v50_0 t58 s51) fun u54 s55 =>
 bd (rC (o.ldn 5 v50_0 s55) (some [])) fun l56 =>
 bd (retT l56) fun r57 =>
 jT r57 s55)
 (fun i52 v50 s51 => none)
 (fun r53 s51 => jT r53 s51)
theorem f149_ok : Ok Tryz.prog 149 (fun c => L1 (f149 fast c 8192)) := ok1 (fun o c => f149 o c 8192) Tryz.func149 (by kernel_rfl) (fun c a0 s => by kernel_rfl)

/- mark.New -/
def f150 (o : Ops) (kf : CallF) (N : Nat) (a0 a1 : T) (s : St) : Option (T × St) :=
 bd (o.lss a0 (I .i64 0)) fun t6 =>
 bd (gF t6 (some a0)) fun t8 =>
 bd (gF t6 (o.gtr t8 (I .i64 1073741824))) fun t9 =>
 bd (pT t6 t9) fun t10 =>
 bd (gF t10 (some a1)) fun t12 =>
 bd2 (gS (gd t10 false) s (kf 236 [t12] s)) fun t13 s1 =>
 bd (gF t10 (aUn .not t13)) fun t14 =>
 bd (pT t10 t14) fun t15 =>
 o.br t15 (jT (Z .nilp) s1)
 (bd (asAggT (aFill [.int .i64 0, .int .i64 0, .int .i64 0, .int .i64 0] [(0, 1, a0), (1, 1, a1)])) fun t18 =>
 bd2 (o.new s1 (nBox t18)) fun t19 s2 =>
 jT t19 s2)
theorem f150_ok : Ok Tryz.prog 150 (fun c => L2 (f150 fast c 8192)) := ok2 (fun o c => f150 o c 8192) Tryz.func150 (by kernel_rfl) (fun c a0 a1 s => by kernel_rfl)

/- (store.Store).Sure -/
def f151 (o : Ops) (kf : CallF) (N : Nat) (a0 : T) (s : St) : Option (T × St) :=
 bd (eqB .p a0 (Z .nilp)) fun t4 =>
 o.br t4 (jT (I .i64 0) s)
 (bd (o.nil a0) fun t6 =>
 bd (o.fa 4 t6) fun t7 =>
 bd (o.ld t7 s) fun t8 =>
 jT t8 s)
theorem f151_ok : Ok Tryz.prog 151 (fun c => L1 (f151 fast c 8192)) := ok1 (fun o c => f151 o c 8192) Tryz.func151 (by kernel_rfl) (fun c a0 s => by kernel_rfl)

/- disk.named -/
def f152 (o : Ops) (kf : CallF) (N : Nat) (a0 : T) (s : St) : Option (T × St) :=
 bd (aLenStr a0) fun t4 =>
 bd (o.geq t4 (I .i64 1)) fun t5 =>
 bd (gU t5 (some a0)) fun t7 =>
 bd (gU t5 (aLenStr t7)) fun t8 =>
 bd (gU t5 (o.leq t8 (I .i64 20))) fun t9 =>
 bd (pF t5 t9) fun t10 =>
 bd (gU t10 (some a0)) fun t12 =>
 bd2 (gS (gd t10 true) s (kf 237 [t12, (Z (.str [97, 98, 99, 100, 101, 102, 103, 104, 105, 106, 107, 108, 109, 110, 111, 112, 113, 114, 115, 116, 117, 118, 119, 120, 121, 122, 48, 49, 50, 51, 52, 53, 54, 55, 56, 57, 46]))] s)) fun t13 s1 =>
 bd (gU t10 (o.eql t13 (Z (.str [])))) fun t14 =>
 bd (pF t10 t14) fun t15 =>
 jT t15 s1
theorem f152_ok : Ok Tryz.prog 152 (fun c => L1 (f152 fast c 8192)) := ok1 (fun o c => f152 o c 8192) Tryz.func152 (by kernel_rfl) (fun c a0 s => by kernel_rfl)

abbrev t152 : CallF → List T → St → Res := fun c => L1 (f152 fast c 8192)

/- vary.Get -/
def f153_l1 (o : Ops) (kf : CallF) (N : Nat) (v : List T) (s : St) : Option (JO × St) :=
 o.vk v 0 fun v_0 =>
 o.vk v 1 fun v_1 =>
 o.vk v 2 fun v_2 =>
 o.vk v 3 fun v_3 =>
 bd (o.lss v_3 (I .i64 10)) fun t20 =>
 o.br t20 (jn (bd (o.add v_1 v_3) fun t24 =>
 bd (o.ln v_0) fun t26 =>
 bd (o.geq t24 t26) fun t27 =>
 o.br t27 (jE 0 [v_1] s)
 (bd (o.add v_1 v_3) fun t31 =>
 bd (o.ix 1 v_0 t31) fun t32 =>
 bd (o.ld t32 s) fun t33 =>
 bd (o.eql v_3 (I .i64 9)) fun t35 =>
 bd (gU t35 (some t33)) fun t37 =>
 bd (gU t35 (o.gtr t37 (I .u8 1))) fun t38 =>
 bd (pF t35 t38) fun t39 =>
 o.br t39 (jE 0 [v_1] s)
 (bd (o.bin .and t33 (I .u8 127)) fun t42 =>
 bd (o.cv .u64 t42) fun t43 =>
 bd (o.bin .mul (I .i64 7) v_3) fun t45 =>
 bd (o.cv .u64 t45) fun t46 =>
 bd (o.bin .shl t43 t46) fun t47 =>
 bd (o.bin .or v_2 t47) fun t48 =>
 jn (bd (o.geq t33 (I .u8 128)) fun t51 =>
 o.br t51 (jE 1 [v_0, v_1, t48, v_3] s)
 (bd (o.gtr v_3 (I .i64 0)) fun t54 =>
 bd (gU t54 (some t33)) fun t56 =>
 bd (gU t54 (o.eql t56 (I .u8 0))) fun t57 =>
 bd (pF t54 t57) fun t58 =>
 o.br t58 (jE 0 [v_1] s)
 (nm [v_1, t48, v_3] s)))
 (fun v2 s3 => o.vk v2 0 fun v2_0 =>
 o.vk v2 1 fun v2_1 =>
 o.vk v2 2 fun v2_2 =>
 bd (o.add v2_0 v2_2) fun t62 =>
 bd (o.add t62 (I .i64 1)) fun t63 =>
 bd (retT [v2_1, t63, (I .i64 0)]) fun r6 =>
 jR r6 s3)
 (fun i4 v2 s3 => if i4 = 1 then nm v2 s3 else jE i4 v2 s3)
 (fun r5 s3 => jR r5 s3))))
 (fun v7 s8 => o.vk v7 0 fun v7_0 =>
 o.vk v7 1 fun v7_1 =>
 o.vk v7 2 fun v7_2 =>
 o.vk v7 3 fun v7_3 =>
 bd (o.add v7_3 (I .i64 1)) fun t64 =>
 nm [v7_0, v7_1, v7_2, t64] s8)
 (fun i9 v7 s8 => jE i9 v7 s8)
 (fun r10 s8 => jR r10 s8))
 (jE 0 [v_1] s)
def f153 (o : Ops) (kf : CallF) (N : Nat) (a0 a1 : T) (s : St) : Option (T × St) :=
 bd (o.lss a1 (I .i64 0)) fun t11 =>
 bd (gF t11 (some a1)) fun t13 =>
 bd (gF t11 (some a0)) fun t14 =>
 bd (gF t11 (o.ln t14)) fun t15 =>
 bd (gF t11 (o.gtr t13 t15)) fun t16 =>
 bd (pT t11 t16) fun t17 =>
 o.br t17 (bd (retT [(I .u64 0), a1, (I .i64 1)]) fun r1 =>
 jT r1 s)
 (jn (jn (o.loops (f153_l1 o kf N) N [a0, a1, (I .u64 0), (I .i64 0)] s)
 (fun v11 s12 => nm [.any] s12)
 (fun i13 v11 s12 => if i13 = 0 then nm v11 s12 else jE i13 v11 s12)
 (fun r14 s12 => jR r14 s12))
 (fun v15 s16 => o.vk v15 0 fun v15_0 =>
 bd (retT [(I .u64 0), v15_0, (I .i64 2)]) fun r19 =>
 jT r19 s16)
 (fun i17 v15 s16 => none)
 (fun r18 s16 => jT r18 s16))
theorem f153_ok : Ok Tryz.prog 153 (fun c => L2 (f153 fast c 8192)) := ok2 (fun o c => f153 o c 8192) Tryz.func153 (by kernel_rfl) (fun c a0 a1 s => by kernel_rfl)

/- view.Put -/
def f154 (o : Ops) (kf : CallF) (N : Nat) (a0 : T) (s : St) : Option (T × St) :=
 bd2 (o.new s (nBox a0)) fun t1 s1 =>
 bd (o.fa 0 t1) fun t6 =>
 bd (o.ld t6 s1) fun t7 =>
 bd (o.lss t7 (I .i64 1)) fun t8 =>
 bd (gF t8 (o.fa 0 t1)) fun t10 =>
 bd (gF t8 (o.ld t10 s1)) fun t11 =>
 bd (gF t8 (o.gtr t11 (I .i64 1073741824))) fun t12 =>
 bd (pT t8 t12) fun t13 =>
 bd (gF t13 (o.fa 1 t1)) fun t15 =>
 bd (gF t13 (o.ld t15 s1)) fun t16 =>
 bd (gF t13 (o.lss t16 (I .i64 0))) fun t17 =>
 bd (pT t13 t17) fun t18 =>
 bd (gF t18 (o.fa 1 t1)) fun t20 =>
 bd (gF t18 (o.ld t20 s1)) fun t21 =>
 bd (gF t18 (o.geq t21 (I .i64 2))) fun t22 =>
 bd (pT t18 t22) fun t23 =>
 o.br t23 (bd (retT [(Z .nils), (I .i64 1)]) fun r2 =>
 jT r2 s1)
 (bd (o.fa 0 t1) fun t24 =>
 bd (o.ld t24 s1) fun t25 =>
 bd (o.cv .u64 t25) fun t26 =>
 bd2 (kf 238 [t26] s1) fun t27 s3 =>
 bd (o.fa 1 t1) fun t28 =>
 bd (o.ld t28 s3) fun t29 =>
 bd (o.cv .u64 t29) fun t30 =>
 bd2 (kf 238 [t30] s3) fun t31 s4 =>
 bd2 (aAppend 1 1 t27 t31 s4) fun t32 s5 =>
 ck ((decide (o.ld t28 s1 = o.ld t28 s3) && true) && true) (bd2 (kf 239 [t32] s5) fun t34 s6 =>
 bd (o.cv .u8 t34) fun t37 =>
 bd (o.bin .shr t34 (I .u64 8)) fun t39 =>
 bd (o.cv .u8 t39) fun t40 =>
 bd (o.bin .shr t34 (I .u64 16)) fun t42 =>
 bd (o.cv .u8 t42) fun t43 =>
 bd (o.bin .shr t34 (I .u64 24)) fun t45 =>
 bd (o.cv .u8 t45) fun t46 =>
 bd2 (o.new s6 (nSlice 4 (aFill [.int .u8 0, .int .u8 0, .int .u8 0, .int .u8 0] [(0, 1, t37), (1, 1, t40), (2, 1, t43), (3, 1, t46)]))) fun t47 s7 =>
 bd2 (aAppend 1 1 t32 t47 s7) fun t48 s8 =>
 bd (retT [t48, (I .i64 0)]) fun r9 =>
 jT r9 s8))
theorem f154_ok : Ok Tryz.prog 154 (fun c => L1 (f154 fast c 8192)) := ok1 (fun o c => f154 o c 8192) Tryz.func154 (by kernel_rfl) (fun c a0 s => by kernel_rfl)

/- slices.Equal[[]byte,byte] -/
def f155_l1 (o : Ops) (kf : CallF) (N : Nat) (v : List T) (s : St) : Option (JO × St) :=
 o.vk v 0 fun v_0 =>
 o.vk v 1 fun v_1 =>
 o.vk v 2 fun v_2 =>
 o.vk v 3 fun v_3 =>
 bd (o.lss v_3 v_2) fun t14 =>
 o.br t14 (jn (bd (o.ix 1 v_0 v_3) fun t18 =>
 bd (o.ld t18 s) fun t19 =>
 bd (o.ix 1 v_1 v_3) fun t22 =>
 bd (o.ld t22 s) fun t23 =>
 bd (o.neq t19 t23) fun t24 =>
 o.br t24 (jR (B false) s)
 (nm [v_0, v_1, v_2, v_3] s))
 (fun v1 s2 => o.vk v1 0 fun v1_0 =>
 o.vk v1 1 fun v1_1 =>
 o.vk v1 2 fun v1_2 =>
 o.vk v1 3 fun v1_3 =>
 bd (o.add v1_3 (I .i64 1)) fun t25 =>
 nm [v1_0, v1_1, v1_2, t25] s2)
 (fun i3 v1 s2 => jE i3 v1 s2)
 (fun r4 s2 => jR r4 s2))
 (jE 0 [] s)
def f155 (o : Ops) (kf : CallF) (N : Nat) (a0 a1 : T) (s : St) : Option (T × St) :=
 bd (o.ln a0) fun t7 =>
 bd (o.ln a1) fun t9 =>
 bd (o.neq t7 t9) fun t10 =>
 o.br t10 (jT (B false) s)
 (bd (o.ln a0) fun t12 =>
 jn (jn (o.loops (f155_l1 o kf N) N [a0, a1, t12, (I .i64 0)] s)
 (fun v5 s6 => nm [] s6)
 (fun i7 v5 s6 => if i7 = 0 then nm v5 s6 else jE i7 v5 s6)
 (fun r8 s6 => jR r8 s6))
 (fun v9 s10 => jT (B true) s10)
 (fun i11 v9 s10 => none)
 (fun r12 s10 => jT r12 s10))
theorem f155_ok : Ok Tryz.prog 155 (fun c => L2 (f155 fast c 8192)) := ok2 (fun o c => f155 o c 8192) Tryz.func155 (by kernel_rfl) (fun c a0 a1 s => by kernel_rfl)

/- (air.Air).Flying$1 -/
def f156 (o : Ops) (kf : CallF) (N : Nat) (a0 a1 : T) (s : St) : Option (T × St) :=
 bd (o.ld a1 s) fun t4 =>
 bd2 (o.new s (nSlice 1 (aFill [.int .i64 0] [(0, 1, a0)]))) fun t6 s1 =>
 bd2 (aAppend 1 8 t4 t6 s1) fun t7 s2 =>
 bd2 (o.st 1 a1 t7 s2) fun u3 s4 =>
 jT (B true) s4
theorem f156_ok : Ok Tryz.prog 156 (fun c => L2 (f156 fast c 8192)) := ok2 (fun o c => f156 o c 8192) Tryz.func156 (by kernel_rfl) (fun c a0 a1 s => by kernel_rfl)

/- view.nobody -/
def f157 (o : Ops) (kf : CallF) (N : Nat) (s : St) : Option (T × St) :=
 bd2 (o.new s (nCells [.int .i64 0, .int .i64 0])) fun t0 s1 =>
 bd (asAggT (aFill [.int .i64 0, .int .i64 0] [(1, 1, (I .i64 (-1)))])) fun t1 =>
 bd2 (o.st 2 t0 t1 s1) fun u2 s3 =>
 bd (rC (o.ldn 2 t0 s3) (some [])) fun l4 =>
 bd (retT l4) fun r5 =>
 jT r5 s3
theorem f157_ok : Ok Tryz.prog 157 (fun c => L0 (f157 fast c 8192)) := ok0 (fun o c => f157 o c 8192) Tryz.func157 (by kernel_rfl) (fun c s => by kernel_rfl)

/- order.Roll$1 -/
def f158 (o : Ops) (kf : CallF) (N : Nat) (a0 a1 : T) (s : St) : Option (T × St) :=
 bd2 (o.new s (nBox a0)) fun t2 s1 =>
 bd (o.fa 1 t2) fun t4 =>
 bd (o.ld t4 s1) fun t5 =>
 bd (o.fa 1 a1) fun t6 =>
 bd (o.ld t6 s1) fun t7 =>
 bd (o.add t7 (I .i64 1)) fun t8 =>
 bd (o.eql t5 t8) fun t9 =>
 bd (gU t9 (o.fa 2 t2)) fun t11 =>
 bd (gU t9 (o.ld t11 s1)) fun t12 =>
 bd (gU t9 (o.fa 2 a1)) fun t13 =>
 bd (gU t9 (o.ld t13 s1)) fun t14 =>
 bd (gU t9 (o.eql t12 t14)) fun t15 =>
 bd (pF t9 t15) fun t16 =>
 bd (gU t16 (o.fa 3 t2)) fun t18 =>
 bd (gU t16 (o.ld t18 s1)) fun t19 =>
 bd (gU t16 (o.fa 3 a1)) fun t20 =>
 bd (gU t16 (o.ld t20 s1)) fun t21 =>
 bd (gU t16 (o.eql t19 t21)) fun t22 =>
 bd (pF t16 t22) fun t23 =>
 jT t23 s1
theorem f158_ok : Ok Tryz.prog 158 (fun c => L2 (f158 fast c 8192)) := ok2 (fun o c => f158 o c 8192) Tryz.func158 (by kernel_rfl) (fun c a0 a1 s => by kernel_rfl)

/- cmp.Or[int] -/
def f159_l1 (o : Ops) (kf : CallF) (N : Nat) (v : List T) (s : St) : Option (JO × St) :=
 o.vk v 0 fun v_0 =>
 o.vk v 1 fun v_1 =>
 o.vk v 2 fun v_2 =>
 o.vk v 3 fun v_3 =>
 bd (o.lss v_3 v_2) fun t9 =>
 o.br t9 (jn (bd (o.ix 1 v_1 v_3) fun t10 =>
 bd (o.ld t10 s) fun t11 =>
 bd (o.neq t11 v_0) fun t14 =>
 o.br t14 (jR t11 s)
 (nm [v_0, v_1, v_2, v_3] s))
 (fun v1 s2 => o.vk v1 0 fun v1_0 =>
 o.vk v1 1 fun v1_1 =>
 o.vk v1 2 fun v1_2 =>
 o.vk v1 3 fun v1_3 =>
 bd (o.add v1_3 (I .i64 1)) fun t16 =>
 nm [v1_0, v1_1, v1_2, t16] s2)
 (fun i3 v1 s2 => jE i3 v1 s2)
 (fun r4 s2 => jR r4 s2))
 (jE 0 [v_0] s)
def f159 (o : Ops) (kf : CallF) (N : Nat) (a0 : T) (s : St) : Option (T × St) :=
 bd (o.ln a0) fun t7 =>
 jn (jn (o.loops (f159_l1 o kf N) N [(I .i64 0), a0, t7, (I .i64 0)] s)
 (fun v5 s6 => nm [.any] s6)
 (fun i7 v5 s6 => if i7 = 0 then nm v5 s6 else jE i7 v5 s6)
 (fun r8 s6 => jR r8 s6))
 (fun v9 s10 => o.vk v9 0 fun v9_0 =>
 jT v9_0 s10)
 (fun i11 v9 s10 => none)
 (fun r12 s10 => jT r12 s10)
theorem f159_ok : Ok Tryz.prog 159 (fun c => L1 (f159 fast c 8192)) := ok1 (fun o c => f159 o c 8192) Tryz.func159 (by kernel_rfl) (fun c a0 s => by kernel_rfl)

/- cmp.Compare[int] -/
def f160 (o : Ops) (kf : CallF) (N : Nat) (a0 a1 : T) (s : St) : Option (T × St) :=
 bd2 (kf 240 [a0] s) fun t8 s1 =>
 bd2 (kf 240 [a1] s1) fun t10 s2 =>
 o.br t8 (o.br t10 (jT (I .i64 0) s2)
 (jT (I .i64 (-1)) s2))
 (o.br t10 (jT (I .i64 1) s2)
 (bd (o.lss a0 a1) fun t16 =>
 o.br t16 (jT (I .i64 (-1)) s2)
 (bd (o.gtr a0 a1) fun t19 =>
 o.br t19 (jT (I .i64 1) s2)
 (jT (I .i64 0) s2))))
theorem f160_ok : Ok Tryz.prog 160 (fun c => L2 (f160 fast c 8192)) := ok2 (fun o c => f160 o c 8192) Tryz.func160 (by kernel_rfl) (fun c a0 a1 s => by kernel_rfl)

/- cmp.Compare[int64] -/
def f161 (o : Ops) (kf : CallF) (N : Nat) (a0 a1 : T) (s : St) : Option (T × St) :=
 bd2 (kf 241 [a0] s) fun t8 s1 =>
 bd2 (kf 241 [a1] s1) fun t10 s2 =>
 o.br t8 (o.br t10 (jT (I .i64 0) s2)
 (jT (I .i64 (-1)) s2))
 (o.br t10 (jT (I .i64 1) s2)
 (bd (o.lss a0 a1) fun t16 =>
 o.br t16 (jT (I .i64 (-1)) s2)
 (bd (o.gtr a0 a1) fun t19 =>
 o.br t19 (jT (I .i64 1) s2)
 (jT (I .i64 0) s2))))
theorem f161_ok : Ok Tryz.prog 161 (fun c => L2 (f161 fast c 8192)) := ok2 (fun o c => f161 o c 8192) Tryz.func161 (by kernel_rfl) (fun c a0 a1 s => by kernel_rfl)

/- gate.May -/
def f162 (o : Ops) (kf : CallF) (N : Nat) (a0 a1 a2 a3 a4 : T) (s : St) : Option (T × St) :=
 bd2 (o.new s (nBox a0)) fun t5 s1 =>
 bd2 (o.new s1 (nBox a1)) fun t6 s2 =>
 bd (o.ldn 5 t5 s2) fun t11 =>
 bd (o.ldn 6 t6 s2) fun t12 =>
 bd2 (kf 242 [t11, t12, a2] s2) fun t14 s3 =>
 bd (gU t14 (some a3)) fun t16 =>
 bd (gU t14 (o.ldn 5 t5 s3)) fun t17 =>
 bd2 (gS (gd t14 true) s3 (kf 243 [t16, t17] s3)) fun t18 s4 =>
 bd (pF t14 t18) fun t19 =>
 bd (gU t19 (some a4)) fun t21 =>
 bd (gU t19 (o.ldn 5 t5 s4)) fun t22 =>
 bd2 (gS (gd t19 true) s4 (kf 243 [t21, t22] s4)) fun t23 s5 =>
 bd (pF t19 t23) fun t24 =>
 bd (gU t24 (some a3)) fun t26 =>
 bd (gU t24 (o.ldn 5 t5 s5)) fun t27 =>
 bd2 (gS (gd t24 true) s5 (kf 244 [t26, t27] s5)) fun t28 s6 =>
 bd (pF t24 t28) fun t29 =>
 bd (gU t29 (some a4)) fun t31 =>
 bd (gU t29 (o.ldn 5 t5 s6)) fun t32 =>
 bd2 (gS (gd t29 true) s6 (kf 244 [t31, t32] s6)) fun t33 s7 =>
 bd (pF t29 t33) fun t34 =>
 jT t34 s7
theorem f162_ok : Ok Tryz.prog 162 (fun c => L5 (f162 fast c 8192)) := ok5 (fun o c => f162 o c 8192) Tryz.func162 (by kernel_rfl) (fun c a0 a1 a2 a3 a4 s => by kernel_rfl)

/- slices.Sort[[]int,int] -/
def f163 (o : Ops) (kf : CallF) (N : Nat) (a0 : T) (s : St) : Option (T × St) :=
 bd (o.ln a0) fun t4 =>
 bd (o.cv .u64 t4) fun t8 =>
 bd2 (kf 246 [t8] s) fun t9 s1 =>
 bd2 (kf 245 [a0, (I .i64 0), t4, t9] s1) fun t10 s2 =>
 bd (retT []) fun r3 =>
 jT r3 s2
theorem f163_ok : Ok Tryz.prog 163 (fun c => L1 (f163 fast c 8192)) := ok1 (fun o c => f163 o c 8192) Tryz.func163 (by kernel_rfl) (fun c a0 s => by kernel_rfl)

/- (entry.State).Rule -/
def f164 (o : Ops) (kf : CallF) (N : Nat) (a0 : T) (s : St) : Option (T × St) :=
 bd2 (o.new s (nCells [.int .i64 0, .int .i64 0, .int .i64 0, .int .i64 0, .int .i64 0, .int .i64 0])) fun t2 s1 =>
 bd (o.nil a0) fun t4 =>
 bd (o.fa 2 t4) fun t5 =>
 bd (o.ldn 6 t5 s1) fun t6 =>
 bd2 (o.st 6 t2 t6 s1) fun u2 s3 =>
 bd (rC (o.ldn 6 t2 s3) (some [])) fun l4 =>
 bd (retT l4) fun r5 =>
 jT r5 s3
theorem f164_ok : Ok Tryz.prog 164 (fun c => L1 (f164 fast c 8192)) := ok1 (fun o c => f164 o c 8192) Tryz.func164 (by kernel_rfl) (fun c a0 s => by kernel_rfl)

/- (twin.Twin).speak -/
def f165_1 (o : Ops) (kf : CallF) (N : Nat) (v1 : List T) (s2 : St) : Option (JO × St) :=
 o.vk v1 0 fun v1_0 =>
 o.vk v1 1 fun v1_1 =>
 o.vk v1 2 fun v1_2 =>
 jn (o.br v1_2 (bd (o.nil v1_0) fun t55 =>
 bd (o.fa 0 t55) fun t56 =>
 bd (o.ld t56 s2) fun t57 =>
 bd (o.add t57 (I .i64 4)) fun t58 =>
 bd (o.nil v1_1) fun t59 =>
 bd (o.fa 23 t59) fun t60 =>
 bd2 (o.st 1 t60 t58 s2) fun u5 s6 =>
 bd2 (kf 94 [v1_0, v1_1] s6) fun t63 s7 =>
 bd (o.nil v1_1) fun t65 =>
 bd (o.fa 7 t65) fun t66 =>
 bd (o.ld t66 s7) fun t67 =>
 bd (o.nil v1_1) fun t69 =>
 bd (o.fa 5 t69) fun t70 =>
 bd (o.ld t70 s7) fun t71 =>
 bd (o.neq t67 t71) fun t72 =>
 jn (o.br t72 (bd (o.nil v1_1) fun t75 =>
 bd (o.fa 5 t75) fun t76 =>
 bd (o.ld t76 s7) fun t77 =>
 bd (o.nil v1_1) fun t79 =>
 bd (o.fa 0 t79) fun t80 =>
 bd (o.ld t80 s7) fun t81 =>
 bd2 (o.new s7 (nSlice 2 (aFill [.int .i64 0, .int .i64 0] [(0, 1, (I .i64 3)), (1, 1, t81)]))) fun t82 s8 =>
 bd2 (kf 194 [t82] s8) fun t83 s9 =>
 bd (asAggT (aFill [.int .i64 0, .int .i64 0, .int .i64 0, .int .i64 0, .nils] [(0, 1, (I .i64 1)), (1, 1, t77), (3, 1, (I .i64 1)), (4, 1, t83)])) fun t84 =>
 bd2 (kf 172 [v1_0, (I .i64 2), t84] s9) fun t85 s10 =>
 ck ((decide (aLoad1 t76 (overlay 11 s9.get (ovO 9 s7.size (nSlice 2 (aFill [.int .i64 0, .int .i64 0] [(0, 1, (I .i64 3)), (1, 1, t81)])) [])) = o.ld t76 s7) && true) && true) (nm [v1_0, v1_1] s10))
 (nm [v1_0, v1_1] s7))
 (fun v11 s12 => o.vk v11 0 fun v11_0 =>
 o.vk v11 1 fun v11_1 =>
 nm [v11_0, v11_1] s12)
 (fun i13 v11 s12 => jE i13 v11 s12)
 (fun r14 s12 => jR r14 s12))
 (bd (o.nil v1_0) fun t7 =>
 bd (o.fa 0 t7) fun t8 =>
 bd (o.ld t8 s2) fun t9 =>
 bd (o.add t9 (I .i64 40)) fun t10 =>
 bd (o.nil v1_1) fun t11 =>
 bd (o.fa 23 t11) fun t12 =>
 bd2 (o.st 1 t12 t10 s2) fun u15 s16 =>
 bd (o.nil v1_1) fun t15 =>
 bd (o.fa 5 t15) fun t16 =>
 bd (o.ld t16 s16) fun t17 =>
 bd (o.nil v1_1) fun t19 =>
 bd (o.fa 0 t19) fun t20 =>
 bd (o.ld t20 s16) fun t21 =>
 bd2 (o.new s16 (nSlice 2 (aFill [.int .i64 0, .int .i64 0] [(0, 1, (I .i64 3)), (1, 1, t21)]))) fun t22 s17 =>
 bd2 (kf 194 [t22] s17) fun t23 s18 =>
 bd (asAggT (aFill [.int .i64 0, .int .i64 0, .int .i64 0, .int .i64 0, .nils] [(0, 1, (I .i64 1)), (1, 1, t17), (3, 1, (I .i64 1)), (4, 1, t23)])) fun t24 =>
 bd2 (kf 172 [v1_0, (I .i64 2), t24] s18) fun t25 s19 =>
 ck ((decide (aLoad1 t16 (overlay 11 s18.get (ovO 9 s16.size (nSlice 2 (aFill [.int .i64 0, .int .i64 0] [(0, 1, (I .i64 3)), (1, 1, t21)])) [])) = o.ld t16 s16) && true) && true) (nm [v1_0, v1_1] s19)))
 (fun v20 s21 => o.vk v20 0 fun v20_0 =>
 o.vk v20 1 fun v20_1 =>
 nm [v20_0, v20_1] s21)
 (fun i22 v20 s21 => jE i22 v20 s21)
 (fun r23 s21 => jR r23 s21)
def f165_2 (o : Ops) (kf : CallF) (N : Nat) (v37 : List T) (s38 : St) : Option (T × St) :=
 o.vk v37 0 fun v37_0 =>
 o.vk v37 1 fun v37_1 =>
 o.vk v37 2 fun v37_2 =>
 jn (bd2 (kf 64 [v37_1] s38) fun t96 s41 =>
 jn (o.br t96 (bd2 (kf 105 [v37_1] s41) fun t98 s42 =>
 bd (gU t98 (some v37_1)) fun t100 =>
 bd2 (gS (gd t98 true) s42 (kf 182 [t100] s42)) fun t101 s43 =>
 bd (pF t98 t101) fun t102 =>
 bd (gU t102 (some v37_2)) fun t104 =>
 bd (gU t102 (some t104)) fun t105 =>
 bd (gF t105 (some v37_0)) fun t106 =>
 bd (gF t105 (o.nil t106)) fun t107 =>
 bd (gF t105 (o.fa 0 t107)) fun t108 =>
 bd (gF t105 (o.ld t108 s43)) fun t109 =>
 bd (gF t105 (some v37_1)) fun t110 =>
 bd (gF t105 (o.nil t110)) fun t111 =>
 bd (gF t105 (o.fa 24 t111)) fun t112 =>
 bd (gF t105 (o.ld t112 s43)) fun t113 =>
 bd (gF t105 (o.geq t109 t113)) fun t114 =>
 bd (gU t102 (pT t105 t114)) fun t115 =>
 bd (pF t102 t115) fun t116 =>
 jn (o.br t116 (bd2 (kf 183 [v37_0, v37_1] s43) fun t119 s44 =>
 nm [] s44)
 (nm [] s43))
 (fun v45 s46 => nm [] s46)
 (fun i47 v45 s46 => jE i47 v45 s46)
 (fun r48 s46 => jR r48 s46))
 (bd (o.nil v37_1) fun t122 =>
 bd (o.fa 5 t122) fun t123 =>
 bd (o.ld t123 s41) fun t124 =>
 bd (o.gtr t124 (I .i64 0)) fun t125 =>
 bd (gU t125 (some v37_1)) fun t127 =>
 bd (gU t125 (o.nil t127)) fun t128 =>
 bd (gU t125 (o.fa 28 t128)) fun t129 =>
 bd (gU t125 (o.ld t129 s41)) fun t130 =>
 bd (gU t125 (aUn .not t130)) fun t131 =>
 bd (pF t125 t131) fun t132 =>
 bd (gU t132 (some v37_0)) fun t134 =>
 bd (gU t132 (o.nil t134)) fun t135 =>
 bd (gU t132 (o.fa 0 t135)) fun t136 =>
 bd (gU t132 (o.ld t136 s41)) fun t137 =>
 bd (gU t132 (some v37_1)) fun t138 =>
 bd (gU t132 (o.nil t138)) fun t139 =>
 bd (gU t132 (o.fa 24 t139)) fun t140 =>
 bd (gU t132 (o.ld t140 s41)) fun t141 =>
 bd (gU t132 (o.geq t137 t141)) fun t142 =>
 bd (pF t132 t142) fun t143 =>
 jn (o.br t143 (bd2 (kf 187 [v37_0, v37_1, (I .i64 1)] s41) fun t146 s49 =>
 nm [] s49)
 (nm [] s41))
 (fun v50 s51 => nm [] s51)
 (fun i52 v50 s51 => jE i52 v50 s51)
 (fun r53 s51 => jR r53 s51)))
 (fun v54 s55 => nm [] s55)
 (fun i56 v54 s55 => if i56 = 2 then nm v54 s55 else jE i56 v54 s55)
 (fun r57 s55 => jR r57 s55))
 (fun v58 s59 => bd (retT []) fun r62 =>
 jT r62 s59)
 (fun i60 v58 s59 => none)
 (fun r61 s59 => jT r61 s59)
def f165 (o : Ops) (kf : CallF) (N : Nat) (a0 a1 : T) (s : St) : Option (T × St) :=
 jn (bd (o.nil a0) fun t28 =>
 bd (o.fa 0 t28) fun t29 =>
 bd (o.ld t29 s) fun t30 =>
 bd (o.nil a1) fun t32 =>
 bd (o.fa 23 t32) fun t33 =>
 bd (o.ld t33 s) fun t34 =>
 bd (o.lss t30 t34) fun t35 =>
 jn (o.br t35 (nm [a0, a1] s)
 (bd (o.nil a1) fun t38 =>
 bd (o.fa 16 t38) fun t39 =>
 bd (o.ld t39 s) fun t40 =>
 jn (o.br t40 (nm [a0, a1, t40] s)
 (bd (o.nil a1) fun t42 =>
 bd (o.fa 5 t42) fun t43 =>
 bd (o.ld t43 s) fun t44 =>
 bd (o.eql t44 (I .i64 0)) fun t45 =>
 bd (gU t45 (some a1)) fun t47 =>
 bd (gU t45 (o.nil t47)) fun t48 =>
 bd (gU t45 (o.fa 0 t48)) fun t49 =>
 bd (gU t45 (o.ld t49 s)) fun t50 =>
 bd (gU t45 (o.eql t50 (I .i64 0))) fun t51 =>
 bd (pF t45 t51) fun t52 =>
 nm [a0, a1, t52] s))
 (fun v1 s2 => f165_1 o kf N v1 s2)
 (fun i3 v1 s2 => jE i3 v1 s2)
 (fun r4 s2 => jR r4 s2)))
 (fun v24 s25 => o.vk v24 0 fun v24_0 =>
 o.vk v24 1 fun v24_1 =>
 nm [v24_0, v24_1] s25)
 (fun i26 v24 s25 => if i26 = 0 then nm v24 s25 else jE i26 v24 s25)
 (fun r27 s25 => jR r27 s25))
 (fun v28 s29 => o.vk v28 0 fun v28_0 =>
 o.vk v28 1 fun v28_1 =>
 bd (o.nil v28_1) fun t87 =>
 bd (o.fa 22 t87) fun t88 =>
 bd (o.ld t88 s29) fun t89 =>
 bd2 (aSelR (.bool false) t89 s29) fun t90 s32 =>
 bd (o.ex t90 0) fun t91 =>
 bd (o.eql t91 (I .i64 0)) fun t92 =>
 jn (jn (o.br t92 (bd (o.ex t90 2) fun t93 =>
 nm [v28_0, v28_1, t93] s32)
 (nm [v28_0, v28_1, (B false)] s32))
 (fun v33 s34 => o.vk v33 0 fun v33_0 =>
 o.vk v33 1 fun v33_1 =>
 o.vk v33 2 fun v33_2 =>
 nm [v33_0, v33_1, v33_2] s34)
 (fun i35 v33 s34 => if i35 = 1 then nm v33 s34 else jE i35 v33 s34)
 (fun r36 s34 => jR r36 s34))
 (fun v37 s38 => f165_2 o kf N v37 s38)
 (fun i39 v37 s38 => none)
 (fun r40 s38 => jT r40 s38))
 (fun i30 v28 s29 => none)
 (fun r31 s29 => jT r31 s29)
theorem f165_ok : Ok Tryz.prog 165 (fun c => L2 (f165 fast c 8192)) := ok2 (fun o c => f165 o c 8192) Tryz.func165 (by kernel_rfl) (fun c a0 a1 s => by kernel_rfl)

/- (twin.Twin).seal -/
def f166_1 (o : Ops) (kf : CallF) (N : Nat) (t113 t120 t78 : T) (s24 : St) (t5 v3_1 v3_0 : T) : Option (T × St) :=
 bd2 (mset (.a .i64 2) t113 t120 t78 s24) fun u26 s27 =>
 bd (o.ldn 2 t5 s27) fun t123 =>
 bd (o.nil v3_1) fun t124 =>
 bd (o.fa 13 t124) fun t125 =>
 bd2 (o.st 2 t125 t123 s27) fun u28 s29 =>
 bd2 (kf 111 [v3_0, v3_1] s29) fun t128 s30 =>
 bd (o.nil v3_1) fun t130 =>
 bd (o.fa 5 t130) fun t131 =>
 bd (o.ld t131 s30) fun t132 =>
 bd (o.nil v3_1) fun t134 =>
 bd (o.fa 8 t134) fun t135 =>
 bd (o.fa 1 t135) fun t136 =>
 bd (o.ld t136 s30) fun t137 =>
 bd (o.nil v3_1) fun t139 =>
 bd (o.fa 8 t139) fun t140 =>
 bd (o.fa 1 t140) fun t141 =>
 bd (o.ld t141 s30) fun t142 =>
 bd (o.nil v3_1) fun t144 =>
 bd (o.fa 3 t144) fun t145 =>
 bd (o.ld t145 s30) fun t146 =>
 bd2 (kf 114 [t146] s30) fun t147 s31 =>
 bd (o.ln t147) fun t148 =>
 bd (asAggT (aFill [.int .i64 0, .int .i64 0, .int .i64 0, .int .i64 0, .nils] [(0, 1, t132), (1, 1, t137), (2, 1, t142), (3, 1, t148)])) fun t149 =>
 bd2 (o.new s31 (nCells [.int .i64 0, .int .i64 0, .int .i64 0, .int .i64 0, .nils])) fun t12 s32 =>
 bd2 (o.st 5 t12 t149 s32) fun u33 s34 =>
 ck ((decide (aLoad1 t131 (updM (s31.get) s31.size (.cells true [.int .i64 0, .int .i64 0, .int .i64 0, .int .i64 0, .nils])) = o.ld t131 s30) && true) && ((decide (aLoad1 t136 (updM (s31.get) s31.size (.cells true [.int .i64 0, .int .i64 0, .int .i64 0, .int .i64 0, .nils])) = o.ld t136 s30) && true) && ((decide (aLoad1 t141 (updM (s31.get) s31.size (.cells true [.int .i64 0, .int .i64 0, .int .i64 0, .int .i64 0, .nils])) = o.ld t141 s30) && true) && true))) (bd (o.ldn 5 t12 s34) fun t151 =>
 bd (o.nil v3_1) fun t152 =>
 bd (o.fa 8 t152) fun t153 =>
 bd2 (o.st 5 t153 t151 s34) fun u35 s36 =>
 bd (o.ldn 5 t12 s36) fun t155 =>
 bd2 (kf 185 [v3_1, t155] s36) fun t156 s37 =>
 bd (aUn .not t156) fun t157 =>
 jn (o.br t157 (bd (o.ldn 5 t12 s37) fun t161 =>
 bd (o.nil v3_1) fun t163 =>
 bd (o.fa 3 t163) fun t164 =>
 bd (o.ld t164 s37) fun t165 =>
 bd2 (kf 114 [t165] s37) fun t166 s38 =>
 bd2 (kf 148 [t161, t166] s38) fun t167 s39 =>
 bd (o.ex t167 0) fun t168 =>
 bd (o.ex t167 1) fun t169 =>
 bd (o.nil v3_1) fun t170 =>
 bd (o.fa 8 t170) fun t171 =>
 bd2 (o.st 5 t171 t168 s39) fun u40 s41 =>
 bd (o.nil v3_1) fun t172 =>
 bd (o.fa 13 t172) fun t173 =>
 bd2 (o.st 2 t173 t169 s41) fun u42 s43 =>
 ck ((decide (o.ldn 5 t12 s38 = o.ldn 5 t12 s37) && true) && true) (nm [] s43))
 (nm [] s37))
 (fun v44 s45 => bd (retT []) fun r48 =>
 jT r48 s45)
 (fun i46 v44 s45 => none)
 (fun r47 s45 => jT r47 s45))
def f166_2 (o : Ops) (kf : CallF) (N : Nat) (t56 t63 : T) (s12 : St) (t60 t4 t43 v3_1 v3_0 : T) : Option (T × St) :=
 bd (gU t56 (o.ld t63 s12)) fun t64 =>
 bd (gU t56 (o.sub t60 t64)) fun t65 =>
 bd (gU t56 (o.fa 5 t4)) fun t66 =>
 bd (gU t56 (o.ld t66 s12)) fun t67 =>
 bd (gU t56 (o.lss t65 t67)) fun t68 =>
 bd (gF t43 (pF t56 t68)) fun t69 =>
 bd (pT t43 t69) fun t70 =>
 o.br t70 (bd (retT []) fun r13 =>
 jT r13 s12)
 (bd (o.nil v3_1) fun t73 =>
 bd (o.fa 13 t73) fun t74 =>
 bd (o.ldn 2 t74 s12) fun t75 =>
 bd2 (kf 249 [t75] s12) fun t76 s14 =>
 bd (o.ex t76 0) fun t77 =>
 bd (o.ex t76 1) fun t78 =>
 bd (o.ex t76 2) fun t79 =>
 bd (o.ex t76 3) fun t80 =>
 bd (o.ex t76 4) fun t81 =>
 bd2 (o.new s14 (nCells [.int .i64 0, .nils])) fun t5 s15 =>
 bd2 (o.st 2 t5 t77 s15) fun u16 s17 =>
 bd (o.neq t81 (I .i64 0)) fun t83 =>
 o.br t83 (bd (retT []) fun r18 =>
 jT r18 s17)
 (bd2 (kf 250 [v3_1] s17) fun t85 s19 =>
 bd (asAggT (aFill [.int .i64 0, .int .i64 0, .int .i64 0, .int .i64 0, .nils, .nils] [(0, 1, t85), (2, 1, t79), (3, 1, t80), (4, 1, t78)])) fun t89 =>
 bd2 (o.new s19 (nCells [.int .i64 0, .int .i64 0, .int .i64 0, .int .i64 0, .nils, .nils])) fun t10 s20 =>
 bd2 (o.st 6 t10 t89 s20) fun u21 s22 =>
 bd (o.ldn 6 t10 s22) fun t91 =>
 bd2 (kf 214 [t91] s22) fun t92 s23 =>
 bd (o.ex t92 0) fun t93 =>
 bd (o.ex t92 1) fun t94 =>
 bd (o.neq t94 (I .i64 0)) fun t96 =>
 bd (gF t96 (some v3_1)) fun t98 =>
 bd (gF t96 (o.nil t98)) fun t99 =>
 bd (gF t96 (o.fa 3 t99)) fun t100 =>
 bd (gF t96 (o.ld t100 s23)) fun t101 =>
 bd (gF t96 (some t93)) fun t102 =>
 bd (gF t96 (some v3_1)) fun t103 =>
 bd (gF t96 (o.nil t103)) fun t104 =>
 bd (gF t96 (o.fa 5 t104)) fun t105 =>
 bd (gF t96 (o.ld t105 s23)) fun t106 =>
 bd2 (gS (gd t96 false) s23 (kf 251 [t101, t102, t106] s23)) fun t107 s24 =>
 bd (gF t96 (o.neq t107 (I .i64 0))) fun t108 =>
 bd (pT t96 t108) fun t109 =>
 o.br t109 (bd (retT []) fun r25 =>
 jT r25 s24)
 (bd (o.nil v3_0) fun t111 =>
 bd (o.fa 8 t111) fun t112 =>
 bd (o.ld t112 s24) fun t113 =>
 bd (o.nil v3_1) fun t115 =>
 bd (o.fa 5 t115) fun t116 =>
 bd (o.ld t116 s24) fun t117 =>
 bd (o.fa 0 t10) fun t118 =>
 bd (o.ld t118 s24) fun t119 =>
 bd (asAggT (aFill [.int .i64 0, .int .i64 0] [(0, 1, t117), (1, 1, t119)])) fun t120 =>
 f166_1 o kf N t113 t120 t78 s24 t5 v3_1 v3_0)))
def f166 (o : Ops) (kf : CallF) (N : Nat) (a0 a1 : T) (s : St) : Option (T × St) :=
 bd (o.nil a1) fun t14 =>
 bd (o.fa 13 t14) fun t15 =>
 bd (o.fa 1 t15) fun t16 =>
 bd (o.ld t16 s) fun t17 =>
 bd (o.ln t17) fun t18 =>
 bd (o.eql t18 (I .i64 0)) fun t19 =>
 jn (o.br t19 (bd (o.nil a0) fun t22 =>
 bd (o.fa 0 t22) fun t23 =>
 bd (o.ld t23 s) fun t24 =>
 bd (o.nil a1) fun t25 =>
 bd (o.fa 15 t25) fun t26 =>
 bd2 (o.st 1 t26 t24 s) fun u1 s2 =>
 nm [a0, a1] s2)
 (nm [a0, a1] s))
 (fun v3 s4 => o.vk v3 0 fun v3_0 =>
 o.vk v3 1 fun v3_1 =>
 bd (o.nil v3_1) fun t28 =>
 bd (o.fa 3 t28) fun t29 =>
 bd (o.ld t29 s4) fun t30 =>
 bd2 (kf 89 [t30] s4) fun t31 s7 =>
 bd2 (o.new s7 (nCells [.int .i64 0, .int .i64 0, .int .i64 0, .int .i64 0, .int .i64 0, .int .i64 0])) fun t4 s8 =>
 bd2 (o.st 6 t4 t31 s8) fun u9 s10 =>
 bd2 (kf 247 [v3_1] s10) fun t33 s11 =>
 bd (aUn .not t33) fun t34 =>
 bd (gF t34 (some v3_1)) fun t36 =>
 bd (gF t34 (o.nil t36)) fun t37 =>
 bd (gF t34 (o.fa 13 t37)) fun t38 =>
 bd (gF t34 (o.fa 1 t38)) fun t39 =>
 bd (gF t34 (o.ld t39 s11)) fun t40 =>
 bd (gF t34 (o.ln t40)) fun t41 =>
 bd (gF t34 (o.eql t41 (I .i64 0))) fun t42 =>
 bd (pT t34 t42) fun t43 =>
 bd (gF t43 (some v3_1)) fun t45 =>
 bd (gF t43 (o.nil t45)) fun t46 =>
 bd (gF t43 (o.fa 13 t46)) fun t47 =>
 bd (gF t43 (o.ldn 2 t47 s11)) fun t48 =>
 bd (gF t43 (o.ldn 6 t4 s11)) fun t49 =>
 bd (gF t43 (some v3_0)) fun t50 =>
 bd (gF t43 (o.nil t50)) fun t51 =>
 bd (gF t43 (o.fa 0 t51)) fun t52 =>
 bd (gF t43 (o.ld t52 s11)) fun t53 =>
 bd2 (gS (gd t43 false) s11 (kf 248 [t48, t49, t53] s11)) fun t54 s12 =>
 bd (gF t43 (aUn .not t54)) fun t55 =>
 bd (gF t43 (some t55)) fun t56 =>
 bd (gU t56 (some v3_0)) fun t57 =>
 bd (gU t56 (o.nil t57)) fun t58 =>
 bd (gU t56 (o.fa 0 t58)) fun t59 =>
 bd (gU t56 (o.ld t59 s12)) fun t60 =>
 bd (gU t56 (some v3_1)) fun t61 =>
 bd (gU t56 (o.nil t61)) fun t62 =>
 bd (gU t56 (o.fa 15 t62)) fun t63 =>
 f166_2 o kf N t56 t63 s12 t60 t4 t43 v3_1 v3_0)
 (fun i5 v3 s4 => none)
 (fun r6 s4 => jT r6 s4)
theorem f166_ok : Ok Tryz.prog 166 (fun c => L2 (f166 fast c 8192)) := ok2 (fun o c => f166 o c 8192) Tryz.func166 (by kernel_rfl) (fun c a0 a1 s => by kernel_rfl)

/- (twin.Twin).roll -/
def f167_1 (o : Ops) (kf : CallF) (N : Nat) (t6 : T) (s12 s9 : St) (t36 : T) (s13 : St) (t43 : T) (s16 : St) (t8 a1 a0 t20 : T) : Option (T × St) :=
 ck ((decide (aLoadN 6 t6 (overlay 4 s12.get (ovO 1 s9.size (nSlice 1 (aFill [.int .i64 0, .int .i64 0, .int .i64 0, .int .i64 0, .nils, .nils] [(0, 6, t36)])) ((9, s13.size, .cells true [.int .i64 0, .int .i64 0, .int .i64 0, .int .i64 0, .nils, .nils]) :: []))) = o.ldn 6 t6 s9) && true) && true) (bd (o.neq t43 (I .i64 0)) fun t45 =>
 o.br t45 (bd (retT []) fun r17 =>
 jT r17 s16)
 (bd (o.ldn 6 t8 s16) fun t47 =>
 bd2 (kf 214 [t47] s16) fun t48 s18 =>
 bd (o.ex t48 0) fun t49 =>
 bd (o.ex t48 1) fun t50 =>
 bd (o.neq t50 (I .i64 0)) fun t52 =>
 bd (gF t52 (some a1)) fun t54 =>
 bd (gF t52 (o.nil t54)) fun t55 =>
 bd (gF t52 (o.fa 3 t55)) fun t56 =>
 bd (gF t52 (o.ld t56 s18)) fun t57 =>
 bd (gF t52 (some t49)) fun t58 =>
 bd (gF t52 (some a1)) fun t59 =>
 bd (gF t52 (o.nil t59)) fun t60 =>
 bd (gF t52 (o.fa 5 t60)) fun t61 =>
 bd (gF t52 (o.ld t61 s18)) fun t62 =>
 bd2 (gS (gd t52 false) s18 (kf 251 [t57, t58, t62] s18)) fun t63 s19 =>
 bd (gF t52 (o.neq t63 (I .i64 0))) fun t64 =>
 bd (pT t52 t64) fun t65 =>
 o.br t65 (bd (retT []) fun r20 =>
 jT r20 s19)
 (bd (o.nil a0) fun t67 =>
 bd (o.fa 8 t67) fun t68 =>
 bd (o.ld t68 s19) fun t69 =>
 bd (o.nil a1) fun t71 =>
 bd (o.fa 5 t71) fun t72 =>
 bd (o.ld t72 s19) fun t73 =>
 bd (o.fa 0 t8) fun t74 =>
 bd (o.ld t74 s19) fun t75 =>
 bd (asAggT (aFill [.int .i64 0, .int .i64 0] [(0, 1, t73), (1, 1, t75)])) fun t76 =>
 bd (o.nil a0) fun t78 =>
 bd (o.fa 8 t78) fun t79 =>
 bd (o.ld t79 s19) fun t80 =>
 bd (o.nil a1) fun t82 =>
 bd (o.fa 3 t82) fun t83 =>
 bd (o.ld t83 s19) fun t84 =>
 bd2 (kf 114 [t84] s19) fun t85 s21 =>
 bd2 (kf 222 [t85, t20] s21) fun t87 s22 =>
 bd (Go.Abs.F.look (.a .i64 2) false (.s (.nils)) t80 t87 s22.get) fun t88 =>
 bd2 (mset (.a .i64 2) t69 t76 t88 s22) fun u23 s24 =>
 ck ((decide (o.ld t68 s21 = o.ld t68 s19) && (decide (o.ld t68 s22 = o.ld t68 s19) && true)) && ((decide (o.ld t72 s21 = o.ld t72 s19) && (decide (o.ld t72 s22 = o.ld t72 s19) && true)) && ((decide (o.ld t74 s21 = o.ld t74 s19) && (decide (o.ld t74 s22 = o.ld t74 s19) && true)) && ((decide (o.ld t79 s21 = o.ld t79 s19) && (decide (o.ld t79 s22 = o.ld t79 s19) && true)) && true)))) (bd2 (kf 111 [a0, a1] s24) fun t91 s25 =>
 bd (retT []) fun r26 =>
 jT r26 s25))))
def f167 (o : Ops) (kf : CallF) (N : Nat) (a0 a1 : T) (s : St) : Option (T × St) :=
 bd2 (kf 247 [a1] s) fun t11 s1 =>
 bd (aUn .not t11) fun t12 =>
 o.br t12 (bd (retT []) fun r2 =>
 jT r2 s1)
 (bd (o.nil a1) fun t15 =>
 bd (o.fa 3 t15) fun t16 =>
 bd (o.ld t16 s1) fun t17 =>
 bd2 (kf 65 [t17] s1) fun t18 s3 =>
 bd2 (kf 87 [t18] s3) fun t19 s4 =>
 bd (o.ex t19 0) fun t20 =>
 bd (o.ex t19 1) fun t21 =>
 bd (o.lss t20 (I .i64 0)) fun t23 =>
 o.br t23 (bd (retT []) fun r5 =>
 jT r5 s4)
 (bd (o.nil a1) fun t26 =>
 bd (o.fa 3 t26) fun t27 =>
 bd (o.ld t27 s4) fun t28 =>
 bd2 (kf 66 [t28, t20] s4) fun t30 s6 =>
 bd (o.ex t30 0) fun t31 =>
 bd (o.ex t30 1) fun t32 =>
 bd2 (o.new s6 (nCells [.int .i64 0, .int .i64 0, .int .i64 0, .int .i64 0, .nils, .nils])) fun t6 s7 =>
 bd2 (o.st 6 t6 t31 s7) fun u8 s9 =>
 bd (o.neq t32 (I .i64 0)) fun t34 =>
 o.br t34 (bd (retT []) fun r10 =>
 jT r10 s9)
 (bd (o.ldn 6 t6 s9) fun t36 =>
 bd2 (o.new s9 (nSlice 1 (aFill [.int .i64 0, .int .i64 0, .int .i64 0, .int .i64 0, .nils, .nils] [(0, 6, t36)]))) fun t37 s11 =>
 bd2 (kf 250 [a1] s11) fun t39 s12 =>
 bd2 (kf 252 [t37, t39, t21] s12) fun t41 s13 =>
 bd (o.ex t41 0) fun t42 =>
 bd (o.ex t41 1) fun t43 =>
 bd2 (o.new s13 (nCells [.int .i64 0, .int .i64 0, .int .i64 0, .int .i64 0, .nils, .nils])) fun t8 s14 =>
 bd2 (o.st 6 t8 t42 s14) fun u15 s16 =>
 f167_1 o kf N t6 s12 s9 t36 s13 t43 s16 t8 a1 a0 t20)))
theorem f167_ok : Ok Tryz.prog 167 (fun c => L2 (f167 fast c 8192)) := ok2 (fun o c => f167 o c 8192) Tryz.func167 (by kernel_rfl) (fun c a0 a1 s => by kernel_rfl)

/- (twin.Twin).drop -/
def f168 (o : Ops) (kf : CallF) (N : Nat) (a0 a1 : T) (s : St) : Option (T × St) :=
 bd2 (kf 247 [a1] s) fun t6 s1 =>
 bd (aUn .not t6) fun t7 =>
 bd (gF t7 (some a1)) fun t9 =>
 bd (gF t7 (o.nil t9)) fun t10 =>
 bd (gF t7 (o.fa 17 t10)) fun t11 =>
 bd (gF t7 (o.fa 4 t11)) fun t12 =>
 bd (gF t7 (o.ld t12 s1)) fun t13 =>
 bd (gF t7 (aUn .not t13)) fun t14 =>
 bd (pT t7 t14) fun t15 =>
 o.br t15 (bd (retT []) fun r2 =>
 jT r2 s1)
 (bd (o.nil a1) fun t17 =>
 bd (o.fa 3 t17) fun t18 =>
 bd (o.ld t18 s1) fun t19 =>
 bd2 (kf 89 [t19] s1) fun t20 s3 =>
 bd (o.nil a0) fun t22 =>
 bd (o.fa 0 t22) fun t23 =>
 bd (o.ld t23 s3) fun t24 =>
 bd (o.nil a1) fun t26 =>
 bd (o.fa 3 t26) fun t27 =>
 bd (o.ld t27 s3) fun t28 =>
 bd2 (kf 65 [t28] s3) fun t29 s4 =>
 bd2 (kf 253 [a1] s4) fun t31 s5 =>
 bd2 (kf 88 [t20, t24, t29, t31] s5) fun t32 s6 =>
 ck ((decide (o.ld t23 s1 = o.ld t23 s3) && (decide (o.ld t23 s4 = o.ld t23 s3) && (decide (o.ld t23 s5 = o.ld t23 s3) && true))) && ((decide (o.ld t27 s1 = o.ld t27 s3) && true) && true)) (bd (o.ln t32) fun t34 =>
 bd (o.gtr t34 (I .i64 0)) fun t35 =>
 bd (gU t35 (some a1)) fun t37 =>
 bd (gU t35 (o.nil t37)) fun t38 =>
 bd (gU t35 (o.fa 3 t38)) fun t39 =>
 bd (gU t35 (o.ld t39 s6)) fun t40 =>
 bd (gU t35 (some t32)) fun t41 =>
 bd (gU t35 (o.ix 1 t41 (I .i64 0))) fun t42 =>
 bd (gU t35 (o.ld t42 s6)) fun t43 =>
 bd (gU t35 (some a1)) fun t44 =>
 bd (gU t35 (o.nil t44)) fun t45 =>
 bd (gU t35 (o.fa 5 t45)) fun t46 =>
 bd (gU t35 (o.ld t46 s6)) fun t47 =>
 bd2 (gS (gd t35 true) s6 (kf 254 [t40, t43, t47] s6)) fun t48 s7 =>
 bd (gU t35 (o.eql t48 (I .i64 0))) fun t49 =>
 bd (pF t35 t49) fun t50 =>
 jn (o.br t50 (bd2 (kf 111 [a0, a1] s7) fun t53 s8 =>
 nm [] s8)
 (nm [] s7))
 (fun v9 s10 => bd (retT []) fun r13 =>
 jT r13 s10)
 (fun i11 v9 s10 => none)
 (fun r12 s10 => jT r12 s10)))
theorem f168_ok : Ok Tryz.prog 168 (fun c => L2 (f168 fast c 8192)) := ok2 (fun o c => f168 o c 8192) Tryz.func168 (by kernel_rfl) (fun c a0 a1 s => by kernel_rfl)

/- frame.Get$1 -/
def f169 (o : Ops) (kf : CallF) (N : Nat) (a0 a1 a2 : T) (s : St) : Option (T × St) :=
 bd (o.ld a0 s) fun t8 =>
 bd (o.ld a1 s) fun t9 =>
 bd2 (kf 153 [t8, t9] s) fun t10 s1 =>
 bd (o.ex t10 0) fun t11 =>
 bd (o.ex t10 1) fun t12 =>
 bd (o.ex t10 2) fun t13 =>
 bd (o.ld a2 s1) fun t14 =>
 bd (gF t14 (some t13)) fun t16 =>
 bd (gF t14 (o.neq t16 (I .i64 0))) fun t17 =>
 bd (pT t14 t17) fun t18 =>
 bd (gF t18 (some t11)) fun t20 =>
 bd (gF t18 (o.gtr t20 (I .u64 1099511627776))) fun t21 =>
 bd (pT t18 t21) fun t22 =>
 bd2 (o.st 1 a2 t22 s1) fun u2 s3 =>
 bd2 (o.st 1 a1 t12 s3) fun u4 s5 =>
 bd (aFold aMin2 t11 [(I .u64 1099511627776)]) fun t25 =>
 bd (o.cv .i64 t25) fun t26 =>
 jT t26 s5
theorem f169_ok : Ok Tryz.prog 169 (fun c => L3 (f169 fast c 8192)) := ok3 (fun o c => f169 o c 8192) Tryz.func169 (by kernel_rfl) (fun c a0 a1 a2 s => by kernel_rfl)

/- frame.Put -/
def f170_1 (o : Ops) (kf : CallF) (N : Nat) (s2 : St) (t11 t1 t9 : T) : Option (T × St) :=
 bd2 (o.new s2 (nSlice 1 (aFill [.int .u8 0] [(0, 1, t11)]))) fun t12 s4 =>
 bd (o.fa 1 t1) fun t13 =>
 bd (o.ld t13 s4) fun t14 =>
 bd (o.cv .u64 t14) fun t15 =>
 bd2 (kf 238 [t15] s4) fun t16 s5 =>
 bd2 (aAppend 1 1 t12 t16 s5) fun t17 s6 =>
 ck ((decide (aLoad1 t9 (overlay 8 s5.get (ovO 3 s2.size (nSlice 1 (aFill [.int .u8 0] [(0, 1, t11)])) [])) = o.ld t9 s2) && true) && true) (bd (o.fa 0 t1) fun t18 =>
 bd (o.ld t18 s6) fun t19 =>
 jn (bd (o.eql t19 (I .i64 1)) fun t27 =>
 jn (o.br t27 (bd (o.fa 3 t1) fun t29 =>
 bd (o.ld t29 s6) fun t30 =>
 bd (o.cv .u64 t30) fun t31 =>
 bd2 (kf 238 [t31] s6) fun t32 s7 =>
 bd2 (aAppend 1 1 t17 t32 s7) fun t33 s8 =>
 bd (o.fa 4 t1) fun t34 =>
 bd (o.ld t34 s8) fun t35 =>
 bd (o.ln t35) fun t36 =>
 bd (o.cv .u64 t36) fun t37 =>
 bd2 (kf 238 [t37] s8) fun t38 s9 =>
 bd2 (aAppend 1 1 t33 t38 s9) fun t39 s10 =>
 ck ((decide (o.ld t34 s6 = o.ld t34 s8) && (decide (o.ld t34 s7 = o.ld t34 s8) && true)) && true) (bd (o.fa 4 t1) fun t41 =>
 bd (o.ld t41 s10) fun t42 =>
 bd2 (aAppend 1 1 t39 t42 s10) fun t43 s11 =>
 nm [t43] s11))
 (bd (o.eql t19 (I .i64 2)) fun t45 =>
 jn (o.br t45 (bd (o.fa 3 t1) fun t47 =>
 bd (o.ld t47 s6) fun t48 =>
 bd (o.cv .u64 t48) fun t49 =>
 bd2 (kf 238 [t49] s6) fun t50 s12 =>
 bd2 (aAppend 1 1 t17 t50 s12) fun t51 s13 =>
 nm [t51] s13)
 (bd (o.fa 2 t1) fun t21 =>
 bd (o.ld t21 s6) fun t22 =>
 bd (o.cv .u64 t22) fun t23 =>
 bd2 (kf 238 [t23] s6) fun t24 s14 =>
 bd2 (aAppend 1 1 t17 t24 s14) fun t25 s15 =>
 nm [t25] s15))
 (fun v16 s17 => o.vk v16 0 fun v16_0 =>
 nm [v16_0] s17)
 (fun i18 v16 s17 => jE i18 v16 s17)
 (fun r19 s17 => jR r19 s17)))
 (fun v20 s21 => o.vk v20 0 fun v20_0 =>
 nm [v20_0] s21)
 (fun i22 v20 s21 => if i22 = 0 then nm v20 s21 else jE i22 v20 s21)
 (fun r23 s21 => jR r23 s21))
 (fun v24 s25 => o.vk v24 0 fun v24_0 =>
 bd2 (kf 239 [v24_0] s25) fun t53 s28 =>
 bd (o.cv .u8 t53) fun t55 =>
 bd (o.bin .shr t53 (I .u64 8)) fun t57 =>
 bd (o.cv .u8 t57) fun t58 =>
 bd (o.bin .shr t53 (I .u64 16)) fun t60 =>
 bd (o.cv .u8 t60) fun t61 =>
 bd (o.bin .shr t53 (I .u64 24)) fun t63 =>
 bd (o.cv .u8 t63) fun t64 =>
 bd2 (o.new s28 (nSlice 4 (aFill [.int .u8 0, .int .u8 0, .int .u8 0, .int .u8 0] [(0, 1, t55), (1, 1, t58), (2, 1, t61), (3, 1, t64)]))) fun t65 s29 =>
 bd2 (aAppend 1 1 t65 v24_0 s29) fun t67 s30 =>
 bd (retT [t67, (I .i64 0)]) fun r31 =>
 jT r31 s30)
 (fun i26 v24 s25 => none)
 (fun r27 s25 => jT r27 s25))
def f170 (o : Ops) (kf : CallF) (N : Nat) (a0 : T) (s : St) : Option (T × St) :=
 bd2 (o.new s (nBox a0)) fun t1 s1 =>
 bd (o.ldn 5 t1 s1) fun t6 =>
 bd2 (kf 255 [t6] s1) fun t7 s2 =>
 bd (aUn .not t7) fun t8 =>
 o.br t8 (bd (retT [(Z .nils), (I .i64 1)]) fun r3 =>
 jT r3 s2)
 (bd (o.fa 0 t1) fun t9 =>
 bd (o.ld t9 s2) fun t10 =>
 bd (o.cv .u8 t10) fun t11 =>
 f170_1 o kf N s2 t11 t1 t9)
theorem f170_ok : Ok Tryz.prog 170 (fun c => L1 (f170 fast c 8192)) := ok1 (fun o c => f170 o c 8192) Tryz.func170 (by kernel_rfl) (fun c a0 s => by kernel_rfl)

/- bytes.Equal -/
def f171 (o : Ops) (kf : CallF) (N : Nat) (a0 a1 : T) (s : St) : Option (T × St) :=
 bd (aBytesStr a0 s.get) fun t6 =>
 bd (aBytesStr a1 s.get) fun t8 =>
 bd (o.eql t6 t8) fun t9 =>
 jT t9 s
theorem f171_ok : Ok Tryz.prog 171 (fun c => L2 (f171 fast c 8192)) := ok2 (fun o c => f171 o c 8192) Tryz.func171 (by kernel_rfl) (fun c a0 a1 s => by kernel_rfl)

/- (twin.Twin).post -/
def f172 (o : Ops) (kf : CallF) (N : Nat) (a0 a1 a2 : T) (s : St) : Option (T × St) :=
 bd2 (o.new s (nBox a2)) fun t5 s1 =>
 bd (o.ldn 5 t5 s1) fun t9 =>
 bd2 (kf 170 [t9] s1) fun t10 s2 =>
 bd (o.ex t10 0) fun t11 =>
 bd (o.ex t10 1) fun t12 =>
 bd (o.eql t12 (I .i64 0)) fun t14 =>
 jn (o.br t14 (bd (o.nil a0) fun t16 =>
 bd (o.fa 5 t16) fun t17 =>
 bd (o.ld t17 s2) fun t18 =>
 bd2 (kf 101 [t18, a1, t11] s2) fun t21 s3 =>
 nm [] s3)
 (nm [] s2))
 (fun v4 s5 => bd (retT []) fun r8 =>
 jT r8 s5)
 (fun i6 v4 s5 => none)
 (fun r7 s5 => jT r7 s5)
theorem f172_ok : Ok Tryz.prog 172 (fun c => L3 (f172 fast c 8192)) := ok3 (fun o c => f172 o c 8192) Tryz.func172 (by kernel_rfl) (fun c a0 a1 a2 s => by kernel_rfl)

/- (view.Arbiter).Ask -/
def f173_1 (o : Ops) (kf : CallF) (N : Nat) (t47 : T) (s19 : St) (v12_3 t8 v12_2 v12_1 v12_0 : T) : Option (T × St) :=
 o.br t47 (bd2 (kf 157 [] s19) fun t48 s24 =>
 bd2 (o.st 2 v12_3 t48 s24) fun u25 s26 =>
 bd (rC (o.ldn 2 v12_3 s26) (rT (I .i64 8) (some []))) fun l27 =>
 bd (retT l27) fun r28 =>
 jT r28 s26)
 (bd (o.fa 0 t8) fun t49 =>
 bd (o.ld t49 s19) fun t50 =>
 bd (aFold aMax2 t50 [v12_2]) fun t52 =>
 bd (o.add t52 (I .i64 1)) fun t53 =>
 bd (asAggT (aFill [.int .i64 0, .int .i64 0] [(0, 1, t53), (1, 1, v12_1)])) fun t55 =>
 bd2 (o.new s19 (nCells [.int .i64 0, .int .i64 0])) fun t9 s29 =>
 bd2 (o.st 2 t9 t55 s29) fun u30 s31 =>
 bd (o.ldn 2 t9 s31) fun t57 =>
 bd2 (kf 154 [t57] s31) fun t58 s32 =>
 bd (o.ex t58 0) fun t59 =>
 bd (o.ex t58 1) fun t60 =>
 bd (o.nil v12_0) fun t63 =>
 bd (o.fa 0 t63) fun t64 =>
 bd (o.ld t64 s32) fun t65 =>
 bd2 (kf 40 [t65, (Z (.str [118, 105, 101, 119, 115]))] s32) fun t66 s33 =>
 bd (o.ex t66 0) fun t67 =>
 bd (o.ex t66 1) fun t68 =>
 bd (o.nil v12_0) fun t70 =>
 bd (o.fa 0 t70) fun t71 =>
 bd (o.ld t71 s33) fun t72 =>
 bd2 (kf 142 [t72, (Z (.str [118, 105, 101, 119, 115])), t59] s33) fun t74 s34 =>
 bd (o.neq t74 (I .i64 0)) fun t75 =>
 bd (gF t75 (some v12_0)) fun t77 =>
 bd (gF t75 (o.nil t77)) fun t78 =>
 bd (gF t75 (o.fa 0 t78)) fun t79 =>
 bd (gF t75 (o.ld t79 s34)) fun t80 =>
 bd2 (gS (gd t75 false) s34 (kf 144 [t80, (Z (.str [118, 105, 101, 119, 115]))] s34)) fun t81 s35 =>
 bd (gF t75 (o.neq t81 (I .i64 0))) fun t82 =>
 bd (pT t75 t82) fun t83 =>
 o.br t83 (bd (o.nil v12_0) fun t85 =>
 bd (o.fa 0 t85) fun t86 =>
 bd (o.ld t86 s35) fun t87 =>
 bd (o.ln t67) fun t89 =>
 bd2 (kf 143 [t87, (Z (.str [118, 105, 101, 119, 115])), t89] s35) fun t90 s36 =>
 bd2 (kf 157 [] s36) fun t91 s37 =>
 bd2 (o.st 2 v12_3 t91 s37) fun u38 s39 =>
 bd (rC (o.ldn 2 v12_3 s39) (rT (I .i64 10) (some []))) fun l40 =>
 bd (retT l40) fun r41 =>
 jT r41 s39)
 (bd (o.nil v12_0) fun t94 =>
 bd (o.fa 1 t94) fun t95 =>
 bd (o.ld t95 s35) fun t96 =>
 bd (o.ldn 2 t9 s35) fun t97 =>
 bd2 (o.new s35 (nSlice 1 (aFill [.int .i64 0, .int .i64 0] [(0, 2, t97)]))) fun t98 s42 =>
 bd2 (aAppend 2 16 t96 t98 s42) fun t99 s43 =>
 bd (o.nil v12_0) fun t100 =>
 bd (o.fa 1 t100) fun t101 =>
 bd2 (o.st 1 t101 t99 s43) fun u44 s45 =>
 bd (o.ldn 2 t9 s45) fun t102 =>
 bd2 (o.st 2 v12_3 t102 s45) fun u46 s47 =>
 bd (rC (o.ldn 2 v12_3 s47) (rT (I .i64 0) (some []))) fun l48 =>
 bd (retT l48) fun r49 =>
 jT r49 s47))
def f173 (o : Ops) (kf : CallF) (N : Nat) (a0 a1 a2 : T) (s : St) : Option (T × St) :=
 bd2 (o.new s (nCells [.int .i64 0, .int .i64 0])) fun t6 s1 =>
 jn (bd (eqB .p a0 (Z .nilp)) fun t16 =>
 o.br t16 (bd2 (kf 157 [] s1) fun t17 s2 =>
 bd2 (o.st 2 t6 t17 s2) fun u3 s4 =>
 bd (rC (o.ldn 2 t6 s4) (rT (I .i64 10) (some []))) fun l5 =>
 bd (retT l5) fun r6 =>
 jR r6 s4)
 (bd (o.lss a1 (I .i64 0)) fun t20 =>
 bd (gF t20 (some a1)) fun t22 =>
 bd (gF t20 (o.geq t22 (I .i64 2))) fun t23 =>
 bd (pT t20 t23) fun t24 =>
 bd (gF t24 (some a2)) fun t26 =>
 bd (gF t24 (o.lss t26 (I .i64 0))) fun t27 =>
 bd (pT t24 t27) fun t28 =>
 o.br t28 (bd2 (kf 157 [] s1) fun t29 s7 =>
 bd2 (o.st 2 t6 t29 s7) fun u8 s9 =>
 bd (rC (o.ldn 2 t6 s9) (rT (I .i64 1) (some []))) fun l10 =>
 bd (retT l10) fun r11 =>
 jR r11 s9)
 (nm [a0, a1, a2, t6] s1)))
 (fun v12 s13 => o.vk v12 0 fun v12_0 =>
 o.vk v12 1 fun v12_1 =>
 o.vk v12 2 fun v12_2 =>
 o.vk v12 3 fun v12_3 =>
 bd2 (kf 84 [v12_0] s13) fun t31 s16 =>
 bd2 (o.new s16 (nCells [.int .i64 0, .int .i64 0])) fun t8 s17 =>
 bd2 (o.st 2 t8 t31 s17) fun u18 s19 =>
 bd (o.fa 1 t8) fun t32 =>
 bd (o.ld t32 s19) fun t33 =>
 bd (o.eql t33 v12_1) fun t35 =>
 bd (gF t35 (some v12_2)) fun t37 =>
 bd (gF t35 (o.fa 0 t8)) fun t38 =>
 bd (gF t35 (o.ld t38 s19)) fun t39 =>
 bd (gF t35 (o.lss t37 t39)) fun t40 =>
 bd (pT t35 t40) fun t41 =>
 o.br t41 (bd (o.ldn 2 t8 s19) fun t42 =>
 bd2 (o.st 2 v12_3 t42 s19) fun u20 s21 =>
 bd (rC (o.ldn 2 v12_3 s21) (rT (I .i64 0) (some []))) fun l22 =>
 bd (retT l22) fun r23 =>
 jT r23 s21)
 (bd (o.fa 0 t8) fun t43 =>
 bd (o.ld t43 s19) fun t44 =>
 bd (aFold aMax2 t44 [v12_2]) fun t46 =>
 bd (o.geq t46 (I .i64 1073741824)) fun t47 =>
 f173_1 o kf N t47 s19 v12_3 t8 v12_2 v12_1 v12_0))
 (fun i14 v12 s13 => none)
 (fun r15 s13 => jT r15 s13)
theorem f173_ok : Ok Tryz.prog 173 (fun c => L3 (f173 fast c 8192)) := ok3 (fun o c => f173 o c 8192) Tryz.func173 (by kernel_rfl) (fun c a0 a1 a2 s => by kernel_rfl)

/- (twin.site).keepGrant -/
def f174 (o : Ops) (kf : CallF) (N : Nat) (a0 a1 a2 a3 : T) (s : St) : Option (T × St) :=
 bd2 (o.new s (nSlice 3 (aFill [.int .i64 0, .int .i64 0, .int .i64 0] [(0, 1, a1), (1, 1, a2), (2, 1, a3)]))) fun t13 s1 =>
 bd2 (kf 194 [t13] s1) fun t14 s2 =>
 bd2 (kf 193 [t14] s2) fun t15 s3 =>
 bd2 (kf 256 [a0, (Z (.str [118, 105, 101, 119])), t15] s3) fun t16 s4 =>
 bd (aUn .not t16) fun t17 =>
 o.br t17 (jT (B false) s4)
 (bd (o.nil a0) fun t24 =>
 bd (o.fa 5 t24) fun t25 =>
 bd2 (o.st 1 t25 a1 s4) fun u5 s6 =>
 bd (o.nil a0) fun t26 =>
 bd (o.fa 6 t26) fun t27 =>
 bd2 (o.st 1 t27 a2 s6) fun u7 s8 =>
 bd (o.nil a0) fun t28 =>
 bd (o.fa 7 t28) fun t29 =>
 bd2 (o.st 1 t29 a3 s8) fun u9 s10 =>
 jT (B true) s10)
theorem f174_ok : Ok Tryz.prog 174 (fun c => L4 (f174 fast c 8192)) := ok4 (fun o c => f174 o c 8192) Tryz.func174 (by kernel_rfl) (fun c a0 a1 a2 a3 s => by kernel_rfl)

/- (mark.Mark).View -/
def f175 (o : Ops) (kf : CallF) (N : Nat) (a0 a1 : T) (s : St) : Option (T × St) :=
 jn (bd (eqB .p a0 (Z .nilp)) fun t7 =>
 o.br t7 (jR (I .i64 10) s)
 (bd (o.nil a0) fun t11 =>
 bd (o.fa 0 t11) fun t12 =>
 bd (o.ld t12 s) fun t13 =>
 bd (o.leq a1 t13) fun t14 =>
 bd (gF t14 (some a1)) fun t16 =>
 bd (gF t14 (o.gtr t16 (I .i64 1073741824))) fun t17 =>
 bd (pT t14 t17) fun t18 =>
 o.br t18 (jR (I .i64 12) s)
 (nm [a0, a1] s)))
 (fun v1 s2 => o.vk v1 0 fun v1_0 =>
 o.vk v1 1 fun v1_1 =>
 bd (o.nil v1_0) fun t22 =>
 bd (o.fa 0 t22) fun t23 =>
 bd2 (o.st 1 t23 v1_1 s2) fun u5 s6 =>
 bd (o.nil v1_0) fun t24 =>
 bd (o.fa 2 t24) fun t25 =>
 bd2 (o.st 1 t25 (I .i64 0) s6) fun u7 s8 =>
 jT (I .i64 0) s8)
 (fun i3 v1 s2 => none)
 (fun r4 s2 => jT r4 s2)
theorem f175_ok : Ok Tryz.prog 175 (fun c => L2 (f175 fast c 8192)) := ok2 (fun o c => f175 o c 8192) Tryz.func175 (by kernel_rfl) (fun c a0 a1 s => by kernel_rfl)

/- (mark.Mark).Own -/
def f176 (o : Ops) (kf : CallF) (N : Nat) (a0 a1 : T) (s : St) : Option (T × St) :=
 jn (bd (eqB .p a0 (Z .nilp)) fun t7 =>
 o.br t7 (jR (I .i64 10) s)
 (bd (o.nil a0) fun t11 =>
 bd (o.fa 3 t11) fun t12 =>
 bd (o.ld t12 s) fun t13 =>
 bd (o.lss a1 t13) fun t14 =>
 bd (gF t14 (some a1)) fun t16 =>
 bd2 (gS (gd t14 false) s (kf 236 [t16] s)) fun t17 s1 =>
 bd (gF t14 (aUn .not t17)) fun t18 =>
 bd (pT t14 t18) fun t19 =>
 o.br t19 (jR (I .i64 5) s1)
 (nm [a0, a1] s1)))
 (fun v2 s3 => o.vk v2 0 fun v2_0 =>
 o.vk v2 1 fun v2_1 =>
 bd (o.nil v2_0) fun t22 =>
 bd (o.fa 1 t22) fun t23 =>
 bd2 (o.st 1 t23 v2_1 s3) fun u6 s7 =>
 bd2 (kf 257 [v2_0] s7) fun t25 s8 =>
 jT t25 s8)
 (fun i4 v2 s3 => none)
 (fun r5 s3 => jT r5 s3)
theorem f176_ok : Ok Tryz.prog 176 (fun c => L2 (f176 fast c 8192)) := ok2 (fun o c => f176 o c 8192) Tryz.func176 (by kernel_rfl) (fun c a0 a1 s => by kernel_rfl)

/- vary.Zag -/
def f177 (o : Ops) (kf : CallF) (N : Nat) (a0 : T) (s : St) : Option (T × St) :=
 bd (o.bin .and a0 (I .u64 1)) fun t4 =>
 bd (o.eql t4 (I .u64 1)) fun t5 =>
 o.br t5 (bd (o.bin .shr a0 (I .u64 1)) fun t7 =>
 bd (o.cv .i64 t7) fun t8 =>
 bd (aUn .xor t8) fun t9 =>
 jT t9 s)
 (bd (o.bin .shr a0 (I .u64 1)) fun t11 =>
 bd (o.cv .i64 t11) fun t12 =>
 jT t12 s)
theorem f177_ok : Ok Tryz.prog 177 (fun c => L1 (f177 fast c 8192)) := ok1 (fun o c => f177 o c 8192) Tryz.func177 (by kernel_rfl) (fun c a0 s => by kernel_rfl)

/- (mark.Mark).Peer -/
def f179 (o : Ops) (kf : CallF) (N : Nat) (a0 a1 a2 : T) (s : St) : Option (T × St) :=
 jn (bd (eqB .p a0 (Z .nilp)) fun t9 =>
 o.br t9 (jR (I .i64 10) s)
 (bd (o.nil a0) fun t13 =>
 bd (o.fa 0 t13) fun t14 =>
 bd (o.ld t14 s) fun t15 =>
 bd (o.neq a1 t15) fun t16 =>
 o.br t16 (jR (I .i64 12) s)
 (bd2 (kf 236 [a2] s) fun t19 s1 =>
 bd (aUn .not t19) fun t20 =>
 o.br t20 (jR (I .i64 5) s1)
 (nm [a0, a2] s1))))
 (fun v2 s3 => o.vk v2 0 fun v2_0 =>
 o.vk v2 1 fun v2_1 =>
 bd (o.nil v2_0) fun t23 =>
 bd (o.fa 2 t23) fun t24 =>
 bd (o.ld t24 s3) fun t25 =>
 bd (aFold aMax2 t25 [v2_1]) fun t27 =>
 bd (o.nil v2_0) fun t28 =>
 bd (o.fa 2 t28) fun t29 =>
 bd2 (o.st 1 t29 t27 s3) fun u6 s7 =>
 bd2 (kf 257 [v2_0] s7) fun t31 s8 =>
 jT t31 s8)
 (fun i4 v2 s3 => none)
 (fun r5 s3 => jT r5 s3)
theorem f179_ok : Ok Tryz.prog 179 (fun c => L3 (f179 fast c 8192)) := ok3 (fun o c => f179 o c 8192) Tryz.func179 (by kernel_rfl) (fun c a0 a1 a2 s => by kernel_rfl)

/- (twin.Twin).safe -/
def f180_l1 (o : Ops) (kf : CallF) (N : Nat) (v : List T) (s : St) : Option (JO × St) :=
 o.vk v 0 fun v_0 =>
 o.vk v 1 fun v_1 =>
 o.vk v 2 fun v_2 =>
 o.vk v 3 fun v_3 =>
 o.vk v 4 fun v_4 =>
 o.vk v 5 fun v_5 =>
 bd (o.lss v_5 v_4) fun t15 =>
 o.br t15 (jn (bd (o.nil v_0) fun t18 =>
 bd (o.fa 6 t18) fun t19 =>
 bd (o.ld t19 s) fun t20 =>
 bd (o.ix 5 t20 v_5) fun t22 =>
 bd (o.fa 2 t22) fun t23 =>
 bd (o.ld t23 s) fun t24 =>
 bd (o.eql t24 v_1) fun t26 =>
 bd (gU t26 (some v_0)) fun t28 =>
 bd (gU t26 (o.nil t28)) fun t29 =>
 bd (gU t26 (o.fa 6 t29)) fun t30 =>
 bd (gU t26 (o.ld t30 s)) fun t31 =>
 bd (gU t26 (some v_5)) fun t32 =>
 bd (gU t26 (o.ix 5 t31 t32)) fun t33 =>
 bd (gU t26 (o.fa 3 t33)) fun t34 =>
 bd (gU t26 (o.ld t34 s)) fun t35 =>
 bd (gU t26 (some v_2)) fun t36 =>
 bd (gU t26 (o.eql t35 t36)) fun t37 =>
 bd (pF t26 t37) fun t38 =>
 bd (gU t38 (some v_0)) fun t40 =>
 bd (gU t38 (o.nil t40)) fun t41 =>
 bd (gU t38 (o.fa 7 t41)) fun t42 =>
 bd (gU t38 (o.ld t42 s)) fun t43 =>
 bd (gU t38 (some v_5)) fun t44 =>
 bd (gU t38 (o.ix 1 t43 t44)) fun t45 =>
 bd (gU t38 (o.ld t45 s)) fun t46 =>
 bd (gU t38 (some v_3)) fun t47 =>
 bd (gU t38 (o.leq t46 t47)) fun t48 =>
 bd (pF t38 t48) fun t49 =>
 jn (o.br t49 (bd (o.nil v_0) fun t51 =>
 bd (o.fa 6 t51) fun t52 =>
 bd (o.ld t52 s) fun t53 =>
 bd (o.ix 5 t53 v_5) fun t55 =>
 bd (o.fa 4 t55) fun t56 =>
 bd2 (o.st 1 t56 (B true) s) fun u1 s2 =>
 nm [v_0, v_1, v_2, v_3, v_4, v_5] s2)
 (nm [v_0, v_1, v_2, v_3, v_4, v_5] s))
 (fun v3 s4 => o.vk v3 0 fun v3_0 =>
 o.vk v3 1 fun v3_1 =>
 o.vk v3 2 fun v3_2 =>
 o.vk v3 3 fun v3_3 =>
 o.vk v3 4 fun v3_4 =>
 o.vk v3 5 fun v3_5 =>
 nm [v3_0, v3_1, v3_2, v3_3, v3_4, v3_5] s4)
 (fun i5 v3 s4 => if i5 = 1 then nm v3 s4 else jE i5 v3 s4)
 (fun r6 s4 => jR r6 s4))
 (fun v7 s8 => o.vk v7 0 fun v7_0 =>
 o.vk v7 1 fun v7_1 =>
 o.vk v7 2 fun v7_2 =>
 o.vk v7 3 fun v7_3 =>
 o.vk v7 4 fun v7_4 =>
 o.vk v7 5 fun v7_5 =>
 bd (o.add v7_5 (I .i64 1)) fun t57 =>
 nm [v7_0, v7_1, v7_2, v7_3, v7_4, t57] s8)
 (fun i9 v7 s8 => jE i9 v7 s8)
 (fun r10 s8 => jR r10 s8))
 (jE 0 [] s)
def f180 (o : Ops) (kf : CallF) (N : Nat) (a0 a1 a2 a3 : T) (s : St) : Option (T × St) :=
 bd (o.nil a0) fun t10 =>
 bd (o.fa 6 t10) fun t11 =>
 bd (o.ld t11 s) fun t12 =>
 bd (o.ln t12) fun t13 =>
 jn (jn (o.loops (f180_l1 o kf N) N [a0, a1, a2, a3, t13, (I .i64 0)] s)
 (fun v11 s12 => nm [] s12)
 (fun i13 v11 s12 => if i13 = 0 then nm v11 s12 else jE i13 v11 s12)
 (fun r14 s12 => jR r14 s12))
 (fun v15 s16 => bd (retT []) fun r19 =>
 jT r19 s16)
 (fun i17 v15 s16 => none)
 (fun r18 s16 => jT r18 s16)
theorem f180_ok : Ok Tryz.prog 180 (fun c => L4 (f180 fast c 8192)) := ok4 (fun o c => f180 o c 8192) Tryz.func180 (by kernel_rfl) (fun c a0 a1 a2 a3 s => by kernel_rfl)

/- (twin.site).had -/
def f181 (o : Ops) (kf : CallF) (N : Nat) (a0 : T) (s : St) : Option (T × St) :=
 bd (o.nil a0) fun t4 =>
 bd (o.fa 17 t4) fun t5 =>
 bd (o.fa 1 t5) fun t6 =>
 bd (o.ld t6 s) fun t7 =>
 bd (o.nil a0) fun t9 =>
 bd (o.fa 8 t9) fun t10 =>
 bd (o.fa 3 t10) fun t11 =>
 bd (o.ld t11 s) fun t12 =>
 bd (o.geq t7 t12) fun t13 =>
 o.br t13 (bd (o.nil a0) fun t15 =>
 bd (o.fa 17 t15) fun t16 =>
 bd (o.fa 2 t16) fun t17 =>
 bd (o.ld t17 s) fun t18 =>
 bd (o.nil a0) fun t20 =>
 bd (o.fa 8 t20) fun t21 =>
 bd (o.fa 2 t21) fun t22 =>
 bd (o.ld t22 s) fun t23 =>
 bd (aFold aMax2 t18 [t23]) fun t24 =>
 jT t24 s)
 (bd (o.nil a0) fun t26 =>
 bd (o.fa 17 t26) fun t27 =>
 bd (o.fa 2 t27) fun t28 =>
 bd (o.ld t28 s) fun t29 =>
 jT t29 s)
theorem f181_ok : Ok Tryz.prog 181 (fun c => L1 (f181 fast c 8192)) := ok1 (fun o c => f181 o c 8192) Tryz.func181 (by kernel_rfl) (fun c a0 s => by kernel_rfl)

/- (twin.site).behind -/
def f182 (o : Ops) (kf : CallF) (N : Nat) (a0 : T) (s : St) : Option (T × St) :=
 bd (o.nil a0) fun t4 =>
 bd (o.fa 17 t4) fun t5 =>
 bd (o.fa 0 t5) fun t6 =>
 bd (o.ld t6 s) fun t7 =>
 bd (aUn .not t7) fun t8 =>
 bd (gF t8 (some a0)) fun t10 =>
 bd (gF t8 (o.nil t10)) fun t11 =>
 bd (gF t8 (o.fa 17 t11)) fun t12 =>
 bd (gF t8 (o.fa 1 t12)) fun t13 =>
 bd (gF t8 (o.ld t13 s)) fun t14 =>
 bd (gF t8 (some a0)) fun t15 =>
 bd (gF t8 (o.nil t15)) fun t16 =>
 bd (gF t8 (o.fa 3 t16)) fun t17 =>
 bd (gF t8 (o.ld t17 s)) fun t18 =>
 bd2 (gS (gd t8 false) s (kf 151 [t18] s)) fun t19 s1 =>
 bd (gF t8 (o.lss t14 t19)) fun t20 =>
 bd (pT t8 t20) fun t21 =>
 bd (gF t21 (some a0)) fun t23 =>
 bd2 (gS (gd t21 false) s1 (kf 181 [t23] s1)) fun t24 s2 =>
 bd (gF t21 (some a0)) fun t25 =>
 bd (gF t21 (o.nil t25)) fun t26 =>
 bd (gF t21 (o.fa 8 t26)) fun t27 =>
 bd (gF t21 (o.fa 1 t27)) fun t28 =>
 bd (gF t21 (o.ld t28 s2)) fun t29 =>
 bd (gF t21 (o.lss t24 t29)) fun t30 =>
 bd (pT t21 t30) fun t31 =>
 bd (gF t31 (some a0)) fun t33 =>
 bd (gF t31 (o.nil t33)) fun t34 =>
 bd (gF t31 (o.fa 17 t34)) fun t35 =>
 bd (gF t31 (o.fa 3 t35)) fun t36 =>
 bd (gF t31 (o.ld t36 s2)) fun t37 =>
 bd (gF t31 (o.gtr t37 (I .i64 0))) fun t38 =>
 bd (pT t31 t38) fun t39 =>
 ck ((wq (gd t8 false) (decide (o.ld t13 s1 = o.ld t13 s)) && true) && ((wq (gd t21 false) (decide (o.ld t28 s1 = o.ld t28 s2)) && true) && true)) (jT t39 s2)
theorem f182_ok : Ok Tryz.prog 182 (fun c => L1 (f182 fast c 8192)) := ok1 (fun o c => f182 o c 8192) Tryz.func182 (by kernel_rfl) (fun c a0 s => by kernel_rfl)

/- (twin.Twin).push -/
def f183_l1 (o : Ops) (kf : CallF) (N : Nat) (v : List T) (s : St) : Option (JO × St) :=
 o.vk v 0 fun v_0 =>
 o.vk v 1 fun v_1 =>
 o.vk v 2 fun v_2 =>
 o.vk v 3 fun v_3 =>
 o.vk v 4 fun v_4 =>
 o.vk v 5 fun v_5 =>
 o.vk v 6 fun v_6 =>
 o.vk v 7 fun v_7 =>
 bd (o.lss v_7 v_6) fun t64 =>
 o.br t64 (jn (bd (o.ix 8 v_5 v_7) fun t65 =>
 bd (o.ldn 8 t65 s) fun t66 =>
 bd2 (o.new s (nCells [.int .i64 0, .int .i64 0, .int .i64 0, .int .i64 0, .int .i64 0, .int .i64 0, .int .u32 0, .str []])) fun t10 s6 =>
 bd2 (o.st 8 t10 t66 s6) fun u7 s8 =>
 bd (o.ldn 8 t10 s8) fun t68 =>
 bd2 (kf 258 [t68] s8) fun t69 s9 =>
 bd (o.ex t69 0) fun t70 =>
 bd (o.ex t69 1) fun t71 =>
 bd (o.ln t70) fun t74 =>
 bd (o.add t74 (I .i64 2)) fun t75 =>
 bd (o.add v_4 t75) fun t76 =>
 bd (o.gtr t76 (I .i64 1200)) fun t78 =>
 bd (gU t78 (o.fa 5 v_2)) fun t80 =>
 bd (gU t78 (o.ld t80 s9)) fun t81 =>
 bd (gU t78 (o.ln t81)) fun t82 =>
 bd (gU t78 (o.gtr t82 (I .i64 0))) fun t83 =>
 bd (pF t78 t83) fun t84 =>
 o.br t84 (jE 0 [v_0, v_1, v_2, v_3] s9)
 (bd (o.fa 5 v_2) fun t85 =>
 bd (o.ld t85 s9) fun t86 =>
 bd (o.ldn 8 t10 s9) fun t87 =>
 bd2 (o.new s9 (nSlice 1 (aFill [.int .i64 0, .int .i64 0, .int .i64 0, .int .i64 0, .int .i64 0, .int .i64 0, .int .u32 0, .str []] [(0, 8, t87)]))) fun t88 s10 =>
 bd2 (aAppend 8 72 t86 t88 s10) fun t89 s11 =>
 bd (o.fa 5 v_2) fun t90 =>
 bd2 (o.st 1 t90 t89 s11) fun u12 s13 =>
 bd (o.eql v_3 (I .i64 0)) fun t92 =>
 bd (gU t92 (o.fa 0 t10)) fun t94 =>
 bd (gU t92 (o.ld t94 s13)) fun t95 =>
 bd (gU t92 (o.eql t95 (I .i64 1))) fun t96 =>
 bd (pF t92 t96) fun t97 =>
 jn (o.br t97 (bd (o.fa 2 t10) fun t98 =>
 bd (o.ld t98 s13) fun t99 =>
 nm [v_0, v_1, v_2, t99, t76, v_5, v_6, v_7] s13)
 (nm [v_0, v_1, v_2, v_3, t76, v_5, v_6, v_7] s13))
 (fun v14 s15 => o.vk v14 0 fun v14_0 =>
 o.vk v14 1 fun v14_1 =>
 o.vk v14 2 fun v14_2 =>
 o.vk v14 3 fun v14_3 =>
 o.vk v14 4 fun v14_4 =>
 o.vk v14 5 fun v14_5 =>
 o.vk v14 6 fun v14_6 =>
 o.vk v14 7 fun v14_7 =>
 nm [v14_0, v14_1, v14_2, v14_3, v14_4, v14_5, v14_6, v14_7] s15)
 (fun i16 v14 s15 => if i16 = 1 then nm v14 s15 else jE i16 v14 s15)
 (fun r17 s15 => jR r17 s15)))
 (fun v18 s19 => o.vk v18 0 fun v18_0 =>
 o.vk v18 1 fun v18_1 =>
 o.vk v18 2 fun v18_2 =>
 o.vk v18 3 fun v18_3 =>
 o.vk v18 4 fun v18_4 =>
 o.vk v18 5 fun v18_5 =>
 o.vk v18 6 fun v18_6 =>
 o.vk v18 7 fun v18_7 =>
 bd (o.add v18_7 (I .i64 1)) fun t100 =>
 nm [v18_0, v18_1, v18_2, v18_3, v18_4, v18_5, v18_6, t100] s19)
 (fun i20 v18 s19 => jE i20 v18 s19)
 (fun r21 s19 => jR r21 s19))
 (jE 0 [v_0, v_1, v_2, v_3] s)
def f183_l2 (o : Ops) (kf : CallF) (N : Nat) (v : List T) (s : St) : Option (JO × St) :=
 o.vk v 0 fun v_0 =>
 o.vk v 1 fun v_1 =>
 o.vk v 2 fun v_2 =>
 o.vk v 3 fun v_3 =>
 o.vk v 4 fun v_4 =>
 o.vk v 5 fun v_5 =>
 bd (o.lss v_5 v_4) fun t121 =>
 o.br t121 (jn (bd (o.ix 3 v_3 v_5) fun t122 =>
 bd (o.ldn 3 t122 s) fun t123 =>
 bd2 (o.new s (nCells [.int .i64 0, .int .i64 0, .int .i64 0])) fun t14 s38 =>
 bd2 (o.st 3 t14 t123 s38) fun u39 s40 =>
 bd (o.fa 0 t14) fun t124 =>
 bd (o.ld t124 s40) fun t125 =>
 bd2 (kf 181 [v_1] s40) fun t127 s41 =>
 bd (o.gtr t125 t127) fun t128 =>
 bd (gU t128 (o.fa 7 v_2)) fun t130 =>
 bd (gU t128 (o.ld t130 s41)) fun t131 =>
 bd (gU t128 (o.ln t131)) fun t132 =>
 bd (gU t128 (o.lss t132 (I .i64 40))) fun t133 =>
 bd (pF t128 t133) fun t134 =>
 ck ((decide (o.ld t124 s41 = o.ld t124 s40) && true) && true) (jn (o.br t134 (bd (o.fa 7 v_2) fun t135 =>
 bd (o.ld t135 s41) fun t136 =>
 bd (o.ldn 3 t14 s41) fun t137 =>
 bd2 (o.new s41 (nSlice 1 (aFill [.int .i64 0, .int .i64 0, .int .i64 0] [(0, 3, t137)]))) fun t138 s42 =>
 bd2 (aAppend 3 24 t136 t138 s42) fun t139 s43 =>
 bd (o.fa 7 v_2) fun t140 =>
 bd2 (o.st 1 t140 t139 s43) fun u44 s45 =>
 nm [v_0, v_1, v_2, v_3, v_4, v_5] s45)
 (nm [v_0, v_1, v_2, v_3, v_4, v_5] s41))
 (fun v46 s47 => o.vk v46 0 fun v46_0 =>
 o.vk v46 1 fun v46_1 =>
 o.vk v46 2 fun v46_2 =>
 o.vk v46 3 fun v46_3 =>
 o.vk v46 4 fun v46_4 =>
 o.vk v46 5 fun v46_5 =>
 nm [v46_0, v46_1, v46_2, v46_3, v46_4, v46_5] s47)
 (fun i48 v46 s47 => if i48 = 3 then nm v46 s47 else jE i48 v46 s47)
 (fun r49 s47 => jR r49 s47)))
 (fun v50 s51 => o.vk v50 0 fun v50_0 =>
 o.vk v50 1 fun v50_1 =>
 o.vk v50 2 fun v50_2 =>
 o.vk v50 3 fun v50_3 =>
 o.vk v50 4 fun v50_4 =>
 o.vk v50 5 fun v50_5 =>
 bd (o.add v50_5 (I .i64 1)) fun t141 =>
 nm [v50_0, v50_1, v50_2, v50_3, v50_4, t141] s51)
 (fun i52 v50 s51 => jE i52 v50 s51)
 (fun r53 s51 => jR r53 s51))
 (jE 2 [v_0, v_1, v_2] s)
def f183_1 (o : Ops) (kf : CallF) (N : Nat) (t102 v26_1 : T) (s27 : St) (v26_3 v26_2 v26_0 : T) : Option (T × St) :=
 jn (o.br t102 (bd (o.nil v26_1) fun t105 =>
 bd (o.fa 1 t105) fun t106 =>
 bd (o.ld t106 s27) fun t107 =>
 bd2 (kf 131 [v26_3] s27) fun t109 s30 =>
 bd2 (kf 40 [t107, t109] s30) fun t110 s31 =>
 bd (o.ex t110 0) fun t111 =>
 bd (o.ex t110 1) fun t112 =>
 bd (o.fa 6 v26_2) fun t113 =>
 bd2 (o.st 1 t113 t111 s31) fun u32 s33 =>
 ck ((decide (o.ld t106 s30 = o.ld t106 s27) && true) && true) (nm [v26_0, v26_1, v26_2] s33))
 (nm [v26_0, v26_1, v26_2] s27))
 (fun v34 s35 => o.vk v34 0 fun v34_0 =>
 o.vk v34 1 fun v34_1 =>
 o.vk v34 2 fun v34_2 =>
 bd (o.nil v34_1) fun t115 =>
 bd (o.fa 8 t115) fun t116 =>
 bd (o.fa 4 t116) fun t117 =>
 bd (o.ld t117 s35) fun t118 =>
 bd (o.ln t118) fun t119 =>
 jn (jn (o.loops (f183_l2 o kf N) N [v34_0, v34_1, v34_2, t118, t119, (I .i64 0)] s35)
 (fun v54 s55 => nm [.any, .any, .any] s55)
 (fun i56 v54 s55 => if i56 = 2 then nm v54 s55 else jE i56 v54 s55)
 (fun r57 s55 => jR r57 s55))
 (fun v58 s59 => o.vk v58 0 fun v58_0 =>
 o.vk v58 1 fun v58_1 =>
 o.vk v58 2 fun v58_2 =>
 bd (o.ldn 8 v58_2 s59) fun t142 =>
 bd2 (kf 259 [t142] s59) fun t143 s62 =>
 bd (o.ln t143) fun t145 =>
 bd (o.leq t145 (I .i64 4100)) fun t146 =>
 jn (o.br t146 (bd (o.nil v58_1) fun t149 =>
 bd (o.fa 0 t149) fun t150 =>
 bd (o.ld t150 s62) fun t151 =>
 bd (o.sub (I .i64 1) t151) fun t152 =>
 bd (o.nil v58_1) fun t154 =>
 bd (o.fa 5 t154) fun t155 =>
 bd (o.ld t155 s62) fun t156 =>
 bd2 (kf 260 [v58_0, t152, t156, t143] s62) fun t158 s63 =>
 nm [v58_0, v58_1] s63)
 (bd (o.fa 5 v58_2) fun t159 =>
 bd2 (o.st 1 t159 (Z .nils) s62) fun u64 s65 =>
 bd (o.fa 7 v58_2) fun t160 =>
 bd2 (o.st 1 t160 (Z .nils) s65) fun u66 s67 =>
 bd (o.nil v58_1) fun t163 =>
 bd (o.fa 0 t163) fun t164 =>
 bd (o.ld t164 s67) fun t165 =>
 bd (o.sub (I .i64 1) t165) fun t166 =>
 bd (o.nil v58_1) fun t168 =>
 bd (o.fa 5 t168) fun t169 =>
 bd (o.ld t169 s67) fun t170 =>
 bd (o.ldn 8 v58_2 s67) fun t171 =>
 bd2 (kf 259 [t171] s67) fun t172 s68 =>
 bd2 (kf 260 [v58_0, t166, t170, t172] s68) fun t173 s69 =>
 ck ((decide (o.ld t164 s68 = o.ld t164 s67) && true) && ((decide (o.ld t169 s68 = o.ld t169 s67) && true) && true)) (nm [v58_0, v58_1] s69)))
 (fun v70 s71 => o.vk v70 0 fun v70_0 =>
 o.vk v70 1 fun v70_1 =>
 bd (o.nil v70_0) fun t176 =>
 bd (o.fa 0 t176) fun t177 =>
 bd (o.ld t177 s71) fun t178 =>
 bd (o.add t178 (I .i64 3)) fun t179 =>
 bd (o.nil v70_1) fun t180 =>
 bd (o.fa 24 t180) fun t181 =>
 bd2 (o.st 1 t181 t179 s71) fun u74 s75 =>
 bd (retT []) fun r76 =>
 jT r76 s75)
 (fun i72 v70 s71 => none)
 (fun r73 s71 => jT r73 s71))
 (fun i60 v58 s59 => none)
 (fun r61 s59 => jT r61 s59))
 (fun i36 v34 s35 => none)
 (fun r37 s35 => jT r37 s35)
def f183 (o : Ops) (kf : CallF) (N : Nat) (a0 a1 : T) (s : St) : Option (T × St) :=
 bd (o.nil a1) fun t17 =>
 bd (o.fa 3 t17) fun t18 =>
 bd (o.ld t18 s) fun t19 =>
 bd2 (kf 114 [t19] s) fun t20 s1 =>
 bd (o.nil a1) fun t22 =>
 bd (o.fa 3 t22) fun t23 =>
 bd (o.ld t23 s1) fun t24 =>
 bd2 (kf 151 [t24] s1) fun t25 s2 =>
 bd (aPieceSl 8 t20 none (some t25) none) fun t26 =>
 ck ((decide (o.ld t23 s = o.ld t23 s1) && true) && true) (bd (o.nil a1) fun t28 =>
 bd (o.fa 17 t28) fun t29 =>
 bd (o.fa 1 t29) fun t30 =>
 bd (o.ld t30 s2) fun t31 =>
 bd (o.ln t26) fun t33 =>
 bd (aFold aMin2 t31 [t33]) fun t34 =>
 bd (o.ln t26) fun t36 =>
 bd (o.nil a1) fun t38 =>
 bd (o.fa 8 t38) fun t39 =>
 bd (o.fa 1 t39) fun t40 =>
 bd (o.ld t40 s2) fun t41 =>
 bd (o.nil a1) fun t43 =>
 bd (o.fa 8 t43) fun t44 =>
 bd (o.fa 2 t44) fun t45 =>
 bd (o.ld t45 s2) fun t46 =>
 bd (o.nil a1) fun t48 =>
 bd (o.fa 8 t48) fun t49 =>
 bd (o.fa 3 t49) fun t50 =>
 bd (o.ld t50 s2) fun t51 =>
 bd (asAggT (aFill [.int .i64 0, .int .i64 0, .int .i64 0, .int .i64 0, .int .i64 0, .nils, .nils, .nils] [(0, 1, t36), (1, 1, t41), (2, 1, t46), (3, 1, t51), (4, 1, t34)])) fun t53 =>
 bd2 (o.new s2 (nCells [.int .i64 0, .int .i64 0, .int .i64 0, .int .i64 0, .int .i64 0, .nils, .nils, .nils])) fun t6 s3 =>
 bd2 (o.st 8 t6 t53 s3) fun u4 s5 =>
 bd (o.nil a1) fun t55 =>
 bd (o.fa 17 t55) fun t56 =>
 bd (o.fa 3 t56) fun t57 =>
 bd (o.ld t57 s5) fun t58 =>
 bd (aPieceSl 8 t26 (some t34) none none) fun t61 =>
 bd (o.ln t61) fun t62 =>
 jn (jn (o.loops (f183_l1 o kf N) N [a0, a1, t6, t58, (I .i64 0), t61, t62, (I .i64 0)] s5)
 (fun v22 s23 => nm [.any, .any, .any, .any] s23)
 (fun i24 v22 s23 => if i24 = 0 then nm v22 s23 else jE i24 v22 s23)
 (fun r25 s23 => jR r25 s23))
 (fun v26 s27 => o.vk v26 0 fun v26_0 =>
 o.vk v26 1 fun v26_1 =>
 o.vk v26 2 fun v26_2 =>
 o.vk v26 3 fun v26_3 =>
 bd (o.gtr v26_3 (I .i64 0)) fun t102 =>
 f183_1 o kf N t102 v26_1 s27 v26_3 v26_2 v26_0)
 (fun i28 v26 s27 => none)
 (fun r29 s27 => jT r29 s27))
theorem f183_ok : Ok Tryz.prog 183 (fun c => L2 (f183 fast c 8192)) := ok2 (fun o c => f183 o c 8192) Tryz.func183 (by kernel_rfl) (fun c a0 a1 s => by kernel_rfl)

/- twin.readData -/
def f184_l1 (o : Ops) (kf : CallF) (N : Nat) (v : List T) (s : St) : Option (JO × St) :=
 o.vk v 0 fun v_0 =>
 o.vk v 1 fun v_1 =>
 o.vk v 2 fun v_2 =>
 o.vk v 3 fun v_3 =>
 o.vk v 4 fun v_4 =>
 bd (o.lss v_4 v_3) fun t20 =>
 o.br t20 (jn (bd2 (kf 262 [v_0] s) fun t23 s11 =>
 bd2 (kf 201 [t23] s11) fun t24 s12 =>
 bd (o.ex t24 0) fun t25 =>
 bd (o.ex t24 1) fun t26 =>
 bd2 (o.new s12 (nCells [.int .i64 0, .int .i64 0, .int .i64 0, .int .i64 0, .int .i64 0, .int .i64 0, .int .u32 0, .str []])) fun t4 s13 =>
 bd2 (o.st 8 t4 t25 s13) fun u14 s15 =>
 bd (o.nil v_0) fun t29 =>
 bd (o.fa 2 t29) fun t30 =>
 bd (o.ld t30 s15) fun t31 =>
 bd (gF t31 (some t26)) fun t33 =>
 bd (gF t31 (o.neq t33 (I .i64 0))) fun t34 =>
 bd (pT t31 t34) fun t35 =>
 bd (o.nil v_0) fun t36 =>
 bd (o.fa 2 t36) fun t37 =>
 bd2 (o.st 1 t37 t35 s15) fun u16 s17 =>
 bd (o.fa 5 v_2) fun t38 =>
 bd (o.ld t38 s17) fun t39 =>
 bd (o.ldn 8 t4 s17) fun t40 =>
 bd2 (o.new s17 (nSlice 1 (aFill [.int .i64 0, .int .i64 0, .int .i64 0, .int .i64 0, .int .i64 0, .int .i64 0, .int .u32 0, .str []] [(0, 8, t40)]))) fun t41 s18 =>
 bd2 (aAppend 8 72 t39 t41 s18) fun t42 s19 =>
 bd (o.fa 5 v_2) fun t43 =>
 bd2 (o.st 1 t43 t42 s19) fun u20 s21 =>
 nm [v_0, v_1, v_2, v_3, v_4] s21)
 (fun v22 s23 => o.vk v22 0 fun v22_0 =>
 o.vk v22 1 fun v22_1 =>
 o.vk v22 2 fun v22_2 =>
 o.vk v22 3 fun v22_3 =>
 o.vk v22 4 fun v22_4 =>
 bd (o.add v22_4 (I .i64 1)) fun t44 =>
 nm [v22_0, v22_1, v22_2, v22_3, t44] s23)
 (fun i24 v22 s23 => jE i24 v22 s23)
 (fun r25 s23 => jR r25 s23))
 (jE 0 [v_0, v_1, v_2] s)
def f184_l2 (o : Ops) (kf : CallF) (N : Nat) (v : List T) (s : St) : Option (JO × St) :=
 o.vk v 0 fun v_0 =>
 o.vk v 1 fun v_1 =>
 o.vk v 2 fun v_2 =>
 o.vk v 3 fun v_3 =>
 o.vk v 4 fun v_4 =>
 bd (o.lss v_4 v_3) fun t52 =>
 o.br t52 (jn (bd (o.fa 7 v_2) fun t53 =>
 bd (o.ld t53 s) fun t54 =>
 bd2 (kf 95 [v_0] s) fun t56 s39 =>
 bd2 (kf 95 [v_0] s39) fun t58 s40 =>
 bd2 (kf 95 [v_0] s40) fun t60 s41 =>
 bd (asAggT (aFill [.int .i64 0, .int .i64 0] [(0, 1, t58), (1, 1, t60)])) fun t61 =>
 bd (asAggT (aFill [.int .i64 0, .int .i64 0, .int .i64 0] [(0, 1, t56), (1, 2, t61)])) fun t62 =>
 bd2 (o.new s41 (nSlice 1 (aFill [.int .i64 0, .int .i64 0, .int .i64 0] [(0, 3, t62)]))) fun t63 s42 =>
 bd2 (aAppend 3 24 t54 t63 s42) fun t64 s43 =>
 bd (o.fa 7 v_2) fun t65 =>
 bd2 (o.st 1 t65 t64 s43) fun u44 s45 =>
 ck ((decide (aLoad1 t53 (overlay 4 s39.get (ovO 10 s41.size (nSlice 1 (aFill [.int .i64 0, .int .i64 0, .int .i64 0] [(0, 3, t62)])) [])) = o.ld t53 s) && (decide (aLoad1 t53 (overlay 6 s40.get (ovO 10 s41.size (nSlice 1 (aFill [.int .i64 0, .int .i64 0, .int .i64 0] [(0, 3, t62)])) [])) = o.ld t53 s) && (decide (aLoad1 t53 (overlay 8 s41.get (ovO 10 s41.size (nSlice 1 (aFill [.int .i64 0, .int .i64 0, .int .i64 0] [(0, 3, t62)])) [])) = o.ld t53 s) && true))) && true) (nm [v_0, v_1, v_2, v_3, v_4] s45))
 (fun v46 s47 => o.vk v46 0 fun v46_0 =>
 o.vk v46 1 fun v46_1 =>
 o.vk v46 2 fun v46_2 =>
 o.vk v46 3 fun v46_3 =>
 o.vk v46 4 fun v46_4 =>
 bd (o.add v46_4 (I .i64 1)) fun t66 =>
 nm [v46_0, v46_1, v46_2, v46_3, t66] s47)
 (fun i48 v46 s47 => jE i48 v46 s47)
 (fun r49 s47 => jR r49 s47))
 (jE 2 [v_1, v_2] s)
def f184 (o : Ops) (kf : CallF) (N : Nat) (a0 : T) (s : St) : Option (T × St) :=
 bd2 (o.new s (nCells [.int .i64 0, .int .i64 0, .int .i64 0, .int .i64 0, .int .i64 0, .nils, .nils, .nils])) fun t2 s1 =>
 bd2 (kf 95 [a0] s1) fun t7 s2 =>
 bd2 (kf 95 [a0] s2) fun t9 s3 =>
 bd2 (kf 95 [a0] s3) fun t11 s4 =>
 bd2 (kf 95 [a0] s4) fun t13 s5 =>
 bd2 (kf 95 [a0] s5) fun t15 s6 =>
 bd (asAggT (aFill [.int .i64 0, .int .i64 0, .int .i64 0, .int .i64 0, .int .i64 0, .nils, .nils, .nils] [(0, 1, t7), (1, 1, t9), (2, 1, t11), (3, 1, t13), (4, 1, t15)])) fun t16 =>
 bd2 (o.new s6 (nCells [.int .i64 0, .int .i64 0, .int .i64 0, .int .i64 0, .int .i64 0, .nils, .nils, .nils])) fun t3 s7 =>
 bd2 (o.st 8 t3 t16 s7) fun u8 s9 =>
 bd2 (kf 261 [a0] s9) fun t18 s10 =>
 jn (jn (o.loops (f184_l1 o kf N) N [a0, t2, t3, t18, (I .i64 0)] s10)
 (fun v26 s27 => nm [.any, .any, .any] s27)
 (fun i28 v26 s27 => if i28 = 0 then nm v26 s27 else jE i28 v26 s27)
 (fun r29 s27 => jR r29 s27))
 (fun v30 s31 => o.vk v30 0 fun v30_0 =>
 o.vk v30 1 fun v30_1 =>
 o.vk v30 2 fun v30_2 =>
 bd2 (kf 262 [v30_0] s31) fun t46 s34 =>
 bd2 (kf 263 [t46] s34) fun t47 s35 =>
 bd (o.fa 6 v30_2) fun t48 =>
 bd2 (o.st 1 t48 t47 s35) fun u36 s37 =>
 bd2 (kf 261 [v30_0] s37) fun t50 s38 =>
 jn (jn (o.loops (f184_l2 o kf N) N [v30_0, v30_1, v30_2, t50, (I .i64 0)] s38)
 (fun v50 s51 => nm [.any, .any] s51)
 (fun i52 v50 s51 => if i52 = 2 then nm v50 s51 else jE i52 v50 s51)
 (fun r53 s51 => jR r53 s51))
 (fun v54 s55 => o.vk v54 0 fun v54_0 =>
 o.vk v54 1 fun v54_1 =>
 bd (o.ldn 8 v54_1 s55) fun t67 =>
 bd2 (o.st 8 v54_0 t67 s55) fun u58 s59 =>
 bd (rC (o.ldn 8 v54_0 s59) (some [])) fun l60 =>
 bd (retT l60) fun r61 =>
 jT r61 s59)
 (fun i56 v54 s55 => none)
 (fun r57 s55 => jT r57 s55))
 (fun i32 v30 s31 => none)
 (fun r33 s31 => jT r33 s31)
theorem f184_ok : Ok Tryz.prog 184 (fun c => L1 (f184 fast c 8192)) := ok1 (fun o c => f184 o c 8192) Tryz.func184 (by kernel_rfl) (fun c a0 s => by kernel_rfl)

/- (twin.site).keepJournal -/
def f185_l1 (o : Ops) (kf : CallF) (N : Nat) (v : List T) (s : St) : Option (JO × St) :=
 o.vk v 0 fun v_0 =>
 o.vk v 1 fun v_1 =>
 o.vk v 2 fun v_2 =>
 o.vk v 3 fun v_3 =>
 o.vk v 4 fun v_4 =>
 o.vk v 5 fun v_5 =>
 bd (o.lss v_5 v_4) fun t14 =>
 o.br t14 (jn (bd (o.ix 3 v_3 v_5) fun t15 =>
 bd (o.ldn 3 t15 s) fun t16 =>
 bd2 (o.new s (nCells [.int .i64 0, .int .i64 0, .int .i64 0])) fun t7 s3 =>
 bd2 (o.st 3 t7 t16 s3) fun u4 s5 =>
 bd (o.ldn 3 t7 s5) fun t18 =>
 bd2 (kf 107 [t18] s5) fun t19 s6 =>
 bd2 (aAppend 1 1 v_2 t19 s6) fun t20 s7 =>
 nm [v_0, v_1, t20, v_3, v_4, v_5] s7)
 (fun v8 s9 => o.vk v8 0 fun v8_0 =>
 o.vk v8 1 fun v8_1 =>
 o.vk v8 2 fun v8_2 =>
 o.vk v8 3 fun v8_3 =>
 o.vk v8 4 fun v8_4 =>
 o.vk v8 5 fun v8_5 =>
 bd (o.add v8_5 (I .i64 1)) fun t21 =>
 nm [v8_0, v8_1, v8_2, v8_3, v8_4, t21] s9)
 (fun i10 v8 s9 => jE i10 v8 s9)
 (fun r11 s9 => jR r11 s9))
 (jE 0 [v_0, v_1, v_2] s)
def f185 (o : Ops) (kf : CallF) (N : Nat) (a0 a1 : T) (s : St) : Option (T × St) :=
 bd2 (o.new s (nBox a1)) fun t3 s1 =>
 bd (o.ldn 5 t3 s1) fun t8 =>
 bd2 (kf 264 [t8] s1) fun t9 s2 =>
 bd (o.fa 4 t3) fun t10 =>
 bd (o.ld t10 s2) fun t11 =>
 bd (o.ln t11) fun t12 =>
 jn (jn (o.loops (f185_l1 o kf N) N [a0, t3, t9, t11, t12, (I .i64 0)] s2)
 (fun v12 s13 => nm [.any, .any, .any] s13)
 (fun i14 v12 s13 => if i14 = 0 then nm v12 s13 else jE i14 v12 s13)
 (fun r15 s13 => jR r15 s13))
 (fun v16 s17 => o.vk v16 0 fun v16_0 =>
 o.vk v16 1 fun v16_1 =>
 o.vk v16 2 fun v16_2 =>
 bd2 (kf 256 [v16_0, (Z (.str [104, 101, 97, 100])), v16_2] s17) fun t24 s20 =>
 bd (aUn .not t24) fun t25 =>
 o.br t25 (jT (B false) s20)
 (bd (o.ldn 5 v16_1 s20) fun t29 =>
 bd (o.nil v16_0) fun t31 =>
 bd (o.fa 3 t31) fun t32 =>
 bd (o.ld t32 s20) fun t33 =>
 bd2 (kf 114 [t33] s20) fun t34 s21 =>
 bd2 (kf 148 [t29, t34] s21) fun t35 s22 =>
 bd (o.ex t35 0) fun t36 =>
 bd (o.ex t35 1) fun t37 =>
 bd (o.nil v16_0) fun t38 =>
 bd (o.fa 8 t38) fun t39 =>
 bd2 (o.st 5 t39 t36 s22) fun u23 s24 =>
 bd (o.nil v16_0) fun t40 =>
 bd (o.fa 13 t40) fun t41 =>
 bd2 (o.st 2 t41 t37 s24) fun u25 s26 =>
 ck ((decide (o.ldn 5 v16_1 s21 = o.ldn 5 v16_1 s20) && true) && true) (jT (B true) s26)))
 (fun i18 v16 s17 => none)
 (fun r19 s17 => jT r19 s17)
theorem f185_ok : Ok Tryz.prog 185 (fun c => L2 (f185 fast c 8192)) := ok2 (fun o c => f185 o c 8192) Tryz.func185 (by kernel_rfl) (fun c a0 a1 s => by kernel_rfl)

/- (twin.site).follow -/
def f186_l1_1 (o : Ops) (kf : CallF) (N : Nat) (s : St) (t28 v_0 v_1 v_4 v_2 v_3 : T) : Option (JO × St) :=
 bd2 (o.new s (nCells [.int .i64 0, .int .i64 0, .int .i64 0, .int .i64 0, .int .i64 0, .int .i64 0, .int .u32 0, .str []])) fun t5 s10 =>
 bd2 (o.st 8 t5 t28 s10) fun u11 s12 =>
 bd (o.nil v_0) fun t30 =>
 bd (o.fa 3 t30) fun t31 =>
 bd (o.ld t31 s12) fun t32 =>
 bd2 (kf 114 [t32] s12) fun t33 s13 =>
 bd (o.fa 4 v_1) fun t34 =>
 bd (o.ld t34 s13) fun t35 =>
 bd (o.add t35 v_4) fun t37 =>
 jn (bd (o.nil v_0) fun t41 =>
 bd (o.fa 27 t41) fun t42 =>
 bd (o.ld t42 s13) fun t43 =>
 bd (o.lss t37 t43) fun t44 =>
 o.br t44 (jE 1 [v_0, v_1, v_2, v_3, v_4] s13)
 (bd (o.nil v_0) fun t48 =>
 bd (o.fa 27 t48) fun t49 =>
 bd (o.ld t49 s13) fun t50 =>
 bd (o.gtr t37 t50) fun t51 =>
 o.br t51 (jE 0 [v_0, v_1] s13)
 (bd (o.ln t33) fun t55 =>
 bd (o.lss t37 t55) fun t56 =>
 bd (gU t56 (some t33)) fun t58 =>
 bd (gU t56 (some t37)) fun t59 =>
 bd (gU t56 (o.ix 8 t58 t59)) fun t60 =>
 bd (gU t56 (o.ldn 8 t60 s13)) fun t61 =>
 bd (gU t56 (o.ldn 8 t5 s13)) fun t62 =>
 bd2 (gS (gd t56 true) s13 (kf 265 [t61, t62] s13)) fun t63 s14 =>
 bd (pF t56 t63) fun t64 =>
 o.br t64 (bd (o.nil v_0) fun t66 =>
 bd (o.fa 27 t66) fun t67 =>
 bd (o.ld t67 s14) fun t68 =>
 bd (o.add t68 (I .i64 1)) fun t69 =>
 bd (o.nil v_0) fun t70 =>
 bd (o.fa 27 t70) fun t71 =>
 bd2 (o.st 1 t71 t69 s14) fun u15 s16 =>
 jE 1 [v_0, v_1, v_2, v_3, v_4] s16)
 (bd (o.ln t33) fun t75 =>
 bd (o.lss t37 t75) fun t76 =>
 bd (gU t76 (some v_0)) fun t78 =>
 bd (gU t76 (some t37)) fun t79 =>
 bd2 (gS (gd t76 true) s14 (kf 266 [t78, t79] s14)) fun t80 s17 =>
 bd (gU t76 (aUn .not t80)) fun t81 =>
 bd (pF t76 t81) fun t82 =>
 o.br t82 (jE 0 [v_0, v_1] s17)
 (nm [v_0, v_1, t5, v_2, v_3, v_4] s17)))))
 (fun v18 s19 => o.vk v18 0 fun v18_0 =>
 o.vk v18 1 fun v18_1 =>
 o.vk v18 2 fun v18_2 =>
 o.vk v18 3 fun v18_3 =>
 o.vk v18 4 fun v18_4 =>
 o.vk v18 5 fun v18_5 =>
 bd (o.ldn 8 v18_2 s19) fun t84 =>
 bd2 (kf 267 [v18_0, t84] s19) fun t85 s22 =>
 bd (aUn .not t85) fun t86 =>
 o.br t86 (jE 0 [v18_0, v18_1] s22)
 (bd (o.nil v18_0) fun t88 =>
 bd (o.fa 27 t88) fun t89 =>
 bd (o.ld t89 s22) fun t90 =>
 bd (o.add t90 (I .i64 1)) fun t91 =>
 bd (o.nil v18_0) fun t92 =>
 bd (o.fa 27 t92) fun t93 =>
 bd2 (o.st 1 t93 t91 s22) fun u23 s24 =>
 nm [v18_0, v18_1, v18_3, v18_4, v18_5] s24))
 (fun i20 v18 s19 => if i20 = 1 then nm v18 s19 else jE i20 v18 s19)
 (fun r21 s19 => jR r21 s19)
def f186_l1 (o : Ops) (kf : CallF) (N : Nat) (v : List T) (s : St) : Option (JO × St) :=
 o.vk v 0 fun v_0 =>
 o.vk v 1 fun v_1 =>
 o.vk v 2 fun v_2 =>
 o.vk v 3 fun v_3 =>
 o.vk v 4 fun v_4 =>
 bd (o.lss v_4 v_3) fun t25 =>
 o.br t25 (jn (bd (o.ix 8 v_2 v_4) fun t27 =>
 bd (o.ldn 8 t27 s) fun t28 =>
 f186_l1_1 o kf N s t28 v_0 v_1 v_4 v_2 v_3)
 (fun v25 s26 => o.vk v25 0 fun v25_0 =>
 o.vk v25 1 fun v25_1 =>
 o.vk v25 2 fun v25_2 =>
 o.vk v25 3 fun v25_3 =>
 o.vk v25 4 fun v25_4 =>
 bd (o.add v25_4 (I .i64 1)) fun t94 =>
 nm [v25_0, v25_1, v25_2, v25_3, t94] s26)
 (fun i27 v25 s26 => jE i27 v25 s26)
 (fun r28 s26 => jR r28 s26))
 (jE 0 [v_0, v_1] s)
def f186_1 (o : Ops) (kf : CallF) (N : Nat) (t138 : T) (s40 : St) (v39_0 v39_1 : T) : Option (T × St) :=
 bd (o.fa 3 t138) fun t139 =>
 bd (o.ld t139 s40) fun t140 =>
 bd2 (kf 198 [t140] s40) fun t141 s43 =>
 bd (o.nil v39_0) fun t146 =>
 bd (o.fa 8 t146) fun t147 =>
 bd (o.ldn 5 t147 s43) fun t148 =>
 bd (o.nil v39_0) fun t150 =>
 bd (o.fa 3 t150) fun t151 =>
 bd (o.ld t151 s43) fun t152 =>
 bd2 (kf 114 [t152] s43) fun t153 s44 =>
 bd2 (kf 148 [t148, t153] s44) fun t154 s45 =>
 bd (o.ex t154 0) fun t155 =>
 bd (o.ex t154 1) fun t156 =>
 bd (o.nil v39_0) fun t157 =>
 bd (o.fa 8 t157) fun t158 =>
 bd2 (o.st 5 t158 t155 s45) fun u46 s47 =>
 bd (o.nil v39_0) fun t159 =>
 bd (o.fa 13 t159) fun t160 =>
 bd2 (o.st 2 t160 t156 s47) fun u48 s49 =>
 ck ((decide (o.ldn 5 t147 s44 = o.ldn 5 t147 s43) && true) && true) (bd (o.nil v39_0) fun t162 =>
 bd (o.fa 4 t162) fun t163 =>
 bd (o.ld t163 s49) fun t164 =>
 bd (o.nil v39_0) fun t166 =>
 bd (o.fa 3 t166) fun t167 =>
 bd (o.ld t167 s49) fun t168 =>
 bd2 (kf 151 [t168] s49) fun t169 s50 =>
 bd2 (kf 176 [t164, t169] s50) fun t170 s51 =>
 ck ((decide (o.ld t163 s50 = o.ld t163 s49) && true) && true) (bd (o.nil v39_0) fun t172 =>
 bd (o.fa 4 t172) fun t173 =>
 bd (o.ld t173 s51) fun t174 =>
 bd (o.nil v39_0) fun t176 =>
 bd (o.fa 5 t176) fun t177 =>
 bd (o.ld t177 s51) fun t178 =>
 bd (o.nil v39_0) fun t180 =>
 bd (o.fa 27 t180) fun t181 =>
 bd (o.ld t181 s51) fun t182 =>
 bd (o.nil v39_0) fun t184 =>
 bd (o.fa 3 t184) fun t185 =>
 bd (o.ld t185 s51) fun t186 =>
 bd2 (kf 151 [t186] s51) fun t187 s52 =>
 bd (aFold aMin2 t182 [t187]) fun t188 =>
 bd2 (kf 179 [t174, t178, t188] s52) fun t189 s53 =>
 ck ((decide (o.ld t173 s52 = o.ld t173 s51) && true) && ((decide (o.ld t177 s52 = o.ld t177 s51) && true) && ((decide (o.ld t181 s52 = o.ld t181 s51) && true) && true))) (bd (o.nil v39_0) fun t191 =>
 bd (o.fa 27 t191) fun t192 =>
 bd (o.ld t192 s53) fun t193 =>
 bd (o.nil v39_0) fun t195 =>
 bd (o.fa 3 t195) fun t196 =>
 bd (o.ld t196 s53) fun t197 =>
 bd2 (kf 114 [t197] s53) fun t198 s54 =>
 bd (o.ln t198) fun t199 =>
 bd (o.eql t193 t199) fun t200 =>
 ck ((decide (o.ld t192 s54 = o.ld t192 s53) && true) && true) (jn (o.br t200 (bd (o.ldn 8 v39_1 s54) fun t202 =>
 bd2 (kf 268 [v39_0, t202] s54) fun t203 s55 =>
 nm [] s55)
 (nm [] s54))
 (fun v56 s57 => bd (retT []) fun r60 =>
 jT r60 s57)
 (fun i58 v56 s57 => none)
 (fun r59 s57 => jT r59 s57)))))
def f186_2 (o : Ops) (kf : CallF) (N : Nat) (t15 t3 : T) (s3 : St) (a0 : T) : Option (T × St) :=
 jn (o.br t15 (bd (o.fa 6 t3) fun t17 =>
 bd (o.ld t17 s3) fun t18 =>
 bd (o.nil a0) fun t19 =>
 bd (o.fa 25 t19) fun t20 =>
 bd2 (o.st 1 t20 t18 s3) fun u4 s5 =>
 nm [a0, t3] s5)
 (nm [a0, t3] s3))
 (fun v6 s7 => o.vk v6 0 fun v6_0 =>
 o.vk v6 1 fun v6_1 =>
 bd (o.fa 5 v6_1) fun t21 =>
 bd (o.ld t21 s7) fun t22 =>
 bd (o.ln t22) fun t23 =>
 jn (jn (o.loops (f186_l1 o kf N) N [v6_0, v6_1, t22, t23, (I .i64 0)] s7)
 (fun v29 s30 => nm [.any, .any] s30)
 (fun i31 v29 s30 => if i31 = 0 then nm v29 s30 else jE i31 v29 s30)
 (fun r32 s30 => jR r32 s30))
 (fun v33 s34 => o.vk v33 0 fun v33_0 =>
 o.vk v33 1 fun v33_1 =>
 bd (o.nil v33_0) fun t96 =>
 bd (o.fa 3 t96) fun t97 =>
 bd (o.ld t97 s34) fun t98 =>
 bd2 (kf 114 [t98] s34) fun t99 s37 =>
 bd (o.nil v33_0) fun t101 =>
 bd (o.fa 27 t101) fun t102 =>
 bd (o.ld t102 s37) fun t103 =>
 bd (o.fa 0 v33_1) fun t104 =>
 bd (o.ld t104 s37) fun t105 =>
 bd (o.eql t103 t105) fun t106 =>
 bd (gU t106 (some t99)) fun t108 =>
 bd (gU t106 (o.ln t108)) fun t109 =>
 bd (gU t106 (some v33_0)) fun t110 =>
 bd (gU t106 (o.nil t110)) fun t111 =>
 bd (gU t106 (o.fa 27 t111)) fun t112 =>
 bd (gU t106 (o.ld t112 s37)) fun t113 =>
 bd (gU t106 (o.gtr t109 t113)) fun t114 =>
 bd (pF t106 t114) fun t115 =>
 bd (gU t115 (some t99)) fun t117 =>
 bd (gU t115 (some v33_0)) fun t118 =>
 bd (gU t115 (o.nil t118)) fun t119 =>
 bd (gU t115 (o.fa 27 t119)) fun t120 =>
 bd (gU t115 (o.ld t120 s37)) fun t121 =>
 bd (gU t115 (o.ix 8 t117 t121)) fun t122 =>
 bd (gU t115 (o.fa 1 t122)) fun t123 =>
 bd (gU t115 (o.ld t123 s37)) fun t124 =>
 bd (gU t115 (some v33_0)) fun t125 =>
 bd (gU t115 (o.nil t125)) fun t126 =>
 bd (gU t115 (o.fa 5 t126)) fun t127 =>
 bd (gU t115 (o.ld t127 s37)) fun t128 =>
 bd (gU t115 (o.lss t124 t128)) fun t129 =>
 bd (pF t115 t129) fun t130 =>
 jn (o.br t130 (bd (o.nil v33_0) fun t133 =>
 bd (o.fa 27 t133) fun t134 =>
 bd (o.ld t134 s37) fun t135 =>
 bd2 (kf 266 [v33_0, t135] s37) fun t136 s38 =>
 nm [v33_0, v33_1] s38)
 (nm [v33_0, v33_1] s37))
 (fun v39 s40 => o.vk v39 0 fun v39_0 =>
 o.vk v39 1 fun v39_1 =>
 bd (o.nil v39_0) fun t138 =>
 f186_1 o kf N t138 s40 v39_0 v39_1)
 (fun i41 v39 s40 => none)
 (fun r42 s40 => jT r42 s40))
 (fun i35 v33 s34 => none)
 (fun r36 s34 => jT r36 s34))
 (fun i8 v6 s7 => none)
 (fun r9 s7 => jT r9 s7)
def f186 (o : Ops) (kf : CallF) (N : Nat) (a0 a1 : T) (s : St) : Option (T × St) :=
 bd2 (o.new s (nBox a1)) fun t3 s1 =>
 bd (o.nil a0) fun t10 =>
 bd (o.fa 26 t10) fun t11 =>
 bd2 (o.st 1 t11 (I .i64 0) s1) fun u2 s3 =>
 bd (o.fa 6 t3) fun t12 =>
 bd (o.ld t12 s3) fun t13 =>
 bd (o.ln t13) fun t14 =>
 bd (o.gtr t14 (I .i64 0)) fun t15 =>
 f186_2 o kf N t15 t3 s3 a0
theorem f186_ok : Ok Tryz.prog 186 (fun c => L2 (f186 fast c 8192)) := ok2 (fun o c => f186 o c 8192) Tryz.func186 (by kernel_rfl) (fun c a0 a1 s => by kernel_rfl)

end
end Go.Proofs.YtcihabdmigpklaaGreatDoor
