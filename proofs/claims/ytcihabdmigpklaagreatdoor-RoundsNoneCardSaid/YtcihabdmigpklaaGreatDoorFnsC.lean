/-
  What functions that the law reaches compute, printed by a program of our own in small pieces that the kernel runs fast. No conditions.
-/
import Derived.Test.YtcihabdmigpklaaGreatDoorFnsA
namespace Go.Proofs.YtcihabdmigpklaaGreatDoor
open Go Go.Abs Go.Abs.F
set_option linter.unusedVariables false
set_option maxRecDepth 100000
noncomputable section
/- (twin.Twin).report -/
def f187_1 (o : Ops) (kf : CallF) (N : Nat) (t38 : T) (s3 : St) (v2_1 v2_2 v2_3 v2_0 t35 t33 : T) : Option (T × St) :=
 bd (o.ld t38 s3) fun t39 =>
 bd (o.nil v2_1) fun t41 =>
 bd (o.fa 27 t41) fun t42 =>
 bd (o.ld t42 s3) fun t43 =>
 bd2 (kf 269 [v2_1] s3) fun t45 s6 =>
 bd (o.nil v2_1) fun t47 =>
 bd (o.fa 26 t47) fun t48 =>
 bd (o.ld t48 s6) fun t49 =>
 bd2 (o.new s6 (nSlice 6 (aFill [.int .i64 0, .int .i64 0, .int .i64 0, .int .i64 0, .int .i64 0, .int .i64 0] [(0, 1, (I .i64 1)), (1, 1, t43), (2, 1, t45), (3, 1, t49), (4, 1, v2_2), (5, 1, v2_3)]))) fun t52 s7 =>
 bd2 (kf 194 [t52] s7) fun t53 s8 =>
 bd2 (kf 260 [v2_0, t35, t39, t53] s8) fun t54 s9 =>
 ck ((decide (aLoad1 t33 (overlay 16 s6.get (ovO 22 s6.size (nSlice 6 (aFill [.int .i64 0, .int .i64 0, .int .i64 0, .int .i64 0, .int .i64 0, .int .i64 0] [(0, 1, (I .i64 1)), (1, 1, t43), (2, 1, t45), (3, 1, t49), (4, 1, v2_2), (5, 1, v2_3)])) [])) = o.ld t33 s3) && (decide (aLoad1 t33 (overlay 24 s8.get (ovO 22 s6.size (nSlice 6 (aFill [.int .i64 0, .int .i64 0, .int .i64 0, .int .i64 0, .int .i64 0, .int .i64 0] [(0, 1, (I .i64 1)), (1, 1, t43), (2, 1, t45), (3, 1, t49), (4, 1, v2_2), (5, 1, v2_3)])) [])) = o.ld t33 s3) && true)) && ((decide (aLoad1 t38 (overlay 16 s6.get (ovO 22 s6.size (nSlice 6 (aFill [.int .i64 0, .int .i64 0, .int .i64 0, .int .i64 0, .int .i64 0, .int .i64 0] [(0, 1, (I .i64 1)), (1, 1, t43), (2, 1, t45), (3, 1, t49), (4, 1, v2_2), (5, 1, v2_3)])) [])) = o.ld t38 s3) && (decide (aLoad1 t38 (overlay 24 s8.get (ovO 22 s6.size (nSlice 6 (aFill [.int .i64 0, .int .i64 0, .int .i64 0, .int .i64 0, .int .i64 0, .int .i64 0] [(0, 1, (I .i64 1)), (1, 1, t43), (2, 1, t45), (3, 1, t49), (4, 1, v2_2), (5, 1, v2_3)])) [])) = o.ld t38 s3) && true)) && ((decide (aLoad1 t42 (overlay 16 s6.get (ovO 22 s6.size (nSlice 6 (aFill [.int .i64 0, .int .i64 0, .int .i64 0, .int .i64 0, .int .i64 0, .int .i64 0] [(0, 1, (I .i64 1)), (1, 1, t43), (2, 1, t45), (3, 1, t49), (4, 1, v2_2), (5, 1, v2_3)])) [])) = o.ld t42 s3) && true) && ((decide (aLoad1 t48 (overlay 0 s3.get (ovO 22 s6.size (nSlice 6 (aFill [.int .i64 0, .int .i64 0, .int .i64 0, .int .i64 0, .int .i64 0, .int .i64 0] [(0, 1, (I .i64 1)), (1, 1, t43), (2, 1, t45), (3, 1, t49), (4, 1, v2_2), (5, 1, v2_3)])) [])) = o.ld t48 s6) && true) && true)))) (bd (o.nil v2_0) fun t57 =>
 bd (o.fa 0 t57) fun t58 =>
 bd (o.ld t58 s9) fun t59 =>
 bd (o.add t59 (I .i64 3)) fun t60 =>
 bd (o.nil v2_1) fun t61 =>
 bd (o.fa 24 t61) fun t62 =>
 bd2 (o.st 1 t62 t60 s9) fun u10 s11 =>
 bd (retT []) fun r12 =>
 jT r12 s11)
def f187 (o : Ops) (kf : CallF) (N : Nat) (a0 a1 a2 : T) (s : St) : Option (T × St) :=
 bd (o.nil a1) fun t8 =>
 bd (o.fa 8 t8) fun t9 =>
 bd (o.fa 0 t9) fun t10 =>
 bd (o.ld t10 s) fun t11 =>
 bd (o.nil a1) fun t13 =>
 bd (o.fa 5 t13) fun t14 =>
 bd (o.ld t14 s) fun t15 =>
 bd (o.eql t11 t15) fun t16 =>
 bd (gU t16 (some a1)) fun t18 =>
 bd (gU t16 (o.nil t18)) fun t19 =>
 bd (gU t16 (o.fa 27 t19)) fun t20 =>
 bd (gU t16 (o.ld t20 s)) fun t21 =>
 bd (gU t16 (some a1)) fun t22 =>
 bd (gU t16 (o.nil t22)) fun t23 =>
 bd (gU t16 (o.fa 3 t23)) fun t24 =>
 bd (gU t16 (o.ld t24 s)) fun t25 =>
 bd2 (gS (gd t16 true) s (kf 114 [t25] s)) fun t26 s1 =>
 bd (gU t16 (o.ln t26)) fun t27 =>
 bd (gU t16 (o.eql t21 t27)) fun t28 =>
 bd (pF t16 t28) fun t29 =>
 ck ((wq (gd t16 true) (decide (o.ld t20 s1 = o.ld t20 s)) && true) && true) (jn (o.br t29 (nm [a0, a1, a2, (I .i64 1)] s1)
 (nm [a0, a1, a2, (I .i64 0)] s1))
 (fun v2 s3 => o.vk v2 0 fun v2_0 =>
 o.vk v2 1 fun v2_1 =>
 o.vk v2 2 fun v2_2 =>
 o.vk v2 3 fun v2_3 =>
 bd (o.nil v2_1) fun t32 =>
 bd (o.fa 0 t32) fun t33 =>
 bd (o.ld t33 s3) fun t34 =>
 bd (o.sub (I .i64 1) t34) fun t35 =>
 bd (o.nil v2_1) fun t37 =>
 bd (o.fa 5 t37) fun t38 =>
 f187_1 o kf N t38 s3 v2_1 v2_2 v2_3 v2_0 t35 t33)
 (fun i4 v2 s3 => none)
 (fun r5 s3 => jT r5 s3))
theorem f187_ok : Ok Tryz.prog 187 (fun c => L3 (f187 fast c 8192)) := ok3 (fun o c => f187 o c 8192) Tryz.func187 (by kernel_rfl) (fun c a0 a1 a2 s => by kernel_rfl)

/- slices.Index[[]int,int] -/
def f188_l1 (o : Ops) (kf : CallF) (N : Nat) (v : List T) (s : St) : Option (JO × St) :=
 o.vk v 0 fun v_0 =>
 o.vk v 1 fun v_1 =>
 o.vk v 2 fun v_2 =>
 o.vk v 3 fun v_3 =>
 bd (o.lss v_3 v_2) fun t9 =>
 o.br t9 (jn (bd (o.ix 1 v_0 v_3) fun t14 =>
 bd (o.ld t14 s) fun t15 =>
 bd (o.eql v_1 t15) fun t16 =>
 o.br t16 (jR v_3 s)
 (nm [v_0, v_1, v_2, v_3] s))
 (fun v1 s2 => o.vk v1 0 fun v1_0 =>
 o.vk v1 1 fun v1_1 =>
 o.vk v1 2 fun v1_2 =>
 o.vk v1 3 fun v1_3 =>
 bd (o.add v1_3 (I .i64 1)) fun t18 =>
 nm [v1_0, v1_1, v1_2, t18] s2)
 (fun i3 v1 s2 => jE i3 v1 s2)
 (fun r4 s2 => jR r4 s2))
 (jE 0 [] s)
def f188 (o : Ops) (kf : CallF) (N : Nat) (a0 a1 : T) (s : St) : Option (T × St) :=
 bd (o.ln a0) fun t7 =>
 jn (jn (o.loops (f188_l1 o kf N) N [a0, a1, t7, (I .i64 0)] s)
 (fun v5 s6 => nm [] s6)
 (fun i7 v5 s6 => if i7 = 0 then nm v5 s6 else jE i7 v5 s6)
 (fun r8 s6 => jR r8 s6))
 (fun v9 s10 => jT (I .i64 (-1)) s10)
 (fun i11 v9 s10 => none)
 (fun r12 s10 => jT r12 s10)
theorem f188_ok : Ok Tryz.prog 188 (fun c => L2 (f188 fast c 8192)) := ok2 (fun o c => f188 o c 8192) Tryz.func188 (by kernel_rfl) (fun c a0 a1 s => by kernel_rfl)

/- head.May -/
def f190 (o : Ops) (kf : CallF) (N : Nat) (a0 : T) (s : St) : Option (T × St) :=
 bd2 (o.new s (nBox a0)) fun t1 s1 =>
 bd (o.fa 1 t1) fun t4 =>
 bd (o.ld t4 s1) fun t5 =>
 bd (o.ln t5) fun t6 =>
 bd (o.fa 0 t1) fun t7 =>
 bd (o.ld t7 s1) fun t8 =>
 bd (o.geq t8 (I .i64 0)) fun t9 =>
 bd (gU t9 (o.fa 0 t1)) fun t11 =>
 bd (gU t9 (o.ld t11 s1)) fun t12 =>
 bd (gU t9 (o.leq t12 (I .i64 1099511627776))) fun t13 =>
 bd (pF t9 t13) fun t14 =>
 bd (gU t14 (o.fa 1 t1)) fun t16 =>
 bd (gU t14 (o.ld t16 s1)) fun t17 =>
 bd2 (gS (gd t14 true) s1 (kf 219 [t17] s1)) fun t18 s2 =>
 bd (pF t14 t18) fun t19 =>
 bd (gU t19 (some t6)) fun t21 =>
 bd (gU t19 (o.leq t21 (I .i64 64))) fun t22 =>
 bd (pF t19 t22) fun t23 =>
 bd (gU t23 (some t6)) fun t25 =>
 bd (gU t23 (o.eql t25 (I .i64 0))) fun t26 =>
 bd (gU t23 (some t26)) fun t27 =>
 bd (gF t27 (o.fa 1 t1)) fun t28 =>
 bd (gF t27 (o.ld t28 s2)) fun t29 =>
 bd (gF t27 (o.ix 2 t29 (I .i64 0))) fun t30 =>
 bd (gF t27 (o.fa 0 t30)) fun t31 =>
 bd (gF t27 (o.ld t31 s2)) fun t32 =>
 bd (gF t27 (o.fa 0 t1)) fun t33 =>
 bd (gF t27 (o.ld t33 s2)) fun t34 =>
 bd (gF t27 (o.geq t32 t34)) fun t35 =>
 bd (gF t27 (some t35)) fun t36 =>
 bd (gU t36 (o.fa 1 t1)) fun t37 =>
 bd (gU t36 (o.ld t37 s2)) fun t38 =>
 bd (gU t36 (some t6)) fun t39 =>
 bd (gU t36 (o.sub t39 (I .i64 1))) fun t40 =>
 bd (gU t36 (o.ix 2 t38 t40)) fun t41 =>
 bd (gU t36 (o.fa 0 t41)) fun t42 =>
 bd (gU t36 (o.ld t42 s2)) fun t43 =>
 bd (gU t36 (o.lss t43 (I .i64 1099511627776))) fun t44 =>
 bd (gF t27 (pF t36 t44)) fun t45 =>
 bd (gU t23 (pT t27 t45)) fun t46 =>
 bd (pF t23 t46) fun t47 =>
 jT t47 s2
theorem f190_ok : Ok Tryz.prog 190 (fun c => L1 (f190 fast c 8192)) := ok1 (fun o c => f190 o c 8192) Tryz.func190 (by kernel_rfl) (fun c a0 s => by kernel_rfl)

/- slices.Insert[[]api.Sample,api.Sample] -/
def f191 (o : Ops) (kf : CallF) (N : Nat) (a0 a1 a2 : T) (s : St) : Option (T × St) :=
 bd (aPieceSl 2 a0 (some a1) none none) fun t12 =>
 bd (o.ln a2) fun t14 =>
 bd (o.eql t14 (I .i64 0)) fun t16 =>
 o.br t16 (jT a0 s)
 (bd (o.ln a0) fun t19 =>
 bd (o.eql a1 t19) fun t22 =>
 o.br t22 (bd2 (aAppend 2 16 a0 a2 s) fun t25 s1 =>
 jT t25 s1)
 (bd (o.add t19 t14) fun t28 =>
 bd (aCap a0) fun t30 =>
 bd (o.gtr t28 t30) fun t31 =>
 o.br t31 (bd (aPieceSl 2 a0 none (some a1) none) fun t34 =>
 bd (o.add t19 t14) fun t37 =>
 bd (o.sub t37 a1) fun t39 =>
 bd2 (aGrow 2 16 [.int .i64 0, .int .i64 0] t34 t39 s) fun t40 s2 =>
 bd (aPieceSl 2 t40 (some a1) none none) fun t43 =>
 bd2 (aCopy 2 t43 a2 s2) fun t45 s3 =>
 bd (o.add a1 t14) fun t49 =>
 bd (aPieceSl 2 t40 (some t49) none none) fun t50 =>
 bd (aPieceSl 2 a0 (some a1) none none) fun t53 =>
 bd2 (aCopy 2 t50 t53 s3) fun t54 s4 =>
 jT t40 s4)
 (bd (o.add t19 t14) fun t59 =>
 bd (aPieceSl 2 a0 none (some t59) none) fun t60 =>
 bd (o.add a1 t14) fun t65 =>
 bd (aPieceSl 2 t60 (some t65) none none) fun t66 =>
 bd2 (xOver Tryz.prog 272 [a2, t66] s) fun t67 s5 =>
 bd (aUn .not t67) fun t68 =>
 o.br t68 (bd (o.add a1 t14) fun t72 =>
 bd (aPieceSl 2 t60 (some t72) none none) fun t73 =>
 bd (aPieceSl 2 t60 (some a1) none none) fun t76 =>
 bd2 (aCopy 2 t73 t76 s5) fun t77 s6 =>
 bd (aPieceSl 2 t60 (some a1) none none) fun t80 =>
 bd2 (aCopy 2 t80 a2 s6) fun t82 s7 =>
 jT t60 s7)
 (bd (aPieceSl 2 t60 (some t19) none none) fun t86 =>
 bd2 (aCopy 2 t86 a2 s5) fun t88 s8 =>
 bd (aPieceSl 2 t60 (some a1) none none) fun t91 =>
 bd2 (kf 273 [t91, t14] s8) fun t93 s9 =>
 jT t60 s9))))
theorem f191_ok : Ok Tryz.prog 191 (fun c => L3 (f191 fast c 8192)) := ok3 (fun o c => f191 o c 8192) Tryz.func191 (by kernel_rfl) (fun c a0 a1 a2 s => by kernel_rfl)

/- slices.Clone[[]api.Sample,api.Sample] -/
def f192 (o : Ops) (kf : CallF) (N : Nat) (a0 : T) (s : St) : Option (T × St) :=
 bd (eqB .l a0 (Z .nils)) fun t4 =>
 o.br t4 (jT (Z .nils) s)
 (bd2 (o.new s (nSlice 0 (aFill [] []))) fun t5 s1 =>
 bd2 (aAppend 2 16 t5 a0 s1) fun t7 s2 =>
 jT t7 s2)
theorem f192_ok : Ok Tryz.prog 192 (fun c => L1 (f192 fast c 8192)) := ok1 (fun o c => f192 o c 8192) Tryz.func192 (by kernel_rfl) (fun c a0 s => by kernel_rfl)

/- log.Wrap -/
def f193 (o : Ops) (kf : CallF) (N : Nat) (a0 : T) (s : St) : Option (T × St) :=
 bd (o.ln a0) fun t5 =>
 bd (o.cv .u64 t5) fun t6 =>
 bd2 (kf 238 [t6] s) fun t7 s1 =>
 bd2 (kf 239 [t7] s1) fun t10 s2 =>
 bd2 (kf 276 [t10, a0] s2) fun t12 s3 =>
 bd2 (kf 275 [t12] s3) fun t13 s4 =>
 bd2 (o.new s4 (nSlice 3 (aFill [.nils, .nils, .nils] [(0, 1, t7), (1, 1, t13), (2, 1, a0)]))) fun t15 s5 =>
 bd2 (kf 274 [t15] s5) fun t16 s6 =>
 jT t16 s6
theorem f193_ok : Ok Tryz.prog 193 (fun c => L1 (f193 fast c 8192)) := ok1 (fun o c => f193 o c 8192) Tryz.func193 (by kernel_rfl) (fun c a0 s => by kernel_rfl)

/- twin.numbers -/
def f194_l1 (o : Ops) (kf : CallF) (N : Nat) (v : List T) (s : St) : Option (JO × St) :=
 o.vk v 0 fun v_0 =>
 o.vk v 1 fun v_1 =>
 o.vk v 2 fun v_2 =>
 o.vk v 3 fun v_3 =>
 bd (o.lss v_3 v_2) fun t9 =>
 o.br t9 (jn (bd (o.ix 1 v_1 v_3) fun t10 =>
 bd (o.ld t10 s) fun t11 =>
 bd2 (kf 277 [t11] s) fun t14 s1 =>
 bd2 (kf 238 [t14] s1) fun t15 s2 =>
 bd2 (aAppend 1 1 v_0 t15 s2) fun t16 s3 =>
 nm [t16, v_1, v_2, v_3] s3)
 (fun v4 s5 => o.vk v4 0 fun v4_0 =>
 o.vk v4 1 fun v4_1 =>
 o.vk v4 2 fun v4_2 =>
 o.vk v4 3 fun v4_3 =>
 bd (o.add v4_3 (I .i64 1)) fun t17 =>
 nm [v4_0, v4_1, v4_2, t17] s5)
 (fun i6 v4 s5 => jE i6 v4 s5)
 (fun r7 s5 => jR r7 s5))
 (jE 0 [v_0] s)
def f194 (o : Ops) (kf : CallF) (N : Nat) (a0 : T) (s : St) : Option (T × St) :=
 bd (o.ln a0) fun t7 =>
 jn (jn (o.loops (f194_l1 o kf N) N [(Z .nils), a0, t7, (I .i64 0)] s)
 (fun v8 s9 => nm [.any] s9)
 (fun i10 v8 s9 => if i10 = 0 then nm v8 s9 else jE i10 v8 s9)
 (fun r11 s9 => jR r11 s9))
 (fun v12 s13 => o.vk v12 0 fun v12_0 =>
 jT v12_0 s13)
 (fun i14 v12 s13 => none)
 (fun r15 s13 => jT r15 s13)
theorem f194_ok : Ok Tryz.prog 194 (fun c => L1 (f194 fast c 8192)) := ok1 (fun o c => f194 o c 8192) Tryz.func194 (by kernel_rfl) (fun c a0 s => by kernel_rfl)

/- (store.Store).asks -/
def f196 (o : Ops) (kf : CallF) (N : Nat) (a0 a1 : T) (s : St) : Option (T × St) :=
 bd2 (o.new s (nBox a1)) fun t3 s1 =>
 bd (o.nil a0) fun t7 =>
 bd (o.fa 3 t7) fun t8 =>
 bd (o.ld t8 s1) fun t9 =>
 bd (o.ldn 8 t3 s1) fun t10 =>
 bd2 (kf 203 [t9, t10] s1) fun t11 s2 =>
 bd (o.neq t11 (I .i64 0)) fun t13 =>
 o.br t13 (jT t11 s2)
 (bd (o.nil a0) fun t16 =>
 bd (o.fa 1 t16) fun t17 =>
 bd (o.ld t17 s2) fun t18 =>
 bd (o.ln t18) fun t19 =>
 bd (o.eql t19 (I .i64 2000)) fun t20 =>
 o.br t20 (jT (I .i64 8) s2)
 (jT (I .i64 0) s2))
theorem f196_ok : Ok Tryz.prog 196 (fun c => L2 (f196 fast c 8192)) := ok2 (fun o c => f196 o c 8192) Tryz.func196 (by kernel_rfl) (fun c a0 a1 s => by kernel_rfl)

/- (store.Store).add -/
def f197 (o : Ops) (kf : CallF) (N : Nat) (a0 a1 : T) (s : St) : Option (T × St) :=
 bd2 (o.new s (nBox a1)) fun t3 s1 =>
 bd (o.ldn 8 t3 s1) fun t9 =>
 bd2 (kf 284 [t9] s1) fun t10 s2 =>
 bd (o.ex t10 0) fun t11 =>
 bd (o.ex t10 1) fun t12 =>
 bd (o.neq t12 (I .i64 0)) fun t14 =>
 o.br t14 (jT t12 s2)
 (bd (o.nil a0) fun t17 =>
 bd (o.fa 0 t17) fun t18 =>
 bd (o.ld t18 s2) fun t19 =>
 bd2 (kf 142 [t19, (Z (.str [108, 111, 103])), t11] s2) fun t21 s3 =>
 bd (o.neq t21 (I .i64 0)) fun t23 =>
 o.br t23 (jT t21 s3)
 (bd (o.ldn 8 t3 s3) fun t26 =>
 bd2 (kf 228 [a0, t26] s3) fun t27 s4 =>
 jT (I .i64 0) s4))
theorem f197_ok : Ok Tryz.prog 197 (fun c => L2 (f197 fast c 8192)) := ok2 (fun o c => f197 o c 8192) Tryz.func197 (by kernel_rfl) (fun c a0 a1 s => by kernel_rfl)

/- (store.Store).Sync -/
def f198 (o : Ops) (kf : CallF) (N : Nat) (a0 : T) (s : St) : Option (T × St) :=
 bd (eqB .p a0 (Z .nilp)) fun t4 =>
 o.br t4 (jT (I .i64 10) s)
 (bd (o.nil a0) fun t6 =>
 bd (o.fa 0 t6) fun t7 =>
 bd (o.ld t7 s) fun t8 =>
 bd2 (kf 144 [t8, (Z (.str [108, 111, 103]))] s) fun t9 s1 =>
 bd (o.nil a0) fun t12 =>
 bd (o.fa 1 t12) fun t13 =>
 bd (o.ld t13 s1) fun t14 =>
 bd (o.ln t14) fun t15 =>
 bd (o.nil a0) fun t16 =>
 bd (o.fa 4 t16) fun t17 =>
 bd2 (o.st 1 t17 t15 s1) fun u2 s3 =>
 jT (I .i64 0) s3)
theorem f198_ok : Ok Tryz.prog 198 (fun c => L1 (f198 fast c 8192)) := ok1 (fun o c => f198 o c 8192) Tryz.func198 (by kernel_rfl) (fun c a0 s => by kernel_rfl)

/- slices.Clone[[]api.Entry,api.Entry] -/
def f199 (o : Ops) (kf : CallF) (N : Nat) (a0 : T) (s : St) : Option (T × St) :=
 bd (eqB .l a0 (Z .nils)) fun t4 =>
 o.br t4 (jT (Z .nils) s)
 (bd2 (o.new s (nSlice 0 (aFill [] []))) fun t5 s1 =>
 bd2 (aAppend 8 72 t5 a0 s1) fun t7 s2 =>
 jT t7 s2)
theorem f199_ok : Ok Tryz.prog 199 (fun c => L1 (f199 fast c 8192)) := ok1 (fun o c => f199 o c 8192) Tryz.func199 (by kernel_rfl) (fun c a0 s => by kernel_rfl)

/- log.Open -/
def f200 (o : Ops) (kf : CallF) (N : Nat) (a0 a1 : T) (s : St) : Option (T × St) :=
 bd2 (kf 153 [a0, a1] s) fun t15 s1 =>
 bd (o.ex t15 0) fun t16 =>
 bd (o.ex t15 1) fun t17 =>
 bd (o.ex t15 2) fun t18 =>
 bd (o.neq t18 (I .i64 0)) fun t20 =>
 bd (gF t20 (some a0)) fun t22 =>
 bd (gF t20 (o.ln t22)) fun t23 =>
 bd (gF t20 (some t17)) fun t24 =>
 bd (gF t20 (o.sub t23 t24)) fun t25 =>
 bd (gF t20 (o.lss t25 (I .i64 4))) fun t26 =>
 bd (pT t20 t26) fun t27 =>
 bd (gF t27 (some t16)) fun t29 =>
 bd (gF t27 (some a0)) fun t30 =>
 bd (gF t27 (o.ln t30)) fun t31 =>
 bd (gF t27 (some t17)) fun t32 =>
 bd (gF t27 (o.sub t31 t32)) fun t33 =>
 bd (gF t27 (o.sub t33 (I .i64 4))) fun t34 =>
 bd (gF t27 (o.cv .u64 t34)) fun t35 =>
 bd (gF t27 (o.gtr t29 t35)) fun t36 =>
 bd (pT t27 t36) fun t37 =>
 o.br t37 (bd (retT [(Z .nils), a1, (B false)]) fun r2 =>
 jT r2 s1)
 (bd (o.add t17 (I .i64 4)) fun t40 =>
 bd (o.cv .i64 t16) fun t42 =>
 bd (o.add t40 t42) fun t43 =>
 bd (o.add t17 (I .i64 4)) fun t46 =>
 bd (aPieceSl 1 a0 (some t46) (some t43) none) fun t48 =>
 bd (aPieceSl 1 a0 (some a1) (some t43) none) fun t52 =>
 bd2 (kf 193 [t48] s1) fun t54 s3 =>
 bd2 (kf 155 [t52, t54] s3) fun t55 s4 =>
 bd (aUn .not t55) fun t56 =>
 o.br t56 (bd (retT [(Z .nils), a1, (B false)]) fun r5 =>
 jT r5 s4)
 (bd (retT [t48, t43, (B true)]) fun r6 =>
 jT r6 s4))
theorem f200_ok : Ok Tryz.prog 200 (fun c => L2 (f200 fast c 8192)) := ok2 (fun o c => f200 o c 8192) Tryz.func200 (by kernel_rfl) (fun c a0 a1 s => by kernel_rfl)

/- entry.Get -/
def f201_1 (o : Ops) (kf : CallF) (N : Nat) (t26 t15 : T) (s16 : St) (t7 t1 t2 t5 t24 t4 : T) : Option (JO × St) :=
 o.br t26 (bd2 (dyn Tryz.prog kf t15 [(I .u64 1073741824)] s16) fun t28 s17 =>
 bd2 (dyn Tryz.prog kf t15 [(I .u64 4)] s17) fun t30 s18 =>
 bd (o.fa 2 t7) fun t31 =>
 bd2 (o.st 1 t31 t28 s18) fun u19 s20 =>
 bd (o.fa 3 t7) fun t32 =>
 bd2 (o.st 1 t32 t30 s20) fun u21 s22 =>
 bd2 (dyn Tryz.prog kf t15 [(I .u64 1099511627776)] s22) fun t34 s23 =>
 bd2 (dyn Tryz.prog kf t15 [(I .u64 1099511627776)] s23) fun t36 s24 =>
 bd (o.fa 4 t7) fun t37 =>
 bd2 (o.st 1 t37 t34 s24) fun u25 s26 =>
 bd (o.fa 5 t7) fun t38 =>
 bd2 (o.st 1 t38 t36 s26) fun u27 s28 =>
 bd2 (dyn Tryz.prog kf t15 [(I .u64 4294967295)] s28) fun t40 s29 =>
 bd (o.cv .u32 t40) fun t41 =>
 bd (o.fa 6 t7) fun t42 =>
 bd2 (o.st 1 t42 t41 s29) fun u30 s31 =>
 nm [t1, t2, t5, t7] s31)
 (bd (o.eql t24 (I .i64 2)) fun t44 =>
 jn (o.br t44 (bd2 (dyn Tryz.prog kf t15 [(I .u64 1073741824)] s16) fun t46 s32 =>
 bd (o.fa 2 t7) fun t47 =>
 bd2 (o.st 1 t47 t46 s32) fun u33 s34 =>
 nm [t1, t2, t5, t7] s34)
 (bd (o.eql t24 (I .i64 4)) fun t49 =>
 jn (o.br t49 (bd2 (dyn Tryz.prog kf t15 [(I .u64 300)] s16) fun t51 s35 =>
 bd (o.ld t5 s35) fun t52 =>
 bd (gF t52 (some t51)) fun t54 =>
 bd (gF t52 (o.ld t1 s35)) fun t55 =>
 bd (gF t52 (o.ln t55)) fun t56 =>
 bd (gF t52 (o.ld t4 s35)) fun t57 =>
 bd (gF t52 (o.sub t56 t57)) fun t58 =>
 bd (gF t52 (o.gtr t54 t58)) fun t59 =>
 bd (pT t52 t59) fun t60 =>
 o.br t60 (bd (asAggT (aFill [.int .i64 0, .int .i64 0, .int .i64 0, .int .i64 0, .int .i64 0, .int .i64 0, .int .u32 0, .str []] [])) fun t61 =>
 bd2 (o.st 8 t2 t61 s35) fun u36 s37 =>
 bd (rC (o.ldn 8 t2 s37) (rT (I .i64 2) (some []))) fun l38 =>
 bd (retT l38) fun r39 =>
 jR r39 s37)
 (bd (o.ld t1 s35) fun t62 =>
 bd (o.ld t4 s35) fun t63 =>
 bd (o.ld t4 s35) fun t64 =>
 bd (o.add t64 t51) fun t66 =>
 bd (aPieceSl 1 t62 (some t63) (some t66) none) fun t67 =>
 bd (aBytesStr t67 s35.get) fun t68 =>
 bd (o.fa 7 t7) fun t69 =>
 bd2 (o.st 1 t69 t68 s35) fun u40 s41 =>
 nm [t1, t2, t5, t7] s41))
 (nm [t1, t2, t5, t7] s16))
 (fun v42 s43 => o.vk v42 0 fun v42_0 =>
 o.vk v42 1 fun v42_1 =>
 o.vk v42 2 fun v42_2 =>
 o.vk v42 3 fun v42_3 =>
 nm [v42_0, v42_1, v42_2, v42_3] s43)
 (fun i44 v42 s43 => jE i44 v42 s43)
 (fun r45 s43 => jR r45 s43)))
 (fun v46 s47 => o.vk v46 0 fun v46_0 =>
 o.vk v46 1 fun v46_1 =>
 o.vk v46 2 fun v46_2 =>
 o.vk v46 3 fun v46_3 =>
 nm [v46_0, v46_1, v46_2, v46_3] s47)
 (fun i48 v46 s47 => jE i48 v46 s47)
 (fun r49 s47 => jR r49 s47))
def f201_2 (o : Ops) (kf : CallF) (N : Nat) (t17 : T) (s12 : St) (t15 t1 t2 t5 t4 : T) : Option (T × St) :=
 bd (o.ld t17 s12) fun t18 =>
 bd (o.cv .i64 t18) fun t19 =>
 bd2 (dyn Tryz.prog kf t15 [(I .u64 1073741824)] s12) fun t21 s13 =>
 bd (asAggT (aFill [.int .i64 0, .int .i64 0, .int .i64 0, .int .i64 0, .int .i64 0, .int .i64 0, .int .u32 0, .str []] [(0, 1, t19), (1, 1, t21)])) fun t22 =>
 bd2 (o.new s13 (nCells [.int .i64 0, .int .i64 0, .int .i64 0, .int .i64 0, .int .i64 0, .int .i64 0, .int .u32 0, .str []])) fun t7 s14 =>
 bd2 (o.st 8 t7 t22 s14) fun u15 s16 =>
 ck ((decide (aLoad1 t1 (updM (s13.get) s13.size (.cells true [.int .i64 0, .int .i64 0, .int .i64 0, .int .i64 0, .int .i64 0, .int .i64 0, .int .u32 0, .str []])) = o.ld t1 s12) && true) && ((decide (aLoad1 t17 (updM (s13.get) s13.size (.cells true [.int .i64 0, .int .i64 0, .int .i64 0, .int .i64 0, .int .i64 0, .int .i64 0, .int .u32 0, .str []])) = o.ld t17 s12) && true) && true)) (bd (o.fa 0 t7) fun t23 =>
 bd (o.ld t23 s16) fun t24 =>
 jn (bd (o.eql t24 (I .i64 1)) fun t26 =>
 jn (f201_1 o kf N t26 t15 s16 t7 t1 t2 t5 t24 t4)
 (fun v50 s51 => o.vk v50 0 fun v50_0 =>
 o.vk v50 1 fun v50_1 =>
 o.vk v50 2 fun v50_2 =>
 o.vk v50 3 fun v50_3 =>
 nm [v50_0, v50_1, v50_2, v50_3] s51)
 (fun i52 v50 s51 => if i52 = 0 then nm v50 s51 else jE i52 v50 s51)
 (fun r53 s51 => jR r53 s51))
 (fun v54 s55 => o.vk v54 0 fun v54_0 =>
 o.vk v54 1 fun v54_1 =>
 o.vk v54 2 fun v54_2 =>
 o.vk v54 3 fun v54_3 =>
 bd (o.ldn 8 v54_3 s55) fun t71 =>
 bd2 (kf 258 [t71] s55) fun t72 s58 =>
 bd (o.ex t72 0) fun t73 =>
 bd (o.ex t72 1) fun t74 =>
 bd (o.ld v54_2 s58) fun t75 =>
 bd (gF t75 (some t74)) fun t77 =>
 bd (gF t75 (o.neq t77 (I .i64 0))) fun t78 =>
 bd (pT t75 t78) fun t79 =>
 bd (gF t79 (some t73)) fun t81 =>
 bd (gF t79 (o.ld v54_0 s58)) fun t82 =>
 bd2 (gS (gd t79 false) s58 (kf 171 [t81, t82] s58)) fun t83 s59 =>
 bd (gF t79 (aUn .not t83)) fun t84 =>
 bd (pT t79 t84) fun t85 =>
 o.br t85 (bd (asAggT (aFill [.int .i64 0, .int .i64 0, .int .i64 0, .int .i64 0, .int .i64 0, .int .i64 0, .int .u32 0, .str []] [])) fun t86 =>
 bd2 (o.st 8 v54_1 t86 s59) fun u60 s61 =>
 bd (rC (o.ldn 8 v54_1 s61) (rT (I .i64 2) (some []))) fun l62 =>
 bd (retT l62) fun r63 =>
 jT r63 s61)
 (bd (o.ldn 8 v54_3 s59) fun t87 =>
 bd2 (o.st 8 v54_1 t87 s59) fun u64 s65 =>
 bd (rC (o.ldn 8 v54_1 s65) (rT (I .i64 0) (some []))) fun l66 =>
 bd (retT l66) fun r67 =>
 jT r67 s65))
 (fun i56 v54 s55 => none)
 (fun r57 s55 => jT r57 s55))
def f201 (o : Ops) (kf : CallF) (N : Nat) (a0 : T) (s : St) : Option (T × St) :=
 bd2 (o.new s (nBox a0)) fun t1 s1 =>
 bd2 (o.new s1 (nCells [.int .i64 0, .int .i64 0, .int .i64 0, .int .i64 0, .int .i64 0, .int .i64 0, .int .u32 0, .str []])) fun t2 s2 =>
 bd (o.ld t1 s2) fun t11 =>
 bd (o.ln t11) fun t12 =>
 bd (o.eql t12 (I .i64 0)) fun t13 =>
 o.br t13 (bd (asAggT (aFill [.int .i64 0, .int .i64 0, .int .i64 0, .int .i64 0, .int .i64 0, .int .i64 0, .int .u32 0, .str []] [])) fun t14 =>
 bd2 (o.st 8 t2 t14 s2) fun u3 s4 =>
 bd (rC (o.ldn 8 t2 s4) (rT (I .i64 2) (some []))) fun l5 =>
 bd (retT l5) fun r6 =>
 jT r6 s4)
 (bd2 (o.new s2 (nCells [.int .i64 0])) fun t4 s7 =>
 bd2 (o.new s7 (nCells [.bool false])) fun t5 s8 =>
 bd2 (o.st 1 t4 (I .i64 1) s8) fun u9 s10 =>
 bd2 (o.st 1 t5 (B false) s10) fun u11 s12 =>
 bd (aClo 285 [t1, t4, t5] []) fun t15 =>
 bd (o.ld t1 s12) fun t16 =>
 bd (o.ix 1 t16 (I .i64 0)) fun t17 =>
 f201_2 o kf N t17 s12 t15 t1 t2 t5 t4)
theorem f201_ok : Ok Tryz.prog 201 (fun c => L1 (f201 fast c 8192)) := ok1 (fun o c => f201 o c 8192) Tryz.func201 (by kernel_rfl) (fun c a0 s => by kernel_rfl)

/- policy.Default -/
def f202 (o : Ops) (kf : CallF) (N : Nat) (s : St) : Option (T × St) :=
 bd2 (o.new s (nCells [.int .i64 0, .int .i64 0, .int .i64 0, .int .i64 0, .int .i64 0, .int .i64 0])) fun t0 s1 =>
 bd (asAggT (aFill [.int .i64 0, .int .i64 0, .int .i64 0, .int .i64 0] [(0, 1, (I .i64 60)), (1, 1, (I .i64 600)), (2, 1, (I .i64 6000)), (3, 1, (I .i64 0))])) fun t1 =>
 bd (asAggT (aFill [.int .i64 0, .int .i64 0, .int .i64 0, .int .i64 0, .int .i64 0, .int .i64 0] [(0, 4, t1), (4, 1, (I .i64 8)), (5, 1, (I .i64 30))])) fun t2 =>
 bd2 (o.st 6 t0 t2 s1) fun u2 s3 =>
 bd (rC (o.ldn 6 t0 s3) (some [])) fun l4 =>
 bd (retT l4) fun r5 =>
 jT r5 s3
theorem f202_ok : Ok Tryz.prog 202 (fun c => L0 (f202 fast c 8192)) := ok0 (fun o c => f202 o c 8192) Tryz.func202 (by kernel_rfl) (fun c s => by kernel_rfl)

/- (entry.State).Asks -/
def f203 (o : Ops) (kf : CallF) (N : Nat) (a0 a1 : T) (s : St) : Option (T × St) :=
 bd2 (o.new s (nBox a1)) fun t3 s1 =>
 bd (o.fa 2 t3) fun t9 =>
 bd (o.ld t9 s1) fun t10 =>
 bd2 (kf 204 [a0, t10] s1) fun t11 s2 =>
 bd (o.ex t11 0) fun t12 =>
 bd (o.ex t11 1) fun t13 =>
 jn (bd (o.ldn 8 t3 s2) fun t15 =>
 bd2 (kf 286 [t15] s2) fun t16 s3 =>
 bd (aUn .not t16) fun t17 =>
 o.br t17 (jR (I .i64 1) s3)
 (bd (o.fa 0 t3) fun t19 =>
 bd (o.ld t19 s3) fun t20 =>
 bd (o.eql t20 (I .i64 1)) fun t21 =>
 bd (gU t21 (some a0)) fun t23 =>
 bd (gU t21 (o.nil t23)) fun t24 =>
 bd (gU t21 (o.fa 1 t24)) fun t25 =>
 bd (gU t21 (o.ld t25 s3)) fun t26 =>
 bd (gU t21 (o.fa 2 t3)) fun t27 =>
 bd (gU t21 (o.ld t27 s3)) fun t28 =>
 bd (gU t21 (Go.Abs.F.look .i false (.s (.bool false)) t26 t28 s3.get)) fun t29 =>
 bd (pF t21 t29) fun t30 =>
 o.br t30 (jR (I .i64 7) s3)
 (bd (o.fa 0 t3) fun t32 =>
 bd (o.ld t32 s3) fun t33 =>
 bd (o.eql t33 (I .i64 2)) fun t34 =>
 bd (gU t34 (some t13)) fun t36 =>
 bd (gU t34 (aUn .not t36)) fun t37 =>
 bd (pF t34 t37) fun t38 =>
 o.br t38 (jR (I .i64 9) s3)
 (bd (o.fa 1 t3) fun t40 =>
 bd (o.ld t40 s3) fun t41 =>
 bd (o.nil a0) fun t43 =>
 bd (o.fa 9 t43) fun t44 =>
 bd (o.ld t44 s3) fun t45 =>
 bd (o.lss t41 t45) fun t46 =>
 o.br t46 (jR (I .i64 12) s3)
 (nm [] s3)))))
 (fun v4 s5 => jT (I .i64 0) s5)
 (fun i6 v4 s5 => none)
 (fun r7 s5 => jT r7 s5)
theorem f203_ok : Ok Tryz.prog 203 (fun c => L2 (f203 fast c 8192)) := ok2 (fun o c => f203 o c 8192) Tryz.func203 (by kernel_rfl) (fun c a0 a1 s => by kernel_rfl)

/- (entry.State).at -/
def f204 (o : Ops) (kf : CallF) (N : Nat) (a0 a1 : T) (s : St) : Option (T × St) :=
 bd (o.nil a0) fun t7 =>
 bd (o.fa 0 t7) fun t8 =>
 bd (o.ld t8 s) fun t9 =>
 bd2 (kf 287 [t9, a1, (Z (.clo 288 []))] s) fun t11 s1 =>
 bd (o.ex t11 0) fun t12 =>
 bd (o.ex t11 1) fun t13 =>
 bd (retT [t12, t13]) fun r2 =>
 jT r2 s1
theorem f204_ok : Ok Tryz.prog 204 (fun c => L2 (f204 fast c 8192)) := ok2 (fun o c => f204 o c 8192) Tryz.func204 (by kernel_rfl) (fun c a0 a1 s => by kernel_rfl)

/- slices.Insert[[]api.Info,api.Info] -/
def f205 (o : Ops) (kf : CallF) (N : Nat) (a0 a1 a2 : T) (s : St) : Option (T × St) :=
 bd (aPieceSl 5 a0 (some a1) none none) fun t12 =>
 bd (o.ln a2) fun t14 =>
 bd (o.eql t14 (I .i64 0)) fun t16 =>
 o.br t16 (jT a0 s)
 (bd (o.ln a0) fun t19 =>
 bd (o.eql a1 t19) fun t22 =>
 o.br t22 (bd2 (aAppend 5 40 a0 a2 s) fun t25 s1 =>
 jT t25 s1)
 (bd (o.add t19 t14) fun t28 =>
 bd (aCap a0) fun t30 =>
 bd (o.gtr t28 t30) fun t31 =>
 o.br t31 (bd (aPieceSl 5 a0 none (some a1) none) fun t34 =>
 bd (o.add t19 t14) fun t37 =>
 bd (o.sub t37 a1) fun t39 =>
 bd2 (aGrow 5 40 [.int .i64 0, .int .i64 0, .int .i64 0, .int .i64 0, .int .u32 0] t34 t39 s) fun t40 s2 =>
 bd (aPieceSl 5 t40 (some a1) none none) fun t43 =>
 bd2 (aCopy 5 t43 a2 s2) fun t45 s3 =>
 bd (o.add a1 t14) fun t49 =>
 bd (aPieceSl 5 t40 (some t49) none none) fun t50 =>
 bd (aPieceSl 5 a0 (some a1) none none) fun t53 =>
 bd2 (aCopy 5 t50 t53 s3) fun t54 s4 =>
 jT t40 s4)
 (bd (o.add t19 t14) fun t59 =>
 bd (aPieceSl 5 a0 none (some t59) none) fun t60 =>
 bd (o.add a1 t14) fun t65 =>
 bd (aPieceSl 5 t60 (some t65) none none) fun t66 =>
 bd2 (xOver Tryz.prog 289 [a2, t66] s) fun t67 s5 =>
 bd (aUn .not t67) fun t68 =>
 o.br t68 (bd (o.add a1 t14) fun t72 =>
 bd (aPieceSl 5 t60 (some t72) none none) fun t73 =>
 bd (aPieceSl 5 t60 (some a1) none none) fun t76 =>
 bd2 (aCopy 5 t73 t76 s5) fun t77 s6 =>
 bd (aPieceSl 5 t60 (some a1) none none) fun t80 =>
 bd2 (aCopy 5 t80 a2 s6) fun t82 s7 =>
 jT t60 s7)
 (bd (aPieceSl 5 t60 (some t19) none none) fun t86 =>
 bd2 (aCopy 5 t86 a2 s5) fun t88 s8 =>
 bd (aPieceSl 5 t60 (some a1) none none) fun t91 =>
 bd2 (kf 290 [t91, t14] s8) fun t93 s9 =>
 jT t60 s9))))
theorem f205_ok : Ok Tryz.prog 205 (fun c => L3 (f205 fast c 8192)) := ok3 (fun o c => f205 o c 8192) Tryz.func205 (by kernel_rfl) (fun c a0 a1 a2 s => by kernel_rfl)

/- slices.Delete[[]api.Info,api.Info] -/
def f206 (o : Ops) (kf : CallF) (N : Nat) (a0 a1 a2 : T) (s : St) : Option (T × St) :=
 bd (o.ln a0) fun t12 =>
 bd (aPieceSl 5 a0 (some a1) (some a2) (some t12)) fun t13 =>
 bd (o.eql a1 a2) fun t16 =>
 o.br t16 (jT a0 s)
 (bd (o.ln a0) fun t19 =>
 bd (aPieceSl 5 a0 none (some a1) none) fun t22 =>
 bd (aPieceSl 5 a0 (some a2) none none) fun t25 =>
 bd2 (aAppend 5 40 t22 t25 s) fun t26 s1 =>
 bd (o.ln t26) fun t29 =>
 bd (aPieceSl 5 t26 (some t29) (some t19) none) fun t31 =>
 bd2 (aClear 5 [.int .i64 0, .int .i64 0, .int .i64 0, .int .i64 0, .int .u32 0] t31 s1) fun u2 s3 =>
 jT t26 s3)
theorem f206_ok : Ok Tryz.prog 206 (fun c => L3 (f206 fast c 8192)) := ok3 (fun o c => f206 o c 8192) Tryz.func206 (by kernel_rfl) (fun c a0 a1 a2 s => by kernel_rfl)

/- slices.Clone[[]api.Info,api.Info] -/
def f209 (o : Ops) (kf : CallF) (N : Nat) (a0 : T) (s : St) : Option (T × St) :=
 bd (eqB .l a0 (Z .nils)) fun t4 =>
 o.br t4 (jT (Z .nils) s)
 (bd2 (o.new s (nSlice 0 (aFill [] []))) fun t5 s1 =>
 bd2 (aAppend 5 40 t5 a0 s1) fun t7 s2 =>
 jT t7 s2)
theorem f209_ok : Ok Tryz.prog 209 (fun c => L1 (f209 fast c 8192)) := ok1 (fun o c => f209 o c 8192) Tryz.func209 (by kernel_rfl) (fun c a0 s => by kernel_rfl)

/- slices.IndexFunc[[]api.Info,api.Info] -/
def f210_l1 (o : Ops) (kf : CallF) (N : Nat) (v : List T) (s : St) : Option (JO × St) :=
 o.vk v 0 fun v_0 =>
 o.vk v 1 fun v_1 =>
 o.vk v 2 fun v_2 =>
 o.vk v 3 fun v_3 =>
 bd (o.lss v_3 v_2) fun t9 =>
 o.br t9 (jn (bd (o.ix 5 v_0 v_3) fun t14 =>
 bd (o.ldn 5 t14 s) fun t15 =>
 bd2 (dyn Tryz.prog kf v_1 [t15] s) fun t16 s1 =>
 o.br t16 (jR v_3 s1)
 (nm [v_0, v_1, v_2, v_3] s1))
 (fun v2 s3 => o.vk v2 0 fun v2_0 =>
 o.vk v2 1 fun v2_1 =>
 o.vk v2 2 fun v2_2 =>
 o.vk v2 3 fun v2_3 =>
 bd (o.add v2_3 (I .i64 1)) fun t18 =>
 nm [v2_0, v2_1, v2_2, t18] s3)
 (fun i4 v2 s3 => jE i4 v2 s3)
 (fun r5 s3 => jR r5 s3))
 (jE 0 [] s)
def f210 (o : Ops) (kf : CallF) (N : Nat) (a0 a1 : T) (s : St) : Option (T × St) :=
 bd (o.ln a0) fun t7 =>
 jn (jn (o.loops (f210_l1 o kf N) N [a0, a1, t7, (I .i64 0)] s)
 (fun v6 s7 => nm [] s7)
 (fun i8 v6 s7 => if i8 = 0 then nm v6 s7 else jE i8 v6 s7)
 (fun r9 s7 => jR r9 s7))
 (fun v10 s11 => jT (I .i64 (-1)) s11)
 (fun i12 v10 s11 => none)
 (fun r13 s11 => jT r13 s11)
theorem f210_ok : Ok Tryz.prog 210 (fun c => L2 (f210 fast c 8192)) := ok2 (fun o c => f210 o c 8192) Tryz.func210 (by kernel_rfl) (fun c a0 a1 s => by kernel_rfl)

/- strconv.Itoa -/
def f211 (o : Ops) (kf : CallF) (N : Nat) (a0 : T) (s : St) : Option (T × St) :=
 bd2 (kf 294 [a0] s) fun t4 s1 =>
 jT t4 s1
theorem f211_ok : Ok Tryz.prog 211 (fun c => L1 (f211 fast c 8192)) := ok1 (fun o c => f211 o c 8192) Tryz.func211 (by kernel_rfl) (fun c a0 s => by kernel_rfl)

/- block.Get -/
def f212_l1 (o : Ops) (kf : CallF) (N : Nat) (v : List T) (s : St) : Option (JO × St) :=
 o.vk v 0 fun v_0 =>
 o.vk v 1 fun v_1 =>
 o.vk v 2 fun v_2 =>
 o.vk v 3 fun v_3 =>
 o.vk v 4 fun v_4 =>
 o.vk v 5 fun v_5 =>
 bd (o.lss v_5 v_4) fun t18 =>
 o.br t18 (jn (bd (o.nil v_1) fun t21 =>
 bd (o.fa 2 t21) fun t22 =>
 bd (o.ld t22 s) fun t23 =>
 o.br t23 (jE 0 [v_0, v_1, v_2] s)
 (bd (o.eql v_5 (I .i64 0)) fun t25 =>
 o.br t25 (bd2 (kf 296 [v_1] s) fun t27 s3 =>
 bd (o.cv .i64 t27) fun t28 =>
 bd2 (kf 296 [v_1] s3) fun t32 s4 =>
 bd2 (kf 177 [t32] s4) fun t33 s5 =>
 bd (asAggT (aFill [.int .i64 0, .int .i64 0] [(0, 1, t28), (1, 1, t33)])) fun t34 =>
 bd2 (o.new s5 (nSlice 1 (aFill [.int .i64 0, .int .i64 0] [(0, 2, t34)]))) fun t35 s6 =>
 bd2 (aAppend 2 16 v_2 t35 s6) fun t36 s7 =>
 nm [v_0, v_1, t36, v_3, v_4, v_5] s7)
 (bd2 (kf 296 [v_1] s) fun t39 s8 =>
 bd2 (kf 177 [t39] s8) fun t40 s9 =>
 bd (o.add v_3 t40) fun t41 =>
 bd (o.sub v_5 (I .i64 1)) fun t44 =>
 bd (o.ix 2 v_2 t44) fun t45 =>
 bd (o.ldn 2 t45 s9) fun t46 =>
 bd2 (o.new s9 (nCells [.int .i64 0, .int .i64 0])) fun t9 s10 =>
 bd2 (o.st 2 t9 t46 s10) fun u11 s12 =>
 bd (o.fa 0 t9) fun t48 =>
 bd (o.ld t48 s12) fun t49 =>
 bd (o.add t49 t41) fun t51 =>
 bd (o.fa 1 t9) fun t52 =>
 bd (o.ld t52 s12) fun t53 =>
 bd2 (kf 296 [v_1] s12) fun t55 s13 =>
 bd2 (kf 177 [t55] s13) fun t56 s14 =>
 bd (o.add t53 t56) fun t57 =>
 bd (asAggT (aFill [.int .i64 0, .int .i64 0] [(0, 1, t51), (1, 1, t57)])) fun t58 =>
 bd2 (o.new s14 (nSlice 1 (aFill [.int .i64 0, .int .i64 0] [(0, 2, t58)]))) fun t59 s15 =>
 bd2 (aAppend 2 16 v_2 t59 s15) fun t60 s16 =>
 ck ((decide (aLoad1 t48 (overlay 9 s13.get (ovO 12 s14.size (nSlice 1 (aFill [.int .i64 0, .int .i64 0] [(0, 2, t58)])) [])) = o.ld t48 s12) && (decide (aLoad1 t48 (overlay 10 s14.get (ovO 12 s14.size (nSlice 1 (aFill [.int .i64 0, .int .i64 0] [(0, 2, t58)])) [])) = o.ld t48 s12) && true)) && ((decide (aLoad1 t52 (overlay 9 s13.get (ovO 12 s14.size (nSlice 1 (aFill [.int .i64 0, .int .i64 0] [(0, 2, t58)])) [])) = o.ld t52 s12) && (decide (aLoad1 t52 (overlay 10 s14.get (ovO 12 s14.size (nSlice 1 (aFill [.int .i64 0, .int .i64 0] [(0, 2, t58)])) [])) = o.ld t52 s12) && true)) && true)) (nm [v_0, v_1, t60, t41, v_4, v_5] s16))))
 (fun v17 s18 => o.vk v17 0 fun v17_0 =>
 o.vk v17 1 fun v17_1 =>
 o.vk v17 2 fun v17_2 =>
 o.vk v17 3 fun v17_3 =>
 o.vk v17 4 fun v17_4 =>
 o.vk v17 5 fun v17_5 =>
 bd (o.add v17_5 (I .i64 1)) fun t61 =>
 nm [v17_0, v17_1, v17_2, v17_3, v17_4, t61] s18)
 (fun i19 v17 s18 => jE i19 v17 s18)
 (fun r20 s18 => jR r20 s18))
 (jE 0 [v_0, v_1, v_2] s)
def f212 (o : Ops) (kf : CallF) (N : Nat) (a0 : T) (s : St) : Option (T × St) :=
 bd (asAggT (aFill [.nils, .int .i64 0, .bool false] [(0, 1, a0)])) fun t13 =>
 bd2 (o.new s (nBox t13)) fun t14 s1 =>
 bd2 (kf 295 [t14, (I .i64 64)] s1) fun t16 s2 =>
 jn (jn (o.loops (f212_l1 o kf N) N [a0, t14, (Z .nils), (I .i64 0), t16, (I .i64 0)] s2)
 (fun v21 s22 => nm [.any, .any, .any] s22)
 (fun i23 v21 s22 => if i23 = 0 then nm v21 s22 else jE i23 v21 s22)
 (fun r24 s22 => jR r24 s22))
 (fun v25 s26 => o.vk v25 0 fun v25_0 =>
 o.vk v25 1 fun v25_1 =>
 o.vk v25 2 fun v25_2 =>
 bd2 (kf 297 [v25_2] s26) fun t64 s29 =>
 bd (o.ex t64 0) fun t65 =>
 bd (o.ex t64 1) fun t66 =>
 bd (o.nil v25_1) fun t68 =>
 bd (o.fa 2 t68) fun t69 =>
 bd (o.ld t69 s29) fun t70 =>
 bd (gF t70 (some t66)) fun t72 =>
 bd (gF t70 (o.neq t72 (I .i64 0))) fun t73 =>
 bd (pT t70 t73) fun t74 =>
 bd (gF t74 (some t65)) fun t76 =>
 bd (gF t74 (some v25_0)) fun t77 =>
 bd2 (gS (gd t74 false) s29 (kf 171 [t76, t77] s29)) fun t78 s30 =>
 bd (gF t74 (aUn .not t78)) fun t79 =>
 bd (pT t74 t79) fun t80 =>
 o.br t80 (bd (retT [(Z .nils), (I .i64 2)]) fun r31 =>
 jT r31 s30)
 (bd (retT [v25_2, (I .i64 0)]) fun r32 =>
 jT r32 s30))
 (fun i27 v25 s26 => none)
 (fun r28 s26 => jT r28 s26)
theorem f212_ok : Ok Tryz.prog 212 (fun c => L1 (f212 fast c 8192)) := ok1 (fun o c => f212 o c 8192) Tryz.func212 (by kernel_rfl) (fun c a0 s => by kernel_rfl)

/- block.GetAggs -/
def f213_l1_1 (o : Ops) (kf : CallF) (N : Nat) (t9 : T) (s11 : St) (t48 v_2 v_0 v_1 v_3 t34 v_5 v_6 : T) : Option (JO × St) :=
 bd (o.fa 3 t9) fun t49 =>
 bd (o.ld t49 s11) fun t50 =>
 bd (o.fa 3 t9) fun t51 =>
 bd (o.ld t51 s11) fun t52 =>
 bd (o.fa 3 t9) fun t53 =>
 bd (o.ld t53 s11) fun t54 =>
 bd (o.fa 2 t9) fun t55 =>
 bd2 (o.st 1 t55 t48 s11) fun u12 s13 =>
 bd (o.fa 4 t9) fun t56 =>
 bd2 (o.st 1 t56 t50 s13) fun u14 s15 =>
 bd (o.fa 5 t9) fun t57 =>
 bd2 (o.st 1 t57 t52 s15) fun u16 s17 =>
 bd (o.fa 6 t9) fun t58 =>
 bd2 (o.st 1 t58 t54 s17) fun u18 s19 =>
 bd (o.fa 1 t9) fun t59 =>
 bd (o.ld t59 s19) fun t60 =>
 bd (o.neq t60 (I .i64 1)) fun t61 =>
 jn (o.br t61 (bd (o.fa 3 t9) fun t62 =>
 bd (o.ld t62 s19) fun t63 =>
 bd (o.cv .u64 t63) fun t64 =>
 bd2 (kf 296 [v_2] s19) fun t66 s20 =>
 bd (o.add t64 t66) fun t67 =>
 bd (o.cv .i64 t67) fun t68 =>
 bd (o.fa 4 t9) fun t69 =>
 bd2 (o.st 1 t69 t68 s20) fun u21 s22 =>
 ck ((decide (o.ld t62 s20 = o.ld t62 s19) && true) && true) (bd2 (kf 296 [v_2] s22) fun t71 s23 =>
 bd2 (kf 177 [t71] s23) fun t72 s24 =>
 bd (o.fa 2 t9) fun t73 =>
 bd2 (o.st 1 t73 t72 s24) fun u25 s26 =>
 bd (o.fa 3 t9) fun t74 =>
 bd (o.ld t74 s26) fun t75 =>
 bd (o.cv .u64 t75) fun t76 =>
 bd2 (kf 296 [v_2] s26) fun t78 s27 =>
 bd (o.add t76 t78) fun t79 =>
 bd (o.cv .i64 t79) fun t80 =>
 bd (o.fa 5 t9) fun t81 =>
 bd2 (o.st 1 t81 t80 s27) fun u28 s29 =>
 ck ((decide (o.ld t74 s27 = o.ld t74 s26) && true) && true) (bd (o.fa 3 t9) fun t82 =>
 bd (o.ld t82 s29) fun t83 =>
 bd (o.cv .u64 t83) fun t84 =>
 bd2 (kf 296 [v_2] s29) fun t86 s30 =>
 bd (o.add t84 t86) fun t87 =>
 bd (o.cv .i64 t87) fun t88 =>
 bd (o.fa 6 t9) fun t89 =>
 bd2 (o.st 1 t89 t88 s30) fun u31 s32 =>
 ck ((decide (o.ld t82 s30 = o.ld t82 s29) && true) && true) (nm [v_0, v_1, v_2, v_3, t34, t9, v_5, v_6] s32))))
 (nm [v_0, v_1, v_2, v_3, t34, t9, v_5, v_6] s19))
 (fun v33 s34 => o.vk v33 0 fun v33_0 =>
 o.vk v33 1 fun v33_1 =>
 o.vk v33 2 fun v33_2 =>
 o.vk v33 3 fun v33_3 =>
 o.vk v33 4 fun v33_4 =>
 o.vk v33 5 fun v33_5 =>
 o.vk v33 6 fun v33_6 =>
 o.vk v33 7 fun v33_7 =>
 bd (o.ldn 7 v33_5 s34) fun t91 =>
 bd2 (o.new s34 (nSlice 1 (aFill [.int .i64 0, .int .i64 0, .int .i64 0, .int .i64 0, .int .i64 0, .int .i64 0, .int .i64 0] [(0, 7, t91)]))) fun t92 s37 =>
 bd2 (aAppend 7 56 v33_3 t92 s37) fun t93 s38 =>
 nm [v33_0, v33_1, v33_2, t93, v33_4, v33_6, v33_7] s38)
 (fun i35 v33 s34 => if i35 = 1 then nm v33 s34 else jE i35 v33 s34)
 (fun r36 s34 => jR r36 s34)
def f213_l1 (o : Ops) (kf : CallF) (N : Nat) (v : List T) (s : St) : Option (JO × St) :=
 o.vk v 0 fun v_0 =>
 o.vk v 1 fun v_1 =>
 o.vk v 2 fun v_2 =>
 o.vk v 3 fun v_3 =>
 o.vk v 4 fun v_4 =>
 o.vk v 5 fun v_5 =>
 o.vk v 6 fun v_6 =>
 bd (o.lss v_6 v_5) fun t24 =>
 o.br t24 (jn (bd (o.nil v_2) fun t26 =>
 bd (o.fa 2 t26) fun t27 =>
 bd (o.ld t27 s) fun t28 =>
 o.br t28 (jE 0 [v_0, v_1, v_2, v_3] s)
 (bd (o.add v_4 (I .i64 1)) fun t30 =>
 bd2 (kf 296 [v_2] s) fun t32 s4 =>
 bd (o.cv .i64 t32) fun t33 =>
 bd (o.add t30 t33) fun t34 =>
 bd2 (kf 135 [v_1] s4) fun t37 s5 =>
 bd (o.bin .mul t34 t37) fun t38 =>
 bd2 (kf 296 [v_2] s5) fun t40 s6 =>
 bd (o.cv .i64 t40) fun t41 =>
 bd (o.add t41 (I .i64 1)) fun t42 =>
 bd2 (kf 296 [v_2] s6) fun t44 s7 =>
 bd2 (kf 177 [t44] s7) fun t45 s8 =>
 bd (asAggT (aFill [.int .i64 0, .int .i64 0, .int .i64 0, .int .i64 0, .int .i64 0, .int .i64 0, .int .i64 0] [(0, 1, t38), (1, 1, t42), (3, 1, t45)])) fun t46 =>
 bd2 (o.new s8 (nCells [.int .i64 0, .int .i64 0, .int .i64 0, .int .i64 0, .int .i64 0, .int .i64 0, .int .i64 0])) fun t9 s9 =>
 bd2 (o.st 7 t9 t46 s9) fun u10 s11 =>
 bd (o.fa 3 t9) fun t47 =>
 bd (o.ld t47 s11) fun t48 =>
 f213_l1_1 o kf N t9 s11 t48 v_2 v_0 v_1 v_3 t34 v_5 v_6))
 (fun v39 s40 => o.vk v39 0 fun v39_0 =>
 o.vk v39 1 fun v39_1 =>
 o.vk v39 2 fun v39_2 =>
 o.vk v39 3 fun v39_3 =>
 o.vk v39 4 fun v39_4 =>
 o.vk v39 5 fun v39_5 =>
 o.vk v39 6 fun v39_6 =>
 bd (o.add v39_6 (I .i64 1)) fun t94 =>
 nm [v39_0, v39_1, v39_2, v39_3, v39_4, v39_5, t94] s40)
 (fun i41 v39 s40 => jE i41 v39 s40)
 (fun r42 s40 => jR r42 s40))
 (jE 0 [v_0, v_1, v_2, v_3] s)
def f213 (o : Ops) (kf : CallF) (N : Nat) (a0 a1 : T) (s : St) : Option (T × St) :=
 bd (o.lss a1 (I .i64 1)) fun t13 =>
 bd (gF t13 (some a1)) fun t15 =>
 bd (gF t13 (o.geq t15 (I .i64 4))) fun t16 =>
 bd (pT t13 t16) fun t17 =>
 o.br t17 (bd (retT [(Z .nils), (I .i64 1)]) fun r1 =>
 jT r1 s)
 (bd (asAggT (aFill [.nils, .int .i64 0, .bool false] [(0, 1, a0)])) fun t19 =>
 bd2 (o.new s (nBox t19)) fun t20 s2 =>
 bd2 (kf 295 [t20, (I .i64 64)] s2) fun t22 s3 =>
 jn (jn (o.loops (f213_l1 o kf N) N [a0, a1, t20, (Z .nils), (I .i64 (-1)), t22, (I .i64 0)] s3)
 (fun v43 s44 => nm [.any, .any, .any, .any] s44)
 (fun i45 v43 s44 => if i45 = 0 then nm v43 s44 else jE i45 v43 s44)
 (fun r46 s44 => jR r46 s44))
 (fun v47 s48 => o.vk v47 0 fun v47_0 =>
 o.vk v47 1 fun v47_1 =>
 o.vk v47 2 fun v47_2 =>
 o.vk v47 3 fun v47_3 =>
 bd2 (kf 298 [v47_3, v47_1] s48) fun t98 s51 =>
 bd (o.ex t98 0) fun t99 =>
 bd (o.ex t98 1) fun t100 =>
 bd (o.nil v47_2) fun t102 =>
 bd (o.fa 2 t102) fun t103 =>
 bd (o.ld t103 s51) fun t104 =>
 bd (gF t104 (some t100)) fun t106 =>
 bd (gF t104 (o.neq t106 (I .i64 0))) fun t107 =>
 bd (pT t104 t107) fun t108 =>
 bd (gF t108 (some t99)) fun t110 =>
 bd (gF t108 (some v47_0)) fun t111 =>
 bd2 (gS (gd t108 false) s51 (kf 171 [t110, t111] s51)) fun t112 s52 =>
 bd (gF t108 (aUn .not t112)) fun t113 =>
 bd (pT t108 t113) fun t114 =>
 o.br t114 (bd (retT [(Z .nils), (I .i64 2)]) fun r53 =>
 jT r53 s52)
 (bd (retT [v47_3, (I .i64 0)]) fun r54 =>
 jT r54 s52))
 (fun i49 v47 s48 => none)
 (fun r50 s48 => jT r50 s48))
theorem f213_ok : Ok Tryz.prog 213 (fun c => L2 (f213 fast c 8192)) := ok2 (fun o c => f213 o c 8192) Tryz.func213 (by kernel_rfl) (fun c a0 a1 s => by kernel_rfl)

/- segment.Put -/
def f214_l1 (o : Ops) (kf : CallF) (N : Nat) (v : List T) (s : St) : Option (JO × St) :=
 o.vk v 0 fun v_0 =>
 o.vk v 1 fun v_1 =>
 o.vk v 2 fun v_2 =>
 o.vk v 3 fun v_3 =>
 o.vk v 4 fun v_4 =>
 bd (o.lss v_4 v_3) fun t31 =>
 o.br t31 (jn (bd (o.ix 1 v_2 v_4) fun t32 =>
 bd (o.ld t32 s) fun t33 =>
 bd2 (kf 238 [t33] s) fun t36 s6 =>
 bd2 (aAppend 1 1 v_1 t36 s6) fun t37 s7 =>
 nm [v_0, t37, v_2, v_3, v_4] s7)
 (fun v8 s9 => o.vk v8 0 fun v8_0 =>
 o.vk v8 1 fun v8_1 =>
 o.vk v8 2 fun v8_2 =>
 o.vk v8 3 fun v8_3 =>
 o.vk v8 4 fun v8_4 =>
 bd (o.add v8_4 (I .i64 1)) fun t38 =>
 nm [v8_0, v8_1, v8_2, v8_3, t38] s9)
 (fun i10 v8 s9 => jE i10 v8 s9)
 (fun r11 s9 => jR r11 s9))
 (jE 0 [v_0, v_1] s)
def f214 (o : Ops) (kf : CallF) (N : Nat) (a0 : T) (s : St) : Option (T × St) :=
 bd2 (o.new s (nBox a0)) fun t1 s1 =>
 bd (o.ldn 6 t1 s1) fun t9 =>
 bd2 (kf 215 [t9] s1) fun t10 s2 =>
 bd (aUn .not t10) fun t11 =>
 o.br t11 (bd (retT [(Z .nils), (I .i64 1)]) fun r3 =>
 jT r3 s2)
 (bd2 (o.new s2 (nSlice 2 (aFill [.int .u8 0, .int .u8 0] [(0, 1, (I .u8 84)), (1, 1, (I .u8 75))]))) fun t12 s4 =>
 bd (o.fa 0 t1) fun t13 =>
 bd (o.ld t13 s4) fun t14 =>
 bd (o.cv .u64 t14) fun t15 =>
 bd (o.fa 1 t1) fun t16 =>
 bd (o.ld t16 s4) fun t17 =>
 bd (o.cv .u64 t17) fun t18 =>
 bd (o.fa 2 t1) fun t19 =>
 bd (o.ld t19 s4) fun t20 =>
 bd (o.cv .u64 t20) fun t21 =>
 bd (o.fa 3 t1) fun t22 =>
 bd (o.ld t22 s4) fun t23 =>
 bd (o.fa 2 t1) fun t24 =>
 bd (o.ld t24 s4) fun t25 =>
 bd (o.sub t23 t25) fun t26 =>
 bd (o.cv .u64 t26) fun t27 =>
 bd2 (o.new s4 (nSlice 4 (aFill [.int .u64 0, .int .u64 0, .int .u64 0, .int .u64 0] [(0, 1, t15), (1, 1, t18), (2, 1, t21), (3, 1, t27)]))) fun t28 s5 =>
 bd (o.ln t28) fun t29 =>
 jn (jn (o.loops (f214_l1 o kf N) N [t1, t12, t28, t29, (I .i64 0)] s5)
 (fun v12 s13 => nm [.any, .any] s13)
 (fun i14 v12 s13 => if i14 = 0 then nm v12 s13 else jE i14 v12 s13)
 (fun r15 s13 => jR r15 s13))
 (fun v16 s17 => o.vk v16 0 fun v16_0 =>
 o.vk v16 1 fun v16_1 =>
 bd (o.fa 4 v16_0) fun t40 =>
 bd (o.ld t40 s17) fun t41 =>
 bd2 (kf 297 [t41] s17) fun t42 s20 =>
 bd (o.ex t42 0) fun t43 =>
 bd (o.ex t42 1) fun t44 =>
 bd (o.fa 1 v16_0) fun t45 =>
 bd (o.ld t45 s20) fun t46 =>
 bd (o.gtr t46 (I .i64 0)) fun t47 =>
 jn (o.br t47 (bd (o.fa 5 v16_0) fun t49 =>
 bd (o.ld t49 s20) fun t50 =>
 bd (o.fa 1 v16_0) fun t51 =>
 bd (o.ld t51 s20) fun t52 =>
 bd2 (kf 298 [t50, t52] s20) fun t53 s21 =>
 bd (o.ex t53 0) fun t54 =>
 bd (o.ex t53 1) fun t55 =>
 nm [v16_1, t54, t55] s21)
 (nm [v16_1, t43, t44] s20))
 (fun v22 s23 => o.vk v22 0 fun v22_0 =>
 o.vk v22 1 fun v22_1 =>
 o.vk v22 2 fun v22_2 =>
 bd (o.neq v22_2 (I .i64 0)) fun t57 =>
 o.br t57 (bd (retT [(Z .nils), v22_2]) fun r26 =>
 jT r26 s23)
 (bd2 (aAppend 1 1 v22_0 v22_1 s23) fun t61 s27 =>
 bd2 (kf 239 [t61] s27) fun t64 s28 =>
 bd2 (kf 299 [t64] s28) fun t65 s29 =>
 bd2 (aAppend 1 1 t61 t65 s29) fun t66 s30 =>
 bd (o.ln t66) fun t68 =>
 bd (o.gtr t68 (I .i64 4000)) fun t69 =>
 o.br t69 (bd (retT [(Z .nils), (I .i64 8)]) fun r31 =>
 jT r31 s30)
 (bd (retT [t66, (I .i64 0)]) fun r32 =>
 jT r32 s30)))
 (fun i24 v22 s23 => none)
 (fun r25 s23 => jT r25 s23))
 (fun i18 v16 s17 => none)
 (fun r19 s17 => jT r19 s17))
theorem f214_ok : Ok Tryz.prog 214 (fun c => L1 (f214 fast c 8192)) := ok1 (fun o c => f214 o c 8192) Tryz.func214 (by kernel_rfl) (fun c a0 s => by kernel_rfl)

/- segment.May -/
def f215_1 (o : Ops) (kf : CallF) (N : Nat) (t17 t1 : T) (s2 : St) : Option (T × St) :=
 o.br t17 (bd (o.fa 4 t1) fun t18 =>
 bd (o.ld t18 s2) fun t19 =>
 bd (o.ln t19) fun t20 =>
 bd (o.fa 5 t1) fun t21 =>
 bd (o.ld t21 s2) fun t22 =>
 bd (o.ln t22) fun t23 =>
 bd (o.eql t23 (I .i64 0)) fun t24 =>
 bd (gU t24 (some t20)) fun t26 =>
 bd (gU t24 (o.geq t26 (I .i64 1))) fun t27 =>
 bd (pF t24 t27) fun t28 =>
 bd (gU t28 (some t20)) fun t30 =>
 bd (gU t28 (o.leq t30 (I .i64 64))) fun t31 =>
 bd (pF t28 t31) fun t32 =>
 bd (gU t32 (o.fa 4 t1)) fun t34 =>
 bd (gU t32 (o.ld t34 s2)) fun t35 =>
 bd2 (gS (gd t32 true) s2 (kf 219 [t35] s2)) fun t36 s3 =>
 bd (pF t32 t36) fun t37 =>
 bd (gU t37 (o.fa 4 t1)) fun t39 =>
 bd (gU t37 (o.ld t39 s3)) fun t40 =>
 bd (gU t37 (o.ix 2 t40 (I .i64 0))) fun t41 =>
 bd (gU t37 (o.fa 0 t41)) fun t42 =>
 bd (gU t37 (o.ld t42 s3)) fun t43 =>
 bd (gU t37 (o.fa 2 t1)) fun t44 =>
 bd (gU t37 (o.ld t44 s3)) fun t45 =>
 bd (gU t37 (o.geq t43 t45)) fun t46 =>
 bd (pF t37 t46) fun t47 =>
 bd (gU t47 (o.fa 4 t1)) fun t49 =>
 bd (gU t47 (o.ld t49 s3)) fun t50 =>
 bd (gU t47 (some t20)) fun t51 =>
 bd (gU t47 (o.sub t51 (I .i64 1))) fun t52 =>
 bd (gU t47 (o.ix 2 t50 t52)) fun t53 =>
 bd (gU t47 (o.fa 0 t53)) fun t54 =>
 bd (gU t47 (o.ld t54 s3)) fun t55 =>
 bd (gU t47 (o.fa 3 t1)) fun t56 =>
 bd (gU t47 (o.ld t56 s3)) fun t57 =>
 bd (gU t47 (o.lss t55 t57)) fun t58 =>
 bd (pF t47 t58) fun t59 =>
 jT t59 s3)
 (bd (o.fa 5 t1) fun t60 =>
 bd (o.ld t60 s2) fun t61 =>
 bd (o.ln t61) fun t62 =>
 bd (o.fa 4 t1) fun t63 =>
 bd (o.ld t63 s2) fun t64 =>
 bd (o.ln t64) fun t65 =>
 bd (o.eql t65 (I .i64 0)) fun t66 =>
 bd (gU t66 (some t62)) fun t68 =>
 bd (gU t66 (o.geq t68 (I .i64 1))) fun t69 =>
 bd (pF t66 t69) fun t70 =>
 bd (gU t70 (some t62)) fun t72 =>
 bd (gU t70 (o.leq t72 (I .i64 64))) fun t73 =>
 bd (pF t70 t73) fun t74 =>
 bd (gU t74 (o.fa 5 t1)) fun t76 =>
 bd (gU t74 (o.ld t76 s2)) fun t77 =>
 bd (gU t74 (o.fa 1 t1)) fun t78 =>
 bd (gU t74 (o.ld t78 s2)) fun t79 =>
 bd2 (gS (gd t74 true) s2 (kf 301 [t77, t79] s2)) fun t80 s4 =>
 bd (pF t74 t80) fun t81 =>
 bd (gU t81 (o.fa 5 t1)) fun t83 =>
 bd (gU t81 (o.ld t83 s4)) fun t84 =>
 bd (gU t81 (o.ix 7 t84 (I .i64 0))) fun t85 =>
 bd (gU t81 (o.fa 0 t85)) fun t86 =>
 bd (gU t81 (o.ld t86 s4)) fun t87 =>
 bd (gU t81 (o.fa 2 t1)) fun t88 =>
 bd (gU t81 (o.ld t88 s4)) fun t89 =>
 bd (gU t81 (o.fa 1 t1)) fun t90 =>
 bd (gU t81 (o.ld t90 s4)) fun t91 =>
 bd2 (gS (gd t81 true) s4 (kf 302 [t89, t91] s4)) fun t92 s5 =>
 bd (gU t81 (o.geq t87 t92)) fun t93 =>
 bd (pF t81 t93) fun t94 =>
 bd (gU t94 (o.fa 5 t1)) fun t96 =>
 bd (gU t94 (o.ld t96 s5)) fun t97 =>
 bd (gU t94 (some t62)) fun t98 =>
 bd (gU t94 (o.sub t98 (I .i64 1))) fun t99 =>
 bd (gU t94 (o.ix 7 t97 t99)) fun t100 =>
 bd (gU t94 (o.fa 0 t100)) fun t101 =>
 bd (gU t94 (o.ld t101 s5)) fun t102 =>
 bd (gU t94 (o.fa 3 t1)) fun t103 =>
 bd (gU t94 (o.ld t103 s5)) fun t104 =>
 bd (gU t94 (o.lss t102 t104)) fun t105 =>
 bd (pF t94 t105) fun t106 =>
 ck ((wq (gd t81 true) (decide (o.ld t83 s5 = o.ld t83 s4)) && true) && ((wq (gd t81 true) (decide (o.ld t86 s5 = o.ld t86 s4)) && true) && true)) (jT t106 s5))
def f215 (o : Ops) (kf : CallF) (N : Nat) (a0 : T) (s : St) : Option (T × St) :=
 bd2 (o.new s (nBox a0)) fun t1 s1 =>
 bd (o.fa 0 t1) fun t5 =>
 bd (o.ld t5 s1) fun t6 =>
 bd (o.fa 1 t1) fun t7 =>
 bd (o.ld t7 s1) fun t8 =>
 bd (o.fa 2 t1) fun t9 =>
 bd (o.ld t9 s1) fun t10 =>
 bd (o.fa 3 t1) fun t11 =>
 bd (o.ld t11 s1) fun t12 =>
 bd2 (kf 300 [t6, t8, t10, t12] s1) fun t13 s2 =>
 bd (aUn .not t13) fun t14 =>
 o.br t14 (jT (B false) s2)
 (bd (o.fa 1 t1) fun t15 =>
 bd (o.ld t15 s2) fun t16 =>
 bd (o.eql t16 (I .i64 0)) fun t17 =>
 f215_1 o kf N t17 t1 s2)
theorem f215_ok : Ok Tryz.prog 215 (fun c => L1 (f215 fast c 8192)) := ok1 (fun o c => f215 o c 8192) Tryz.func215 (by kernel_rfl) (fun c a0 s => by kernel_rfl)

/- tier.Rising -/
def f219_l1 (o : Ops) (kf : CallF) (N : Nat) (v : List T) (s : St) : Option (JO × St) :=
 o.vk v 0 fun v_0 =>
 o.vk v 1 fun v_1 =>
 o.vk v 2 fun v_2 =>
 o.vk v 3 fun v_3 =>
 bd (o.lss v_3 v_2) fun t9 =>
 o.br t9 (jn (bd (o.ix 2 v_1 v_3) fun t10 =>
 bd (o.ldn 2 t10 s) fun t11 =>
 bd2 (o.new s (nCells [.int .i64 0, .int .i64 0])) fun t5 s1 =>
 bd2 (o.st 2 t5 t11 s1) fun u2 s3 =>
 bd (o.fa 0 t5) fun t12 =>
 bd (o.ld t12 s3) fun t13 =>
 bd (o.leq t13 v_0) fun t15 =>
 bd (gF t15 (o.fa 0 t5)) fun t17 =>
 bd (gF t15 (o.ld t17 s3)) fun t18 =>
 bd (gF t15 (o.gtr t18 (I .i64 1099511627776))) fun t19 =>
 bd (pT t15 t19) fun t20 =>
 o.br t20 (jR (B false) s3)
 (bd (o.fa 0 t5) fun t21 =>
 bd (o.ld t21 s3) fun t22 =>
 nm [t22, v_1, v_2, v_3] s3))
 (fun v4 s5 => o.vk v4 0 fun v4_0 =>
 o.vk v4 1 fun v4_1 =>
 o.vk v4 2 fun v4_2 =>
 o.vk v4 3 fun v4_3 =>
 bd (o.add v4_3 (I .i64 1)) fun t23 =>
 nm [v4_0, v4_1, v4_2, t23] s5)
 (fun i6 v4 s5 => jE i6 v4 s5)
 (fun r7 s5 => jR r7 s5))
 (jE 0 [] s)
def f219 (o : Ops) (kf : CallF) (N : Nat) (a0 : T) (s : St) : Option (T × St) :=
 bd (o.ln a0) fun t7 =>
 jn (jn (o.loops (f219_l1 o kf N) N [(I .i64 (-1)), a0, t7, (I .i64 0)] s)
 (fun v8 s9 => nm [] s9)
 (fun i10 v8 s9 => if i10 = 0 then nm v8 s9 else jE i10 v8 s9)
 (fun r11 s9 => jR r11 s9))
 (fun v12 s13 => jT (B true) s13)
 (fun i14 v12 s13 => none)
 (fun r15 s13 => jT r15 s13)
theorem f219_ok : Ok Tryz.prog 219 (fun c => L1 (f219 fast c 8192)) := ok1 (fun o c => f219 o c 8192) Tryz.func219 (by kernel_rfl) (fun c a0 s => by kernel_rfl)

/- fold.One -/
def f220 (o : Ops) (kf : CallF) (N : Nat) (a0 a1 : T) (s : St) : Option (T × St) :=
 bd2 (o.new s (nBox a0)) fun t2 s1 =>
 bd2 (o.new s1 (nCells [.int .i64 0, .int .i64 0, .int .i64 0, .int .i64 0, .int .i64 0, .int .i64 0, .int .i64 0])) fun t4 s2 =>
 bd (o.fa 1 t2) fun t6 =>
 bd (o.ld t6 s2) fun t7 =>
 bd (o.fa 1 t2) fun t8 =>
 bd (o.ld t8 s2) fun t9 =>
 bd (o.fa 1 t2) fun t10 =>
 bd (o.ld t10 s2) fun t11 =>
 bd (o.fa 1 t2) fun t12 =>
 bd (o.ld t12 s2) fun t13 =>
 bd (o.fa 1 t2) fun t14 =>
 bd (o.ld t14 s2) fun t15 =>
 bd (asAggT (aFill [.int .i64 0, .int .i64 0, .int .i64 0, .int .i64 0, .int .i64 0, .int .i64 0, .int .i64 0] [(0, 1, a1), (1, 1, (I .i64 1)), (2, 1, t7), (3, 1, t9), (4, 1, t11), (5, 1, t13), (6, 1, t15)])) fun t16 =>
 bd2 (o.st 7 t4 t16 s2) fun u3 s4 =>
 bd (rC (o.ldn 7 t4 s4) (some [])) fun l5 =>
 bd (retT l5) fun r6 =>
 jT r6 s4
theorem f220_ok : Ok Tryz.prog 220 (fun c => L2 (f220 fast c 8192)) := ok2 (fun o c => f220 o c 8192) Tryz.func220 (by kernel_rfl) (fun c a0 a1 s => by kernel_rfl)

/- twin.made -/
def f222_l1 (o : Ops) (kf : CallF) (N : Nat) (v : List T) (s : St) : Option (JO × St) :=
 o.vk v 0 fun v_0 =>
 o.vk v 1 fun v_1 =>
 o.vk v 2 fun v_2 =>
 o.vk v 3 fun v_3 =>
 o.vk v 4 fun v_4 =>
 o.vk v 5 fun v_5 =>
 bd (o.lss v_5 v_4) fun t11 =>
 o.br t11 (jn (bd (o.ix 8 v_3 v_5) fun t12 =>
 bd (o.ldn 8 t12 s) fun t13 =>
 bd2 (o.new s (nCells [.int .i64 0, .int .i64 0, .int .i64 0, .int .i64 0, .int .i64 0, .int .i64 0, .int .u32 0, .str []])) fun t7 s2 =>
 bd2 (o.st 8 t7 t13 s2) fun u3 s4 =>
 bd (o.fa 0 t7) fun t14 =>
 bd (o.ld t14 s4) fun t15 =>
 bd (o.eql t15 (I .i64 1)) fun t16 =>
 bd (gU t16 (o.fa 2 t7)) fun t18 =>
 bd (gU t16 (o.ld t18 s4)) fun t19 =>
 bd (gU t16 (some v_0)) fun t20 =>
 bd (gU t16 (o.eql t19 t20)) fun t21 =>
 bd (pF t16 t21) fun t22 =>
 jn (o.br t22 (bd (o.fa 1 t7) fun t23 =>
 bd (o.ld t23 s4) fun t24 =>
 nm [v_0, v_1, t24, v_3, v_4, v_5] s4)
 (nm [v_0, v_1, v_2, v_3, v_4, v_5] s4))
 (fun v5 s6 => o.vk v5 0 fun v5_0 =>
 o.vk v5 1 fun v5_1 =>
 o.vk v5 2 fun v5_2 =>
 o.vk v5 3 fun v5_3 =>
 o.vk v5 4 fun v5_4 =>
 o.vk v5 5 fun v5_5 =>
 nm [v5_0, v5_1, v5_2, v5_3, v5_4, v5_5] s6)
 (fun i7 v5 s6 => if i7 = 1 then nm v5 s6 else jE i7 v5 s6)
 (fun r8 s6 => jR r8 s6))
 (fun v9 s10 => o.vk v9 0 fun v9_0 =>
 o.vk v9 1 fun v9_1 =>
 o.vk v9 2 fun v9_2 =>
 o.vk v9 3 fun v9_3 =>
 o.vk v9 4 fun v9_4 =>
 o.vk v9 5 fun v9_5 =>
 bd (o.add v9_5 (I .i64 1)) fun t25 =>
 nm [v9_0, v9_1, v9_2, v9_3, v9_4, t25] s10)
 (fun i11 v9 s10 => jE i11 v9 s10)
 (fun r12 s10 => jR r12 s10))
 (jE 0 [v_0, v_1, v_2] s)
def f222 (o : Ops) (kf : CallF) (N : Nat) (a0 a1 : T) (s : St) : Option (T × St) :=
 bd2 (o.new s (nCells [.int .i64 0, .int .i64 0])) fun t4 s1 =>
 bd (o.ln a0) fun t9 =>
 jn (jn (o.loops (f222_l1 o kf N) N [a1, t4, (I .i64 0), a0, t9, (I .i64 0)] s1)
 (fun v13 s14 => nm [.any, .any, .any] s14)
 (fun i15 v13 s14 => if i15 = 0 then nm v13 s14 else jE i15 v13 s14)
 (fun r16 s14 => jR r16 s14))
 (fun v17 s18 => o.vk v17 0 fun v17_0 =>
 o.vk v17 1 fun v17_1 =>
 o.vk v17 2 fun v17_2 =>
 bd (asAggT (aFill [.int .i64 0, .int .i64 0] [(0, 1, v17_2), (1, 1, v17_0)])) fun t28 =>
 bd2 (o.st 2 v17_1 t28 s18) fun u21 s22 =>
 bd (rC (o.ldn 2 v17_1 s22) (some [])) fun l23 =>
 bd (retT l23) fun r24 =>
 jT r24 s22)
 (fun i19 v17 s18 => none)
 (fun r20 s18 => jT r20 s18)
theorem f222_ok : Ok Tryz.prog 222 (fun c => L2 (f222 fast c 8192)) := ok2 (fun o c => f222 o c 8192) Tryz.func222 (by kernel_rfl) (fun c a0 a1 s => by kernel_rfl)

/- (disk.Disk).Used -/
def f227_l1 (o : Ops) (kf : CallF) (N : Nat) (v : List T) (s : St) : Option (JO × St) :=
 o.vk v 0 fun v_0 =>
 o.vk v 1 fun v_1 =>
 o.vk v 2 fun v_2 =>
 o.vk v 3 fun v_3 =>
 o.vk v 4 fun v_4 =>
 bd (o.lss v_4 v_3) fun t10 =>
 o.br t10 (jn (bd (o.ix 1 v_2 v_4) fun t11 =>
 bd (o.ld t11 s) fun t12 =>
 bd (o.nil v_0) fun t15 =>
 bd (o.fa 1 t15) fun t16 =>
 bd (o.ld t16 s) fun t17 =>
 bd (Go.Abs.F.look .s false (.s (.nilp)) t17 t12 s.get) fun t19 =>
 bd (o.nil t19) fun t20 =>
 bd (o.fa 0 t20) fun t21 =>
 bd (o.ld t21 s) fun t22 =>
 bd (o.ln t22) fun t23 =>
 bd (o.add v_1 t23) fun t24 =>
 nm [v_0, t24, v_2, v_3, v_4] s)
 (fun v2 s3 => o.vk v2 0 fun v2_0 =>
 o.vk v2 1 fun v2_1 =>
 o.vk v2 2 fun v2_2 =>
 o.vk v2 3 fun v2_3 =>
 o.vk v2 4 fun v2_4 =>
 bd (o.add v2_4 (I .i64 1)) fun t25 =>
 nm [v2_0, v2_1, v2_2, v2_3, t25] s3)
 (fun i4 v2 s3 => jE i4 v2 s3)
 (fun r5 s3 => jR r5 s3))
 (jE 0 [v_1] s)
def f227 (o : Ops) (kf : CallF) (N : Nat) (a0 : T) (s : St) : Option (T × St) :=
 bd2 (kf 189 [a0] s) fun t7 s1 =>
 bd (o.ln t7) fun t8 =>
 jn (jn (o.loops (f227_l1 o kf N) N [a0, (I .i64 0), t7, t8, (I .i64 0)] s1)
 (fun v6 s7 => nm [.any] s7)
 (fun i8 v6 s7 => if i8 = 0 then nm v6 s7 else jE i8 v6 s7)
 (fun r9 s7 => jR r9 s7))
 (fun v10 s11 => o.vk v10 0 fun v10_0 =>
 jT v10_0 s11)
 (fun i12 v10 s11 => none)
 (fun r13 s11 => jT r13 s11)
theorem f227_ok : Ok Tryz.prog 227 (fun c => L1 (f227 fast c 8192)) := ok1 (fun o c => f227 o c 8192) Tryz.func227 (by kernel_rfl) (fun c a0 s => by kernel_rfl)

/- (store.Store).note -/
def f228 (o : Ops) (kf : CallF) (N : Nat) (a0 a1 : T) (s : St) : Option (T × St) :=
 bd2 (o.new s (nBox a1)) fun t3 s1 =>
 bd (o.ldn 8 t3 s1) fun t8 =>
 bd2 (kf 284 [t8] s1) fun t9 s2 =>
 bd (o.ex t9 0) fun t10 =>
 bd (o.ex t9 1) fun t11 =>
 bd (o.neq t11 (I .i64 0)) fun t13 =>
 bd (gF t13 (some a0)) fun t15 =>
 bd (gF t13 (o.nil t15)) fun t16 =>
 bd (gF t13 (o.fa 3 t16)) fun t17 =>
 bd (gF t13 (o.ld t17 s2)) fun t18 =>
 bd (gF t13 (o.ldn 8 t3 s2)) fun t19 =>
 bd2 (gS (gd t13 false) s2 (kf 119 [t18, t19] s2)) fun t20 s3 =>
 bd (gF t13 (o.neq t20 (I .i64 0))) fun t21 =>
 bd (pT t13 t21) fun t22 =>
 o.br t22 (jT (B false) s3)
 (bd (o.nil a0) fun t25 =>
 bd (o.fa 2 t25) fun t26 =>
 bd (o.ld t26 s3) fun t27 =>
 bd (o.nil a0) fun t30 =>
 bd (o.fa 1 t30) fun t31 =>
 bd (o.ld t31 s3) fun t32 =>
 bd (o.ln t32) fun t33 =>
 bd2 (kf 229 [a0, t33] s3) fun t34 s4 =>
 bd (o.ln t10) fun t36 =>
 bd (o.add t34 t36) fun t37 =>
 bd2 (o.new s4 (nSlice 1 (aFill [.int .i64 0] [(0, 1, t37)]))) fun t38 s5 =>
 bd2 (aAppend 1 8 t27 t38 s5) fun t39 s6 =>
 bd (o.nil a0) fun t40 =>
 bd (o.fa 2 t40) fun t41 =>
 bd2 (o.st 1 t41 t39 s6) fun u7 s8 =>
 ck ((decide (aLoad1 t26 (overlay 12 s4.get (ovO 15 s4.size (nSlice 1 (aFill [.int .i64 0] [(0, 1, t37)])) [])) = o.ld t26 s3) && true) && true) (bd (o.nil a0) fun t44 =>
 bd (o.fa 1 t44) fun t45 =>
 bd (o.ld t45 s8) fun t46 =>
 bd (o.ldn 8 t3 s8) fun t47 =>
 bd2 (o.new s8 (nSlice 1 (aFill [.int .i64 0, .int .i64 0, .int .i64 0, .int .i64 0, .int .i64 0, .int .i64 0, .int .u32 0, .str []] [(0, 8, t47)]))) fun t48 s9 =>
 bd2 (aAppend 8 72 t46 t48 s9) fun t49 s10 =>
 bd (o.nil a0) fun t50 =>
 bd (o.fa 1 t50) fun t51 =>
 bd2 (o.st 1 t51 t49 s10) fun u11 s12 =>
 jT (B true) s12))
theorem f228_ok : Ok Tryz.prog 228 (fun c => L2 (f228 fast c 8192)) := ok2 (fun o c => f228 o c 8192) Tryz.func228 (by kernel_rfl) (fun c a0 a1 s => by kernel_rfl)

/- (store.Store).place -/
def f229 (o : Ops) (kf : CallF) (N : Nat) (a0 a1 : T) (s : St) : Option (T × St) :=
 bd (o.eql a1 (I .i64 0)) fun t6 =>
 o.br t6 (jT (I .i64 0) s)
 (bd (o.nil a0) fun t8 =>
 bd (o.fa 2 t8) fun t9 =>
 bd (o.ld t9 s) fun t10 =>
 bd (o.sub a1 (I .i64 1)) fun t12 =>
 bd (o.ix 1 t10 t12) fun t13 =>
 bd (o.ld t13 s) fun t14 =>
 jT t14 s)
theorem f229_ok : Ok Tryz.prog 229 (fun c => L2 (f229 fast c 8192)) := ok2 (fun o c => f229 o c 8192) Tryz.func229 (by kernel_rfl) (fun c a0 a1 s => by kernel_rfl)

/- store.Open$1 -/
def f230 (o : Ops) (kf : CallF) (N : Nat) (a0 a1 : T) (s : St) : Option (T × St) :=
 bd2 (o.new s (nBox a0)) fun t2 s1 =>
 bd (o.ld a1 s1) fun t4 =>
 bd (o.ldn 5 t2 s1) fun t5 =>
 bd2 (kf 231 [t4, t5] s1) fun t6 s2 =>
 bd (aUn .not t6) fun t7 =>
 jT t7 s2
theorem f230_ok : Ok Tryz.prog 230 (fun c => L2 (f230 fast c 8192)) := ok2 (fun o c => f230 o c 8192) Tryz.func230 (by kernel_rfl) (fun c a0 a1 s => by kernel_rfl)

/- store.id -/
def f232 (o : Ops) (kf : CallF) (N : Nat) (a0 : T) (s : St) : Option (T × St) :=
 bd (aAtStr a0 (I .i64 0)) fun t6 =>
 bd (o.neq t6 (I .u8 115)) fun t7 =>
 o.br t7 (jT (I .i64 0) s)
 (bd (aPieceStr a0 (some (I .i64 1)) none none) fun t10 =>
 bd2 (kf 310 [t10] s) fun t11 s1 =>
 bd (o.ex t11 0) fun t12 =>
 bd (o.ex t11 1) fun t13 =>
 bd (neB .i t13 (Z .nili)) fun t15 =>
 bd (gF t15 (some t12)) fun t17 =>
 bd2 (gS (gd t15 false) s1 (kf 131 [t17] s1)) fun t18 s2 =>
 bd (gF t15 (some a0)) fun t19 =>
 bd (gF t15 (o.neq t18 t19)) fun t20 =>
 bd (pT t15 t20) fun t21 =>
 o.br t21 (jT (I .i64 0) s2)
 (jT t12 s2))
theorem f232_ok : Ok Tryz.prog 232 (fun c => L1 (f232 fast c 8192)) := ok1 (fun o c => f232 o c 8192) Tryz.func232 (by kernel_rfl) (fun c a0 s => by kernel_rfl)

/- store.Open$2 -/
def f233 (o : Ops) (kf : CallF) (N : Nat) (a0 a1 : T) (s : St) : Option (T × St) :=
 bd2 (o.new s (nBox a0)) fun t2 s1 =>
 bd (o.fa 0 t2) fun t4 =>
 bd (o.ld t4 s1) fun t5 =>
 bd (o.ld a1 s1) fun t6 =>
 bd (o.eql t5 t6) fun t7 =>
 jT t7 s1
theorem f233_ok : Ok Tryz.prog 233 (fun c => L2 (f233 fast c 8192)) := ok2 (fun o c => f233 o c 8192) Tryz.func233 (by kernel_rfl) (fun c a0 a1 s => by kernel_rfl)

/- twin.records -/
def f234_l1 (o : Ops) (kf : CallF) (N : Nat) (v : List T) (s : St) : Option (JO × St) :=
 o.vk v 0 fun v_0 =>
 o.vk v 1 fun v_1 =>
 o.vk v 2 fun v_2 =>
 jn (bd2 (kf 200 [v_0, v_2] s) fun t21 s2 =>
 bd (o.ex t21 0) fun t22 =>
 bd (o.ex t21 1) fun t23 =>
 bd (o.ex t21 2) fun t24 =>
 bd (aUn .not t24) fun t26 =>
 o.br t26 (jR v_1 s2)
 (bd (asAggT (aFill [.nils, .int .i64 0, .bool false] [(0, 1, t22)])) fun t30 =>
 bd2 (o.new s2 (nBox t30)) fun t31 s3 =>
 bd2 (o.new s3 (nSlice 1 (aFill [.nilp] [(0, 1, t31)]))) fun t32 s4 =>
 bd2 (aAppend 1 8 v_1 t32 s4) fun t33 s5 =>
 nm [v_0, t33, t23] s5))
 (fun v6 s7 => o.vk v6 0 fun v6_0 =>
 o.vk v6 1 fun v6_1 =>
 o.vk v6 2 fun v6_2 =>
 nm [v6_0, v6_1, v6_2] s7)
 (fun i8 v6 s7 => jE i8 v6 s7)
 (fun r9 s7 => jR r9 s7)
def f234 (o : Ops) (kf : CallF) (N : Nat) (a0 a1 : T) (s : St) : Option (T × St) :=
 bd2 (kf 40 [a0, a1] s) fun t15 s1 =>
 bd (o.ex t15 0) fun t16 =>
 bd (o.ex t15 1) fun t17 =>
 jn (jn (o.loops (f234_l1 o kf N) N [t16, (Z .nils), (I .i64 0)] s1)
 (fun v10 s11 => nm [] s11)
 (fun i12 v10 s11 => if i12 = 0 then nm v10 s11 else jE i12 v10 s11)
 (fun r13 s11 => jR r13 s11))
 (fun v14 s15 => jT .any s15)
 (fun i16 v14 s15 => none)
 (fun r17 s15 => jT r17 s15)
theorem f234_ok : Ok Tryz.prog 234 (fun c => L2 (f234 fast c 8192)) := ok2 (fun o c => f234 o c 8192) Tryz.func234 (by kernel_rfl) (fun c a0 a1 s => by kernel_rfl)

/- twin.sealed -/
def f235_l1 (o : Ops) (kf : CallF) (N : Nat) (v : List T) (s : St) : Option (JO × St) :=
 o.vk v 0 fun v_0 =>
 o.vk v 1 fun v_1 =>
 o.vk v 2 fun v_2 =>
 o.vk v 3 fun v_3 =>
 bd (o.lss v_3 v_2) fun t9 =>
 o.br t9 (jn (bd (o.ix 8 v_1 v_3) fun t10 =>
 bd (o.ldn 8 t10 s) fun t11 =>
 bd2 (o.new s (nCells [.int .i64 0, .int .i64 0, .int .i64 0, .int .i64 0, .int .i64 0, .int .i64 0, .int .u32 0, .str []])) fun t5 s1 =>
 bd2 (o.st 8 t5 t11 s1) fun u2 s3 =>
 bd (o.fa 0 t5) fun t12 =>
 bd (o.ld t12 s3) fun t13 =>
 bd (o.eql t13 (I .i64 1)) fun t14 =>
 bd (gU t14 (o.fa 3 t5)) fun t16 =>
 bd (gU t14 (o.ld t16 s3)) fun t17 =>
 bd (gU t14 (o.eql t17 (I .i64 0))) fun t18 =>
 bd (pF t14 t18) fun t19 =>
 jn (o.br t19 (bd (o.fa 5 t5) fun t21 =>
 bd (o.ld t21 s3) fun t22 =>
 bd (aFold aMax2 v_0 [t22]) fun t23 =>
 nm [t23, v_1, v_2, v_3] s3)
 (nm [v_0, v_1, v_2, v_3] s3))
 (fun v4 s5 => o.vk v4 0 fun v4_0 =>
 o.vk v4 1 fun v4_1 =>
 o.vk v4 2 fun v4_2 =>
 o.vk v4 3 fun v4_3 =>
 nm [v4_0, v4_1, v4_2, v4_3] s5)
 (fun i6 v4 s5 => if i6 = 1 then nm v4 s5 else jE i6 v4 s5)
 (fun r7 s5 => jR r7 s5))
 (fun v8 s9 => o.vk v8 0 fun v8_0 =>
 o.vk v8 1 fun v8_1 =>
 o.vk v8 2 fun v8_2 =>
 o.vk v8 3 fun v8_3 =>
 bd (o.add v8_3 (I .i64 1)) fun t24 =>
 nm [v8_0, v8_1, v8_2, t24] s9)
 (fun i10 v8 s9 => jE i10 v8 s9)
 (fun r11 s9 => jR r11 s9))
 (jE 0 [v_0] s)
def f235 (o : Ops) (kf : CallF) (N : Nat) (a0 : T) (s : St) : Option (T × St) :=
 bd (o.ln a0) fun t7 =>
 jn (jn (o.loops (f235_l1 o kf N) N [(I .i64 0), a0, t7, (I .i64 0)] s)
 (fun v12 s13 => nm [.any] s13)
 (fun i14 v12 s13 => if i14 = 0 then nm v12 s13 else jE i14 v12 s13)
 (fun r15 s13 => jR r15 s13))
 (fun v16 s17 => o.vk v16 0 fun v16_0 =>
 jT v16_0 s17)
 (fun i18 v16 s17 => none)
 (fun r19 s17 => jT r19 s17)
theorem f235_ok : Ok Tryz.prog 235 (fun c => L1 (f235 fast c 8192)) := ok1 (fun o c => f235 o c 8192) Tryz.func235 (by kernel_rfl) (fun c a0 s => by kernel_rfl)

/- mark.count -/
def f236 (o : Ops) (kf : CallF) (N : Nat) (a0 : T) (s : St) : Option (T × St) :=
 bd (o.geq a0 (I .i64 0)) fun t4 =>
 bd (gU t4 (some a0)) fun t6 =>
 bd (gU t4 (o.leq t6 (I .i64 2000))) fun t7 =>
 bd (pF t4 t7) fun t8 =>
 jT t8 s
theorem f236_ok : Ok Tryz.prog 236 (fun c => L1 (f236 fast c 8192)) := ok1 (fun o c => f236 o c 8192) Tryz.func236 (by kernel_rfl) (fun c a0 s => by kernel_rfl)

/- strings.Trim -/
def f237_1 (o : Ops) (kf : CallF) (N : Nat) (s3 : St) (t32 t33 a0 a1 : T) : Option (T × St) :=
 bd2 (o.new s3 (nCells (List.replicate 256 (.bool false)))) fun t5 s4 =>
 bd2 (o.st 256 t5 t32 s4) fun u5 s6 =>
 o.br t33 (bd2 (kf 315 [a0, t5] s6) fun t36 s7 =>
 bd2 (kf 314 [t36, t5] s7) fun t37 s8 =>
 jT t37 s8)
 (bd2 (kf 317 [a0, a1] s6) fun t40 s9 =>
 bd2 (kf 316 [t40, a1] s9) fun t42 s10 =>
 jT t42 s10)
def f237 (o : Ops) (kf : CallF) (N : Nat) (a0 a1 : T) (s : St) : Option (T × St) :=
 bd (o.eql a0 (Z (.str []))) fun t8 =>
 bd (gF t8 (some a1)) fun t10 =>
 bd (gF t8 (o.eql t10 (Z (.str [])))) fun t11 =>
 bd (pT t8 t11) fun t12 =>
 o.br t12 (jT a0 s)
 (bd (aLenStr a1) fun t15 =>
 bd (o.eql t15 (I .i64 1)) fun t16 =>
 bd (gU t16 (some a1)) fun t18 =>
 bd (gU t16 (aAtStr t18 (I .i64 0))) fun t19 =>
 bd (gU t16 (o.lss t19 (I .u8 128))) fun t20 =>
 bd (pF t16 t20) fun t21 =>
 o.br t21 (bd (aAtStr a1 (I .i64 0)) fun t24 =>
 bd2 (kf 312 [a0, t24] s) fun t25 s1 =>
 bd (aAtStr a1 (I .i64 0)) fun t27 =>
 bd2 (kf 311 [t25, t27] s1) fun t28 s2 =>
 jT t28 s2)
 (bd2 (kf 313 [a1] s) fun t31 s3 =>
 bd (o.ex t31 0) fun t32 =>
 bd (o.ex t31 1) fun t33 =>
 f237_1 o kf N s3 t32 t33 a0 a1))
theorem f237_ok : Ok Tryz.prog 237 (fun c => L2 (f237 fast c 8192)) := ok2 (fun o c => f237 o c 8192) Tryz.func237 (by kernel_rfl) (fun c a0 a1 s => by kernel_rfl)

/- vary.Put -/
def f238_l1 (o : Ops) (kf : CallF) (N : Nat) (v : List T) (s : St) : Option (JO × St) :=
 o.vk v 0 fun v_0 =>
 o.vk v 1 fun v_1 =>
 bd (o.geq v_0 (I .u64 128)) fun t5 =>
 o.br t5 (jn (bd (o.cv .u8 v_0) fun t8 =>
 bd (o.bin .or t8 (I .u8 128)) fun t9 =>
 bd2 (o.new s (nSlice 1 (aFill [.int .u8 0] [(0, 1, t9)]))) fun t10 s1 =>
 bd2 (aAppend 1 1 v_1 t10 s1) fun t11 s2 =>
 bd (o.bin .shr v_0 (I .u64 7)) fun t13 =>
 nm [t13, t11] s2)
 (fun v3 s4 => o.vk v3 0 fun v3_0 =>
 o.vk v3 1 fun v3_1 =>
 nm [v3_0, v3_1] s4)
 (fun i5 v3 s4 => jE i5 v3 s4)
 (fun r6 s4 => jR r6 s4))
 (jE 0 [v_0, v_1] s)
def f238 (o : Ops) (kf : CallF) (N : Nat) (a0 : T) (s : St) : Option (T × St) :=
 jn (jn (o.loops (f238_l1 o kf N) N [a0, (Z .nils)] s)
 (fun v7 s8 => nm [.any, .any] s8)
 (fun i9 v7 s8 => if i9 = 0 then nm v7 s8 else jE i9 v7 s8)
 (fun r10 s8 => jR r10 s8))
 (fun v11 s12 => o.vk v11 0 fun v11_0 =>
 o.vk v11 1 fun v11_1 =>
 bd (o.cv .u8 v11_0) fun t16 =>
 bd2 (o.new s12 (nSlice 1 (aFill [.int .u8 0] [(0, 1, t16)]))) fun t17 s15 =>
 bd2 (aAppend 1 1 v11_1 t17 s15) fun t18 s16 =>
 jT t18 s16)
 (fun i13 v11 s12 => none)
 (fun r14 s12 => jT r14 s12)
theorem f238_ok : Ok Tryz.prog 238 (fun c => L1 (f238 fast c 8192)) := ok1 (fun o c => f238 o c 8192) Tryz.func238 (by kernel_rfl) (fun c a0 s => by kernel_rfl)

/- sum.Of -/
def f239 (o : Ops) (kf : CallF) (N : Nat) (a0 : T) (s : St) : Option (T × St) :=
 bd2 (kf 276 [(I .u32 1), a0] s) fun t4 s1 =>
 jT t4 s1
theorem f239_ok : Ok Tryz.prog 239 (fun c => L1 (f239 fast c 8192)) := ok1 (fun o c => f239 o c 8192) Tryz.func239 (by kernel_rfl) (fun c a0 s => by kernel_rfl)

/- cmp.isNaN[int] -/
def f240 (o : Ops) (kf : CallF) (N : Nat) (a0 : T) (s : St) : Option (T × St) :=
 bd (o.neq a0 a0) fun t5 =>
 jT t5 s
theorem f240_ok : Ok Tryz.prog 240 (fun c => L1 (f240 fast c 8192)) := ok1 (fun o c => f240 o c 8192) Tryz.func240 (by kernel_rfl) (fun c a0 s => by kernel_rfl)

/- cmp.isNaN[int64] -/
def f241 (o : Ops) (kf : CallF) (N : Nat) (a0 : T) (s : St) : Option (T × St) :=
 bd (o.neq a0 a0) fun t5 =>
 jT t5 s
theorem f241_ok : Ok Tryz.prog 241 (fun c => L1 (f241 fast c 8192)) := ok1 (fun o c => f241 o c 8192) Tryz.func241 (by kernel_rfl) (fun c a0 s => by kernel_rfl)

/- gate.Old -/
def f242 (o : Ops) (kf : CallF) (N : Nat) (a0 a1 a2 : T) (s : St) : Option (T × St) :=
 bd2 (o.new s (nBox a0)) fun t3 s1 =>
 bd2 (o.new s1 (nBox a1)) fun t4 s2 =>
 bd (o.ldn 6 t4 s2) fun t7 =>
 bd2 (kf 283 [t7] s2) fun t8 s3 =>
 bd (aUn .not t8) fun t9 =>
 bd (gF t9 (o.fa 1 t3)) fun t11 =>
 bd (gF t9 (o.ld t11 s3)) fun t12 =>
 bd (gF t9 (o.lss t12 (I .i64 0))) fun t13 =>
 bd (pT t9 t13) fun t14 =>
 bd (gF t14 (o.fa 1 t3)) fun t16 =>
 bd (gF t14 (o.ld t16 s3)) fun t17 =>
 bd (gF t14 (o.geq t17 (I .i64 4))) fun t18 =>
 bd (pT t14 t18) fun t19 =>
 bd (gF t19 (o.fa 1 t3)) fun t21 =>
 bd (gF t19 (o.ld t21 s3)) fun t22 =>
 bd (gF t19 (o.fa 0 t4)) fun t23 =>
 bd (gF t19 (aIndexArr 4 1 t23 t22)) fun t24 =>
 bd (gF t19 (o.ld t24 s3)) fun t25 =>
 bd (gF t19 (o.eql t25 (I .i64 0))) fun t26 =>
 bd (pT t19 t26) fun t27 =>
 bd (gF t27 (some a2)) fun t29 =>
 bd (gF t27 (o.fa 3 t3)) fun t30 =>
 bd (gF t27 (o.ld t30 s3)) fun t31 =>
 bd (gF t27 (o.lss t29 t31)) fun t32 =>
 bd (pT t27 t32) fun t33 =>
 o.br t33 (jT (B false) s3)
 (bd (o.cv .u64 a2) fun t35 =>
 bd (o.fa 3 t3) fun t36 =>
 bd (o.ld t36 s3) fun t37 =>
 bd (o.cv .u64 t37) fun t38 =>
 bd (o.sub t35 t38) fun t39 =>
 bd (o.fa 1 t3) fun t40 =>
 bd (o.ld t40 s3) fun t41 =>
 bd (o.fa 0 t4) fun t42 =>
 bd (aIndexArr 4 1 t42 t41) fun t43 =>
 bd (o.ld t43 s3) fun t44 =>
 bd (o.cv .u64 t44) fun t45 =>
 bd (o.geq t39 t45) fun t46 =>
 jT t46 s3)
theorem f242_ok : Ok Tryz.prog 242 (fun c => L3 (f242 fast c 8192)) := ok3 (fun o c => f242 o c 8192) Tryz.func242 (by kernel_rfl) (fun c a0 a1 a2 s => by kernel_rfl)

/- slices.Contains[[]api.Info,api.Info] -/
def f243 (o : Ops) (kf : CallF) (N : Nat) (a0 a1 : T) (s : St) : Option (T × St) :=
 bd2 (o.new s (nBox a1)) fun t3 s1 =>
 bd (o.ldn 5 t3 s1) fun t6 =>
 bd2 (kf 318 [a0, t6] s1) fun t7 s2 =>
 bd (o.geq t7 (I .i64 0)) fun t8 =>
 jT t8 s2
theorem f243_ok : Ok Tryz.prog 243 (fun c => L2 (f243 fast c 8192)) := ok2 (fun o c => f243 o c 8192) Tryz.func243 (by kernel_rfl) (fun c a0 a1 s => by kernel_rfl)

/- slices.pdqsortOrdered[int] -/
def f245_l1_1 (o : Ops) (kf : CallF) (N : Nat) (v12_4 t63 v12_8 v12_0 v12_1 v12_2 : T) (s13 : St) (v12_3 v12_5 v12_6 v12_7 : T) : Option (JO × St) :=
 bd (pF v12_4 t63) fun t64 =>
 bd (gU t64 (some v12_8)) fun t66 =>
 bd (gU t64 (o.eql t66 (I .i64 1))) fun t67 =>
 bd (pF t64 t67) fun t68 =>
 jn (o.br t68 (bd2 (kf 325 [v12_0, v12_1, v12_2] s13) fun t72 s16 =>
 o.br t72 (bd (retT []) fun r17 =>
 jR r17 s16)
 (nm [v12_0, v12_1, v12_2, v12_3, v12_4, v12_5, v12_6, v12_7] s16))
 (nm [v12_0, v12_1, v12_2, v12_3, v12_4, v12_5, v12_6, v12_7] s13))
 (fun v18 s19 => o.vk v18 0 fun v18_0 =>
 o.vk v18 1 fun v18_1 =>
 o.vk v18 2 fun v18_2 =>
 o.vk v18 3 fun v18_3 =>
 o.vk v18 4 fun v18_4 =>
 o.vk v18 5 fun v18_5 =>
 o.vk v18 6 fun v18_6 =>
 o.vk v18 7 fun v18_7 =>
 bd (o.gtr v18_1 (I .i64 0)) fun t74 =>
 bd (gU t74 (some v18_0)) fun t76 =>
 bd (gU t74 (some v18_1)) fun t77 =>
 bd (gU t74 (o.sub t77 (I .i64 1))) fun t78 =>
 bd (gU t74 (o.ix 1 t76 t78)) fun t79 =>
 bd (gU t74 (o.ld t79 s19)) fun t80 =>
 bd (gU t74 (some v18_0)) fun t81 =>
 bd (gU t74 (some v18_7)) fun t82 =>
 bd (gU t74 (o.ix 1 t81 t82)) fun t83 =>
 bd (gU t74 (o.ld t83 s19)) fun t84 =>
 bd2 (gS (gd t74 true) s19 (kf 326 [t80, t84] s19)) fun t85 s22 =>
 bd (gU t74 (aUn .not t85)) fun t86 =>
 bd (pF t74 t86) fun t87 =>
 o.br t87 (bd2 (kf 327 [v18_0, v18_1, v18_2, v18_7] s22) fun t92 s23 =>
 nm [v18_0, t92, v18_2, v18_3, v18_4, v18_5] s23)
 (bd2 (kf 328 [v18_0, v18_1, v18_2, v18_7] s22) fun t99 s24 =>
 bd (o.ex t99 0) fun t100 =>
 bd (o.ex t99 1) fun t101 =>
 bd (o.sub t100 v18_1) fun t105 =>
 bd (o.sub v18_2 t100) fun t108 =>
 bd (o.bin .quo v18_6 (I .i64 8)) fun t110 =>
 bd (o.lss t105 t108) fun t113 =>
 jn (o.br t113 (bd (o.geq t105 t110) fun t116 =>
 bd2 (kf 245 [v18_0, v18_1, t100, v18_3] s24) fun t121 s25 =>
 bd (o.add t100 (I .i64 1)) fun t123 =>
 nm [v18_0, t123, v18_2, v18_3, t116, t101] s25)
 (bd (o.geq t108 t110) fun t126 =>
 bd (o.add t100 (I .i64 1)) fun t129 =>
 bd2 (kf 245 [v18_0, t129, v18_2, v18_3] s24) fun t132 s26 =>
 nm [v18_0, v18_1, t100, v18_3, t126, t101] s26))
 (fun v27 s28 => o.vk v27 0 fun v27_0 =>
 o.vk v27 1 fun v27_1 =>
 o.vk v27 2 fun v27_2 =>
 o.vk v27 3 fun v27_3 =>
 o.vk v27 4 fun v27_4 =>
 o.vk v27 5 fun v27_5 =>
 nm [v27_0, v27_1, v27_2, v27_3, v27_4, v27_5] s28)
 (fun i29 v27 s28 => if i29 = 1 then nm v27 s28 else jE i29 v27 s28)
 (fun r30 s28 => jR r30 s28)))
 (fun i20 v18 s19 => if i20 = 1 then nm v18 s19 else jE i20 v18 s19)
 (fun r21 s19 => jR r21 s19)
def f245_l1 (o : Ops) (kf : CallF) (N : Nat) (v : List T) (s : St) : Option (JO × St) :=
 o.vk v 0 fun v_0 =>
 o.vk v 1 fun v_1 =>
 o.vk v 2 fun v_2 =>
 o.vk v 3 fun v_3 =>
 o.vk v 4 fun v_4 =>
 o.vk v 5 fun v_5 =>
 jn (bd (o.sub v_2 v_1) fun t21 =>
 bd (o.leq t21 (I .i64 12)) fun t23 =>
 o.br t23 (bd2 (kf 320 [v_0, v_1, v_2] s) fun t27 s1 =>
 bd (retT []) fun r2 =>
 jR r2 s1)
 (bd (o.eql v_3 (I .i64 0)) fun t29 =>
 o.br t29 (bd2 (kf 321 [v_0, v_1, v_2] s) fun t33 s3 =>
 bd (retT []) fun r4 =>
 jR r4 s3)
 (bd (aUn .not v_4) fun t35 =>
 jn (o.br t35 (bd2 (kf 322 [v_0, v_1, v_2] s) fun t39 s5 =>
 bd (o.sub v_3 (I .i64 1)) fun t41 =>
 nm [v_0, v_1, v_2, t41, v_4, v_5, t21] s5)
 (nm [v_0, v_1, v_2, v_3, v_4, v_5, t21] s))
 (fun v6 s7 => o.vk v6 0 fun v6_0 =>
 o.vk v6 1 fun v6_1 =>
 o.vk v6 2 fun v6_2 =>
 o.vk v6 3 fun v6_3 =>
 o.vk v6 4 fun v6_4 =>
 o.vk v6 5 fun v6_5 =>
 o.vk v6 6 fun v6_6 =>
 bd2 (kf 323 [v6_0, v6_1, v6_2] s7) fun t46 s10 =>
 bd (o.ex t46 0) fun t47 =>
 bd (o.ex t46 1) fun t48 =>
 bd (o.eql t48 (I .i64 2)) fun t50 =>
 jn (o.br t50 (bd2 (kf 324 [v6_0, v6_1, v6_2] s10) fun t54 s11 =>
 bd (o.sub v6_2 (I .i64 1)) fun t56 =>
 bd (o.sub t47 v6_1) fun t59 =>
 bd (o.sub t56 t59) fun t60 =>
 nm [v6_0, v6_1, v6_2, v6_3, v6_4, v6_5, v6_6, t60, (I .i64 1)] s11)
 (nm [v6_0, v6_1, v6_2, v6_3, v6_4, v6_5, v6_6, t47, t48] s10))
 (fun v12 s13 => o.vk v12 0 fun v12_0 =>
 o.vk v12 1 fun v12_1 =>
 o.vk v12 2 fun v12_2 =>
 o.vk v12 3 fun v12_3 =>
 o.vk v12 4 fun v12_4 =>
 o.vk v12 5 fun v12_5 =>
 o.vk v12 6 fun v12_6 =>
 o.vk v12 7 fun v12_7 =>
 o.vk v12 8 fun v12_8 =>
 bd (gU v12_4 (some v12_5)) fun t63 =>
 f245_l1_1 o kf N v12_4 t63 v12_8 v12_0 v12_1 v12_2 s13 v12_3 v12_5 v12_6 v12_7)
 (fun i14 v12 s13 => if i14 = 1 then nm v12 s13 else jE i14 v12 s13)
 (fun r15 s13 => jR r15 s13))
 (fun i8 v6 s7 => if i8 = 1 then nm v6 s7 else jE i8 v6 s7)
 (fun r9 s7 => jR r9 s7))))
 (fun v31 s32 => o.vk v31 0 fun v31_0 =>
 o.vk v31 1 fun v31_1 =>
 o.vk v31 2 fun v31_2 =>
 o.vk v31 3 fun v31_3 =>
 o.vk v31 4 fun v31_4 =>
 o.vk v31 5 fun v31_5 =>
 nm [v31_0, v31_1, v31_2, v31_3, v31_4, v31_5] s32)
 (fun i33 v31 s32 => jE i33 v31 s32)
 (fun r34 s32 => jR r34 s32)
def f245 (o : Ops) (kf : CallF) (N : Nat) (a0 a1 a2 a3 : T) (s : St) : Option (T × St) :=
 jn (jn (o.loops (f245_l1 o kf N) N [a0, a1, a2, a3, (B true), (B true)] s)
 (fun v35 s36 => nm [] s36)
 (fun i37 v35 s36 => if i37 = 0 then nm v35 s36 else jE i37 v35 s36)
 (fun r38 s36 => jR r38 s36))
 (fun v39 s40 => bd (retT []) fun r43 =>
 jT r43 s40)
 (fun i41 v39 s40 => none)
 (fun r42 s40 => jT r42 s40)
theorem f245_ok : Ok Tryz.prog 245 (fun c => L4 (f245 fast c 8192)) := ok4 (fun o c => f245 o c 8192) Tryz.func245 (by kernel_rfl) (fun c a0 a1 a2 a3 s => by kernel_rfl)

/- math/bits.Len -/
def f246 (o : Ops) (kf : CallF) (N : Nat) (a0 : T) (s : St) : Option (T × St) :=
 bd2 (kf 330 [a0] s) fun t7 s1 =>
 jT t7 s1
theorem f246_ok : Ok Tryz.prog 246 (fun c => L1 (f246 fast c 8192)) := ok1 (fun o c => f246 o c 8192) Tryz.func246 (by kernel_rfl) (fun c a0 s => by kernel_rfl)

/- (twin.site).ready -/
def f247 (o : Ops) (kf : CallF) (N : Nat) (a0 : T) (s : St) : Option (T × St) :=
 bd2 (kf 64 [a0] s) fun t4 s1 =>
 bd (gU t4 (some a0)) fun t6 =>
 bd (gU t4 (o.nil t6)) fun t7 =>
 bd (gU t4 (o.fa 8 t7)) fun t8 =>
 bd (gU t4 (o.fa 0 t8)) fun t9 =>
 bd (gU t4 (o.ld t9 s1)) fun t10 =>
 bd (gU t4 (some a0)) fun t11 =>
 bd (gU t4 (o.nil t11)) fun t12 =>
 bd (gU t4 (o.fa 5 t12)) fun t13 =>
 bd (gU t4 (o.ld t13 s1)) fun t14 =>
 bd (gU t4 (o.eql t10 t14)) fun t15 =>
 bd (pF t4 t15) fun t16 =>
 jT t16 s1
theorem f247_ok : Ok Tryz.prog 247 (fun c => L1 (f247 fast c 8192)) := ok1 (fun o c => f247 o c 8192) Tryz.func247 (by kernel_rfl) (fun c a0 s => by kernel_rfl)

/- head.Due -/
def f248 (o : Ops) (kf : CallF) (N : Nat) (a0 a1 a2 : T) (s : St) : Option (T × St) :=
 bd2 (o.new s (nBox a0)) fun t3 s1 =>
 bd2 (o.new s1 (nBox a1)) fun t4 s2 =>
 bd (o.ldn 2 t3 s2) fun t7 =>
 bd2 (kf 190 [t7] s2) fun t8 s3 =>
 bd (aUn .not t8) fun t9 =>
 bd (gF t9 (o.ldn 6 t4 s3)) fun t11 =>
 bd2 (gS (gd t9 false) s3 (kf 283 [t11] s3)) fun t12 s4 =>
 bd (gF t9 (aUn .not t12)) fun t13 =>
 bd (pT t9 t13) fun t14 =>
 bd (gF t14 (o.fa 1 t3)) fun t16 =>
 bd (gF t14 (o.ld t16 s4)) fun t17 =>
 bd (gF t14 (o.ln t17)) fun t18 =>
 bd (gF t14 (o.eql t18 (I .i64 0))) fun t19 =>
 bd (pT t14 t19) fun t20 =>
 o.br t20 (jT (B false) s4)
 (bd (o.fa 1 t3) fun t21 =>
 bd (o.ld t21 s4) fun t22 =>
 bd (o.ln t22) fun t23 =>
 bd (o.fa 4 t4) fun t24 =>
 bd (o.ld t24 s4) fun t25 =>
 bd (o.geq t23 t25) fun t26 =>
 bd (gF t26 (some a2)) fun t28 =>
 bd (gF t26 (o.fa 1 t3)) fun t29 =>
 bd (gF t26 (o.ld t29 s4)) fun t30 =>
 bd (gF t26 (o.ix 2 t30 (I .i64 0))) fun t31 =>
 bd (gF t26 (o.fa 0 t31)) fun t32 =>
 bd (gF t26 (o.ld t32 s4)) fun t33 =>
 bd (gF t26 (o.fa 5 t4)) fun t34 =>
 bd (gF t26 (o.ld t34 s4)) fun t35 =>
 bd (gF t26 (o.add t33 t35)) fun t36 =>
 bd (gF t26 (o.geq t28 t36)) fun t37 =>
 bd (pT t26 t37) fun t38 =>
 jT t38 s4)
theorem f248_ok : Ok Tryz.prog 248 (fun c => L3 (f248 fast c 8192)) := ok3 (fun o c => f248 o c 8192) Tryz.func248 (by kernel_rfl) (fun c a0 a1 a2 s => by kernel_rfl)

/- head.Seal -/
def f249 (o : Ops) (kf : CallF) (N : Nat) (a0 : T) (s : St) : Option (T × St) :=
 bd2 (o.new s (nBox a0)) fun t1 s1 =>
 bd2 (o.new s1 (nCells [.int .i64 0, .nils])) fun t2 s2 =>
 jn (bd (o.ldn 2 t1 s2) fun t10 =>
 bd2 (kf 190 [t10] s2) fun t11 s3 =>
 bd (aUn .not t11) fun t12 =>
 o.br t12 (bd (o.ldn 2 t1 s3) fun t13 =>
 bd2 (o.st 2 t2 t13 s3) fun u4 s5 =>
 bd (rC (o.ldn 2 t2 s5) (rT (Z .nils) (rT (I .i64 0) (rT (I .i64 0) (rT (I .i64 1) (some [])))))) fun l6 =>
 bd (retT l6) fun r7 =>
 jR r7 s5)
 (bd (o.fa 1 t1) fun t15 =>
 bd (o.ld t15 s3) fun t16 =>
 bd (o.ln t16) fun t17 =>
 bd (o.eql t17 (I .i64 0)) fun t18 =>
 o.br t18 (bd (o.ldn 2 t1 s3) fun t19 =>
 bd2 (o.st 2 t2 t19 s3) fun u8 s9 =>
 bd (rC (o.ldn 2 t2 s9) (rT (Z .nils) (rT (I .i64 0) (rT (I .i64 0) (rT (I .i64 9) (some [])))))) fun l10 =>
 bd (retT l10) fun r11 =>
 jR r11 s9)
 (nm [t1, t2] s3)))
 (fun v12 s13 => o.vk v12 0 fun v12_0 =>
 o.vk v12 1 fun v12_1 =>
 bd (o.fa 0 v12_0) fun t20 =>
 bd (o.ld t20 s13) fun t21 =>
 bd (o.fa 1 v12_0) fun t22 =>
 bd (o.ld t22 s13) fun t23 =>
 bd (o.fa 1 v12_0) fun t24 =>
 bd (o.ld t24 s13) fun t25 =>
 bd (o.ln t25) fun t26 =>
 bd (o.sub t26 (I .i64 1)) fun t27 =>
 bd (o.ix 2 t23 t27) fun t28 =>
 bd (o.fa 0 t28) fun t29 =>
 bd (o.ld t29 s13) fun t30 =>
 bd (o.add t30 (I .i64 1)) fun t31 =>
 bd (asAggT (aFill [.int .i64 0, .nils] [(0, 1, t31)])) fun t33 =>
 bd (o.fa 1 v12_0) fun t34 =>
 bd (o.ld t34 s13) fun t35 =>
 bd2 (kf 192 [t35] s13) fun t36 s16 =>
 bd2 (o.st 2 v12_1 t33 s16) fun u17 s18 =>
 bd (rC (o.ldn 2 v12_1 s18) (rT t36 (rT t21 (rT t31 (rT (I .i64 0) (some [])))))) fun l19 =>
 bd (retT l19) fun r20 =>
 jT r20 s18)
 (fun i14 v12 s13 => none)
 (fun r15 s13 => jT r15 s13)
theorem f249_ok : Ok Tryz.prog 249 (fun c => L1 (f249 fast c 8192)) := ok1 (fun o c => f249 o c 8192) Tryz.func249 (by kernel_rfl) (fun c a0 s => by kernel_rfl)

/- (twin.site).next -/
def f250_l1 (o : Ops) (kf : CallF) (N : Nat) (v : List T) (s : St) : Option (JO × St) :=
 o.vk v 0 fun v_0 =>
 o.vk v 1 fun v_1 =>
 o.vk v 2 fun v_2 =>
 o.vk v 3 fun v_3 =>
 bd (o.lss v_3 v_2) fun t13 =>
 o.br t13 (jn (bd (o.ix 8 v_1 v_3) fun t14 =>
 bd (o.ldn 8 t14 s) fun t15 =>
 bd2 (o.new s (nCells [.int .i64 0, .int .i64 0, .int .i64 0, .int .i64 0, .int .i64 0, .int .i64 0, .int .u32 0, .str []])) fun t5 s2 =>
 bd2 (o.st 8 t5 t15 s2) fun u3 s4 =>
 bd (o.fa 0 t5) fun t16 =>
 bd (o.ld t16 s4) fun t17 =>
 bd (o.eql t17 (I .i64 1)) fun t18 =>
 jn (o.br t18 (bd (o.fa 2 t5) fun t20 =>
 bd (o.ld t20 s4) fun t21 =>
 bd (o.add t21 (I .i64 1)) fun t22 =>
 bd (aFold aMax2 v_0 [t22]) fun t23 =>
 nm [t23, v_1, v_2, v_3] s4)
 (nm [v_0, v_1, v_2, v_3] s4))
 (fun v5 s6 => o.vk v5 0 fun v5_0 =>
 o.vk v5 1 fun v5_1 =>
 o.vk v5 2 fun v5_2 =>
 o.vk v5 3 fun v5_3 =>
 nm [v5_0, v5_1, v5_2, v5_3] s6)
 (fun i7 v5 s6 => if i7 = 1 then nm v5 s6 else jE i7 v5 s6)
 (fun r8 s6 => jR r8 s6))
 (fun v9 s10 => o.vk v9 0 fun v9_0 =>
 o.vk v9 1 fun v9_1 =>
 o.vk v9 2 fun v9_2 =>
 o.vk v9 3 fun v9_3 =>
 bd (o.add v9_3 (I .i64 1)) fun t24 =>
 nm [v9_0, v9_1, v9_2, t24] s10)
 (fun i11 v9 s10 => jE i11 v9 s10)
 (fun r12 s10 => jR r12 s10))
 (jE 0 [v_0] s)
def f250 (o : Ops) (kf : CallF) (N : Nat) (a0 : T) (s : St) : Option (T × St) :=
 bd (o.nil a0) fun t7 =>
 bd (o.fa 3 t7) fun t8 =>
 bd (o.ld t8 s) fun t9 =>
 bd2 (kf 114 [t9] s) fun t10 s1 =>
 bd (o.ln t10) fun t11 =>
 jn (jn (o.loops (f250_l1 o kf N) N [(I .i64 1), t10, t11, (I .i64 0)] s1)
 (fun v13 s14 => nm [.any] s14)
 (fun i15 v13 s14 => if i15 = 0 then nm v13 s14 else jE i15 v13 s14)
 (fun r16 s14 => jR r16 s14))
 (fun v17 s18 => o.vk v17 0 fun v17_0 =>
 jT v17_0 s18)
 (fun i19 v17 s18 => none)
 (fun r20 s18 => jT r20 s18)
theorem f250_ok : Ok Tryz.prog 250 (fun c => L1 (f250 fast c 8192)) := ok1 (fun o c => f250 o c 8192) Tryz.func250 (by kernel_rfl) (fun c a0 s => by kernel_rfl)

/- (store.Store).Install -/
def f251 (o : Ops) (kf : CallF) (N : Nat) (a0 a1 a2 : T) (s : St) : Option (T × St) :=
 bd (eqB .p a0 (Z .nilp)) fun t15 =>
 o.br t15 (jT (I .i64 10) s)
 (bd2 (kf 309 [a1] s) fun t18 s1 =>
 bd (o.ex t18 0) fun t19 =>
 bd (o.ex t18 1) fun t20 =>
 bd2 (o.new s1 (nCells [.int .i64 0, .int .i64 0, .int .i64 0, .int .i64 0, .int .u32 0])) fun t7 s2 =>
 bd2 (o.st 5 t7 t19 s2) fun u3 s4 =>
 bd (o.neq t20 (I .i64 0)) fun t22 =>
 o.br t22 (jT t20 s4)
 (bd (o.fa 0 t7) fun t25 =>
 bd (o.ld t25 s4) fun t26 =>
 bd (o.fa 1 t7) fun t27 =>
 bd (o.ld t27 s4) fun t28 =>
 bd (o.fa 2 t7) fun t29 =>
 bd (o.ld t29 s4) fun t30 =>
 bd (o.fa 3 t7) fun t31 =>
 bd (o.ld t31 s4) fun t32 =>
 bd (o.fa 4 t7) fun t33 =>
 bd (o.ld t33 s4) fun t34 =>
 bd (asAggT (aFill [.int .i64 0, .int .i64 0, .int .i64 0, .int .i64 0, .int .i64 0, .int .i64 0, .int .u32 0, .str []] [(0, 1, (I .i64 1)), (1, 1, a2), (2, 1, t26), (3, 1, t28), (4, 1, t30), (5, 1, t32), (6, 1, t34)])) fun t35 =>
 bd2 (o.new s4 (nCells [.int .i64 0, .int .i64 0, .int .i64 0, .int .i64 0, .int .i64 0, .int .i64 0, .int .u32 0, .str []])) fun t9 s5 =>
 bd2 (o.st 8 t9 t35 s5) fun u6 s7 =>
 bd (o.ldn 8 t9 s7) fun t37 =>
 bd2 (kf 196 [a0, t37] s7) fun t38 s8 =>
 bd (o.neq t38 (I .i64 0)) fun t40 =>
 o.br t40 (jT t38 s8)
 (bd (o.fa 0 t7) fun t42 =>
 bd (o.ld t42 s8) fun t43 =>
 bd2 (kf 131 [t43] s8) fun t44 s9 =>
 bd (o.nil a0) fun t46 =>
 bd (o.fa 0 t46) fun t47 =>
 bd (o.ld t47 s9) fun t48 =>
 bd2 (kf 146 [t48, t44] s9) fun t50 s10 =>
 bd (o.nil a0) fun t52 =>
 bd (o.fa 0 t52) fun t53 =>
 bd (o.ld t53 s10) fun t54 =>
 bd2 (kf 142 [t54, t44, a1] s10) fun t57 s11 =>
 bd (o.neq t57 (I .i64 0)) fun t59 =>
 o.br t59 (jT t57 s11)
 (bd (o.nil a0) fun t62 =>
 bd (o.fa 0 t62) fun t63 =>
 bd (o.ld t63 s11) fun t64 =>
 bd2 (kf 144 [t64, t44] s11) fun t66 s12 =>
 bd (o.ldn 8 t9 s12) fun t68 =>
 bd2 (kf 197 [a0, t68] s12) fun t69 s13 =>
 bd (o.neq t69 (I .i64 0)) fun t71 =>
 o.br t71 (bd (o.nil a0) fun t73 =>
 bd (o.fa 0 t73) fun t74 =>
 bd (o.ld t74 s13) fun t75 =>
 bd2 (kf 146 [t75, t44] s13) fun t77 s14 =>
 jT t69 s14)
 (jT (I .i64 0) s13)))))
theorem f251_ok : Ok Tryz.prog 251 (fun c => L3 (f251 fast c 8192)) := ok3 (fun o c => f251 o c 8192) Tryz.func251 (by kernel_rfl) (fun c a0 a1 a2 s => by kernel_rfl)

/- segment.Roll -/
def f252_l1 (o : Ops) (kf : CallF) (N : Nat) (v : List T) (s : St) : Option (JO × St) :=
 o.vk v 0 fun v_0 =>
 o.vk v 1 fun v_1 =>
 o.vk v 2 fun v_2 =>
 o.vk v 3 fun v_3 =>
 o.vk v 4 fun v_4 =>
 o.vk v 5 fun v_5 =>
 o.vk v 6 fun v_6 =>
 o.vk v 7 fun v_7 =>
 o.vk v 8 fun v_8 =>
 bd (o.lss v_8 v_7) fun t37 =>
 o.br t37 (jn (bd (o.ix 6 v_6 v_8) fun t39 =>
 bd (o.ldn 6 t39 s) fun t40 =>
 bd2 (o.new s (nCells [.int .i64 0, .int .i64 0, .int .i64 0, .int .i64 0, .nils, .nils])) fun t11 s6 =>
 bd2 (o.st 6 t11 t40 s6) fun u7 s8 =>
 bd (o.ldn 6 t11 s8) fun t41 =>
 bd2 (kf 215 [t41] s8) fun t42 s9 =>
 bd (aUn .not t42) fun t43 =>
 bd (gF t43 (o.fa 1 t11)) fun t45 =>
 bd (gF t43 (o.ld t45 s9)) fun t46 =>
 bd (gF t43 (some v_2)) fun t47 =>
 bd (gF t43 (o.sub t47 (I .i64 1))) fun t48 =>
 bd (gF t43 (o.neq t46 t48)) fun t49 =>
 bd (pT t43 t49) fun t50 =>
 bd (gF t50 (some v_8)) fun t52 =>
 bd (gF t50 (o.gtr t52 (I .i64 0))) fun t53 =>
 bd (gF t50 (some t53)) fun t54 =>
 bd (gU t54 (o.fa 2 t11)) fun t55 =>
 bd (gU t54 (o.ld t55 s9)) fun t56 =>
 bd (gU t54 (some v_0)) fun t57 =>
 bd (gU t54 (some v_8)) fun t58 =>
 bd (gU t54 (o.sub t58 (I .i64 1))) fun t59 =>
 bd (gU t54 (o.ix 6 t57 t59)) fun t60 =>
 bd (gU t54 (o.fa 3 t60)) fun t61 =>
 bd (gU t54 (o.ld t61 s9)) fun t62 =>
 bd (gU t54 (o.neq t56 t62)) fun t63 =>
 bd (gF t50 (pF t54 t63)) fun t64 =>
 bd (pT t50 t64) fun t65 =>
 o.br t65 (bd (asAggT (aFill [.int .i64 0, .int .i64 0, .int .i64 0, .int .i64 0, .nils, .nils] [])) fun t66 =>
 bd2 (o.st 6 v_3 t66 s9) fun u10 s11 =>
 bd (rC (o.ldn 6 v_3 s11) (rT (I .i64 1) (some []))) fun l12 =>
 bd (retT l12) fun r13 =>
 jR r13 s11)
 (bd (o.fa 4 t11) fun t68 =>
 bd (o.ld t68 s9) fun t69 =>
 bd2 (aAppend 2 16 v_4 t69 s9) fun t70 s14 =>
 bd (o.fa 5 t11) fun t72 =>
 bd (o.ld t72 s14) fun t73 =>
 bd2 (aAppend 7 56 v_5 t73 s14) fun t74 s15 =>
 ck ((decide (o.ld t72 s9 = o.ld t72 s14) && true) && true) (nm [v_0, v_1, v_2, v_3, t70, t74, v_6, v_7, v_8] s15)))
 (fun v16 s17 => o.vk v16 0 fun v16_0 =>
 o.vk v16 1 fun v16_1 =>
 o.vk v16 2 fun v16_2 =>
 o.vk v16 3 fun v16_3 =>
 o.vk v16 4 fun v16_4 =>
 o.vk v16 5 fun v16_5 =>
 o.vk v16 6 fun v16_6 =>
 o.vk v16 7 fun v16_7 =>
 o.vk v16 8 fun v16_8 =>
 bd (o.add v16_8 (I .i64 1)) fun t75 =>
 nm [v16_0, v16_1, v16_2, v16_3, v16_4, v16_5, v16_6, v16_7, t75] s17)
 (fun i18 v16 s17 => jE i18 v16 s17)
 (fun r19 s17 => jR r19 s17))
 (jE 0 [v_0, v_1, v_2, v_3, v_4, v_5] s)
def f252_1 (o : Ops) (kf : CallF) (N : Nat) (t84 v24_0 : T) (s25 : St) (v24_1 v24_2 t81 v24_4 v24_3 v24_5 : T) : Option (T × St) :=
 bd (o.sub t84 (I .i64 1)) fun t85 =>
 bd (o.ix 6 v24_0 t85) fun t86 =>
 bd (o.fa 3 t86) fun t87 =>
 bd (o.ld t87 s25) fun t88 =>
 bd (asAggT (aFill [.int .i64 0, .int .i64 0, .int .i64 0, .int .i64 0, .nils, .nils] [(0, 1, v24_1), (1, 1, v24_2), (2, 1, t81), (3, 1, t88)])) fun t89 =>
 bd2 (o.new s25 (nCells [.int .i64 0, .int .i64 0, .int .i64 0, .int .i64 0, .nils, .nils])) fun t12 s28 =>
 bd2 (o.st 6 t12 t89 s28) fun u29 s30 =>
 bd (o.eql v24_2 (I .i64 1)) fun t91 =>
 jn (o.br t91 (bd2 (kf 331 [v24_4, v24_2] s30) fun t95 s31 =>
 bd (o.ex t95 0) fun t96 =>
 bd (o.ex t95 1) fun t97 =>
 bd (o.fa 5 t12) fun t98 =>
 bd2 (o.st 1 t98 t96 s31) fun u32 s33 =>
 nm [v24_3, t12, t97] s33)
 (bd2 (kf 332 [v24_5] s30) fun t101 s34 =>
 bd (o.ex t101 0) fun t102 =>
 bd (o.ex t101 1) fun t103 =>
 bd (o.eql t103 (I .i64 0)) fun t105 =>
 jn (o.br t105 (bd2 (kf 333 [t102, v24_2] s34) fun t109 s35 =>
 bd (o.ex t109 0) fun t110 =>
 bd (o.ex t109 1) fun t111 =>
 bd (o.fa 5 t12) fun t112 =>
 bd2 (o.st 1 t112 t110 s35) fun u36 s37 =>
 nm [v24_3, t12, t111] s37)
 (nm [v24_3, t12, t103] s34))
 (fun v38 s39 => o.vk v38 0 fun v38_0 =>
 o.vk v38 1 fun v38_1 =>
 o.vk v38 2 fun v38_2 =>
 nm [v38_0, v38_1, v38_2] s39)
 (fun i40 v38 s39 => jE i40 v38 s39)
 (fun r41 s39 => jR r41 s39)))
 (fun v42 s43 => o.vk v42 0 fun v42_0 =>
 o.vk v42 1 fun v42_1 =>
 o.vk v42 2 fun v42_2 =>
 jn (bd (o.neq v42_2 (I .i64 0)) fun t115 =>
 o.br t115 (bd (asAggT (aFill [.int .i64 0, .int .i64 0, .int .i64 0, .int .i64 0, .nils, .nils] [])) fun t116 =>
 bd2 (o.st 6 v42_0 t116 s43) fun u46 s47 =>
 bd (rC (o.ldn 6 v42_0 s47) (rT v42_2 (some []))) fun l48 =>
 bd (retT l48) fun r49 =>
 jR r49 s47)
 (bd (o.fa 5 v42_1) fun t119 =>
 bd (o.ld t119 s43) fun t120 =>
 bd (o.ln t120) fun t121 =>
 bd (o.gtr t121 (I .i64 64)) fun t122 =>
 o.br t122 (bd (asAggT (aFill [.int .i64 0, .int .i64 0, .int .i64 0, .int .i64 0, .nils, .nils] [])) fun t123 =>
 bd2 (o.st 6 v42_0 t123 s43) fun u50 s51 =>
 bd (rC (o.ldn 6 v42_0 s51) (rT (I .i64 8) (some []))) fun l52 =>
 bd (retT l52) fun r53 =>
 jR r53 s51)
 (nm [v42_0, v42_1] s43)))
 (fun v54 s55 => o.vk v54 0 fun v54_0 =>
 o.vk v54 1 fun v54_1 =>
 bd (o.ldn 6 v54_1 s55) fun t124 =>
 bd2 (o.st 6 v54_0 t124 s55) fun u58 s59 =>
 bd (rC (o.ldn 6 v54_0 s59) (rT (I .i64 0) (some []))) fun l60 =>
 bd (retT l60) fun r61 =>
 jT r61 s59)
 (fun i56 v54 s55 => none)
 (fun r57 s55 => jT r57 s55))
 (fun i44 v42 s43 => none)
 (fun r45 s43 => jT r45 s43)
def f252 (o : Ops) (kf : CallF) (N : Nat) (a0 a1 a2 : T) (s : St) : Option (T × St) :=
 bd2 (o.new s (nCells [.int .i64 0, .int .i64 0, .int .i64 0, .int .i64 0, .nils, .nils])) fun t6 s1 =>
 bd (o.lss a2 (I .i64 1)) fun t15 =>
 bd (gF t15 (some a2)) fun t17 =>
 bd (gF t15 (o.geq t17 (I .i64 4))) fun t18 =>
 bd (pT t15 t18) fun t19 =>
 bd (gF t19 (some a1)) fun t21 =>
 bd (gF t19 (o.lss t21 (I .i64 1))) fun t22 =>
 bd (pT t19 t22) fun t23 =>
 bd (gF t23 (some a1)) fun t25 =>
 bd (gF t23 (o.gtr t25 (I .i64 1073741824))) fun t26 =>
 bd (pT t23 t26) fun t27 =>
 bd (gF t27 (some a0)) fun t29 =>
 bd (gF t27 (o.ln t29)) fun t30 =>
 bd (gF t27 (o.eql t30 (I .i64 0))) fun t31 =>
 bd (pT t27 t31) fun t32 =>
 o.br t32 (bd (asAggT (aFill [.int .i64 0, .int .i64 0, .int .i64 0, .int .i64 0, .nils, .nils] [])) fun t33 =>
 bd2 (o.st 6 t6 t33 s1) fun u2 s3 =>
 bd (rC (o.ldn 6 t6 s3) (rT (I .i64 1) (some []))) fun l4 =>
 bd (retT l4) fun r5 =>
 jT r5 s3)
 (bd (o.ln a0) fun t35 =>
 jn (jn (o.loops (f252_l1 o kf N) N [a0, a1, a2, t6, (Z .nils), (Z .nils), a0, t35, (I .i64 0)] s1)
 (fun v20 s21 => nm [.any, .any, .any, .any, .any, .any] s21)
 (fun i22 v20 s21 => if i22 = 0 then nm v20 s21 else jE i22 v20 s21)
 (fun r23 s21 => jR r23 s21))
 (fun v24 s25 => o.vk v24 0 fun v24_0 =>
 o.vk v24 1 fun v24_1 =>
 o.vk v24 2 fun v24_2 =>
 o.vk v24 3 fun v24_3 =>
 o.vk v24 4 fun v24_4 =>
 o.vk v24 5 fun v24_5 =>
 bd (o.ix 6 v24_0 (I .i64 0)) fun t79 =>
 bd (o.fa 2 t79) fun t80 =>
 bd (o.ld t80 s25) fun t81 =>
 bd (o.ln v24_0) fun t84 =>
 f252_1 o kf N t84 v24_0 s25 v24_1 v24_2 t81 v24_4 v24_3 v24_5)
 (fun i26 v24 s25 => none)
 (fun r27 s25 => jT r27 s25))
theorem f252_ok : Ok Tryz.prog 252 (fun c => L3 (f252 fast c 8192)) := ok3 (fun o c => f252 o c 8192) Tryz.func252 (by kernel_rfl) (fun c a0 a1 a2 s => by kernel_rfl)

/- (twin.site).safes -/
def f253 (o : Ops) (kf : CallF) (N : Nat) (a0 : T) (s : St) : Option (T × St) :=
 bd (o.nil a0) fun t9 =>
 bd (o.fa 3 t9) fun t10 =>
 bd (o.ld t10 s) fun t11 =>
 bd2 (kf 114 [t11] s) fun t12 s1 =>
 bd (o.nil a0) fun t14 =>
 bd (o.fa 4 t14) fun t15 =>
 bd (o.ld t15 s1) fun t16 =>
 bd2 (kf 86 [t16] s1) fun t17 s2 =>
 bd (aPieceSl 8 t12 none (some t17) none) fun t18 =>
 bd2 (kf 63 [t18] s2) fun t19 s3 =>
 bd (o.ex t19 0) fun t20 =>
 bd (o.ex t19 1) fun t21 =>
 bd (o.ex t19 2) fun t22 =>
 bd (o.ex t19 3) fun t23 =>
 bd2 (o.new s3 (nCells [.int .i64 0, .int .i64 0, .int .i64 0, .int .i64 0, .int .i64 0, .int .i64 0])) fun t4 s4 =>
 bd2 (o.st 6 t4 t21 s4) fun u5 s6 =>
 ck ((decide (aLoad1 t15 (updM (s.get) s3.size (.cells true [.int .i64 0, .int .i64 0, .int .i64 0, .int .i64 0, .int .i64 0, .int .i64 0])) = o.ld t15 s1) && true) && true) (jT t20 s6)
theorem f253_ok : Ok Tryz.prog 253 (fun c => L1 (f253 fast c 8192)) := ok1 (fun o c => f253 o c 8192) Tryz.func253 (by kernel_rfl) (fun c a0 s => by kernel_rfl)

/- frame.May -/
def f255_l1 (o : Ops) (kf : CallF) (N : Nat) (v : List T) (s : St) : Option (JO × St) :=
 o.vk v 0 fun v_0 =>
 jn (bd (o.fa 0 v_0) fun t21 =>
 bd (o.ld t21 s) fun t22 =>
 jn (bd (o.eql t22 (I .i64 1)) fun t24 =>
 o.br t24 (bd (o.fa 3 v_0) fun t25 =>
 bd (o.ld t25 s) fun t26 =>
 bd (o.gtr t26 (I .i64 0)) fun t27 =>
 bd (gU t27 (o.fa 4 v_0)) fun t29 =>
 bd (gU t27 (o.ld t29 s)) fun t30 =>
 bd (gU t27 (o.ln t30)) fun t31 =>
 bd (gU t27 (o.leq t31 (I .i64 4100))) fun t32 =>
 bd (pF t27 t32) fun t33 =>
 bd (gU t33 (o.fa 2 v_0)) fun t35 =>
 bd (gU t33 (o.ld t35 s)) fun t36 =>
 bd (gU t33 (o.eql t36 (I .i64 0))) fun t37 =>
 bd (pF t33 t37) fun t38 =>
 jR t38 s)
 (bd (o.eql t22 (I .i64 2)) fun t40 =>
 o.br t40 (bd (o.fa 4 v_0) fun t41 =>
 bd (o.ld t41 s) fun t42 =>
 bd (o.ln t42) fun t43 =>
 bd (o.eql t43 (I .i64 0)) fun t44 =>
 bd (gU t44 (o.fa 2 v_0)) fun t46 =>
 bd (gU t44 (o.ld t46 s)) fun t47 =>
 bd (gU t44 (o.eql t47 (I .i64 0))) fun t48 =>
 bd (pF t44 t48) fun t49 =>
 jR t49 s)
 (bd (o.eql t22 (I .i64 3)) fun t51 =>
 jn (o.br t51 (nm [v_0, t51] s)
 (bd (o.eql t22 (I .i64 4)) fun t52 =>
 nm [v_0, t52] s))
 (fun v2 s3 => o.vk v2 0 fun v2_0 =>
 o.vk v2 1 fun v2_1 =>
 o.br v2_1 (bd (o.fa 3 v2_0) fun t53 =>
 bd (o.ld t53 s3) fun t54 =>
 bd (o.eql t54 (I .i64 0)) fun t55 =>
 bd (gU t55 (o.fa 4 v2_0)) fun t57 =>
 bd (gU t55 (o.ld t57 s3)) fun t58 =>
 bd (gU t55 (o.ln t58)) fun t59 =>
 bd (gU t55 (o.eql t59 (I .i64 0))) fun t60 =>
 bd (pF t55 t60) fun t61 =>
 bd (gU t61 (o.fa 2 v2_0)) fun t63 =>
 bd (gU t61 (o.ld t63 s3)) fun t64 =>
 bd (gU t61 (o.geq t64 (I .i64 0))) fun t65 =>
 bd (pF t61 t65) fun t66 =>
 bd (gU t66 (o.fa 2 v2_0)) fun t68 =>
 bd (gU t66 (o.ld t68 s3)) fun t69 =>
 bd (gU t66 (o.lss t69 (I .i64 2))) fun t70 =>
 bd (pF t66 t70) fun t71 =>
 jR t71 s3)
 (nm [] s3))
 (fun i4 v2 s3 => if i4 = 2 then nm v2 s3 else jE i4 v2 s3)
 (fun r5 s3 => jR r5 s3))))
 (fun v6 s7 => jE 0 [] s7)
 (fun i8 v6 s7 => if i8 = 1 then nm v6 s7 else jE i8 v6 s7)
 (fun r9 s7 => jR r9 s7))
 (fun v10 s11 => o.vk v10 0 fun v10_0 =>
 nm [v10_0] s11)
 (fun i12 v10 s11 => jE i12 v10 s11)
 (fun r13 s11 => jR r13 s11)
def f255 (o : Ops) (kf : CallF) (N : Nat) (a0 : T) (s : St) : Option (T × St) :=
 bd2 (o.new s (nBox a0)) fun t1 s1 =>
 bd (o.fa 1 t1) fun t3 =>
 bd (o.ld t3 s1) fun t4 =>
 bd (o.lss t4 (I .i64 0)) fun t5 =>
 bd (gF t5 (o.fa 1 t1)) fun t7 =>
 bd (gF t5 (o.ld t7 s1)) fun t8 =>
 bd (gF t5 (o.gtr t8 (I .i64 1073741824))) fun t9 =>
 bd (pT t5 t9) fun t10 =>
 bd (gF t10 (o.fa 3 t1)) fun t12 =>
 bd (gF t10 (o.ld t12 s1)) fun t13 =>
 bd (gF t10 (o.lss t13 (I .i64 0))) fun t14 =>
 bd (pT t10 t14) fun t15 =>
 bd (gF t15 (o.fa 3 t1)) fun t17 =>
 bd (gF t15 (o.ld t17 s1)) fun t18 =>
 bd (gF t15 (o.gtr t18 (I .i64 1099511627776))) fun t19 =>
 bd (pT t15 t19) fun t20 =>
 o.br t20 (jT (B false) s1)
 (jn (jn (o.loops (f255_l1 o kf N) N [t1] s1)
 (fun v14 s15 => nm [] s15)
 (fun i16 v14 s15 => if i16 = 0 then nm v14 s15 else jE i16 v14 s15)
 (fun r17 s15 => jR r17 s15))
 (fun v18 s19 => jT (B false) s19)
 (fun i20 v18 s19 => none)
 (fun r21 s19 => jT r21 s19))
theorem f255_ok : Ok Tryz.prog 255 (fun c => L1 (f255 fast c 8192)) := ok1 (fun o c => f255 o c 8192) Tryz.func255 (by kernel_rfl) (fun c a0 s => by kernel_rfl)

/- (twin.site).replace -/
def f256 (o : Ops) (kf : CallF) (N : Nat) (a0 a1 a2 : T) (s : St) : Option (T × St) :=
 bd (o.nil a0) fun t8 =>
 bd (o.fa 1 t8) fun t9 =>
 bd (o.ld t9 s) fun t10 =>
 bd (o.add a1 (Z (.str [46, 110, 101, 119]))) fun t12 =>
 bd2 (kf 146 [t10, t12] s) fun t13 s1 =>
 bd (o.nil a0) fun t15 =>
 bd (o.fa 1 t15) fun t16 =>
 bd (o.ld t16 s1) fun t17 =>
 bd (o.add a1 (Z (.str [46, 110, 101, 119]))) fun t19 =>
 bd2 (kf 142 [t17, t19, a2] s1) fun t21 s2 =>
 bd (o.neq t21 (I .i64 0)) fun t22 =>
 o.br t22 (jT (B false) s2)
 (bd (o.nil a0) fun t24 =>
 bd (o.fa 1 t24) fun t25 =>
 bd (o.ld t25 s2) fun t26 =>
 bd (o.add a1 (Z (.str [46, 110, 101, 119]))) fun t28 =>
 bd2 (kf 144 [t26, t28] s2) fun t29 s3 =>
 bd (o.nil a0) fun t31 =>
 bd (o.fa 1 t31) fun t32 =>
 bd (o.ld t32 s3) fun t33 =>
 bd (o.add a1 (Z (.str [46, 110, 101, 119]))) fun t35 =>
 bd2 (kf 334 [t33, t35, a1] s3) fun t37 s4 =>
 bd (o.eql t37 (I .i64 0)) fun t38 =>
 jT t38 s4)
theorem f256_ok : Ok Tryz.prog 256 (fun c => L3 (f256 fast c 8192)) := ok3 (fun o c => f256 o c 8192) Tryz.func256 (by kernel_rfl) (fun c a0 a1 a2 s => by kernel_rfl)

/- (mark.Mark).note -/
def f257 (o : Ops) (kf : CallF) (N : Nat) (a0 : T) (s : St) : Option (T × St) :=
 bd (o.nil a0) fun t5 =>
 bd (o.fa 3 t5) fun t6 =>
 bd (o.ld t6 s) fun t7 =>
 bd (o.nil a0) fun t9 =>
 bd (o.fa 1 t9) fun t10 =>
 bd (o.ld t10 s) fun t11 =>
 bd (o.nil a0) fun t13 =>
 bd (o.fa 2 t13) fun t14 =>
 bd (o.ld t14 s) fun t15 =>
 bd (aFold aMin2 t11 [t15]) fun t16 =>
 bd (aFold aMax2 t7 [t16]) fun t17 =>
 bd (o.nil a0) fun t18 =>
 bd (o.fa 3 t18) fun t19 =>
 bd2 (o.st 1 t19 t17 s) fun u1 s2 =>
 jT (I .i64 0) s2
theorem f257_ok : Ok Tryz.prog 257 (fun c => L1 (f257 fast c 8192)) := ok1 (fun o c => f257 o c 8192) Tryz.func257 (by kernel_rfl) (fun c a0 s => by kernel_rfl)

/- entry.Put -/
def f258_l1 (o : Ops) (kf : CallF) (N : Nat) (v : List T) (s : St) : Option (JO × St) :=
 o.vk v 0 fun v_0 =>
 o.vk v 1 fun v_1 =>
 o.vk v 2 fun v_2 =>
 o.vk v 3 fun v_3 =>
 o.vk v 4 fun v_4 =>
 bd (o.lss v_4 v_3) fun t56 =>
 o.br t56 (jn (bd (o.ix 1 v_2 v_4) fun t57 =>
 bd (o.ld t57 s) fun t58 =>
 bd2 (kf 238 [t58] s) fun t61 s26 =>
 bd2 (aAppend 1 1 v_1 t61 s26) fun t62 s27 =>
 nm [v_0, t62, v_2, v_3, v_4] s27)
 (fun v28 s29 => o.vk v28 0 fun v28_0 =>
 o.vk v28 1 fun v28_1 =>
 o.vk v28 2 fun v28_2 =>
 o.vk v28 3 fun v28_3 =>
 o.vk v28 4 fun v28_4 =>
 bd (o.add v28_4 (I .i64 1)) fun t63 =>
 nm [v28_0, v28_1, v28_2, v28_3, t63] s29)
 (fun i30 v28 s29 => jE i30 v28 s29)
 (fun r31 s29 => jR r31 s29))
 (jE 1 [v_0, v_1] s)
def f258_1 (o : Ops) (kf : CallF) (N : Nat) (t21 t1 : T) (s6 : St) (t19 : T) : Option (T × St) :=
 jn (bd (o.eql t21 (I .i64 1)) fun t23 =>
 jn (o.br t23 (bd (o.fa 2 t1) fun t24 =>
 bd (o.ld t24 s6) fun t25 =>
 bd (o.cv .u64 t25) fun t26 =>
 bd (o.fa 3 t1) fun t27 =>
 bd (o.ld t27 s6) fun t28 =>
 bd (o.cv .u64 t28) fun t29 =>
 bd (o.fa 4 t1) fun t30 =>
 bd (o.ld t30 s6) fun t31 =>
 bd (o.cv .u64 t31) fun t32 =>
 bd (o.fa 5 t1) fun t33 =>
 bd (o.ld t33 s6) fun t34 =>
 bd (o.cv .u64 t34) fun t35 =>
 bd (o.fa 6 t1) fun t36 =>
 bd (o.ld t36 s6) fun t37 =>
 bd (o.cv .u64 t37) fun t38 =>
 bd2 (o.new s6 (nSlice 5 (aFill [.int .u64 0, .int .u64 0, .int .u64 0, .int .u64 0, .int .u64 0] [(0, 1, t26), (1, 1, t29), (2, 1, t32), (3, 1, t35), (4, 1, t38)]))) fun t39 s7 =>
 nm [t1, t19, t39] s7)
 (bd (o.eql t21 (I .i64 2)) fun t41 =>
 jn (o.br t41 (bd (o.fa 2 t1) fun t42 =>
 bd (o.ld t42 s6) fun t43 =>
 bd (o.cv .u64 t43) fun t44 =>
 bd2 (o.new s6 (nSlice 1 (aFill [.int .u64 0] [(0, 1, t44)]))) fun t45 s8 =>
 nm [t1, t19, t45] s8)
 (bd (o.eql t21 (I .i64 4)) fun t47 =>
 jn (o.br t47 (bd (o.fa 7 t1) fun t48 =>
 bd (o.ld t48 s6) fun t49 =>
 bd (aLenStr t49) fun t50 =>
 bd (o.cv .u64 t50) fun t51 =>
 bd2 (o.new s6 (nSlice 1 (aFill [.int .u64 0] [(0, 1, t51)]))) fun t52 s9 =>
 nm [t1, t19, t52] s9)
 (nm [t1, t19, (Z .nils)] s6))
 (fun v10 s11 => o.vk v10 0 fun v10_0 =>
 o.vk v10 1 fun v10_1 =>
 o.vk v10 2 fun v10_2 =>
 nm [v10_0, v10_1, v10_2] s11)
 (fun i12 v10 s11 => jE i12 v10 s11)
 (fun r13 s11 => jR r13 s11)))
 (fun v14 s15 => o.vk v14 0 fun v14_0 =>
 o.vk v14 1 fun v14_1 =>
 o.vk v14 2 fun v14_2 =>
 nm [v14_0, v14_1, v14_2] s15)
 (fun i16 v14 s15 => jE i16 v14 s15)
 (fun r17 s15 => jR r17 s15)))
 (fun v18 s19 => o.vk v18 0 fun v18_0 =>
 o.vk v18 1 fun v18_1 =>
 o.vk v18 2 fun v18_2 =>
 nm [v18_0, v18_1, v18_2] s19)
 (fun i20 v18 s19 => if i20 = 0 then nm v18 s19 else jE i20 v18 s19)
 (fun r21 s19 => jR r21 s19))
 (fun v22 s23 => o.vk v22 0 fun v22_0 =>
 o.vk v22 1 fun v22_1 =>
 o.vk v22 2 fun v22_2 =>
 bd (o.ln v22_2) fun t54 =>
 jn (jn (o.loops (f258_l1 o kf N) N [v22_0, v22_1, v22_2, t54, (I .i64 0)] s23)
 (fun v32 s33 => nm [.any, .any] s33)
 (fun i34 v32 s33 => if i34 = 1 then nm v32 s33 else jE i34 v32 s33)
 (fun r35 s33 => jR r35 s33))
 (fun v36 s37 => o.vk v36 0 fun v36_0 =>
 o.vk v36 1 fun v36_1 =>
 bd (o.fa 7 v36_0) fun t65 =>
 bd (o.ld t65 s37) fun t66 =>
 bd2 (aAppend 1 1 v36_1 t66 s37) fun t67 s40 =>
 bd (retT [t67, (I .i64 0)]) fun r41 =>
 jT r41 s40)
 (fun i38 v36 s37 => none)
 (fun r39 s37 => jT r39 s37))
 (fun i24 v22 s23 => none)
 (fun r25 s23 => jT r25 s23)
def f258 (o : Ops) (kf : CallF) (N : Nat) (a0 : T) (s : St) : Option (T × St) :=
 bd2 (o.new s (nBox a0)) fun t1 s1 =>
 bd (o.ldn 8 t1 s1) fun t8 =>
 bd2 (kf 286 [t8] s1) fun t9 s2 =>
 bd (aUn .not t9) fun t10 =>
 o.br t10 (bd (retT [(Z .nils), (I .i64 1)]) fun r3 =>
 jT r3 s2)
 (bd (o.fa 0 t1) fun t11 =>
 bd (o.ld t11 s2) fun t12 =>
 bd (o.cv .u8 t12) fun t13 =>
 bd2 (o.new s2 (nSlice 1 (aFill [.int .u8 0] [(0, 1, t13)]))) fun t14 s4 =>
 bd (o.fa 1 t1) fun t15 =>
 bd (o.ld t15 s4) fun t16 =>
 bd (o.cv .u64 t16) fun t17 =>
 bd2 (kf 238 [t17] s4) fun t18 s5 =>
 bd2 (aAppend 1 1 t14 t18 s5) fun t19 s6 =>
 ck ((decide (aLoad1 t11 (overlay 8 s5.get (ovO 3 s2.size (nSlice 1 (aFill [.int .u8 0] [(0, 1, t13)])) [])) = o.ld t11 s2) && true) && true) (bd (o.fa 0 t1) fun t20 =>
 bd (o.ld t20 s6) fun t21 =>
 f258_1 o kf N t21 t1 s6 t19))
theorem f258_ok : Ok Tryz.prog 258 (fun c => L1 (f258 fast c 8192)) := ok1 (fun o c => f258 o c 8192) Tryz.func258 (by kernel_rfl) (fun c a0 s => by kernel_rfl)

/- (twin.data).bytes -/
def f259_l1 (o : Ops) (kf : CallF) (N : Nat) (v : List T) (s : St) : Option (JO × St) :=
 o.vk v 0 fun v_0 =>
 o.vk v 1 fun v_1 =>
 o.vk v 2 fun v_2 =>
 o.vk v 3 fun v_3 =>
 o.vk v 4 fun v_4 =>
 bd (o.lss v_4 v_3) fun t29 =>
 o.br t29 (jn (bd (o.ix 8 v_2 v_4) fun t30 =>
 bd (o.ldn 8 t30 s) fun t31 =>
 bd2 (o.new s (nCells [.int .i64 0, .int .i64 0, .int .i64 0, .int .i64 0, .int .i64 0, .int .i64 0, .int .u32 0, .str []])) fun t5 s4 =>
 bd2 (o.st 8 t5 t31 s4) fun u5 s6 =>
 bd (o.ldn 8 t5 s6) fun t33 =>
 bd2 (kf 258 [t33] s6) fun t34 s7 =>
 bd (o.ex t34 0) fun t35 =>
 bd (o.ex t34 1) fun t36 =>
 bd (o.ln t35) fun t39 =>
 bd2 (o.new s7 (nSlice 1 (aFill [.int .i64 0] [(0, 1, t39)]))) fun t40 s8 =>
 bd2 (kf 194 [t40] s8) fun t41 s9 =>
 bd2 (aAppend 1 1 v_1 t41 s9) fun t42 s10 =>
 bd2 (aAppend 1 1 t42 t35 s10) fun t44 s11 =>
 nm [v_0, t44, v_2, v_3, v_4] s11)
 (fun v12 s13 => o.vk v12 0 fun v12_0 =>
 o.vk v12 1 fun v12_1 =>
 o.vk v12 2 fun v12_2 =>
 o.vk v12 3 fun v12_3 =>
 o.vk v12 4 fun v12_4 =>
 bd (o.add v12_4 (I .i64 1)) fun t45 =>
 nm [v12_0, v12_1, v12_2, v12_3, t45] s13)
 (fun i14 v12 s13 => jE i14 v12 s13)
 (fun r15 s13 => jR r15 s13))
 (jE 0 [v_0, v_1] s)
def f259_l2 (o : Ops) (kf : CallF) (N : Nat) (v : List T) (s : St) : Option (JO × St) :=
 o.vk v 0 fun v_0 =>
 o.vk v 1 fun v_1 =>
 o.vk v 2 fun v_2 =>
 o.vk v 3 fun v_3 =>
 bd (o.lss v_3 v_2) fun t67 =>
 o.br t67 (jn (bd (o.ix 3 v_1 v_3) fun t68 =>
 bd (o.ldn 3 t68 s) fun t69 =>
 bd2 (o.new s (nCells [.int .i64 0, .int .i64 0, .int .i64 0])) fun t9 s31 =>
 bd2 (o.st 3 t9 t69 s31) fun u32 s33 =>
 bd (o.fa 0 t9) fun t71 =>
 bd (o.ld t71 s33) fun t72 =>
 bd (o.fa 1 t9) fun t73 =>
 bd (o.fa 0 t73) fun t74 =>
 bd (o.ld t74 s33) fun t75 =>
 bd (o.fa 1 t9) fun t76 =>
 bd (o.fa 1 t76) fun t77 =>
 bd (o.ld t77 s33) fun t78 =>
 bd2 (o.new s33 (nSlice 3 (aFill [.int .i64 0, .int .i64 0, .int .i64 0] [(0, 1, t72), (1, 1, t75), (2, 1, t78)]))) fun t79 s34 =>
 bd2 (kf 194 [t79] s34) fun t80 s35 =>
 bd2 (aAppend 1 1 v_0 t80 s35) fun t81 s36 =>
 nm [t81, v_1, v_2, v_3] s36)
 (fun v37 s38 => o.vk v37 0 fun v37_0 =>
 o.vk v37 1 fun v37_1 =>
 o.vk v37 2 fun v37_2 =>
 o.vk v37 3 fun v37_3 =>
 bd (o.add v37_3 (I .i64 1)) fun t82 =>
 nm [v37_0, v37_1, v37_2, t82] s38)
 (fun i39 v37 s38 => jE i39 v37 s38)
 (fun r40 s38 => jR r40 s38))
 (jE 2 [v_0] s)
def f259 (o : Ops) (kf : CallF) (N : Nat) (a0 : T) (s : St) : Option (T × St) :=
 bd2 (o.new s (nBox a0)) fun t1 s1 =>
 bd (o.fa 0 t1) fun t10 =>
 bd (o.ld t10 s1) fun t11 =>
 bd (o.fa 1 t1) fun t12 =>
 bd (o.ld t12 s1) fun t13 =>
 bd (o.fa 2 t1) fun t14 =>
 bd (o.ld t14 s1) fun t15 =>
 bd (o.fa 3 t1) fun t16 =>
 bd (o.ld t16 s1) fun t17 =>
 bd (o.fa 4 t1) fun t18 =>
 bd (o.ld t18 s1) fun t19 =>
 bd (o.fa 5 t1) fun t20 =>
 bd (o.ld t20 s1) fun t21 =>
 bd (o.ln t21) fun t22 =>
 bd2 (o.new s1 (nSlice 7 (aFill [.int .i64 0, .int .i64 0, .int .i64 0, .int .i64 0, .int .i64 0, .int .i64 0, .int .i64 0] [(0, 1, (I .i64 2)), (1, 1, t11), (2, 1, t13), (3, 1, t15), (4, 1, t17), (5, 1, t19), (6, 1, t22)]))) fun t23 s2 =>
 bd2 (kf 194 [t23] s2) fun t24 s3 =>
 bd (o.fa 5 t1) fun t25 =>
 bd (o.ld t25 s3) fun t26 =>
 bd (o.ln t26) fun t27 =>
 jn (jn (o.loops (f259_l1 o kf N) N [t1, t24, t26, t27, (I .i64 0)] s3)
 (fun v16 s17 => nm [.any, .any] s17)
 (fun i18 v16 s17 => if i18 = 0 then nm v16 s17 else jE i18 v16 s17)
 (fun r19 s17 => jR r19 s17))
 (fun v20 s21 => o.vk v20 0 fun v20_0 =>
 o.vk v20 1 fun v20_1 =>
 bd (o.fa 6 v20_0) fun t47 =>
 bd (o.ld t47 s21) fun t48 =>
 bd (o.ln t48) fun t49 =>
 bd2 (o.new s21 (nSlice 1 (aFill [.int .i64 0] [(0, 1, t49)]))) fun t50 s24 =>
 bd2 (kf 194 [t50] s24) fun t51 s25 =>
 bd2 (aAppend 1 1 v20_1 t51 s25) fun t52 s26 =>
 bd (o.fa 6 v20_0) fun t53 =>
 bd (o.ld t53 s26) fun t54 =>
 bd2 (aAppend 1 1 t52 t54 s26) fun t55 s27 =>
 ck ((decide (aLoad1 t53 (overlay 0 s21.get (ovO 4 s21.size (nSlice 1 (aFill [.int .i64 0] [(0, 1, t49)])) [])) = o.ld t53 s26) && (decide (aLoad1 t53 (overlay 6 s25.get (ovO 4 s21.size (nSlice 1 (aFill [.int .i64 0] [(0, 1, t49)])) [])) = o.ld t53 s26) && true)) && true) (bd (o.fa 7 v20_0) fun t57 =>
 bd (o.ld t57 s27) fun t58 =>
 bd (o.ln t58) fun t59 =>
 bd2 (o.new s27 (nSlice 1 (aFill [.int .i64 0] [(0, 1, t59)]))) fun t60 s28 =>
 bd2 (kf 194 [t60] s28) fun t61 s29 =>
 bd2 (aAppend 1 1 t55 t61 s29) fun t62 s30 =>
 bd (o.fa 7 v20_0) fun t63 =>
 bd (o.ld t63 s30) fun t64 =>
 bd (o.ln t64) fun t65 =>
 jn (jn (o.loops (f259_l2 o kf N) N [t62, t64, t65, (I .i64 0)] s30)
 (fun v41 s42 => nm [.any] s42)
 (fun i43 v41 s42 => if i43 = 2 then nm v41 s42 else jE i43 v41 s42)
 (fun r44 s42 => jR r44 s42))
 (fun v45 s46 => o.vk v45 0 fun v45_0 =>
 jT v45_0 s46)
 (fun i47 v45 s46 => none)
 (fun r48 s46 => jT r48 s46)))
 (fun i22 v20 s21 => none)
 (fun r23 s21 => jT r23 s21)
theorem f259_ok : Ok Tryz.prog 259 (fun c => L1 (f259 fast c 8192)) := ok1 (fun o c => f259 o c 8192) Tryz.func259 (by kernel_rfl) (fun c a0 s => by kernel_rfl)

/- (twin.Twin).tell -/
def f260 (o : Ops) (kf : CallF) (N : Nat) (a0 a1 a2 a3 : T) (s : St) : Option (T × St) :=
 bd (asAggT (aFill [.int .i64 0, .int .i64 0, .int .i64 0, .int .i64 0, .nils] [(0, 1, (I .i64 1)), (1, 1, a2), (3, 1, (I .i64 1)), (4, 1, a3)])) fun t12 =>
 bd2 (kf 172 [a0, a1, t12] s) fun t13 s1 =>
 bd (retT []) fun r2 =>
 jT r2 s1
theorem f260_ok : Ok Tryz.prog 260 (fun c => L4 (f260 fast c 8192)) := ok4 (fun o c => f260 o c 8192) Tryz.func260 (by kernel_rfl) (fun c a0 a1 a2 a3 s => by kernel_rfl)

/- (twin.reader).count -/
def f261 (o : Ops) (kf : CallF) (N : Nat) (a0 : T) (s : St) : Option (T × St) :=
 bd2 (kf 95 [a0] s) fun t5 s1 =>
 bd (o.lss t5 (I .i64 0)) fun t7 =>
 bd (gF t7 (some t5)) fun t9 =>
 bd (gF t7 (o.gtr t9 (I .i64 2000))) fun t10 =>
 bd (pT t7 t10) fun t11 =>
 o.br t11 (bd (o.nil a0) fun t13 =>
 bd (o.fa 2 t13) fun t14 =>
 bd2 (o.st 1 t14 (B true) s1) fun u2 s3 =>
 jT (I .i64 0) s3)
 (jT t5 s1)
theorem f261_ok : Ok Tryz.prog 261 (fun c => L1 (f261 fast c 8192)) := ok1 (fun o c => f261 o c 8192) Tryz.func261 (by kernel_rfl) (fun c a0 s => by kernel_rfl)

/- (twin.reader).bytes -/
def f262 (o : Ops) (kf : CallF) (N : Nat) (a0 : T) (s : St) : Option (T × St) :=
 bd2 (kf 95 [a0] s) fun t5 s1 =>
 bd (o.nil a0) fun t7 =>
 bd (o.fa 2 t7) fun t8 =>
 bd (o.ld t8 s1) fun t9 =>
 bd (gF t9 (some t5)) fun t11 =>
 bd (gF t9 (o.lss t11 (I .i64 0))) fun t12 =>
 bd (pT t9 t12) fun t13 =>
 bd (gF t13 (some t5)) fun t15 =>
 bd (gF t13 (some a0)) fun t16 =>
 bd (gF t13 (o.nil t16)) fun t17 =>
 bd (gF t13 (o.fa 0 t17)) fun t18 =>
 bd (gF t13 (o.ld t18 s1)) fun t19 =>
 bd (gF t13 (o.ln t19)) fun t20 =>
 bd (gF t13 (some a0)) fun t21 =>
 bd (gF t13 (o.nil t21)) fun t22 =>
 bd (gF t13 (o.fa 1 t22)) fun t23 =>
 bd (gF t13 (o.ld t23 s1)) fun t24 =>
 bd (gF t13 (o.sub t20 t24)) fun t25 =>
 bd (gF t13 (o.gtr t15 t25)) fun t26 =>
 bd (pT t13 t26) fun t27 =>
 o.br t27 (bd (o.nil a0) fun t29 =>
 bd (o.fa 2 t29) fun t30 =>
 bd2 (o.st 1 t30 (B true) s1) fun u2 s3 =>
 jT (Z .nils) s3)
 (bd (o.nil a0) fun t32 =>
 bd (o.fa 1 t32) fun t33 =>
 bd (o.ld t33 s1) fun t34 =>
 bd (o.add t34 t5) fun t36 =>
 bd (o.nil a0) fun t37 =>
 bd (o.fa 1 t37) fun t38 =>
 bd2 (o.st 1 t38 t36 s1) fun u4 s5 =>
 bd (o.nil a0) fun t40 =>
 bd (o.fa 0 t40) fun t41 =>
 bd (o.ld t41 s5) fun t42 =>
 bd (o.nil a0) fun t44 =>
 bd (o.fa 1 t44) fun t45 =>
 bd (o.ld t45 s5) fun t46 =>
 bd (o.sub t46 t5) fun t48 =>
 bd (o.nil a0) fun t50 =>
 bd (o.fa 1 t50) fun t51 =>
 bd (o.ld t51 s5) fun t52 =>
 bd (aPieceSl 1 t42 (some t48) (some t52) none) fun t53 =>
 jT t53 s5)
theorem f262_ok : Ok Tryz.prog 262 (fun c => L1 (f262 fast c 8192)) := ok1 (fun o c => f262 o c 8192) Tryz.func262 (by kernel_rfl) (fun c a0 s => by kernel_rfl)

/- slices.Clone[[]byte,byte] -/
def f263 (o : Ops) (kf : CallF) (N : Nat) (a0 : T) (s : St) : Option (T × St) :=
 bd (eqB .l a0 (Z .nils)) fun t4 =>
 o.br t4 (jT (Z .nils) s)
 (bd2 (o.new s (nSlice 0 (aFill [] []))) fun t5 s1 =>
 bd2 (aAppend 1 1 t5 a0 s1) fun t7 s2 =>
 jT t7 s2)
theorem f263_ok : Ok Tryz.prog 263 (fun c => L1 (f263 fast c 8192)) := ok1 (fun o c => f263 o c 8192) Tryz.func263 (by kernel_rfl) (fun c a0 s => by kernel_rfl)

/- (twin.journal).begin -/
def f264 (o : Ops) (kf : CallF) (N : Nat) (a0 : T) (s : St) : Option (T × St) :=
 bd2 (o.new s (nBox a0)) fun t1 s1 =>
 bd (o.fa 0 t1) fun t3 =>
 bd (o.ld t3 s1) fun t4 =>
 bd (o.fa 1 t1) fun t5 =>
 bd (o.ld t5 s1) fun t6 =>
 bd (o.fa 2 t1) fun t7 =>
 bd (o.ld t7 s1) fun t8 =>
 bd (o.fa 3 t1) fun t9 =>
 bd (o.ld t9 s1) fun t10 =>
 bd2 (o.new s1 (nSlice 5 (aFill [.int .i64 0, .int .i64 0, .int .i64 0, .int .i64 0, .int .i64 0] [(0, 1, (I .i64 0)), (1, 1, t4), (2, 1, t6), (3, 1, t8), (4, 1, t10)]))) fun t11 s2 =>
 bd2 (kf 194 [t11] s2) fun t12 s3 =>
 bd2 (kf 193 [t12] s3) fun t13 s4 =>
 jT t13 s4
theorem f264_ok : Ok Tryz.prog 264 (fun c => L1 (f264 fast c 8192)) := ok1 (fun o c => f264 o c 8192) Tryz.func264 (by kernel_rfl) (fun c a0 s => by kernel_rfl)

/- (twin.site).take -/
def f267_1 (o : Ops) (kf : CallF) (N : Nat) (t8 a0 : T) (s1 : St) (t3 : T) : Option (T × St) :=
 jn (bd (o.eql t8 (I .i64 1)) fun t10 =>
 o.br t10 (bd (o.nil a0) fun t13 =>
 bd (o.fa 25 t13) fun t14 =>
 bd (o.ld t14 s1) fun t15 =>
 bd2 (kf 309 [t15] s1) fun t16 s2 =>
 bd (o.ex t16 0) fun t17 =>
 bd (o.ex t16 1) fun t18 =>
 bd2 (o.new s2 (nCells [.int .i64 0, .int .i64 0, .int .i64 0, .int .i64 0, .int .u32 0])) fun t5 s3 =>
 bd2 (o.st 5 t5 t17 s3) fun u4 s5 =>
 bd (o.neq t18 (I .i64 0)) fun t20 =>
 bd (gF t20 (o.ldn 5 t5 s5)) fun t22 =>
 bd (gF t20 (o.fa 2 t3)) fun t23 =>
 bd (gF t20 (o.ld t23 s5)) fun t24 =>
 bd (gF t20 (o.fa 3 t3)) fun t25 =>
 bd (gF t20 (o.ld t25 s5)) fun t26 =>
 bd (gF t20 (o.fa 4 t3)) fun t27 =>
 bd (gF t20 (o.ld t27 s5)) fun t28 =>
 bd (gF t20 (o.fa 5 t3)) fun t29 =>
 bd (gF t20 (o.ld t29 s5)) fun t30 =>
 bd (gF t20 (o.fa 6 t3)) fun t31 =>
 bd (gF t20 (o.ld t31 s5)) fun t32 =>
 bd (gF t20 (asAggT (aFill [.int .i64 0, .int .i64 0, .int .i64 0, .int .i64 0, .int .u32 0] [(0, 1, t24), (1, 1, t26), (2, 1, t28), (3, 1, t30), (4, 1, t32)]))) fun t33 =>
 bd (gF t20 (neB (.a 5 [(0, .i), (1, .i), (2, .i), (3, .i), (4, .i)]) t22 t33)) fun t34 =>
 bd (pT t20 t34) fun t35 =>
 o.br t35 (bd (o.fa 2 t3) fun t37 =>
 bd (o.ld t37 s5) fun t38 =>
 bd (o.nil a0) fun t39 =>
 bd (o.fa 26 t39) fun t40 =>
 bd2 (o.st 1 t40 t38 s5) fun u6 s7 =>
 jR (B false) s7)
 (bd (o.nil a0) fun t42 =>
 bd (o.fa 3 t42) fun t43 =>
 bd (o.ld t43 s5) fun t44 =>
 bd (o.nil a0) fun t46 =>
 bd (o.fa 25 t46) fun t47 =>
 bd (o.ld t47 s5) fun t48 =>
 bd (o.fa 1 t3) fun t49 =>
 bd (o.ld t49 s5) fun t50 =>
 bd2 (kf 251 [t44, t48, t50] s5) fun t51 s8 =>
 bd (o.eql t51 (I .i64 0)) fun t52 =>
 jR t52 s8))
 (bd (o.eql t8 (I .i64 2)) fun t54 =>
 o.br t54 (bd (o.nil a0) fun t56 =>
 bd (o.fa 3 t56) fun t57 =>
 bd (o.ld t57 s1) fun t58 =>
 bd (o.fa 2 t3) fun t59 =>
 bd (o.ld t59 s1) fun t60 =>
 bd (o.fa 1 t3) fun t61 =>
 bd (o.ld t61 s1) fun t62 =>
 bd2 (kf 254 [t58, t60, t62] s1) fun t63 s9 =>
 bd (o.eql t63 (I .i64 0)) fun t64 =>
 jR t64 s9)
 (nm [a0, t3] s1)))
 (fun v10 s11 => o.vk v10 0 fun v10_0 =>
 o.vk v10 1 fun v10_1 =>
 bd (o.nil v10_0) fun t66 =>
 bd (o.fa 3 t66) fun t67 =>
 bd (o.ld t67 s11) fun t68 =>
 bd (o.ldn 8 v10_1 s11) fun t69 =>
 bd2 (kf 110 [t68, t69] s11) fun t70 s14 =>
 bd (o.eql t70 (I .i64 0)) fun t71 =>
 jT t71 s14)
 (fun i12 v10 s11 => none)
 (fun r13 s11 => jT r13 s11)
def f267 (o : Ops) (kf : CallF) (N : Nat) (a0 a1 : T) (s : St) : Option (T × St) :=
 bd2 (o.new s (nBox a1)) fun t3 s1 =>
 bd (o.fa 0 t3) fun t7 =>
 bd (o.ld t7 s1) fun t8 =>
 f267_1 o kf N t8 a0 s1 t3
theorem f267_ok : Ok Tryz.prog 267 (fun c => L2 (f267 fast c 8192)) := ok2 (fun o c => f267 o c 8192) Tryz.func267 (by kernel_rfl) (fun c a0 a1 s => by kernel_rfl)

/- (twin.site).copy -/
def f268_l1_1 (o : Ops) (kf : CallF) (N : Nat) (t69 t5 : T) (s13 : St) (v_0 v_1 v_2 v_3 : T) : Option (JO × St) :=
 o.br t69 (bd (o.fa 0 t5) fun t71 =>
 bd (o.ld t71 s13) fun t72 =>
 bd2 (kf 337 [t72] s13) fun t73 s14 =>
 bd2 (kf 106 [v_0, t73] s14) fun t74 s15 =>
 bd (aUn .not t74) fun t75 =>
 o.br t75 (jE 0 [] s15)
 (bd (o.fa 0 t5) fun t77 =>
 bd (o.ld t77 s15) fun t78 =>
 bd (o.nil v_0) fun t79 =>
 bd (o.fa 8 t79) fun t80 =>
 bd (o.fa 1 t80) fun t81 =>
 bd2 (o.st 1 t81 t78 s15) fun u16 s17 =>
 nm [v_0, v_1, v_2, v_3] s17))
 (bd (o.nil v_0) fun t84 =>
 bd (o.fa 13 t84) fun t85 =>
 bd (o.ldn 2 t85 s13) fun t86 =>
 bd (o.fa 1 t5) fun t87 =>
 bd (o.ldn 2 t87 s13) fun t88 =>
 bd2 (kf 104 [t86, t88] s13) fun t89 s18 =>
 bd (o.ex t89 0) fun t90 =>
 bd (o.ex t89 1) fun t91 =>
 bd2 (o.new s18 (nCells [.int .i64 0, .nils])) fun t6 s19 =>
 bd2 (o.st 2 t6 t90 s19) fun u20 s21 =>
 bd (o.neq t91 (I .i64 0)) fun t93 =>
 bd (gF t93 (some v_0)) fun t95 =>
 bd (gF t93 (o.ldn 3 t5 s21)) fun t96 =>
 bd2 (gS (gd t93 false) s21 (kf 107 [t96] s21)) fun t97 s22 =>
 bd2 (gS (gd t93 false) s22 (kf 106 [t95, t97] s22)) fun t98 s23 =>
 bd (gF t93 (aUn .not t98)) fun t99 =>
 bd (pT t93 t99) fun t100 =>
 o.br t100 (jE 0 [] s23)
 (bd (o.ldn 2 t6 s23) fun t104 =>
 bd (o.nil v_0) fun t106 =>
 bd (o.fa 8 t106) fun t107 =>
 bd (o.fa 4 t107) fun t108 =>
 bd (o.ld t108 s23) fun t109 =>
 bd (o.ldn 3 t5 s23) fun t110 =>
 bd2 (o.new s23 (nSlice 1 (aFill [.int .i64 0, .int .i64 0, .int .i64 0] [(0, 3, t110)]))) fun t111 s24 =>
 bd2 (aAppend 3 24 t109 t111 s24) fun t112 s25 =>
 bd (o.fa 0 t5) fun t113 =>
 bd (o.ld t113 s25) fun t114 =>
 bd (o.nil v_0) fun t115 =>
 bd (o.fa 13 t115) fun t116 =>
 bd2 (o.st 2 t116 t104 s25) fun u26 s27 =>
 bd (o.nil v_0) fun t117 =>
 bd (o.fa 8 t117) fun t118 =>
 bd (o.fa 4 t118) fun t119 =>
 bd2 (o.st 1 t119 t112 s27) fun u28 s29 =>
 bd (o.nil v_0) fun t120 =>
 bd (o.fa 8 t120) fun t121 =>
 bd (o.fa 1 t121) fun t122 =>
 bd2 (o.st 1 t122 t114 s29) fun u30 s31 =>
 ck ((decide (aLoadN 2 t6 (overlay 12 s25.get (ovO 10 s23.size (nSlice 1 (aFill [.int .i64 0, .int .i64 0, .int .i64 0] [(0, 3, t110)])) [])) = o.ldn 2 t6 s23) && true) && ((decide (aLoad1 t113 (overlay 0 s23.get (ovO 10 s23.size (nSlice 1 (aFill [.int .i64 0, .int .i64 0, .int .i64 0] [(0, 3, t110)])) [])) = o.ld t113 s25) && (decide (aLoad1 t113 (overlay 17 s27.get (ovO 10 s23.size (nSlice 1 (aFill [.int .i64 0, .int .i64 0, .int .i64 0] [(0, 3, t110)])) [])) = o.ld t113 s25) && (decide (aLoad1 t113 (overlay 21 s29.get (ovO 10 s23.size (nSlice 1 (aFill [.int .i64 0, .int .i64 0, .int .i64 0] [(0, 3, t110)])) [])) = o.ld t113 s25) && true))) && true)) (nm [v_0, v_1, v_2, v_3] s31)))
def f268_l1 (o : Ops) (kf : CallF) (N : Nat) (v : List T) (s : St) : Option (JO × St) :=
 o.vk v 0 fun v_0 =>
 o.vk v 1 fun v_1 =>
 o.vk v 2 fun v_2 =>
 o.vk v 3 fun v_3 =>
 bd (o.lss v_3 v_2) fun t41 =>
 o.br t41 (jn (bd (o.ix 3 v_1 v_3) fun t42 =>
 bd (o.ldn 3 t42 s) fun t43 =>
 bd2 (o.new s (nCells [.int .i64 0, .int .i64 0, .int .i64 0])) fun t5 s11 =>
 bd2 (o.st 3 t5 t43 s11) fun u12 s13 =>
 bd (o.fa 0 t5) fun t44 =>
 bd (o.ld t44 s13) fun t45 =>
 bd (o.nil v_0) fun t47 =>
 bd (o.fa 8 t47) fun t48 =>
 bd (o.fa 1 t48) fun t49 =>
 bd (o.ld t49 s13) fun t50 =>
 bd (o.leq t45 t50) fun t51 =>
 o.br t51 (nm [v_0, v_1, v_2, v_3] s13)
 (bd (o.fa 0 t5) fun t52 =>
 bd (o.ld t52 s13) fun t53 =>
 bd (o.nil v_0) fun t55 =>
 bd (o.fa 8 t55) fun t56 =>
 bd (o.fa 1 t56) fun t57 =>
 bd (o.ld t57 s13) fun t58 =>
 bd (o.add t58 (I .i64 1)) fun t59 =>
 bd (o.neq t53 t59) fun t60 =>
 o.br t60 (jE 0 [] s13)
 (bd (o.fa 1 t5) fun t61 =>
 bd (o.fa 0 t61) fun t62 =>
 bd (o.ld t62 s13) fun t63 =>
 bd (o.nil v_0) fun t65 =>
 bd (o.fa 13 t65) fun t66 =>
 bd (o.fa 0 t66) fun t67 =>
 bd (o.ld t67 s13) fun t68 =>
 bd (o.lss t63 t68) fun t69 =>
 f268_l1_1 o kf N t69 t5 s13 v_0 v_1 v_2 v_3)))
 (fun v32 s33 => o.vk v32 0 fun v32_0 =>
 o.vk v32 1 fun v32_1 =>
 o.vk v32 2 fun v32_2 =>
 o.vk v32 3 fun v32_3 =>
 bd (o.add v32_3 (I .i64 1)) fun t123 =>
 nm [v32_0, v32_1, v32_2, t123] s33)
 (fun i34 v32 s33 => jE i34 v32 s33)
 (fun r35 s33 => jR r35 s33))
 (jE 0 [] s)
def f268 (o : Ops) (kf : CallF) (N : Nat) (a0 a1 : T) (s : St) : Option (T × St) :=
 bd2 (o.new s (nBox a1)) fun t3 s1 =>
 bd (o.fa 2 t3) fun t8 =>
 bd (o.ld t8 s1) fun t9 =>
 bd (o.nil a0) fun t11 =>
 bd (o.fa 8 t11) fun t12 =>
 bd (o.fa 1 t12) fun t13 =>
 bd (o.ld t13 s1) fun t14 =>
 bd (o.gtr t9 t14) fun t15 =>
 bd (gU t15 (some a0)) fun t17 =>
 bd (gU t15 (o.nil t17)) fun t18 =>
 bd (gU t15 (o.fa 27 t18)) fun t19 =>
 bd (gU t15 (o.ld t19 s1)) fun t20 =>
 bd (gU t15 (o.fa 3 t3)) fun t21 =>
 bd (gU t15 (o.ld t21 s1)) fun t22 =>
 bd (gU t15 (o.geq t20 t22)) fun t23 =>
 bd (pF t15 t23) fun t24 =>
 jn (o.br t24 (bd (o.fa 2 t3) fun t26 =>
 bd (o.ld t26 s1) fun t27 =>
 bd2 (kf 337 [t27] s1) fun t28 s2 =>
 bd2 (kf 106 [a0, t28] s2) fun t29 s3 =>
 bd (aUn .not t29) fun t30 =>
 o.br t30 (bd (retT []) fun r4 =>
 jR r4 s3)
 (bd (o.fa 2 t3) fun t32 =>
 bd (o.ld t32 s3) fun t33 =>
 bd (o.nil a0) fun t34 =>
 bd (o.fa 8 t34) fun t35 =>
 bd (o.fa 1 t35) fun t36 =>
 bd2 (o.st 1 t36 t33 s3) fun u5 s6 =>
 nm [a0, t3] s6))
 (nm [a0, t3] s1))
 (fun v7 s8 => o.vk v7 0 fun v7_0 =>
 o.vk v7 1 fun v7_1 =>
 bd (o.fa 7 v7_1) fun t37 =>
 bd (o.ld t37 s8) fun t38 =>
 bd (o.ln t38) fun t39 =>
 jn (jn (o.loops (f268_l1 o kf N) N [v7_0, t38, t39, (I .i64 0)] s8)
 (fun v36 s37 => nm [] s37)
 (fun i38 v36 s37 => if i38 = 0 then nm v36 s37 else jE i38 v36 s37)
 (fun r39 s37 => jR r39 s37))
 (fun v40 s41 => bd (retT []) fun r44 =>
 jT r44 s41)
 (fun i42 v40 s41 => none)
 (fun r43 s41 => jT r43 s41))
 (fun i9 v7 s8 => none)
 (fun r10 s8 => jT r10 s8)
theorem f268_ok : Ok Tryz.prog 268 (fun c => L2 (f268 fast c 8192)) := ok2 (fun o c => f268 o c 8192) Tryz.func268 (by kernel_rfl) (fun c a0 a1 s => by kernel_rfl)

/- (twin.site).had0 -/
def f269 (o : Ops) (kf : CallF) (N : Nat) (a0 : T) (s : St) : Option (T × St) :=
 bd (o.nil a0) fun t4 =>
 bd (o.fa 8 t4) fun t5 =>
 bd (o.fa 0 t5) fun t6 =>
 bd (o.ld t6 s) fun t7 =>
 bd (o.nil a0) fun t9 =>
 bd (o.fa 5 t9) fun t10 =>
 bd (o.ld t10 s) fun t11 =>
 bd (o.neq t7 t11) fun t12 =>
 o.br t12 (jT (I .i64 0) s)
 (bd (o.nil a0) fun t14 =>
 bd (o.fa 8 t14) fun t15 =>
 bd (o.fa 1 t15) fun t16 =>
 bd (o.ld t16 s) fun t17 =>
 jT t17 s)
theorem f269_ok : Ok Tryz.prog 269 (fun c => L1 (f269 fast c 8192)) := ok1 (fun o c => f269 o c 8192) Tryz.func269 (by kernel_rfl) (fun c a0 s => by kernel_rfl)

/- slices.rotateRight[api.Sample] -/
def f273 (o : Ops) (kf : CallF) (N : Nat) (a0 a1 : T) (s : St) : Option (T × St) :=
 bd (o.ln a0) fun t6 =>
 bd (o.sub t6 a1) fun t8 =>
 bd2 (kf 341 [a0, t8] s) fun t9 s1 =>
 bd (retT []) fun r2 =>
 jT r2 s1
theorem f273_ok : Ok Tryz.prog 273 (fun c => L2 (f273 fast c 8192)) := ok2 (fun o c => f273 o c 8192) Tryz.func273 (by kernel_rfl) (fun c a0 a1 s => by kernel_rfl)

/- slices.Concat[[]byte,byte] -/
def f274_l1 (o : Ops) (kf : CallF) (N : Nat) (v : List T) (s : St) : Option (JO × St) :=
 o.vk v 0 fun v_0 =>
 o.vk v 1 fun v_1 =>
 o.vk v 2 fun v_2 =>
 o.vk v 3 fun v_3 =>
 o.vk v 4 fun v_4 =>
 bd (o.lss v_4 v_3) fun t12 =>
 o.br t12 (jn (bd (o.ix 1 v_2 v_4) fun t13 =>
 bd (o.ld t13 s) fun t14 =>
 bd (o.ln t14) fun t17 =>
 bd (o.add v_1 t17) fun t18 =>
 bd (o.lss t18 (I .i64 0)) fun t20 =>
 jn (o.br t20 (bd ((none : Option T)) fun t21 =>
 bd ((none : Option T)) fun u1 =>
 nm [v_0, t18, v_2, v_3, v_4] s)
 (nm [v_0, t18, v_2, v_3, v_4] s))
 (fun v2 s3 => o.vk v2 0 fun v2_0 =>
 o.vk v2 1 fun v2_1 =>
 o.vk v2 2 fun v2_2 =>
 o.vk v2 3 fun v2_3 =>
 o.vk v2 4 fun v2_4 =>
 nm [v2_0, v2_1, v2_2, v2_3, v2_4] s3)
 (fun i4 v2 s3 => if i4 = 1 then nm v2 s3 else jE i4 v2 s3)
 (fun r5 s3 => jR r5 s3))
 (fun v6 s7 => o.vk v6 0 fun v6_0 =>
 o.vk v6 1 fun v6_1 =>
 o.vk v6 2 fun v6_2 =>
 o.vk v6 3 fun v6_3 =>
 o.vk v6 4 fun v6_4 =>
 bd (o.add v6_4 (I .i64 1)) fun t22 =>
 nm [v6_0, v6_1, v6_2, v6_3, t22] s7)
 (fun i8 v6 s7 => jE i8 v6 s7)
 (fun r9 s7 => jR r9 s7))
 (jE 0 [v_0, v_1] s)
def f274_l2 (o : Ops) (kf : CallF) (N : Nat) (v : List T) (s : St) : Option (JO × St) :=
 o.vk v 0 fun v_0 =>
 o.vk v 1 fun v_1 =>
 o.vk v 2 fun v_2 =>
 o.vk v 3 fun v_3 =>
 bd (o.lss v_3 v_2) fun t28 =>
 o.br t28 (jn (bd (o.ix 1 v_1 v_3) fun t29 =>
 bd (o.ld t29 s) fun t30 =>
 bd2 (aAppend 1 1 v_0 t30 s) fun t33 s19 =>
 nm [t33, v_1, v_2, v_3] s19)
 (fun v20 s21 => o.vk v20 0 fun v20_0 =>
 o.vk v20 1 fun v20_1 =>
 o.vk v20 2 fun v20_2 =>
 o.vk v20 3 fun v20_3 =>
 bd (o.add v20_3 (I .i64 1)) fun t34 =>
 nm [v20_0, v20_1, v20_2, t34] s21)
 (fun i22 v20 s21 => jE i22 v20 s21)
 (fun r23 s21 => jR r23 s21))
 (jE 2 [v_0] s)
def f274 (o : Ops) (kf : CallF) (N : Nat) (a0 : T) (s : St) : Option (T × St) :=
 bd (o.ln a0) fun t10 =>
 jn (jn (o.loops (f274_l1 o kf N) N [a0, (I .i64 0), a0, t10, (I .i64 0)] s)
 (fun v10 s11 => nm [.any, .any] s11)
 (fun i12 v10 s11 => if i12 = 0 then nm v10 s11 else jE i12 v10 s11)
 (fun r13 s11 => jR r13 s11))
 (fun v14 s15 => o.vk v14 0 fun v14_0 =>
 o.vk v14 1 fun v14_1 =>
 bd2 (kf 342 [(Z .nils), v14_1] s15) fun t24 s18 =>
 bd (o.ln v14_0) fun t26 =>
 jn (jn (o.loops (f274_l2 o kf N) N [t24, v14_0, t26, (I .i64 0)] s18)
 (fun v24 s25 => nm [.any] s25)
 (fun i26 v24 s25 => if i26 = 2 then nm v24 s25 else jE i26 v24 s25)
 (fun r27 s25 => jR r27 s25))
 (fun v28 s29 => o.vk v28 0 fun v28_0 =>
 jT v28_0 s29)
 (fun i30 v28 s29 => none)
 (fun r31 s29 => jT r31 s29))
 (fun i16 v14 s15 => none)
 (fun r17 s15 => jT r17 s15)
theorem f274_ok : Ok Tryz.prog 274 (fun c => L1 (f274 fast c 8192)) := ok1 (fun o c => f274 o c 8192) Tryz.func274 (by kernel_rfl) (fun c a0 s => by kernel_rfl)

/- log.low -/
def f275 (o : Ops) (kf : CallF) (N : Nat) (a0 : T) (s : St) : Option (T × St) :=
 bd (o.cv .u8 a0) fun t4 =>
 bd (o.bin .shr a0 (I .u64 8)) fun t6 =>
 bd (o.cv .u8 t6) fun t7 =>
 bd (o.bin .shr a0 (I .u64 16)) fun t9 =>
 bd (o.cv .u8 t9) fun t10 =>
 bd (o.bin .shr a0 (I .u64 24)) fun t12 =>
 bd (o.cv .u8 t12) fun t13 =>
 bd2 (o.new s (nSlice 4 (aFill [.int .u8 0, .int .u8 0, .int .u8 0, .int .u8 0] [(0, 1, t4), (1, 1, t7), (2, 1, t10), (3, 1, t13)]))) fun t14 s1 =>
 jT t14 s1
theorem f275_ok : Ok Tryz.prog 275 (fun c => L1 (f275 fast c 8192)) := ok1 (fun o c => f275 o c 8192) Tryz.func275 (by kernel_rfl) (fun c a0 s => by kernel_rfl)

/- sum.More -/
def f276_l1 (o : Ops) (kf : CallF) (N : Nat) (v : List T) (s : St) : Option (JO × St) :=
 o.vk v 0 fun v_0 =>
 o.vk v 1 fun v_1 =>
 o.vk v 2 fun v_2 =>
 o.vk v 3 fun v_3 =>
 bd (o.lss v_3 v_2) fun t14 =>
 o.br t14 (jn (bd (o.ix 1 v_1 v_3) fun t15 =>
 bd (o.ld t15 s) fun t16 =>
 bd (o.bin .mul v_0 (I .u64 257)) fun t18 =>
 bd (o.cv .u64 t16) fun t20 =>
 bd (o.add t18 t20) fun t21 =>
 bd (o.add t21 (I .u64 1)) fun t22 =>
 bd (o.bin .rem t22 (I .u64 4294967291)) fun t23 =>
 nm [t23, v_1, v_2, v_3] s)
 (fun v1 s2 => o.vk v1 0 fun v1_0 =>
 o.vk v1 1 fun v1_1 =>
 o.vk v1 2 fun v1_2 =>
 o.vk v1 3 fun v1_3 =>
 bd (o.add v1_3 (I .i64 1)) fun t24 =>
 nm [v1_0, v1_1, v1_2, t24] s2)
 (fun i3 v1 s2 => jE i3 v1 s2)
 (fun r4 s2 => jR r4 s2))
 (jE 0 [v_0] s)
def f276 (o : Ops) (kf : CallF) (N : Nat) (a0 a1 : T) (s : St) : Option (T × St) :=
 bd (o.cv .u64 a0) fun t9 =>
 bd (o.bin .rem t9 (I .u64 4294967291)) fun t10 =>
 bd (o.ln a1) fun t12 =>
 jn (jn (o.loops (f276_l1 o kf N) N [t10, a1, t12, (I .i64 0)] s)
 (fun v5 s6 => nm [.any] s6)
 (fun i7 v5 s6 => if i7 = 0 then nm v5 s6 else jE i7 v5 s6)
 (fun r8 s6 => jR r8 s6))
 (fun v9 s10 => o.vk v9 0 fun v9_0 =>
 bd (o.cv .u32 v9_0) fun t26 =>
 jT t26 s10)
 (fun i11 v9 s10 => none)
 (fun r12 s10 => jT r12 s10)
theorem f276_ok : Ok Tryz.prog 276 (fun c => L2 (f276 fast c 8192)) := ok2 (fun o c => f276 o c 8192) Tryz.func276 (by kernel_rfl) (fun c a0 a1 s => by kernel_rfl)

end
end Go.Proofs.YtcihabdmigpklaaGreatDoor
