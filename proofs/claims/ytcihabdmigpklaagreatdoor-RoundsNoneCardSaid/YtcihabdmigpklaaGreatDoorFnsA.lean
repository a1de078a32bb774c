/-
  Several texts in one: what functions that the law reaches compute. No conditions but those named in each line.
-/
import Derived.Test.YtcihabdmigpklaaGreatDoorAbsD
import Derived.Test.YtcihabdmigpklaaGreatDoorRows
set_option linter.unusedSimpArgs false
set_option linter.unusedVariables false
/-
  What a closed run asks ahead of the texts. No conditions.
-/
namespace Go.Proofs.YtcihabdmigpklaaGreatDoor
open Go Go.Abs Go.Abs.F
set_option linter.unusedVariables false
noncomputable section
/-- A map's keys, if all are short texts. -/
def nkeysOf : List (S × V) → Option (List (List UInt8))
  | [] => some []
  | (.str n, _) :: r => match nkeysOf r with
    | some l => match Nat.ble n.length 1000 && !l.contains n with
      | true => some (n :: l)
      | false => none
    | none => none
  | _ :: _ => none

/-- Go's order of texts. -/
def lexLe : List UInt8 → List UInt8 → Bool
  | [], _ => true
  | _ :: _, [] => false
  | a :: r, b :: t => match Nat.blt a.toNat b.toNat with
    | true => true
    | false => match Nat.beq a.toNat b.toNat with
      | true => lexLe r t
      | false => false

def nput (n : List UInt8) : List (List UInt8) → List (List UInt8)
  | [] => [n]
  | m :: r => match lexLe n m with
    | true => n :: m :: r
    | false => m :: nput n r

def nsorted : List (List UInt8) → List (List UInt8)
  | [] => []
  | n :: r => nput n (nsorted r)

/-- What Names gives. -/
def namesP : CallF := fun f ts σ => match Nat.beq f 189 with
  | false => none
  | true => match ts with
    | [.v (.s (.ptr i o))] => match σ.get i with
      | some (.cells _ vs) => match vs[o + 1]? with
        | some (.map m) => match σ.get m with
          | some (.map es) => match Nat.ble es.length 1000, nkeysOf es with
            | true, some [] => some (Z .nils, σ)
            | true, some (k :: l) => some (Z (.sl σ.size 0 (l.length + 1) (.grown 1)), σ.push (.cells false ((nsorted (k :: l)).map S.str)))
            | _, _ => none
          | _ => none
        | _ => none
      | _ => none
    | _ => none

end
end Go.Proofs.YtcihabdmigpklaaGreatDoor

/-
  What functions that the law reaches compute, printed by a program of our own in small pieces that the kernel runs fast. No conditions.
-/
namespace Go.Proofs.YtcihabdmigpklaaGreatDoor
open Go Go.Abs Go.Abs.F
set_option linter.unusedVariables false
set_option maxRecDepth 100000
noncomputable section
/- twinkeeplaw26.RoundsNone -/
def f3_1 (o : Ops) (kf : CallF) (N : Nat) (t47 t12 : T) (s5 : St) (a1 : T) : Option (T × St) :=
 bd (gF t47 (some t12)) fun t49 =>
 bd (gF t47 (o.nil t49)) fun t50 =>
 bd (gF t47 (o.fa 0 t50)) fun t51 =>
 bd (gF t47 (o.ld t51 s5)) fun t52 =>
 bd2 (gS (gd t47 false) s5 (kf 14 [t52] s5)) fun t53 s6 =>
 bd (gF t47 (o.neq t53 (I .i64 0))) fun t54 =>
 bd (pT t47 t54) fun t55 =>
 o.br t55 (jT (B false) s6)
 (bd (o.cv .u64 a1) fun t57 =>
 bd (o.bin .rem t57 (I .u64 2)) fun t58 =>
 bd (o.cv .i64 t58) fun t59 =>
 bd (o.nil t12) fun t62 =>
 bd (o.fa 0 t62) fun t63 =>
 bd (o.ld t63 s6) fun t64 =>
 bd (asAggT (aFill [.int .i64 0, .int .i64 0, .int .i64 0, .int .i64 0, .int .i64 0, .int .i64 0, .int .i64 0, .nils, .str []] [(0, 1, (I .i64 8)), (1, 1, t59)])) fun t66 =>
 bd2 (kf 15 [t64, t66] s6) fun t67 s7 =>
 bd (o.ex t67 0) fun t68 =>
 bd (o.ex t67 1) fun t69 =>
 bd (aUn .not t69) fun t71 =>
 o.br t71 (jT (B false) s7)
 (bd (o.nil t12) fun t73 =>
 bd (o.fa 0 t73) fun t74 =>
 bd (o.ld t74 s7) fun t75 =>
 bd (asAggT (aFill [.int .i64 0, .int .i64 0] [(0, 1, (I .i64 1)), (1, 1, (I .i64 4))])) fun t76 =>
 bd2 (kf 11 [t75, t76] s7) fun t77 s8 =>
 bd (o.nil t12) fun t79 =>
 bd (o.fa 0 t79) fun t80 =>
 bd (o.ld t80 s8) fun t81 =>
 bd2 (kf 13 [t81] s8) fun t82 s9 =>
 bd (o.nil t12) fun t84 =>
 bd (o.fa 0 t84) fun t85 =>
 bd (o.ld t85 s9) fun t86 =>
 bd (asAggT (aFill [.int .i64 0, .int .i64 0] [(0, 1, (I .i64 2)), (1, 1, (I .i64 4))])) fun t87 =>
 bd2 (kf 11 [t86, t87] s9) fun t88 s10 =>
 bd2 (kf 16 [] s10) fun t89 s11 =>
 bd (gU t89 (some t77)) fun t91 =>
 bd (gU t89 (o.eql t91 (I .i64 11))) fun t92 =>
 bd (gU t89 (some t59)) fun t93 =>
 bd (gU t89 (o.eql t93 (I .i64 0))) fun t94 =>
 bd (gU t89 (eqB .b t92 t94)) fun t95 =>
 bd (pF t89 t95) fun t96 =>
 bd (gU t96 (some t77)) fun t98 =>
 bd (gU t96 (o.eql t98 (I .i64 0))) fun t99 =>
 bd (gU t96 (some t99)) fun t100 =>
 bd (gF t100 (some t59)) fun t101 =>
 bd (gF t100 (o.eql t101 (I .i64 0))) fun t102 =>
 bd (gU t96 (pT t100 t102)) fun t103 =>
 bd (pF t96 t103) fun t104 =>
 bd (gU t104 (some t82)) fun t106 =>
 bd (gU t104 (o.geq t106 (I .i64 0))) fun t107 =>
 bd (pF t104 t107) fun t108 =>
 bd (gU t108 (some t88)) fun t110 =>
 bd (gU t108 (o.eql t110 (I .i64 0))) fun t111 =>
 bd (pF t108 t111) fun t112 =>
 jT t112 s11))
def f3 (o : Ops) (kf : CallF) (N : Nat) (a0 a1 : T) (s : St) : Option (T × St) :=
 bd2 (kf 9 [(I .i64 1000000)] s) fun t12 s1 =>
 bd (eqB .p t12 (Z .nilp)) fun t14 =>
 bd (gF t14 (some t12)) fun t16 =>
 bd (gF t14 (o.nil t16)) fun t17 =>
 bd (gF t14 (o.fa 0 t17)) fun t18 =>
 bd (gF t14 (o.ld t18 s1)) fun t19 =>
 bd2 (gS (gd t14 false) s1 (kf 10 [t19] s1)) fun t20 s2 =>
 bd (gF t14 (o.ln t20)) fun t21 =>
 bd (gF t14 (o.neq t21 (I .i64 0))) fun t22 =>
 bd (pT t14 t22) fun t23 =>
 bd (gF t23 (some t12)) fun t25 =>
 bd (gF t23 (o.nil t25)) fun t26 =>
 bd (gF t23 (o.fa 0 t26)) fun t27 =>
 bd (gF t23 (o.ld t27 s2)) fun t28 =>
 bd (gF t23 (asAggT (aFill [.int .i64 0, .int .i64 0] [(0, 1, (I .i64 1))]))) fun t29 =>
 bd2 (gS (gd t23 false) s2 (kf 11 [t28, t29] s2)) fun t30 s3 =>
 bd (gF t23 (o.neq t30 (I .i64 12))) fun t31 =>
 bd (pT t23 t31) fun t32 =>
 o.br t32 (jT (B false) s3)
 (bd (o.nil t12) fun t34 =>
 bd (o.fa 0 t34) fun t35 =>
 bd (o.ld t35 s3) fun t36 =>
 bd (o.cv .u64 a0) fun t38 =>
 bd (o.bin .rem t38 (I .u64 21)) fun t39 =>
 bd (o.cv .i64 t39) fun t40 =>
 bd2 (kf 12 [t36, t40] s3) fun t41 s4 =>
 bd (o.nil t12) fun t43 =>
 bd (o.fa 0 t43) fun t44 =>
 bd (o.ld t44 s4) fun t45 =>
 bd2 (kf 13 [t45] s4) fun t46 s5 =>
 bd (o.lss t46 (I .i64 0)) fun t47 =>
 f3_1 o kf N t47 t12 s5 a1)
theorem f3_ok : Ok Tryz.prog 3 (fun c => L2 (f3 fast c 8192)) := ok2 (fun o c => f3 o c 8192) Tryz.func3 (by kernel_rfl) (fun c a0 a1 s => by kernel_rfl)

/- twinkeeplaw25.New -/
def f9 (o : Ops) (kf : CallF) (N : Nat) (a0 : T) (s : St) : Option (T × St) :=
 bd2 (kf 38 [a0] s) fun t5 s1 =>
 bd (eqB .p t5 (Z .nilp)) fun t7 =>
 o.br t7 (jT (Z .nilp) s1)
 (bd (asAggT (aFill [.nilp, .nils, .nils, .nils, .nils, .int .i64 0, .int .i64 0, .nils, .nils, .bool false, .nils, .nils] [(0, 1, t5), (9, 1, (B true))])) fun t9 =>
 bd2 (o.new s1 (nBox t9)) fun t10 s2 =>
 jT t10 s2)
theorem f9_ok : Ok Tryz.prog 9 (fun c => L1 (f9 fast c 8192)) := ok1 (fun o c => f9 o c 8192) Tryz.func9 (by kernel_rfl) (fun c a0 s => by kernel_rfl)

/- (twin.Twin).Grants -/
def f10 (o : Ops) (kf : CallF) (N : Nat) (a0 : T) (s : St) : Option (T × St) :=
 jn (bd (eqB .p a0 (Z .nilp)) fun t9 =>
 o.br t9 (jR (Z .nils) s)
 (bd (o.nil a0) fun t12 =>
 bd (o.fa 3 t12) fun t13 =>
 bd (o.ld t13 s) fun t14 =>
 bd (neB .p t14 (Z .nilp)) fun t15 =>
 o.br t15 (bd (o.nil a0) fun t17 =>
 bd (o.fa 3 t17) fun t18 =>
 bd (o.ld t18 s) fun t19 =>
 bd2 (kf 39 [t19] s) fun t20 s1 =>
 jR t20 s1)
 (nm [a0] s)))
 (fun v2 s3 => o.vk v2 0 fun v2_0 =>
 bd (o.nil v2_0) fun t23 =>
 bd (o.fa 4 t23) fun t24 =>
 bd (o.ld t24 s3) fun t25 =>
 bd2 (kf 40 [t25, (Z (.str [118, 105, 101, 119, 115]))] s3) fun t26 s6 =>
 bd (o.ex t26 0) fun t27 =>
 bd (o.ex t26 1) fun t28 =>
 bd2 (kf 41 [t27] s6) fun t31 s7 =>
 bd (o.ex t31 0) fun t32 =>
 bd (o.ex t31 1) fun t33 =>
 jT t32 s7)
 (fun i4 v2 s3 => none)
 (fun r5 s3 => jT r5 s3)
theorem f10_ok : Ok Tryz.prog 10 (fun c => L1 (f10 fast c 8192)) := ok1 (fun o c => f10 o c 8192) Tryz.func10 (by kernel_rfl) (fun c a0 s => by kernel_rfl)

/- rounds.Write -/
def f11 (o : Ops) (kf : CallF) (N : Nat) (a0 a1 : T) (s : St) : Option (T × St) :=
 bd2 (o.new s (nBox a1)) fun t3 s1 =>
 bd (eqB .p a0 (Z .nilp)) fun t8 =>
 o.br t8 (jT (I .i64 10) s1)
 (bd2 (kf 14 [a0] s1) fun t10 s2 =>
 bd (o.lss t10 (I .i64 0)) fun t11 =>
 o.br t11 (jT (I .i64 12) s2)
 (bd2 (kf 14 [a0] s2) fun t15 s3 =>
 bd (o.ldn 2 t3 s3) fun t16 =>
 bd (asAggT (aFill [.int .i64 0, .int .i64 0, .int .i64 0, .int .i64 0, .int .i64 0, .int .i64 0, .int .i64 0, .nils, .str []] [(0, 1, (I .i64 1)), (1, 1, t15), (3, 2, t16)])) fun t17 =>
 bd2 (kf 15 [a0, t17] s3) fun t18 s4 =>
 bd (o.ex t18 0) fun t19 =>
 bd (o.ex t18 1) fun t20 =>
 ck ((decide (o.ldn 2 t3 s2 = o.ldn 2 t3 s3) && true) && true) (jT t19 s4)))
theorem f11_ok : Ok Tryz.prog 11 (fun c => L2 (f11 fast c 8192)) := ok2 (fun o c => f11 o c 8192) Tryz.func11 (by kernel_rfl) (fun c a0 a1 s => by kernel_rfl)

/- rounds.Many -/
def f12_l1 (o : Ops) (kf : CallF) (N : Nat) (v : List T) (s : St) : Option (JO × St) :=
 o.vk v 0 fun v_0 =>
 o.vk v 1 fun v_1 =>
 o.vk v 2 fun v_2 =>
 o.vk v 3 fun v_3 =>
 bd (o.lss v_3 v_2) fun t12 =>
 o.br t12 (jn (bd2 (kf 19 [v_0] s) fun t14 s1 =>
 nm [v_0, v_1, v_2, v_3] s1)
 (fun v2 s3 => o.vk v2 0 fun v2_0 =>
 o.vk v2 1 fun v2_1 =>
 o.vk v2 2 fun v2_2 =>
 o.vk v2 3 fun v2_3 =>
 bd (o.add v2_3 (I .i64 1)) fun t15 =>
 nm [v2_0, v2_1, v2_2, t15] s3)
 (fun i4 v2 s3 => jE i4 v2 s3)
 (fun r5 s3 => jR r5 s3))
 (jE 0 [v_1] s)
def f12 (o : Ops) (kf : CallF) (N : Nat) (a0 a1 : T) (s : St) : Option (T × St) :=
 bd (eqB .p a0 (Z .nilp)) fun t6 =>
 o.br t6 (jT (I .i64 0) s)
 (bd (aFold aMax2 a1 [(I .i64 0)]) fun t8 =>
 bd (aFold aMin2 t8 [(I .i64 100000)]) fun t9 =>
 jn (jn (o.loops (f12_l1 o kf N) N [a0, t9, t9, (I .i64 0)] s)
 (fun v6 s7 => nm [.any] s7)
 (fun i8 v6 s7 => if i8 = 0 then nm v6 s7 else jE i8 v6 s7)
 (fun r9 s7 => jR r9 s7))
 (fun v10 s11 => o.vk v10 0 fun v10_0 =>
 jT v10_0 s11)
 (fun i12 v10 s11 => none)
 (fun r13 s11 => jT r13 s11))
theorem f12_ok : Ok Tryz.prog 12 (fun c => L2 (f12 fast c 8192)) := ok2 (fun o c => f12 o c 8192) Tryz.func12 (by kernel_rfl) (fun c a0 a1 s => by kernel_rfl)

/- rounds.Settle -/
def f13_l1 (o : Ops) (kf : CallF) (N : Nat) (v : List T) (s : St) : Option (JO × St) :=
 o.vk v 0 fun v_0 =>
 o.vk v 1 fun v_1 =>
 o.vk v 2 fun v_2 =>
 bd2 (kf 42 [v_0] s) fun t17 s4 =>
 bd (aUn .not t17) fun t18 =>
 o.br t18 (jn (bd (o.eql v_1 v_2) fun t21 =>
 o.br t21 (jR (I .i64 (-1)) s4)
 (bd2 (kf 19 [v_0] s4) fun t23 s5 =>
 bd (o.add v_1 (I .i64 1)) fun t25 =>
 nm [v_0, t25, v_2] s5))
 (fun v6 s7 => o.vk v6 0 fun v6_0 =>
 o.vk v6 1 fun v6_1 =>
 o.vk v6 2 fun v6_2 =>
 nm [v6_0, v6_1, v6_2] s7)
 (fun i8 v6 s7 => jE i8 v6 s7)
 (fun r9 s7 => jR r9 s7))
 (jE 0 [v_1] s4)
def f13 (o : Ops) (kf : CallF) (N : Nat) (a0 : T) (s : St) : Option (T × St) :=
 bd (eqB .p a0 (Z .nilp)) fun t6 =>
 o.br t6 (jT (I .i64 (-1)) s)
 (bd2 (kf 34 [a0, (I .i64 0)] s) fun t8 s1 =>
 bd (o.ln t8) fun t9 =>
 bd2 (kf 34 [a0, (I .i64 1)] s1) fun t11 s2 =>
 bd (o.ln t11) fun t12 =>
 bd (o.add t9 t12) fun t13 =>
 bd (o.add t13 (I .i64 4)) fun t14 =>
 bd2 (kf 33 [t14] s2) fun t15 s3 =>
 jn (jn (o.loops (f13_l1 o kf N) N [a0, (I .i64 0), t15] s3)
 (fun v10 s11 => nm [.any] s11)
 (fun i12 v10 s11 => if i12 = 0 then nm v10 s11 else jE i12 v10 s11)
 (fun r13 s11 => jR r13 s11))
 (fun v14 s15 => o.vk v14 0 fun v14_0 =>
 jT v14_0 s15)
 (fun i16 v14 s15 => none)
 (fun r17 s15 => jT r17 s15))
theorem f13_ok : Ok Tryz.prog 13 (fun c => L1 (f13 fast c 8192)) := ok1 (fun o c => f13 o c 8192) Tryz.func13 (by kernel_rfl) (fun c a0 s => by kernel_rfl)

/- (twin.Twin).Primary -/
def f14 (o : Ops) (kf : CallF) (N : Nat) (a0 : T) (s : St) : Option (T × St) :=
 bd2 (kf 10 [a0] s) fun t5 s1 =>
 bd (o.ln t5) fun t7 =>
 bd (o.eql t7 (I .i64 0)) fun t8 =>
 o.br t8 (jT (I .i64 (-1)) s1)
 (bd (o.ln t5) fun t11 =>
 bd (o.sub t11 (I .i64 1)) fun t12 =>
 bd (o.ix 2 t5 t12) fun t13 =>
 bd (o.fa 1 t13) fun t14 =>
 bd (o.ld t14 s1) fun t15 =>
 jT t15 s1)
theorem f14_ok : Ok Tryz.prog 14 (fun c => L1 (f14 fast c 8192)) := ok1 (fun o c => f14 o c 8192) Tryz.func14 (by kernel_rfl) (fun c a0 s => by kernel_rfl)

/- (twin.Twin).Step -/
def f15_1 (o : Ops) (kf : CallF) (N : Nat) (t17 t3 : T) (s1 : St) (a0 t15 : T) : Option (JO × St) :=
 o.br t17 (bd (o.fa 2 t3) fun t18 =>
 bd (o.ld t18 s1) fun t19 =>
 bd (o.lss t19 (I .i64 1)) fun t20 =>
 bd (gF t20 (o.fa 2 t3)) fun t22 =>
 bd (gF t20 (o.ld t22 s1)) fun t23 =>
 bd (gF t20 (o.gtr t23 (I .i64 100000))) fun t24 =>
 bd (pT t20 t24) fun t25 =>
 o.br t25 (bd (retT [(I .i64 0), (B false)]) fun r3 =>
 jR r3 s1)
 (bd (o.nil a0) fun t27 =>
 bd (o.fa 0 t27) fun t28 =>
 bd (o.ld t28 s1) fun t29 =>
 bd (o.fa 2 t3) fun t30 =>
 bd (o.ld t30 s1) fun t31 =>
 bd (o.add t29 t31) fun t32 =>
 bd (o.nil a0) fun t33 =>
 bd (o.fa 0 t33) fun t34 =>
 bd2 (o.st 1 t34 t32 s1) fun u4 s5 =>
 bd (retT [(I .i64 0), (B true)]) fun r6 =>
 jR r6 s5))
 (bd (o.eql t15 (I .i64 4)) fun t36 =>
 o.br t36 (bd (o.fa 2 t3) fun t38 =>
 bd (o.ld t38 s1) fun t39 =>
 bd2 (kf 43 [a0, t39] s1) fun t40 s7 =>
 bd (retT [(I .i64 0), t40]) fun r8 =>
 jR r8 s7)
 (bd (o.eql t15 (I .i64 5)) fun t42 =>
 o.br t42 (bd (o.nil a0) fun t45 =>
 bd (o.fa 5 t45) fun t46 =>
 bd (o.ld t46 s1) fun t47 =>
 bd (o.fa 2 t3) fun t48 =>
 bd (o.ld t48 s1) fun t49 =>
 bd2 (kf 44 [t47, t49] s1) fun t50 s9 =>
 bd (o.ex t50 0) fun t51 =>
 bd (o.ex t50 1) fun t52 =>
 bd (o.ex t50 2) fun t53 =>
 jn (o.br t53 (bd2 (kf 45 [a0, t51, t52] s9) fun t58 s10 =>
 nm [t53] s10)
 (nm [t53] s9))
 (fun v11 s12 => o.vk v11 0 fun v11_0 =>
 bd (retT [(I .i64 0), v11_0]) fun r15 =>
 jR r15 s12)
 (fun i13 v11 s12 => if i13 = 0 then nm v11 s12 else jE i13 v11 s12)
 (fun r14 s12 => jR r14 s12))
 (bd (o.eql t15 (I .i64 6)) fun t61 =>
 o.br t61 (bd (o.nil a0) fun t63 =>
 bd (o.fa 5 t63) fun t64 =>
 bd (o.ld t64 s1) fun t65 =>
 bd (o.fa 2 t3) fun t66 =>
 bd (o.ld t66 s1) fun t67 =>
 bd2 (kf 46 [t65, t67] s1) fun t68 s16 =>
 bd (retT [(I .i64 0), t68]) fun r17 =>
 jR r17 s16)
 (bd (o.eql t15 (I .i64 7)) fun t70 =>
 o.br t70 (bd (o.nil a0) fun t73 =>
 bd (o.fa 5 t73) fun t74 =>
 bd (o.ld t74 s1) fun t75 =>
 bd (o.fa 2 t3) fun t76 =>
 bd (o.ld t76 s1) fun t77 =>
 bd2 (kf 47 [t75, t77] s1) fun t78 s18 =>
 bd (o.ex t78 0) fun t79 =>
 bd (o.ex t78 1) fun t80 =>
 bd (retT [(I .i64 0), t80]) fun r19 =>
 jR r19 s18)
 (bd (o.eql t15 (I .i64 8)) fun t83 =>
 o.br t83 (bd (o.fa 1 t3) fun t85 =>
 bd (o.ld t85 s1) fun t86 =>
 bd (o.fa 7 t3) fun t87 =>
 bd (o.ld t87 s1) fun t88 =>
 bd2 (kf 48 [a0, t86, t88] s1) fun t89 s20 =>
 bd (retT [(I .i64 0), t89]) fun r21 =>
 jR r21 s20)
 (bd (o.eql t15 (I .i64 9)) fun t91 =>
 o.br t91 (bd (o.fa 1 t3) fun t93 =>
 bd (o.ld t93 s1) fun t94 =>
 bd2 (kf 49 [a0, t94] s1) fun t95 s22 =>
 bd (retT [(I .i64 0), t95]) fun r23 =>
 jR r23 s22)
 (nm [a0, t3] s1)))))))
def f15 (o : Ops) (kf : CallF) (N : Nat) (a0 a1 : T) (s : St) : Option (T × St) :=
 bd2 (o.new s (nBox a1)) fun t3 s1 =>
 bd (eqB .p a0 (Z .nilp)) fun t13 =>
 o.br t13 (bd (retT [(I .i64 0), (B false)]) fun r2 =>
 jT r2 s1)
 (bd (o.fa 0 t3) fun t14 =>
 bd (o.ld t14 s1) fun t15 =>
 jn (bd (o.eql t15 (I .i64 3)) fun t17 =>
 f15_1 o kf N t17 t3 s1 a0 t15)
 (fun v24 s25 => o.vk v24 0 fun v24_0 =>
 o.vk v24 1 fun v24_1 =>
 bd (o.fa 1 v24_1) fun t97 =>
 bd (o.ld t97 s25) fun t98 =>
 bd2 (kf 50 [v24_0, t98] s25) fun t99 s28 =>
 bd (aUn .not t99) fun t100 =>
 o.br t100 (bd (retT [(I .i64 0), (B false)]) fun r29 =>
 jT r29 s28)
 (bd (o.fa 1 v24_1) fun t102 =>
 bd (o.ld t102 s28) fun t103 =>
 bd (o.nil v24_0) fun t104 =>
 bd (o.fa 1 t104) fun t105 =>
 bd (aIndexArr 2 1 t105 t103) fun t106 =>
 bd (o.ld t106 s28) fun t107 =>
 bd (o.fa 0 v24_1) fun t108 =>
 bd (o.ld t108 s28) fun t109 =>
 jn (bd (o.eql t109 (I .i64 1)) fun t111 =>
 o.br t111 (bd (o.fa 3 v24_1) fun t114 =>
 bd (o.ldn 2 t114 s28) fun t115 =>
 bd2 (kf 51 [v24_0, t107, t115] s28) fun t116 s30 =>
 bd (retT [t116, (B true)]) fun r31 =>
 jR r31 s30)
 (bd (o.eql t109 (I .i64 11)) fun t118 =>
 o.br t118 (bd (o.fa 8 v24_1) fun t121 =>
 bd (o.ld t121 s28) fun t122 =>
 bd2 (kf 52 [v24_0, t107, t122] s28) fun t123 s32 =>
 bd (retT [t123, (B true)]) fun r33 =>
 jR r33 s32)
 (bd (o.eql t109 (I .i64 10)) fun t125 =>
 o.br t125 (bd2 (kf 53 [v24_0, t107] s28) fun t128 s34 =>
 bd (retT [t128, (B true)]) fun r35 =>
 jR r35 s34)
 (nm [] s28))))
 (fun v36 s37 => bd (retT [(I .i64 0), (B false)]) fun r40 =>
 jT r40 s37)
 (fun i38 v36 s37 => none)
 (fun r39 s37 => jT r39 s37)))
 (fun i26 v24 s25 => none)
 (fun r27 s25 => jT r27 s25))
theorem f15_ok : Ok Tryz.prog 15 (fun c => L2 (f15 fast c 8192)) := ok2 (fun o c => f15 o c 8192) Tryz.func15 (by kernel_rfl) (fun c a0 a1 s => by kernel_rfl)

/- twinkeeplaw26.told -/
def f16_1 (o : Ops) (kf : CallF) (N : Nat) (t9 : T) (s1 : St) (t7 : T) : Option (T × St) :=
 o.br t9 (jT (B false) s1)
 (bd2 (kf 13 [t7] s1) fun t11 s2 =>
 bd (asAggT (aFill [.int .i64 0, .int .i64 0] [(0, 1, (I .i64 3)), (1, 1, (I .i64 9))])) fun t13 =>
 bd2 (kf 11 [t7, t13] s2) fun t14 s3 =>
 bd (asAggT (aFill [.int .i64 0, .int .i64 0] [(0, 1, (I .i64 3)), (1, 1, (I .i64 8))])) fun t16 =>
 bd2 (kf 11 [t7, t16] s3) fun t17 s4 =>
 bd2 (kf 13 [t7] s4) fun t19 s5 =>
 bd2 (kf 31 [t7] s5) fun t21 s6 =>
 bd (o.geq t11 (I .i64 0)) fun t23 =>
 bd (gU t23 (some t14)) fun t25 =>
 bd (gU t23 (o.eql t25 (I .i64 0))) fun t26 =>
 bd (pF t23 t26) fun t27 =>
 bd (gU t27 (some t17)) fun t29 =>
 bd (gU t27 (o.eql t29 (I .i64 7))) fun t30 =>
 bd (pF t27 t30) fun t31 =>
 bd (gU t31 (some t19)) fun t33 =>
 bd (gU t31 (o.geq t33 (I .i64 0))) fun t34 =>
 bd (pF t31 t34) fun t35 =>
 bd (gU t35 (some t7)) fun t37 =>
 bd2 (gS (gd t35 true) s6 (kf 42 [t37] s6)) fun t38 s7 =>
 bd (pF t35 t38) fun t39 =>
 bd (gU t39 (some t21)) fun t41 =>
 bd (gU t39 (o.ln t41)) fun t42 =>
 bd (gU t39 (o.eql t42 (I .i64 1))) fun t43 =>
 bd (pF t39 t43) fun t44 =>
 bd (gU t44 (some t21)) fun t46 =>
 bd (gU t44 (o.ix 5 t46 (I .i64 0))) fun t47 =>
 bd (gU t44 (o.fa 4 t47)) fun t48 =>
 bd (gU t44 (o.ld t48 s7)) fun t49 =>
 bd (pF t44 t49) fun t50 =>
 bd (gU t50 (some t7)) fun t52 =>
 bd2 (gS (gd t50 true) s7 (kf 12 [t52, (I .i64 3)] s7)) fun t53 s8 =>
 bd (gU t50 (o.eql t53 (I .i64 3))) fun t54 =>
 bd (pF t50 t54) fun t55 =>
 bd (gU t55 (some t7)) fun t57 =>
 bd2 (gS (gd t55 true) s8 (kf 12 [t57, (I .i64 (-1))] s8)) fun t58 s9 =>
 bd (gU t55 (o.eql t58 (I .i64 0))) fun t59 =>
 bd (pF t55 t59) fun t60 =>
 bd2 (gS (gd t60 true) s9 (kf 13 [(Z .nilp)] s9)) fun t62 s10 =>
 bd (gU t60 (o.eql t62 (I .i64 (-1)))) fun t63 =>
 bd (pF t60 t63) fun t64 =>
 bd2 (gS (gd t64 true) s10 (kf 12 [(Z .nilp), (I .i64 2)] s10)) fun t66 s11 =>
 bd (gU t64 (o.eql t66 (I .i64 0))) fun t67 =>
 bd (pF t64 t67) fun t68 =>
 bd (gU t68 (asAggT (aFill [.int .i64 0, .int .i64 0] []))) fun t70 =>
 bd2 (gS (gd t68 true) s11 (kf 11 [(Z .nilp), t70] s11)) fun t71 s12 =>
 bd (gU t68 (o.eql t71 (I .i64 10))) fun t72 =>
 bd (pF t68 t72) fun t73 =>
 jT t73 s12)
def f16 (o : Ops) (kf : CallF) (N : Nat) (s : St) : Option (T × St) :=
 bd2 (kf 38 [(I .i64 1000000)] s) fun t7 s1 =>
 bd (eqB .p t7 (Z .nilp)) fun t9 =>
 f16_1 o kf N t9 s1 t7
theorem f16_ok : Ok Tryz.prog 16 (fun c => L0 (f16 fast c 8192)) := ok0 (fun o c => f16 o c 8192) Tryz.func16 (by kernel_rfl) (fun c s => by kernel_rfl)

abbrev t16 : CallF → List T → St → Res := fun c => L0 (f16 fast c 8192)

/- rounds.Round -/
def f19_l1 (o : Ops) (kf : CallF) (N : Nat) (v : List T) (s : St) : Option (JO × St) :=
 o.vk v 0 fun v_0 =>
 o.vk v 1 fun v_1 =>
 bd (o.lss v_1 (I .i64 3)) fun t9 =>
 o.br t9 (jn (bd2 (kf 56 [v_0, v_1] s) fun t13 s2 =>
 o.br t13 (nm [v_0, v_1] s2)
 (bd (asAggT (aFill [.int .i64 0, .int .i64 0, .int .i64 0, .int .i64 0, .int .i64 0, .int .i64 0, .int .i64 0, .nils, .str []] [(0, 1, (I .i64 9)), (1, 1, v_1)])) fun t16 =>
 bd2 (kf 15 [v_0, t16] s2) fun t17 s3 =>
 nm [v_0, v_1] s3))
 (fun v4 s5 => o.vk v4 0 fun v4_0 =>
 o.vk v4 1 fun v4_1 =>
 bd (o.add v4_1 (I .i64 1)) fun t18 =>
 nm [v4_0, t18] s5)
 (fun i6 v4 s5 => jE i6 v4 s5)
 (fun r7 s5 => jR r7 s5))
 (jE 0 [v_0] s)
def f19_l2 (o : Ops) (kf : CallF) (N : Nat) (v : List T) (s : St) : Option (JO × St) :=
 o.vk v 0 fun v_0 =>
 o.vk v 1 fun v_1 =>
 o.vk v 2 fun v_2 =>
 bd (o.lss v_2 v_1) fun t25 =>
 o.br t25 (jn (bd (asAggT (aFill [.int .i64 0, .int .i64 0, .int .i64 0, .int .i64 0, .int .i64 0, .int .i64 0, .int .i64 0, .nils, .str []] [(0, 1, (I .i64 4)), (2, 1, v_2)])) fun t29 =>
 bd2 (kf 15 [v_0, t29] s) fun t30 s18 =>
 nm [v_0, v_1, v_2] s18)
 (fun v19 s20 => o.vk v19 0 fun v19_0 =>
 o.vk v19 1 fun v19_1 =>
 o.vk v19 2 fun v19_2 =>
 bd (o.add v19_2 (I .i64 1)) fun t31 =>
 nm [v19_0, v19_1, t31] s20)
 (fun i21 v19 s20 => jE i21 v19 s20)
 (fun r22 s20 => jR r22 s20))
 (jE 2 [v_0] s)
def f19_l3 (o : Ops) (kf : CallF) (N : Nat) (v : List T) (s : St) : Option (JO × St) :=
 o.vk v 0 fun v_0 =>
 o.vk v 1 fun v_1 =>
 o.vk v 2 fun v_2 =>
 o.vk v 3 fun v_3 =>
 bd (o.lss v_3 v_2) fun t36 =>
 o.br t36 (jn (bd (o.ix 1 v_1 v_3) fun t37 =>
 bd (o.ld t37 s) fun t38 =>
 bd (asAggT (aFill [.int .i64 0, .int .i64 0, .int .i64 0, .int .i64 0, .int .i64 0, .int .i64 0, .int .i64 0, .nils, .str []] [(0, 1, (I .i64 5)), (2, 1, t38)])) fun t41 =>
 bd2 (kf 15 [v_0, t41] s) fun t42 s32 =>
 nm [v_0, v_1, v_2, v_3] s32)
 (fun v33 s34 => o.vk v33 0 fun v33_0 =>
 o.vk v33 1 fun v33_1 =>
 o.vk v33 2 fun v33_2 =>
 o.vk v33 3 fun v33_3 =>
 bd (o.add v33_3 (I .i64 1)) fun t43 =>
 nm [v33_0, v33_1, v33_2, t43] s34)
 (fun i35 v33 s34 => jE i35 v33 s34)
 (fun r36 s34 => jR r36 s34))
 (jE 4 [] s)
def f19 (o : Ops) (kf : CallF) (N : Nat) (a0 : T) (s : St) : Option (T × St) :=
 bd (eqB .p a0 (Z .nilp)) fun t7 =>
 o.br t7 (bd (retT []) fun r1 =>
 jT r1 s)
 (jn (jn (o.loops (f19_l1 o kf N) N [a0, (I .i64 0)] s)
 (fun v8 s9 => nm [.any] s9)
 (fun i10 v8 s9 => if i10 = 0 then nm v8 s9 else jE i10 v8 s9)
 (fun r11 s9 => jR r11 s9))
 (fun v12 s13 => o.vk v12 0 fun v12_0 =>
 bd (asAggT (aFill [.int .i64 0, .int .i64 0, .int .i64 0, .int .i64 0, .int .i64 0, .int .i64 0, .int .i64 0, .nils, .str []] [(0, 1, (I .i64 3)), (2, 1, (I .i64 1))])) fun t20 =>
 bd2 (kf 15 [v12_0, t20] s13) fun t21 s16 =>
 bd2 (kf 54 [v12_0] s16) fun t23 s17 =>
 jn (jn (o.loops (f19_l2 o kf N) N [v12_0, t23, (I .i64 0)] s17)
 (fun v23 s24 => nm [.any] s24)
 (fun i25 v23 s24 => if i25 = 2 then nm v23 s24 else jE i25 v23 s24)
 (fun r26 s24 => jR r26 s24))
 (fun v27 s28 => o.vk v27 0 fun v27_0 =>
 bd2 (kf 57 [v27_0] s28) fun t33 s31 =>
 bd (o.ln t33) fun t34 =>
 jn (jn (o.loops (f19_l3 o kf N) N [v27_0, t33, t34, (I .i64 0)] s31)
 (fun v37 s38 => nm [] s38)
 (fun i39 v37 s38 => if i39 = 4 then nm v37 s38 else jE i39 v37 s38)
 (fun r40 s38 => jR r40 s38))
 (fun v41 s42 => bd (retT []) fun r45 =>
 jT r45 s42)
 (fun i43 v41 s42 => none)
 (fun r44 s42 => jT r44 s42))
 (fun i29 v27 s28 => none)
 (fun r30 s28 => jT r30 s28))
 (fun i14 v12 s13 => none)
 (fun r15 s13 => jT r15 s13))
theorem f19_ok : Ok Tryz.prog 19 (fun c => L1 (f19 fast c 8192)) := ok1 (fun o c => f19 o c 8192) Tryz.func19 (by kernel_rfl) (fun c a0 s => by kernel_rfl)

/- (twin.Twin).Entries -/
def f24 (o : Ops) (kf : CallF) (N : Nat) (a0 a1 : T) (s : St) : Option (T × St) :=
 bd2 (kf 50 [a0, a1] s) fun t7 s1 =>
 bd (aUn .not t7) fun t8 =>
 o.br t8 (jT (Z .nils) s1)
 (bd (o.nil a0) fun t11 =>
 bd (o.fa 1 t11) fun t12 =>
 bd (aIndexArr 2 1 t12 a1) fun t13 =>
 bd (o.ld t13 s1) fun t14 =>
 bd2 (kf 60 [t14] s1) fun t15 s2 =>
 jT t15 s2)
theorem f24_ok : Ok Tryz.prog 24 (fun c => L2 (f24 fast c 8192)) := ok2 (fun o c => f24 o c 8192) Tryz.func24 (by kernel_rfl) (fun c a0 a1 s => by kernel_rfl)

/- (twin.Twin).Told -/
def f31 (o : Ops) (kf : CallF) (N : Nat) (a0 : T) (s : St) : Option (T × St) :=
 bd (eqB .p a0 (Z .nilp)) fun t4 =>
 o.br t4 (jT (Z .nils) s)
 (bd (o.nil a0) fun t6 =>
 bd (o.fa 6 t6) fun t7 =>
 bd (o.ld t7 s) fun t8 =>
 bd2 (kf 68 [t8] s) fun t9 s1 =>
 jT t9 s1)
theorem f31_ok : Ok Tryz.prog 31 (fun c => L1 (f31 fast c 8192)) := ok1 (fun o c => f31 o c 8192) Tryz.func31 (by kernel_rfl) (fun c a0 s => by kernel_rfl)

/- bound.Rounds -/
def f33 (o : Ops) (kf : CallF) (N : Nat) (a0 : T) (s : St) : Option (T × St) :=
 bd (aFold aMax2 a0 [(I .i64 0)]) fun t4 =>
 bd (aFold aMin2 t4 [(I .i64 10000)]) fun t5 =>
 bd (o.bin .mul (I .i64 400) t5) fun t6 =>
 bd (o.add (I .i64 800) t6) fun t7 =>
 jT t7 s
theorem f33_ok : Ok Tryz.prog 33 (fun c => L1 (f33 fast c 8192)) := ok1 (fun o c => f33 o c 8192) Tryz.func33 (by kernel_rfl) (fun c a0 s => by kernel_rfl)

/- (twin.Twin).Infos -/
def f34 (o : Ops) (kf : CallF) (N : Nat) (a0 a1 : T) (s : St) : Option (T × St) :=
 bd2 (kf 24 [a0, a1] s) fun t12 s1 =>
 bd2 (kf 63 [t12] s1) fun t13 s2 =>
 bd (o.ex t13 0) fun t14 =>
 bd (o.ex t13 1) fun t15 =>
 bd (o.ex t13 2) fun t16 =>
 bd (o.ex t13 3) fun t17 =>
 bd2 (o.new s2 (nCells [.int .i64 0, .int .i64 0, .int .i64 0, .int .i64 0, .int .i64 0, .int .i64 0])) fun t6 s3 =>
 bd2 (o.st 6 t6 t15 s3) fun u4 s5 =>
 jT t14 s5
theorem f34_ok : Ok Tryz.prog 34 (fun c => L2 (f34 fast c 8192)) := ok2 (fun o c => f34 o c 8192) Tryz.func34 (by kernel_rfl) (fun c a0 a1 s => by kernel_rfl)

/- twin.New -/
def f38_l1 (o : Ops) (kf : CallF) (N : Nat) (v : List T) (s : St) : Option (JO × St) :=
 o.vk v 0 fun v_0 =>
 o.vk v 1 fun v_1 =>
 o.vk v 2 fun v_2 =>
 bd (o.lss v_2 (I .i64 2)) fun t25 =>
 o.br t25 (jn (bd2 (kf 75 [v_0] s) fun t31 s9 =>
 bd (asAggT (aFill [.int .i64 0, .nilp, .bool false, .nilp, .nilp, .int .i64 0, .int .i64 0, .int .i64 0, .int .i64 0, .int .i64 0, .int .i64 0, .int .i64 0, .nils, .int .i64 0, .nils, .int .i64 0, .bool false, .bool false, .int .i64 0, .int .i64 0, .int .i64 0, .bool false, .nilc, .int .i64 0, .int .i64 0, .nils, .int .i64 0, .int .i64 0, .bool false] [(0, 1, v_2), (1, 1, t31)])) fun t32 =>
 bd2 (o.new s9 (nBox t32)) fun t33 s10 =>
 bd (o.nil v_1) fun t34 =>
 bd (o.fa 1 t34) fun t35 =>
 bd (aIndexArr 2 1 t35 v_2) fun t36 =>
 bd2 (o.st 1 t36 t33 s10) fun u11 s12 =>
 bd (o.nil v_1) fun t39 =>
 bd (o.fa 1 t39) fun t40 =>
 bd (aIndexArr 2 1 t40 v_2) fun t41 =>
 bd (o.ld t41 s12) fun t42 =>
 bd2 (kf 78 [t42, (I .i64 0)] s12) fun t43 s13 =>
 nm [v_0, v_1, v_2] s13)
 (fun v14 s15 => o.vk v14 0 fun v14_0 =>
 o.vk v14 1 fun v14_1 =>
 o.vk v14 2 fun v14_2 =>
 bd (o.add v14_2 (I .i64 1)) fun t44 =>
 nm [v14_0, v14_1, t44] s15)
 (fun i16 v14 s15 => jE i16 v14 s15)
 (fun r17 s15 => jR r17 s15))
 (jE 0 [v_1] s)
def f38 (o : Ops) (kf : CallF) (N : Nat) (a0 : T) (s : St) : Option (T × St) :=
 bd2 (kf 75 [a0] s) fun t6 s1 =>
 bd (eqB .p t6 (Z .nilp)) fun t7 =>
 o.br t7 (jT (Z .nilp) s1)
 (bd2 (kf 76 [] s1) fun t8 s2 =>
 bd2 (kf 75 [(I .i64 1048576)] s2) fun t9 s3 =>
 bd2 (o.new s3 (nMap)) fun t10 s4 =>
 bd (asAggT (aFill [.int .i64 0, .nilp, .nilp, .nilp, .nilp, .nilp, .nils, .nils, .nilm] [(5, 1, t8), (4, 1, t9), (8, 1, t10)])) fun t11 =>
 bd2 (o.new s4 (nBox t11)) fun t12 s5 =>
 bd (o.nil t12) fun t16 =>
 bd (o.fa 4 t16) fun t17 =>
 bd (o.ld t17 s5) fun t18 =>
 bd2 (kf 77 [t18] s5) fun t19 s6 =>
 bd (o.ex t19 0) fun t20 =>
 bd (o.ex t19 1) fun t21 =>
 bd (o.nil t12) fun t22 =>
 bd (o.fa 3 t22) fun t23 =>
 bd2 (o.st 1 t23 t20 s6) fun u7 s8 =>
 jn (jn (o.loops (f38_l1 o kf N) N [a0, t12, (I .i64 0)] s8)
 (fun v18 s19 => nm [.any] s19)
 (fun i20 v18 s19 => if i20 = 0 then nm v18 s19 else jE i20 v18 s19)
 (fun r21 s19 => jR r21 s19))
 (fun v22 s23 => o.vk v22 0 fun v22_0 =>
 jT v22_0 s23)
 (fun i24 v22 s23 => none)
 (fun r25 s23 => jT r25 s23))
theorem f38_ok : Ok Tryz.prog 38 (fun c => L1 (f38 fast c 8192)) := ok1 (fun o c => f38 o c 8192) Tryz.func38 (by kernel_rfl) (fun c a0 s => by kernel_rfl)

/- (view.Arbiter).All -/
def f39 (o : Ops) (kf : CallF) (N : Nat) (a0 : T) (s : St) : Option (T × St) :=
 bd (eqB .p a0 (Z .nilp)) fun t4 =>
 o.br t4 (jT (Z .nils) s)
 (bd (o.nil a0) fun t6 =>
 bd (o.fa 1 t6) fun t7 =>
 bd (o.ld t7 s) fun t8 =>
 bd2 (kf 79 [t8] s) fun t9 s1 =>
 jT t9 s1)
theorem f39_ok : Ok Tryz.prog 39 (fun c => L1 (f39 fast c 8192)) := ok1 (fun o c => f39 o c 8192) Tryz.func39 (by kernel_rfl) (fun c a0 s => by kernel_rfl)

/- (disk.Disk).Read -/
def f40 (o : Ops) (kf : CallF) (N : Nat) (a0 a1 : T) (s : St) : Option (T × St) :=
 bd2 (kf 80 [a0, a1] s) fun t11 s1 =>
 bd (o.ex t11 0) fun t12 =>
 bd (o.ex t11 1) fun t13 =>
 bd (o.neq t13 (I .i64 0)) fun t15 =>
 o.br t15 (bd (retT [(Z .nils), t13]) fun r2 =>
 jT r2 s1)
 (bd (o.nil t12) fun t18 =>
 bd (o.fa 0 t18) fun t19 =>
 bd (o.ld t19 s1) fun t20 =>
 bd2 (kf 81 [t20] s1) fun t21 s3 =>
 bd (retT [t21, (I .i64 0)]) fun r4 =>
 jT r4 s3)
theorem f40_ok : Ok Tryz.prog 40 (fun c => L2 (f40 fast c 8192)) := ok2 (fun o c => f40 o c 8192) Tryz.func40 (by kernel_rfl) (fun c a0 a1 s => by kernel_rfl)

/- view.Get -/
def f41_l1 (o : Ops) (kf : CallF) (N : Nat) (v : List T) (s : St) : Option (JO × St) :=
 o.vk v 0 fun v_0 =>
 o.vk v 1 fun v_1 =>
 o.vk v 2 fun v_2 =>
 jn (bd2 (kf 82 [v_0, v_2] s) fun t12 s1 =>
 bd (o.ex t12 0) fun t13 =>
 bd (o.ex t12 1) fun t14 =>
 bd (o.ex t12 2) fun t15 =>
 bd2 (o.new s1 (nCells [.int .i64 0, .int .i64 0])) fun t6 s2 =>
 bd2 (o.st 2 t6 t13 s2) fun u3 s4 =>
 bd (aUn .not t15) fun t17 =>
 bd (gF t17 (some v_1)) fun t19 =>
 bd (gF t17 (o.ln t19)) fun t20 =>
 bd (gF t17 (o.gtr t20 (I .i64 0))) fun t21 =>
 bd (gF t17 (some t21)) fun t22 =>
 bd (gU t22 (o.fa 0 t6)) fun t23 =>
 bd (gU t22 (o.ld t23 s4)) fun t24 =>
 bd (gU t22 (some v_1)) fun t25 =>
 bd (gU t22 (some v_1)) fun t26 =>
 bd (gU t22 (o.ln t26)) fun t27 =>
 bd (gU t22 (o.sub t27 (I .i64 1))) fun t28 =>
 bd (gU t22 (o.ix 2 t25 t28)) fun t29 =>
 bd (gU t22 (o.fa 0 t29)) fun t30 =>
 bd (gU t22 (o.ld t30 s4)) fun t31 =>
 bd (gU t22 (o.leq t24 t31)) fun t32 =>
 bd (gF t17 (pF t22 t32)) fun t33 =>
 bd (pT t17 t33) fun t34 =>
 o.br t34 (jE 0 [v_1, v_2] s4)
 (bd (o.ldn 2 t6 s4) fun t36 =>
 bd2 (o.new s4 (nSlice 1 (aFill [.int .i64 0, .int .i64 0] [(0, 2, t36)]))) fun t37 s5 =>
 bd2 (aAppend 2 16 v_1 t37 s5) fun t38 s6 =>
 nm [v_0, t38, t14] s6))
 (fun v7 s8 => o.vk v7 0 fun v7_0 =>
 o.vk v7 1 fun v7_1 =>
 o.vk v7 2 fun v7_2 =>
 nm [v7_0, v7_1, v7_2] s8)
 (fun i9 v7 s8 => jE i9 v7 s8)
 (fun r10 s8 => jR r10 s8)
def f41 (o : Ops) (kf : CallF) (N : Nat) (a0 : T) (s : St) : Option (T × St) :=
 jn (jn (o.loops (f41_l1 o kf N) N [a0, (Z .nils), (I .i64 0)] s)
 (fun v11 s12 => nm [.any, .any] s12)
 (fun i13 v11 s12 => if i13 = 0 then nm v11 s12 else jE i13 v11 s12)
 (fun r14 s12 => jR r14 s12))
 (fun v15 s16 => o.vk v15 0 fun v15_0 =>
 o.vk v15 1 fun v15_1 =>
 bd (retT [v15_0, v15_1]) fun r19 =>
 jT r19 s16)
 (fun i17 v15 s16 => none)
 (fun r18 s16 => jT r18 s16)
theorem f41_ok : Ok Tryz.prog 41 (fun c => L1 (f41 fast c 8192)) := ok1 (fun o c => f41 o c 8192) Tryz.func41 (by kernel_rfl) (fun c a0 s => by kernel_rfl)

/- (twin.Twin).Idle -/
def f42_1 (o : Ops) (kf : CallF) (N : Nat) (t119 : T) (s12 : St) (t112 a0 : T) : Option (T × St) :=
 bd (o.ld t119 s12) fun t120 =>
 bd (o.nil t112) fun t123 =>
 bd (o.fa 3 t123) fun t124 =>
 bd (o.ld t124 s12) fun t125 =>
 bd2 (kf 65 [t125] s12) fun t126 s13 =>
 bd2 (kf 87 [t126] s13) fun t127 s14 =>
 bd (o.ex t127 0) fun t128 =>
 bd (o.ex t127 1) fun t129 =>
 bd (o.lss t128 (I .i64 0)) fun t131 =>
 bd (gU t131 (some t112)) fun t133 =>
 bd (gU t131 (o.nil t133)) fun t134 =>
 bd (gU t131 (o.fa 13 t134)) fun t135 =>
 bd (gU t131 (o.fa 1 t135)) fun t136 =>
 bd (gU t131 (o.ld t136 s14)) fun t137 =>
 bd (gU t131 (o.ln t137)) fun t138 =>
 bd (gU t131 (o.eql t138 (I .i64 0))) fun t139 =>
 bd (pF t131 t139) fun t140 =>
 bd (gU t140 (some t112)) fun t142 =>
 bd (gU t140 (o.nil t142)) fun t143 =>
 bd (gU t140 (o.fa 3 t143)) fun t144 =>
 bd (gU t140 (o.ld t144 s14)) fun t145 =>
 bd2 (gS (gd t140 true) s14 (kf 89 [t145] s14)) fun t146 s15 =>
 bd (gU t140 (some a0)) fun t147 =>
 bd (gU t140 (o.nil t147)) fun t148 =>
 bd (gU t140 (o.fa 0 t148)) fun t149 =>
 bd (gU t140 (o.ld t149 s15)) fun t150 =>
 bd (gU t140 (some t112)) fun t151 =>
 bd (gU t140 (o.nil t151)) fun t152 =>
 bd (gU t140 (o.fa 3 t152)) fun t153 =>
 bd (gU t140 (o.ld t153 s15)) fun t154 =>
 bd2 (gS (gd t140 true) s15 (kf 65 [t154] s15)) fun t155 s16 =>
 bd (gU t140 (some t120)) fun t156 =>
 bd (gU t140 (o.nil t156)) fun t157 =>
 bd (gU t140 (o.fa 3 t157)) fun t158 =>
 bd (gU t140 (o.ld t158 s16)) fun t159 =>
 bd2 (gS (gd t140 true) s16 (kf 65 [t159] s16)) fun t160 s17 =>
 bd2 (gS (gd t140 true) s17 (kf 88 [t146, t150, t155, t160] s17)) fun t161 s18 =>
 bd (gU t140 (o.ln t161)) fun t162 =>
 bd (gU t140 (o.eql t162 (I .i64 0))) fun t163 =>
 bd (pF t140 t163) fun t164 =>
 ck ((wq (gd t140 true) (decide (o.ld t149 s14 = o.ld t149 s15)) && (wq (gd t140 true) (decide (o.ld t149 s16 = o.ld t149 s15)) && (wq (gd t140 true) (decide (o.ld t149 s17 = o.ld t149 s15)) && true))) && ((wq (gd t140 true) (decide (o.ld t153 s14 = o.ld t153 s15)) && true) && ((wq (gd t140 true) (decide (o.ld t158 s14 = o.ld t158 s16)) && (wq (gd t140 true) (decide (o.ld t158 s15 = o.ld t158 s16)) && true)) && true))) (jT t164 s18)
def f42_2 (o : Ops) (kf : CallF) (N : Nat) (t53 t56 : T) (s6 : St) (t38 t5 t43 a0 : T) : Option (T × St) :=
 bd (gF t53 (o.fa 2 t56)) fun t57 =>
 bd (gF t53 (o.ld t57 s6)) fun t58 =>
 bd (gF t53 (aUn .not t58)) fun t59 =>
 bd (pT t53 t59) fun t60 =>
 bd (gF t60 (some t38)) fun t62 =>
 bd (gF t60 (o.nil t62)) fun t63 =>
 bd (gF t60 (o.fa 5 t63)) fun t64 =>
 bd (gF t60 (o.ld t64 s6)) fun t65 =>
 bd (gF t60 (o.fa 0 t5)) fun t66 =>
 bd (gF t60 (o.ld t66 s6)) fun t67 =>
 bd (gF t60 (o.neq t65 t67)) fun t68 =>
 bd (pT t60 t68) fun t69 =>
 bd (gF t69 (some t43)) fun t71 =>
 bd (gF t69 (o.nil t71)) fun t72 =>
 bd (gF t69 (o.fa 5 t72)) fun t73 =>
 bd (gF t69 (o.ld t73 s6)) fun t74 =>
 bd (gF t69 (o.fa 0 t5)) fun t75 =>
 bd (gF t69 (o.ld t75 s6)) fun t76 =>
 bd (gF t69 (o.neq t74 t76)) fun t77 =>
 bd (pT t69 t77) fun t78 =>
 bd (gF t78 (some t38)) fun t80 =>
 bd2 (gS (gd t78 false) s6 (kf 60 [t80] s6)) fun t81 s7 =>
 bd (gF t78 (some t43)) fun t82 =>
 bd2 (gS (gd t78 false) s7 (kf 60 [t82] s7)) fun t83 s8 =>
 bd2 (gS (gd t78 false) s8 (kf 85 [t81, t83] s8)) fun t84 s9 =>
 bd (gF t78 (aUn .not t84)) fun t85 =>
 bd (pT t78 t85) fun t86 =>
 o.br t86 (jT (B false) s9)
 (bd2 (kf 60 [t38] s9) fun t88 s10 =>
 bd (o.ln t88) fun t89 =>
 bd (o.nil t38) fun t91 =>
 bd (o.fa 4 t91) fun t92 =>
 bd (o.ld t92 s10) fun t93 =>
 bd2 (kf 86 [t93] s10) fun t94 s11 =>
 bd (o.neq t94 t89) fun t96 =>
 bd (gF t96 (some t43)) fun t98 =>
 bd (gF t96 (o.nil t98)) fun t99 =>
 bd (gF t96 (o.fa 4 t99)) fun t100 =>
 bd (gF t96 (o.ld t100 s11)) fun t101 =>
 bd2 (gS (gd t96 false) s11 (kf 86 [t101] s11)) fun t102 s12 =>
 bd (gF t96 (some t89)) fun t103 =>
 bd (gF t96 (o.neq t102 t103)) fun t104 =>
 bd (pT t96 t104) fun t105 =>
 o.br t105 (jT (B false) s12)
 (bd (o.fa 1 t5) fun t107 =>
 bd (o.ld t107 s12) fun t108 =>
 bd (o.nil a0) fun t109 =>
 bd (o.fa 1 t109) fun t110 =>
 bd (aIndexArr 2 1 t110 t108) fun t111 =>
 bd (o.ld t111 s12) fun t112 =>
 bd (o.fa 1 t5) fun t114 =>
 bd (o.ld t114 s12) fun t115 =>
 bd (o.sub (I .i64 1) t115) fun t116 =>
 bd (o.nil a0) fun t117 =>
 bd (o.fa 1 t117) fun t118 =>
 bd (aIndexArr 2 1 t118 t116) fun t119 =>
 f42_1 o kf N t119 s12 t112 a0))
def f42 (o : Ops) (kf : CallF) (N : Nat) (a0 : T) (s : St) : Option (T × St) :=
 bd (eqB .p a0 (Z .nilp)) fun t12 =>
 bd (gF t12 (some a0)) fun t14 =>
 bd (gF t12 (o.nil t14)) fun t15 =>
 bd (gF t12 (o.fa 3 t15)) fun t16 =>
 bd (gF t12 (o.ld t16 s)) fun t17 =>
 bd (gF t12 (eqB .p t17 (Z .nilp))) fun t18 =>
 bd (pT t12 t18) fun t19 =>
 bd (gF t19 (some a0)) fun t21 =>
 bd2 (gS (gd t19 false) s (kf 14 [t21] s)) fun t22 s1 =>
 bd (gF t19 (o.lss t22 (I .i64 0))) fun t23 =>
 bd (pT t19 t23) fun t24 =>
 bd (gF t24 (some a0)) fun t26 =>
 bd (gF t24 (o.nil t26)) fun t27 =>
 bd (gF t24 (o.fa 5 t27)) fun t28 =>
 bd (gF t24 (o.ld t28 s1)) fun t29 =>
 bd2 (gS (gd t24 false) s1 (kf 83 [t29] s1)) fun t30 s2 =>
 bd (gF t24 (o.ln t30)) fun t31 =>
 bd (gF t24 (o.gtr t31 (I .i64 0))) fun t32 =>
 bd (pT t24 t32) fun t33 =>
 o.br t33 (jT (B false) s2)
 (bd (o.nil a0) fun t35 =>
 bd (o.fa 1 t35) fun t36 =>
 bd (aIndexArr 2 1 t36 (I .i64 0)) fun t37 =>
 bd (o.ld t37 s2) fun t38 =>
 bd (o.nil a0) fun t40 =>
 bd (o.fa 1 t40) fun t41 =>
 bd (aIndexArr 2 1 t41 (I .i64 1)) fun t42 =>
 bd (o.ld t42 s2) fun t43 =>
 bd (o.nil a0) fun t45 =>
 bd (o.fa 3 t45) fun t46 =>
 bd (o.ld t46 s2) fun t47 =>
 bd2 (kf 84 [t47] s2) fun t48 s3 =>
 bd2 (o.new s3 (nCells [.int .i64 0, .int .i64 0])) fun t5 s4 =>
 bd2 (o.st 2 t5 t48 s4) fun u5 s6 =>
 ck ((decide (aLoad1 t37 (updM (s3.get) s3.size (.cells true [.int .i64 0, .int .i64 0])) = o.ld t37 s2) && true) && ((decide (aLoad1 t42 (updM (s3.get) s3.size (.cells true [.int .i64 0, .int .i64 0])) = o.ld t42 s2) && true) && true)) (bd (o.nil t38) fun t50 =>
 bd (o.fa 2 t50) fun t51 =>
 bd (o.ld t51 s6) fun t52 =>
 bd (aUn .not t52) fun t53 =>
 bd (gF t53 (some t43)) fun t55 =>
 bd (gF t53 (o.nil t55)) fun t56 =>
 f42_2 o kf N t53 t56 s6 t38 t5 t43 a0))
theorem f42_ok : Ok Tryz.prog 42 (fun c => L1 (f42 fast c 8192)) := ok1 (fun o c => f42 o c 8192) Tryz.func42 (by kernel_rfl) (fun c a0 s => by kernel_rfl)

/- (twin.Twin).run -/
def f43 (o : Ops) (kf : CallF) (N : Nat) (a0 a1 : T) (s : St) : Option (T × St) :=
 bd (o.lss a1 (I .i64 0)) fun t8 =>
 bd (gF t8 (some a1)) fun t10 =>
 bd (gF t8 (some a0)) fun t11 =>
 bd2 (gS (gd t8 false) s (kf 54 [t11] s)) fun t12 s1 =>
 bd (gF t8 (o.geq t10 t12)) fun t13 =>
 bd (pT t8 t13) fun t14 =>
 o.br t14 (jT (B false) s1)
 (bd2 (kf 90 [] s1) fun t15 s2 =>
 bd (o.ln t15) fun t16 =>
 bd (o.bin .quo a1 t16) fun t20 =>
 bd (o.nil a0) fun t21 =>
 bd (o.fa 1 t21) fun t22 =>
 bd (aIndexArr 2 1 t22 t20) fun t23 =>
 bd (o.ld t23 s2) fun t24 =>
 bd (o.nil t24) fun t26 =>
 bd (o.fa 2 t26) fun t27 =>
 bd (o.ld t27 s2) fun t28 =>
 jn (o.br t28 (bd2 (kf 90 [] s2) fun t29 s3 =>
 bd (o.bin .rem a1 t16) fun t32 =>
 bd (o.ix 1 t29 t32) fun t33 =>
 bd (o.ld t33 s3) fun t34 =>
 bd2 (dyn Tryz.prog kf t34 [a0, t24] s3) fun t37 s4 =>
 nm [] s4)
 (nm [] s2))
 (fun v5 s6 => jT (B true) s6)
 (fun i7 v5 s6 => none)
 (fun r8 s6 => jT r8 s6))
theorem f43_ok : Ok Tryz.prog 43 (fun c => L2 (f43 fast c 8192)) := ok2 (fun o c => f43 o c 8192) Tryz.func43 (by kernel_rfl) (fun c a0 a1 s => by kernel_rfl)

/- (air.Air).Come -/
def f44 (o : Ops) (kf : CallF) (N : Nat) (a0 a1 : T) (s : St) : Option (T × St) :=
 bd2 (kf 46 [a0, a1] s) fun t9 s1 =>
 bd (aUn .not t9) fun t10 =>
 o.br t10 (bd (retT [(I .i64 0), (Z .nils), (B false)]) fun r2 =>
 jT r2 s1)
 (bd (o.nil a0) fun t12 =>
 bd (o.fa 0 t12) fun t13 =>
 bd (o.ld t13 s1) fun t14 =>
 bd (o.ix 3 t14 a1) fun t16 =>
 bd (o.fa 0 t16) fun t17 =>
 bd (o.ld t17 s1) fun t18 =>
 bd (o.nil a0) fun t20 =>
 bd (o.fa 0 t20) fun t21 =>
 bd (o.ld t21 s1) fun t22 =>
 bd (o.ix 3 t22 a1) fun t24 =>
 bd (o.fa 1 t24) fun t25 =>
 bd (o.ld t25 s1) fun t26 =>
 bd2 (kf 81 [t26] s1) fun t27 s3 =>
 ck ((decide (o.ld t13 s3 = o.ld t13 s1) && true) && ((decide (o.ld t17 s3 = o.ld t17 s1) && true) && true)) (bd (retT [t18, t27, (B true)]) fun r4 =>
 jT r4 s3))
theorem f44_ok : Ok Tryz.prog 44 (fun c => L2 (f44 fast c 8192)) := ok2 (fun o c => f44 o c 8192) Tryz.func44 (by kernel_rfl) (fun c a0 a1 s => by kernel_rfl)

/- (twin.Twin).arrive -/
def f45_1 (o : Ops) (kf : CallF) (N : Nat) (t37 t6 : T) (s4 : St) (t27 a0 : T) : Option (JO × St) :=
 o.br t37 (bd (o.fa 1 t6) fun t39 =>
 bd (o.ld t39 s4) fun t40 =>
 bd (o.fa 2 t6) fun t41 =>
 bd (o.ld t41 s4) fun t42 =>
 bd2 (kf 93 [t27, t40, t42] s4) fun t43 s8 =>
 bd (o.nil a0) fun t46 =>
 bd (o.fa 0 t46) fun t47 =>
 bd (o.ld t47 s8) fun t48 =>
 bd (o.add t48 (I .i64 40)) fun t49 =>
 bd (o.nil t27) fun t50 =>
 bd (o.fa 23 t50) fun t51 =>
 bd2 (o.st 1 t51 t49 s8) fun u9 s10 =>
 bd (o.nil t27) fun t54 =>
 bd (o.fa 16 t54) fun t55 =>
 bd (o.ld t55 s10) fun t56 =>
 bd (gU t56 (some t27)) fun t58 =>
 bd2 (gS (gd t56 true) s10 (kf 64 [t58] s10)) fun t59 s11 =>
 bd (gU t56 (some t59)) fun t60 =>
 bd (gU t60 (o.fa 1 t6)) fun t61 =>
 bd (gU t60 (o.ld t61 s11)) fun t62 =>
 bd (gU t60 (some t27)) fun t63 =>
 bd (gU t60 (o.nil t63)) fun t64 =>
 bd (gU t60 (o.fa 5 t64)) fun t65 =>
 bd (gU t60 (o.ld t65 s11)) fun t66 =>
 bd (gU t60 (o.eql t62 t66)) fun t67 =>
 bd (gU t56 (pF t60 t67)) fun t68 =>
 bd (gU t56 (aUn .not t68)) fun t69 =>
 bd (pF t56 t69) fun t70 =>
 bd (o.nil t27) fun t71 =>
 bd (o.fa 16 t71) fun t72 =>
 bd2 (o.st 1 t72 t70 s11) fun u12 s13 =>
 bd (o.nil t27) fun t74 =>
 bd (o.fa 16 t74) fun t75 =>
 bd (o.ld t75 s13) fun t76 =>
 jn (o.br t76 (bd2 (kf 94 [a0, t27] s13) fun t79 s14 =>
 nm [] s14)
 (nm [] s13))
 (fun v15 s16 => nm [] s16)
 (fun i17 v15 s16 => jE i17 v15 s16)
 (fun r18 s16 => jR r18 s16))
 (bd (o.fa 0 t6) fun t81 =>
 bd (o.ld t81 s4) fun t82 =>
 bd (o.eql t82 (I .i64 1)) fun t83 =>
 jn (o.br t83 (bd (o.fa 4 t6) fun t84 =>
 bd (o.ld t84 s4) fun t85 =>
 bd (asAggT (aFill [.nils, .int .i64 0, .bool false] [(0, 1, t85)])) fun t86 =>
 bd2 (o.new s4 (nBox t86)) fun t87 s19 =>
 bd2 (kf 95 [t87] s19) fun t89 s20 =>
 jn (bd (o.eql t89 (I .i64 1)) fun t91 =>
 jn (o.br t91 (bd (o.fa 1 t6) fun t94 =>
 bd (o.ld t94 s20) fun t95 =>
 bd2 (kf 96 [a0, t27, t95, t87] s20) fun t97 s21 =>
 nm [] s21)
 (bd (o.eql t89 (I .i64 2)) fun t99 =>
 jn (o.br t99 (bd (o.fa 1 t6) fun t102 =>
 bd (o.ld t102 s20) fun t103 =>
 bd2 (kf 97 [a0, t27, t103, t87] s20) fun t105 s22 =>
 nm [] s22)
 (nm [] s20))
 (fun v23 s24 => nm [] s24)
 (fun i25 v23 s24 => jE i25 v23 s24)
 (fun r26 s24 => jR r26 s24)))
 (fun v27 s28 => nm [] s28)
 (fun i29 v27 s28 => if i29 = 1 then nm v27 s28 else jE i29 v27 s28)
 (fun r30 s28 => jR r30 s28))
 (fun v31 s32 => nm [] s32)
 (fun i33 v31 s32 => jE i33 v31 s32)
 (fun r34 s32 => jR r34 s32))
 (nm [] s4))
 (fun v35 s36 => nm [] s36)
 (fun i37 v35 s36 => jE i37 v35 s36)
 (fun r38 s36 => jR r38 s36))
def f45 (o : Ops) (kf : CallF) (N : Nat) (a0 a1 a2 : T) (s : St) : Option (T × St) :=
 bd2 (kf 91 [a2] s) fun t12 s1 =>
 bd (o.ex t12 0) fun t13 =>
 bd (o.ex t12 1) fun t14 =>
 bd2 (o.new s1 (nCells [.int .i64 0, .int .i64 0, .int .i64 0, .int .i64 0, .nils])) fun t6 s2 =>
 bd2 (o.st 5 t6 t13 s2) fun u3 s4 =>
 bd (o.neq t14 (I .i64 0)) fun t16 =>
 o.br t16 (bd (retT []) fun r5 =>
 jT r5 s4)
 (bd (o.eql a1 (I .i64 2)) fun t18 =>
 o.br t18 (bd (o.ldn 5 t6 s4) fun t20 =>
 bd2 (kf 92 [a0, t20] s4) fun t21 s6 =>
 bd (retT []) fun r7 =>
 jT r7 s6)
 (bd (o.nil a0) fun t24 =>
 bd (o.fa 1 t24) fun t25 =>
 bd (aIndexArr 2 1 t25 a1) fun t26 =>
 bd (o.ld t26 s4) fun t27 =>
 jn (bd (o.nil t27) fun t30 =>
 bd (o.fa 2 t30) fun t31 =>
 bd (o.ld t31 s4) fun t32 =>
 bd (aUn .not t32) fun t33 =>
 jn (o.br t33 (nm [] s4)
 (bd (o.fa 0 t6) fun t35 =>
 bd (o.ld t35 s4) fun t36 =>
 bd (o.eql t36 (I .i64 3)) fun t37 =>
 jn (f45_1 o kf N t37 t6 s4 t27 a0)
 (fun v39 s40 => nm [] s40)
 (fun i41 v39 s40 => jE i41 v39 s40)
 (fun r42 s40 => jR r42 s40)))
 (fun v43 s44 => nm [] s44)
 (fun i45 v43 s44 => if i45 = 0 then nm v43 s44 else jE i45 v43 s44)
 (fun r46 s44 => jR r46 s44))
 (fun v47 s48 => bd (retT []) fun r51 =>
 jT r51 s48)
 (fun i49 v47 s48 => none)
 (fun r50 s48 => jT r50 s48)))
theorem f45_ok : Ok Tryz.prog 45 (fun c => L3 (f45 fast c 8192)) := ok3 (fun o c => f45 o c 8192) Tryz.func45 (by kernel_rfl) (fun c a0 a1 a2 s => by kernel_rfl)

/- (air.Air).Lose -/
def f46 (o : Ops) (kf : CallF) (N : Nat) (a0 a1 : T) (s : St) : Option (T × St) :=
 bd2 (o.new s (nBox a1)) fun t3 s1 =>
 bd2 (kf 83 [a0] s1) fun t6 s2 =>
 bd (o.ld t3 s2) fun t7 =>
 bd2 (kf 98 [t6, t7] s2) fun t8 s3 =>
 bd (aUn .not t8) fun t9 =>
 ck ((decide (o.ld t3 s1 = o.ld t3 s2) && true) && true) (o.br t9 (jT (B false) s3)
 (bd (aClo 100 [t3] []) fun t11 =>
 bd2 (kf 99 [a0, t11] s3) fun t12 s4 =>
 bd (o.nil a0) fun t14 =>
 bd (o.fa 0 t14) fun t15 =>
 bd (o.ld t15 s4) fun t16 =>
 bd (o.ld t3 s4) fun t17 =>
 bd (o.ix 3 t16 t17) fun t18 =>
 bd (o.fa 2 t18) fun t19 =>
 bd2 (o.st 1 t19 (B true) s4) fun u5 s6 =>
 jT (B true) s6))
theorem f46_ok : Ok Tryz.prog 46 (fun c => L2 (f46 fast c 8192)) := ok2 (fun o c => f46 o c 8192) Tryz.func46 (by kernel_rfl) (fun c a0 a1 s => by kernel_rfl)

/- (twin.Twin).crash -/
def f48 (o : Ops) (kf : CallF) (N : Nat) (a0 a1 a2 : T) (s : St) : Option (T × St) :=
 jn (bd (o.eql a1 (I .i64 2)) fun t9 =>
 bd (gU t9 (some a0)) fun t11 =>
 bd (gU t9 (o.nil t11)) fun t12 =>
 bd (gU t9 (o.fa 3 t12)) fun t13 =>
 bd (gU t9 (o.ld t13 s)) fun t14 =>
 bd (gU t9 (neB .p t14 (Z .nilp))) fun t15 =>
 bd (pF t9 t15) fun t16 =>
 jn (o.br t16 (bd (o.nil a0) fun t18 =>
 bd (o.fa 4 t18) fun t19 =>
 bd (o.ld t19 s) fun t20 =>
 bd2 (kf 102 [t20, a2] s) fun t22 s1 =>
 bd (o.nil a0) fun t24 =>
 bd (o.fa 3 t24) fun t25 =>
 bd2 (o.st 1 t25 (Z .nilp) s1) fun u2 s3 =>
 nm [] s3)
 (bd2 (kf 50 [a0, a1] s) fun t29 s4 =>
 bd (gU t29 (some a0)) fun t31 =>
 bd (gU t29 (some a1)) fun t32 =>
 bd (gU t29 (o.nil t31)) fun t33 =>
 bd (gU t29 (o.fa 1 t33)) fun t34 =>
 bd (gU t29 (aIndexArr 2 1 t34 t32)) fun t35 =>
 bd (gU t29 (o.ld t35 s4)) fun t36 =>
 bd (gU t29 (o.nil t36)) fun t37 =>
 bd (gU t29 (o.fa 2 t37)) fun t38 =>
 bd (gU t29 (o.ld t38 s4)) fun t39 =>
 bd (pF t29 t39) fun t40 =>
 o.br t40 (bd (o.nil a0) fun t43 =>
 bd (o.fa 1 t43) fun t44 =>
 bd (aIndexArr 2 1 t44 a1) fun t45 =>
 bd (o.ld t45 s4) fun t46 =>
 bd2 (kf 103 [t46, a2] s4) fun t48 s5 =>
 nm [] s5)
 (jR (B false) s4)))
 (fun v6 s7 => nm [] s7)
 (fun i8 v6 s7 => if i8 = 0 then nm v6 s7 else jE i8 v6 s7)
 (fun r9 s7 => jR r9 s7))
 (fun v10 s11 => jT (B true) s11)
 (fun i12 v10 s11 => none)
 (fun r13 s11 => jT r13 s11)
theorem f48_ok : Ok Tryz.prog 48 (fun c => L3 (f48 fast c 8192)) := ok3 (fun o c => f48 o c 8192) Tryz.func48 (by kernel_rfl) (fun c a0 a1 a2 s => by kernel_rfl)

/- (twin.Twin).start -/
def f49 (o : Ops) (kf : CallF) (N : Nat) (a0 a1 : T) (s : St) : Option (T × St) :=
 bd (o.eql a1 (I .i64 2)) fun t6 =>
 bd (gU t6 (some a0)) fun t8 =>
 bd (gU t6 (o.nil t8)) fun t9 =>
 bd (gU t6 (o.fa 3 t9)) fun t10 =>
 bd (gU t6 (o.ld t10 s)) fun t11 =>
 bd (gU t6 (eqB .p t11 (Z .nilp))) fun t12 =>
 bd (pF t6 t12) fun t13 =>
 o.br t13 (bd (o.nil a0) fun t17 =>
 bd (o.fa 4 t17) fun t18 =>
 bd (o.ld t18 s) fun t19 =>
 bd2 (kf 77 [t19] s) fun t20 s1 =>
 bd (o.ex t20 0) fun t21 =>
 bd (o.ex t20 1) fun t22 =>
 bd (o.nil a0) fun t23 =>
 bd (o.fa 3 t23) fun t24 =>
 bd2 (o.st 1 t24 t21 s1) fun u2 s3 =>
 bd (o.nil a0) fun t26 =>
 bd (o.fa 3 t26) fun t27 =>
 bd (o.ld t27 s3) fun t28 =>
 bd (neB .p t28 (Z .nilp)) fun t29 =>
 jT t29 s3)
 (bd2 (kf 50 [a0, a1] s) fun t32 s4 =>
 bd (gU t32 (some a0)) fun t34 =>
 bd (gU t32 (some a1)) fun t35 =>
 bd (gU t32 (o.nil t34)) fun t36 =>
 bd (gU t32 (o.fa 1 t36)) fun t37 =>
 bd (gU t32 (aIndexArr 2 1 t37 t35)) fun t38 =>
 bd (gU t32 (o.ld t38 s4)) fun t39 =>
 bd (gU t32 (o.nil t39)) fun t40 =>
 bd (gU t32 (o.fa 2 t40)) fun t41 =>
 bd (gU t32 (o.ld t41 s4)) fun t42 =>
 bd (gU t32 (aUn .not t42)) fun t43 =>
 bd (pF t32 t43) fun t44 =>
 bd (gU t44 (some a0)) fun t46 =>
 bd (gU t44 (some a1)) fun t47 =>
 bd (gU t44 (o.nil t46)) fun t48 =>
 bd (gU t44 (o.fa 1 t48)) fun t49 =>
 bd (gU t44 (aIndexArr 2 1 t49 t47)) fun t50 =>
 bd (gU t44 (o.ld t50 s4)) fun t51 =>
 bd (gU t44 (some a0)) fun t52 =>
 bd (gU t44 (o.nil t52)) fun t53 =>
 bd (gU t44 (o.fa 0 t53)) fun t54 =>
 bd (gU t44 (o.ld t54 s4)) fun t55 =>
 bd2 (gS (gd t44 true) s4 (kf 78 [t51, t55] s4)) fun t56 s5 =>
 bd (pF t44 t56) fun t57 =>
 jT t57 s5)
theorem f49_ok : Ok Tryz.prog 49 (fun c => L2 (f49 fast c 8192)) := ok2 (fun o c => f49 o c 8192) Tryz.func49 (by kernel_rfl) (fun c a0 a1 s => by kernel_rfl)

/- (twin.Twin).is -/
def f50 (o : Ops) (kf : CallF) (N : Nat) (a0 a1 : T) (s : St) : Option (T × St) :=
 bd (neB .p a0 (Z .nilp)) fun t6 =>
 bd (gU t6 (some a1)) fun t8 =>
 bd (gU t6 (o.geq t8 (I .i64 0))) fun t9 =>
 bd (pF t6 t9) fun t10 =>
 bd (gU t10 (some a1)) fun t12 =>
 bd (gU t10 (o.lss t12 (I .i64 2))) fun t13 =>
 bd (pF t10 t13) fun t14 =>
 jT t14 s
theorem f50_ok : Ok Tryz.prog 50 (fun c => L2 (f50 fast c 8192)) := ok2 (fun o c => f50 o c 8192) Tryz.func50 (by kernel_rfl) (fun c a0 a1 s => by kernel_rfl)

/- (twin.Twin).accept -/
def f51_1 (o : Ops) (kf : CallF) (N : Nat) (s22 : St) (t96 t95 v21_4 v21_1 t90 v21_3 v21_0 v21_2 : T) : Option (T × St) :=
 bd2 (o.new s22 (nSlice 1 (aFill [.int .i64 0, .int .i64 0, .int .i64 0] [(0, 3, t96)]))) fun t97 s25 =>
 bd2 (aAppend 3 24 t95 t97 s25) fun t98 s26 =>
 bd (o.fa 0 v21_4) fun t99 =>
 bd (o.ld t99 s26) fun t100 =>
 bd (o.nil v21_1) fun t101 =>
 bd (o.fa 13 t101) fun t102 =>
 bd2 (o.st 2 t102 t90 s26) fun u27 s28 =>
 bd (o.nil v21_1) fun t103 =>
 bd (o.fa 8 t103) fun t104 =>
 bd (o.fa 4 t104) fun t105 =>
 bd2 (o.st 1 t105 t98 s28) fun u29 s30 =>
 bd (o.nil v21_1) fun t106 =>
 bd (o.fa 8 t106) fun t107 =>
 bd (o.fa 1 t107) fun t108 =>
 bd2 (o.st 1 t108 t100 s30) fun u31 s32 =>
 ck ((decide (aLoadN 2 v21_3 (overlay 12 s26.get (ovO 10 s22.size (nSlice 1 (aFill [.int .i64 0, .int .i64 0, .int .i64 0] [(0, 3, t96)])) [])) = o.ldn 2 v21_3 s22) && true) && ((decide (aLoad1 t99 (overlay 0 s22.get (ovO 10 s22.size (nSlice 1 (aFill [.int .i64 0, .int .i64 0, .int .i64 0] [(0, 3, t96)])) [])) = o.ld t99 s26) && (decide (aLoad1 t99 (overlay 17 s28.get (ovO 10 s22.size (nSlice 1 (aFill [.int .i64 0, .int .i64 0, .int .i64 0] [(0, 3, t96)])) [])) = o.ld t99 s26) && (decide (aLoad1 t99 (overlay 21 s30.get (ovO 10 s22.size (nSlice 1 (aFill [.int .i64 0, .int .i64 0, .int .i64 0] [(0, 3, t96)])) [])) = o.ld t99 s26) && true))) && true)) (bd (o.nil v21_0) fun t111 =>
 bd (o.fa 6 t111) fun t112 =>
 bd (o.ld t112 s32) fun t113 =>
 bd (o.ldn 2 v21_2 s32) fun t114 =>
 bd (o.nil v21_1) fun t116 =>
 bd (o.fa 0 t116) fun t117 =>
 bd (o.ld t117 s32) fun t118 =>
 bd (o.nil v21_1) fun t120 =>
 bd (o.fa 5 t120) fun t121 =>
 bd (o.ld t121 s32) fun t122 =>
 bd (asAggT (aFill [.int .i64 0, .int .i64 0, .int .i64 0, .int .i64 0, .bool false] [(0, 2, t114), (2, 1, t118), (3, 1, t122)])) fun t123 =>
 bd2 (o.new s32 (nSlice 1 (aFill [.int .i64 0, .int .i64 0, .int .i64 0, .int .i64 0, .bool false] [(0, 5, t123)]))) fun t124 s33 =>
 bd2 (aAppend 5 40 t113 t124 s33) fun t125 s34 =>
 bd (o.nil v21_0) fun t126 =>
 bd (o.fa 6 t126) fun t127 =>
 bd2 (o.st 1 t127 t125 s34) fun u35 s36 =>
 bd (o.nil v21_0) fun t130 =>
 bd (o.fa 7 t130) fun t131 =>
 bd (o.ld t131 s36) fun t132 =>
 bd (o.fa 0 v21_4) fun t133 =>
 bd (o.ld t133 s36) fun t134 =>
 bd2 (o.new s36 (nSlice 1 (aFill [.int .i64 0] [(0, 1, t134)]))) fun t135 s37 =>
 bd2 (aAppend 1 8 t132 t135 s37) fun t136 s38 =>
 bd (o.nil v21_0) fun t137 =>
 bd (o.fa 7 t137) fun t138 =>
 bd2 (o.st 1 t138 t136 s38) fun u39 s40 =>
 bd2 (kf 108 [v21_1] s40) fun t140 s41 =>
 jT (I .i64 0) s41)
def f51_2 (o : Ops) (kf : CallF) (N : Nat) (a1 : T) (s1 : St) (t5 a0 : T) : Option (T × St) :=
 jn (bd (o.nil a1) fun t12 =>
 bd (o.fa 2 t12) fun t13 =>
 bd (o.ld t13 s1) fun t14 =>
 bd (aUn .not t14) fun t15 =>
 o.br t15 (jR (I .i64 11) s1)
 (bd2 (kf 64 [a1] s1) fun t18 s2 =>
 bd (aUn .not t18) fun t19 =>
 o.br t19 (jR (I .i64 12) s2)
 (bd (o.fa 1 t5) fun t21 =>
 bd (o.ld t21 s2) fun t22 =>
 bd (o.gtr t22 (I .i64 2147483648)) fun t23 =>
 bd (gF t23 (o.fa 1 t5)) fun t25 =>
 bd (gF t23 (o.ld t25 s2)) fun t26 =>
 bd (gF t23 (o.lss t26 (I .i64 (-2147483648)))) fun t27 =>
 bd (pT t23 t27) fun t28 =>
 o.br t28 (jR (I .i64 3) s2)
 (bd (o.fa 0 t5) fun t30 =>
 bd (o.ld t30 s2) fun t31 =>
 bd (o.nil a0) fun t33 =>
 bd (o.fa 0 t33) fun t34 =>
 bd (o.ld t34 s2) fun t35 =>
 bd (o.add t35 (I .i64 500)) fun t36 =>
 bd (o.gtr t31 t36) fun t37 =>
 o.br t37 (jR (I .i64 5) s2)
 (nm [a0, a1, t5] s2)))))
 (fun v3 s4 => o.vk v3 0 fun v3_0 =>
 o.vk v3 1 fun v3_1 =>
 o.vk v3 2 fun v3_2 =>
 bd (o.nil v3_1) fun t40 =>
 bd (o.fa 13 t40) fun t41 =>
 bd (o.ldn 2 t41 s4) fun t42 =>
 bd (o.ldn 2 v3_2 s4) fun t43 =>
 bd2 (kf 104 [t42, t43] s4) fun t44 s7 =>
 bd (o.ex t44 0) fun t45 =>
 bd (o.ex t44 1) fun t46 =>
 bd2 (o.new s7 (nCells [.int .i64 0, .nils])) fun t7 s8 =>
 bd2 (o.st 2 t7 t45 s8) fun u9 s10 =>
 bd (o.neq t46 (I .i64 0)) fun t48 =>
 o.br t48 (jT t46 s10)
 (bd (o.nil v3_1) fun t51 =>
 bd (o.fa 8 t51) fun t52 =>
 bd (o.fa 1 t52) fun t53 =>
 bd (o.ld t53 s10) fun t54 =>
 bd (o.add t54 (I .i64 1)) fun t55 =>
 bd (o.ldn 2 v3_2 s10) fun t56 =>
 bd (asAggT (aFill [.int .i64 0, .int .i64 0, .int .i64 0] [(0, 1, t55), (1, 2, t56)])) fun t57 =>
 bd2 (o.new s10 (nCells [.int .i64 0, .int .i64 0, .int .i64 0])) fun t9 s11 =>
 bd2 (o.st 3 t9 t57 s11) fun u12 s13 =>
 bd2 (kf 105 [v3_1] s13) fun t59 s14 =>
 bd (aUn .not t59) fun t60 =>
 o.br t60 (jT (I .i64 8) s14)
 (bd (o.nil v3_1) fun t62 =>
 bd (o.fa 8 t62) fun t63 =>
 bd (o.fa 1 t63) fun t64 =>
 bd (o.ld t64 s14) fun t65 =>
 bd (o.add t65 (I .i64 1)) fun t66 =>
 bd (o.fa 0 t9) fun t67 =>
 bd2 (o.st 1 t67 t66 s14) fun u15 s16 =>
 bd (o.ldn 3 t9 s16) fun t69 =>
 bd2 (kf 107 [t69] s16) fun t70 s17 =>
 bd2 (kf 106 [v3_1, t70] s17) fun t71 s18 =>
 bd (aUn .not t71) fun t72 =>
 o.br t72 (jT (I .i64 8) s18)
 (bd (o.nil v3_1) fun t74 =>
 bd (o.fa 13 t74) fun t75 =>
 bd (o.fa 1 t75) fun t76 =>
 bd (o.ld t76 s18) fun t77 =>
 bd (o.ln t77) fun t78 =>
 bd (o.eql t78 (I .i64 0)) fun t79 =>
 jn (o.br t79 (bd (o.nil v3_0) fun t82 =>
 bd (o.fa 0 t82) fun t83 =>
 bd (o.ld t83 s18) fun t84 =>
 bd (o.nil v3_1) fun t85 =>
 bd (o.fa 15 t85) fun t86 =>
 bd2 (o.st 1 t86 t84 s18) fun u19 s20 =>
 nm [v3_0, v3_1, v3_2, t7, t9] s20)
 (nm [v3_0, v3_1, v3_2, t7, t9] s18))
 (fun v21 s22 => o.vk v21 0 fun v21_0 =>
 o.vk v21 1 fun v21_1 =>
 o.vk v21 2 fun v21_2 =>
 o.vk v21 3 fun v21_3 =>
 o.vk v21 4 fun v21_4 =>
 bd (o.ldn 2 v21_3 s22) fun t90 =>
 bd (o.nil v21_1) fun t92 =>
 bd (o.fa 8 t92) fun t93 =>
 bd (o.fa 4 t93) fun t94 =>
 bd (o.ld t94 s22) fun t95 =>
 bd (o.ldn 3 v21_4 s22) fun t96 =>
 f51_1 o kf N s22 t96 t95 v21_4 v21_1 t90 v21_3 v21_0 v21_2)
 (fun i23 v21 s22 => none)
 (fun r24 s22 => jT r24 s22)))))
 (fun i5 v3 s4 => none)
 (fun r6 s4 => jT r6 s4)
def f51 (o : Ops) (kf : CallF) (N : Nat) (a0 a1 a2 : T) (s : St) : Option (T × St) :=
 bd2 (o.new s (nBox a2)) fun t5 s1 =>
 f51_2 o kf N a1 s1 t5 a0
theorem f51_ok : Ok Tryz.prog 51 (fun c => L3 (f51 fast c 8192)) := ok3 (fun o c => f51 o c 8192) Tryz.func51 (by kernel_rfl) (fun c a0 a1 a2 s => by kernel_rfl)

/- (twin.Twin).Actors -/
def f54 (o : Ops) (kf : CallF) (N : Nat) (a0 : T) (s : St) : Option (T × St) :=
 bd (eqB .p a0 (Z .nilp)) fun t4 =>
 o.br t4 (jT (I .i64 0) s)
 (bd2 (kf 90 [] s) fun t5 s1 =>
 bd (o.ln t5) fun t6 =>
 bd (o.bin .mul (I .i64 2) t6) fun t7 =>
 jT t7 s1)
theorem f54_ok : Ok Tryz.prog 54 (fun c => L1 (f54 fast c 8192)) := ok1 (fun o c => f54 o c 8192) Tryz.func54 (by kernel_rfl) (fun c a0 s => by kernel_rfl)

/- (twin.Twin).Up -/
def f56 (o : Ops) (kf : CallF) (N : Nat) (a0 a1 : T) (s : St) : Option (T × St) :=
 bd (neB .p a0 (Z .nilp)) fun t6 =>
 bd (gU t6 (some a1)) fun t8 =>
 bd (gU t6 (o.eql t8 (I .i64 2))) fun t9 =>
 bd (pF t6 t9) fun t10 =>
 o.br t10 (bd (o.nil a0) fun t12 =>
 bd (o.fa 3 t12) fun t13 =>
 bd (o.ld t13 s) fun t14 =>
 bd (neB .p t14 (Z .nilp)) fun t15 =>
 jT t15 s)
 (bd2 (kf 50 [a0, a1] s) fun t18 s1 =>
 bd (gU t18 (some a0)) fun t20 =>
 bd (gU t18 (some a1)) fun t21 =>
 bd (gU t18 (o.nil t20)) fun t22 =>
 bd (gU t18 (o.fa 1 t22)) fun t23 =>
 bd (gU t18 (aIndexArr 2 1 t23 t21)) fun t24 =>
 bd (gU t18 (o.ld t24 s1)) fun t25 =>
 bd (gU t18 (o.nil t25)) fun t26 =>
 bd (gU t18 (o.fa 2 t26)) fun t27 =>
 bd (gU t18 (o.ld t27 s1)) fun t28 =>
 bd (pF t18 t28) fun t29 =>
 jT t29 s1)
theorem f56_ok : Ok Tryz.prog 56 (fun c => L2 (f56 fast c 8192)) := ok2 (fun o c => f56 o c 8192) Tryz.func56 (by kernel_rfl) (fun c a0 a1 s => by kernel_rfl)

/- (twin.Twin).Flying -/
def f57 (o : Ops) (kf : CallF) (N : Nat) (a0 : T) (s : St) : Option (T × St) :=
 bd (eqB .p a0 (Z .nilp)) fun t4 =>
 o.br t4 (jT (Z .nils) s)
 (bd (o.nil a0) fun t6 =>
 bd (o.fa 5 t6) fun t7 =>
 bd (o.ld t7 s) fun t8 =>
 bd2 (kf 83 [t8] s) fun t9 s1 =>
 jT t9 s1)
theorem f57_ok : Ok Tryz.prog 57 (fun c => L1 (f57 fast c 8192)) := ok1 (fun o c => f57 o c 8192) Tryz.func57 (by kernel_rfl) (fun c a0 s => by kernel_rfl)

/- (twin.site).entries -/
def f60 (o : Ops) (kf : CallF) (N : Nat) (a0 : T) (s : St) : Option (T × St) :=
 bd (o.nil a0) fun t10 =>
 bd (o.fa 2 t10) fun t11 =>
 bd (o.ld t11 s) fun t12 =>
 o.br t12 (bd (o.nil a0) fun t14 =>
 bd (o.fa 3 t14) fun t15 =>
 bd (o.ld t15 s) fun t16 =>
 bd2 (kf 114 [t16] s) fun t17 s1 =>
 jT t17 s1)
 (bd (o.nil a0) fun t20 =>
 bd (o.fa 1 t20) fun t21 =>
 bd (o.ld t21 s) fun t22 =>
 bd2 (kf 40 [t22, (Z (.str [108, 111, 103]))] s) fun t23 s2 =>
 bd (o.ex t23 0) fun t24 =>
 bd (o.ex t23 1) fun t25 =>
 bd2 (kf 115 [t24] s2) fun t28 s3 =>
 bd (o.ex t28 0) fun t29 =>
 bd (o.ex t28 1) fun t30 =>
 bd2 (kf 116 [] s3) fun t31 s4 =>
 bd2 (o.new s4 (nCells [.nilp])) fun t7 s5 =>
 bd2 (o.st 1 t7 t31 s5) fun u6 s7 =>
 bd (aClo 118 [t7] []) fun t33 =>
 bd2 (kf 117 [t29, t33] s7) fun t34 s8 =>
 bd (o.lss t34 (I .i64 0)) fun t36 =>
 o.br t36 (jT t29 s8)
 (bd (aPieceSl 8 t29 none (some t34) none) fun t40 =>
 jT t40 s8))
theorem f60_ok : Ok Tryz.prog 60 (fun c => L1 (f60 fast c 8192)) := ok1 (fun o c => f60 o c 8192) Tryz.func60 (by kernel_rfl) (fun c a0 s => by kernel_rfl)

/- entry.Fold -/
def f63_l1 (o : Ops) (kf : CallF) (N : Nat) (v : List T) (s : St) : Option (JO × St) :=
 o.vk v 0 fun v_0 =>
 o.vk v 1 fun v_1 =>
 o.vk v 2 fun v_2 =>
 o.vk v 3 fun v_3 =>
 o.vk v 4 fun v_4 =>
 bd (o.lss v_4 v_3) fun t14 =>
 o.br t14 (jn (bd (o.ix 8 v_2 v_4) fun t15 =>
 bd (o.ldn 8 t15 s) fun t16 =>
 bd2 (o.new s (nCells [.int .i64 0, .int .i64 0, .int .i64 0, .int .i64 0, .int .i64 0, .int .i64 0, .int .u32 0, .str []])) fun t8 s3 =>
 bd2 (o.st 8 t8 t16 s3) fun u4 s5 =>
 bd (o.ldn 8 t8 s5) fun t18 =>
 bd2 (kf 119 [v_1, t18] s5) fun t19 s6 =>
 bd (o.neq t19 (I .i64 0)) fun t21 =>
 o.br t21 (bd (asAggT (aFill [.int .i64 0, .int .i64 0, .int .i64 0, .int .i64 0, .int .i64 0, .int .i64 0] [])) fun t22 =>
 bd2 (o.st 6 v_0 t22 s6) fun u7 s8 =>
 bd (rT (Z .nils) (rC (o.ldn 6 v_0 s8) (rT (I .i64 0) (rT t19 (some []))))) fun l9 =>
 bd (retT l9) fun r10 =>
 jR r10 s8)
 (nm [v_0, v_1, v_2, v_3, v_4] s6))
 (fun v11 s12 => o.vk v11 0 fun v11_0 =>
 o.vk v11 1 fun v11_1 =>
 o.vk v11 2 fun v11_2 =>
 o.vk v11 3 fun v11_3 =>
 o.vk v11 4 fun v11_4 =>
 bd (o.add v11_4 (I .i64 1)) fun t24 =>
 nm [v11_0, v11_1, v11_2, v11_3, t24] s12)
 (fun i13 v11 s12 => jE i13 v11 s12)
 (fun r14 s12 => jR r14 s12))
 (jE 0 [v_0, v_1] s)
def f63 (o : Ops) (kf : CallF) (N : Nat) (a0 : T) (s : St) : Option (T × St) :=
 bd2 (o.new s (nCells [.int .i64 0, .int .i64 0, .int .i64 0, .int .i64 0, .int .i64 0, .int .i64 0])) fun t3 s1 =>
 bd2 (kf 116 [] s1) fun t10 s2 =>
 bd (o.ln a0) fun t12 =>
 jn (jn (o.loops (f63_l1 o kf N) N [t3, t10, a0, t12, (I .i64 0)] s2)
 (fun v15 s16 => nm [.any, .any] s16)
 (fun i17 v15 s16 => if i17 = 0 then nm v15 s16 else jE i17 v15 s16)
 (fun r18 s16 => jR r18 s16))
 (fun v19 s20 => o.vk v19 0 fun v19_0 =>
 o.vk v19 1 fun v19_1 =>
 bd2 (kf 128 [v19_1] s20) fun t26 s23 =>
 bd (o.nil v19_1) fun t28 =>
 bd (o.fa 2 t28) fun t29 =>
 bd (o.ldn 6 t29 s23) fun t30 =>
 bd (o.nil v19_1) fun t32 =>
 bd (o.fa 8 t32) fun t33 =>
 bd (o.ld t33 s23) fun t34 =>
 bd2 (o.st 6 v19_0 t30 s23) fun u24 s25 =>
 ck ((decide (o.ldn 6 t29 s20 = o.ldn 6 t29 s23) && true) && ((decide (o.ld t33 s20 = o.ld t33 s23) && (decide (o.ld t33 s25 = o.ld t33 s23) && true)) && true)) (bd (rT t26 (rC (o.ldn 6 v19_0 s25) (rT t34 (rT (I .i64 0) (some []))))) fun l26 =>
 bd (retT l26) fun r27 =>
 jT r27 s25))
 (fun i21 v19 s20 => none)
 (fun r22 s20 => jT r22 s20)
theorem f63_ok : Ok Tryz.prog 63 (fun c => L1 (f63 fast c 8192)) := ok1 (fun o c => f63 o c 8192) Tryz.func63 (by kernel_rfl) (fun c a0 s => by kernel_rfl)

/- (twin.site).primary -/
def f64 (o : Ops) (kf : CallF) (N : Nat) (a0 : T) (s : St) : Option (T × St) :=
 bd (o.nil a0) fun t4 =>
 bd (o.fa 2 t4) fun t5 =>
 bd (o.ld t5 s) fun t6 =>
 bd (gU t6 (some a0)) fun t8 =>
 bd (gU t6 (o.nil t8)) fun t9 =>
 bd (gU t6 (o.fa 5 t9)) fun t10 =>
 bd (gU t6 (o.ld t10 s)) fun t11 =>
 bd (gU t6 (o.gtr t11 (I .i64 0))) fun t12 =>
 bd (pF t6 t12) fun t13 =>
 bd (gU t13 (some a0)) fun t15 =>
 bd (gU t13 (o.nil t15)) fun t16 =>
 bd (gU t13 (o.fa 6 t16)) fun t17 =>
 bd (gU t13 (o.ld t17 s)) fun t18 =>
 bd (gU t13 (some a0)) fun t19 =>
 bd (gU t13 (o.nil t19)) fun t20 =>
 bd (gU t13 (o.fa 0 t20)) fun t21 =>
 bd (gU t13 (o.ld t21 s)) fun t22 =>
 bd (gU t13 (o.eql t18 t22)) fun t23 =>
 bd (pF t13 t23) fun t24 =>
 jT t24 s
theorem f64_ok : Ok Tryz.prog 64 (fun c => L1 (f64 fast c 8192)) := ok1 (fun o c => f64 o c 8192) Tryz.func64 (by kernel_rfl) (fun c a0 s => by kernel_rfl)

/- (store.Store).Infos -/
def f65 (o : Ops) (kf : CallF) (N : Nat) (a0 : T) (s : St) : Option (T × St) :=
 bd (eqB .p a0 (Z .nilp)) fun t4 =>
 o.br t4 (jT (Z .nils) s)
 (bd (o.nil a0) fun t6 =>
 bd (o.fa 3 t6) fun t7 =>
 bd (o.ld t7 s) fun t8 =>
 bd2 (kf 128 [t8] s) fun t9 s1 =>
 jT t9 s1)
theorem f65_ok : Ok Tryz.prog 65 (fun c => L1 (f65 fast c 8192)) := ok1 (fun o c => f65 o c 8192) Tryz.func65 (by kernel_rfl) (fun c a0 s => by kernel_rfl)

/- (store.Store).Seg -/
def f66 (o : Ops) (kf : CallF) (N : Nat) (a0 a1 : T) (s : St) : Option (T × St) :=
 bd2 (o.new s (nBox a1)) fun t3 s1 =>
 bd2 (o.new s1 (nCells [.int .i64 0, .int .i64 0, .int .i64 0, .int .i64 0, .nils, .nils])) fun t4 s2 =>
 bd (eqB .p a0 (Z .nilp)) fun t9 =>
 o.br t9 (bd (asAggT (aFill [.int .i64 0, .int .i64 0, .int .i64 0, .int .i64 0, .nils, .nils] [])) fun t10 =>
 bd2 (o.st 6 t4 t10 s2) fun u3 s4 =>
 bd (rC (o.ldn 6 t4 s4) (rT (I .i64 10) (some []))) fun l5 =>
 bd (retT l5) fun r6 =>
 jT r6 s4)
 (bd (o.nil a0) fun t12 =>
 bd (o.fa 3 t12) fun t13 =>
 bd (o.ld t13 s2) fun t14 =>
 bd2 (kf 128 [t14] s2) fun t15 s7 =>
 bd (aClo 130 [t3] []) fun t16 =>
 bd2 (kf 129 [t15, t16] s7) fun t17 s8 =>
 bd (aUn .not t17) fun t18 =>
 o.br t18 (bd (asAggT (aFill [.int .i64 0, .int .i64 0, .int .i64 0, .int .i64 0, .nils, .nils] [])) fun t19 =>
 bd2 (o.st 6 t4 t19 s8) fun u9 s10 =>
 bd (rC (o.ldn 6 t4 s10) (rT (I .i64 9) (some []))) fun l11 =>
 bd (retT l11) fun r12 =>
 jT r12 s10)
 (bd (o.nil a0) fun t22 =>
 bd (o.fa 0 t22) fun t23 =>
 bd (o.ld t23 s8) fun t24 =>
 bd (o.ld t3 s8) fun t25 =>
 bd2 (kf 131 [t25] s8) fun t26 s13 =>
 bd2 (kf 40 [t24, t26] s13) fun t27 s14 =>
 bd (o.ex t27 0) fun t28 =>
 bd (o.ex t27 1) fun t29 =>
 ck ((decide (o.ld t23 s13 = o.ld t23 s8) && true) && true) (bd (o.neq t29 (I .i64 0)) fun t31 =>
 o.br t31 (bd (asAggT (aFill [.int .i64 0, .int .i64 0, .int .i64 0, .int .i64 0, .nils, .nils] [])) fun t32 =>
 bd2 (o.st 6 t4 t32 s14) fun u15 s16 =>
 bd (rC (o.ldn 6 t4 s16) (rT t29 (some []))) fun l17 =>
 bd (retT l17) fun r18 =>
 jT r18 s16)
 (bd2 (kf 132 [t28] s14) fun t35 s19 =>
 bd (o.ex t35 0) fun t36 =>
 bd (o.ex t35 1) fun t37 =>
 bd2 (o.st 6 t4 t36 s19) fun u20 s21 =>
 bd (rC (o.ldn 6 t4 s21) (rT t37 (some []))) fun l22 =>
 bd (retT l22) fun r23 =>
 jT r23 s21))))
theorem f66_ok : Ok Tryz.prog 66 (fun c => L2 (f66 fast c 8192)) := ok2 (fun o c => f66 o c 8192) Tryz.func66 (by kernel_rfl) (fun c a0 a1 s => by kernel_rfl)

/- slices.Clone[[]api.Told,api.Told] -/
def f68 (o : Ops) (kf : CallF) (N : Nat) (a0 : T) (s : St) : Option (T × St) :=
 bd (eqB .l a0 (Z .nils)) fun t4 =>
 o.br t4 (jT (Z .nils) s)
 (bd2 (o.new s (nSlice 0 (aFill [] []))) fun t5 s1 =>
 bd2 (aAppend 5 40 t5 a0 s1) fun t7 s2 =>
 jT t7 s2)
theorem f68_ok : Ok Tryz.prog 68 (fun c => L1 (f68 fast c 8192)) := ok1 (fun o c => f68 o c 8192) Tryz.func68 (by kernel_rfl) (fun c a0 s => by kernel_rfl)

/- disk.New -/
def f75 (o : Ops) (kf : CallF) (N : Nat) (a0 : T) (s : St) : Option (T × St) :=
 bd (o.lss a0 (I .i64 0)) fun t4 =>
 bd (gF t4 (some a0)) fun t6 =>
 bd (gF t4 (o.gtr t6 (I .i64 1048576))) fun t7 =>
 bd (pT t4 t7) fun t8 =>
 o.br t8 (jT (Z .nilp) s)
 (bd2 (o.new s (nMap)) fun t10 s1 =>
 bd (asAggT (aFill [.int .i64 0, .nilm] [(0, 1, a0), (1, 1, t10)])) fun t11 =>
 bd2 (o.new s1 (nBox t11)) fun t12 s2 =>
 jT t12 s2)
theorem f75_ok : Ok Tryz.prog 75 (fun c => L1 (f75 fast c 8192)) := ok1 (fun o c => f75 o c 8192) Tryz.func75 (by kernel_rfl) (fun c a0 s => by kernel_rfl)

/- air.New -/
def f76 (o : Ops) (kf : CallF) (N : Nat) (s : St) : Option (T × St) :=
 bd2 (o.new s (nChan 8 (I .i64 200))) fun t1 s1 =>
 bd (asAggT (aFill [.nils, .nilc] [(1, 1, t1)])) fun t2 =>
 bd2 (o.new s1 (nBox t2)) fun t3 s2 =>
 jT t3 s2
theorem f76_ok : Ok Tryz.prog 76 (fun c => L0 (f76 fast c 8192)) := ok0 (fun o c => f76 o c 8192) Tryz.func76 (by kernel_rfl) (fun c s => by kernel_rfl)

/- view.Open -/
def f77 (o : Ops) (kf : CallF) (N : Nat) (a0 : T) (s : St) : Option (T × St) :=
 bd (eqB .p a0 (Z .nilp)) fun t9 =>
 o.br t9 (bd (retT [(Z .nilp), (I .i64 1)]) fun r1 =>
 jT r1 s)
 (bd2 (kf 40 [a0, (Z (.str [118, 105, 101, 119, 115]))] s) fun t12 s2 =>
 bd (o.ex t12 0) fun t13 =>
 bd (o.ex t12 1) fun t14 =>
 bd (o.eql t14 (I .i64 9)) fun t16 =>
 jn (o.br t16 (bd2 (kf 142 [a0, (Z (.str [118, 105, 101, 119, 115])), (Z .nils)] s2) fun t18 s3 =>
 nm [a0, t13, t18] s3)
 (nm [a0, t13, t14] s2))
 (fun v4 s5 => o.vk v4 0 fun v4_0 =>
 o.vk v4 1 fun v4_1 =>
 o.vk v4 2 fun v4_2 =>
 bd (o.neq v4_2 (I .i64 0)) fun t20 =>
 o.br t20 (bd (retT [(Z .nilp), v4_2]) fun r8 =>
 jT r8 s5)
 (bd2 (kf 41 [v4_1] s5) fun t24 s9 =>
 bd (o.ex t24 0) fun t25 =>
 bd (o.ex t24 1) fun t26 =>
 bd2 (kf 143 [v4_0, (Z (.str [118, 105, 101, 119, 115])), t26] s9) fun t29 s10 =>
 bd2 (kf 144 [v4_0, (Z (.str [118, 105, 101, 119, 115]))] s10) fun t31 s11 =>
 bd (asAggT (aFill [.nilp, .nils] [(0, 1, v4_0), (1, 1, t25)])) fun t34 =>
 bd2 (o.new s11 (nBox t34)) fun t35 s12 =>
 bd (retT [t35, (I .i64 0)]) fun r13 =>
 jT r13 s12))
 (fun i6 v4 s5 => none)
 (fun r7 s5 => jT r7 s5))
theorem f77_ok : Ok Tryz.prog 77 (fun c => L1 (f77 fast c 8192)) := ok1 (fun o c => f77 o c 8192) Tryz.func77 (by kernel_rfl) (fun c a0 s => by kernel_rfl)

/- (twin.site).start -/
def f78_1 (o : Ops) (kf : CallF) (N : Nat) (a0 : T) (s2 : St) (t13 a1 : T) : Option (T × St) :=
 bd (o.nil a0) fun t23 =>
 bd (o.fa 1 t23) fun t24 =>
 bd (o.ld t24 s2) fun t25 =>
 bd2 (kf 146 [t25, (Z (.str [104, 101, 97, 100, 46, 110, 101, 119]))] s2) fun t26 s3 =>
 bd (o.nil a0) fun t29 =>
 bd (o.fa 0 t29) fun t30 =>
 bd (o.ld t30 s3) fun t31 =>
 bd (o.nil a0) fun t33 =>
 bd (o.fa 1 t33) fun t34 =>
 bd (o.ld t34 s3) fun t35 =>
 bd2 (o.new s3 (nChan 1 (I .i64 1))) fun t37 s4 =>
 bd (asAggT (aFill [.int .i64 0, .nilp, .bool false, .nilp, .nilp, .int .i64 0, .int .i64 0, .int .i64 0, .int .i64 0, .int .i64 0, .int .i64 0, .int .i64 0, .nils, .int .i64 0, .nils, .int .i64 0, .bool false, .bool false, .int .i64 0, .int .i64 0, .int .i64 0, .bool false, .nilc, .int .i64 0, .int .i64 0, .nils, .int .i64 0, .int .i64 0, .bool false] [(0, 1, t31), (1, 1, t35), (2, 1, (B true)), (3, 1, t13), (22, 1, t37), (15, 1, a1), (23, 1, a1), (24, 1, a1)])) fun t41 =>
 bd (o.nil a0) fun t42 =>
 bd2 (o.st 29 t42 t41 s4) fun u5 s6 =>
 bd (o.nil a0) fun t48 =>
 bd (o.fa 1 t48) fun t49 =>
 bd (o.ld t49 s6) fun t50 =>
 bd2 (kf 147 [t50] s6) fun t51 s7 =>
 bd (o.ex t51 0) fun t52 =>
 bd (o.ex t51 1) fun t53 =>
 bd (o.ex t51 2) fun t54 =>
 bd (o.nil a0) fun t55 =>
 bd (o.fa 5 t55) fun t56 =>
 bd2 (o.st 1 t56 t52 s7) fun u8 s9 =>
 bd (o.nil a0) fun t57 =>
 bd (o.fa 6 t57) fun t58 =>
 bd2 (o.st 1 t58 t53 s9) fun u10 s11 =>
 bd (o.nil a0) fun t59 =>
 bd (o.fa 7 t59) fun t60 =>
 bd2 (o.st 1 t60 t54 s11) fun u12 s13 =>
 bd (o.nil a0) fun t65 =>
 bd (o.fa 1 t65) fun t66 =>
 bd (o.ld t66 s13) fun t67 =>
 bd2 (kf 149 [t67] s13) fun t68 s14 =>
 bd2 (kf 114 [t13] s14) fun t70 s15 =>
 bd2 (kf 148 [t68, t70] s15) fun t71 s16 =>
 bd (o.ex t71 0) fun t72 =>
 bd (o.ex t71 1) fun t73 =>
 bd (o.nil a0) fun t74 =>
 bd (o.fa 8 t74) fun t75 =>
 bd2 (o.st 5 t75 t72 s16) fun u17 s18 =>
 bd (o.nil a0) fun t76 =>
 bd (o.fa 13 t76) fun t77 =>
 bd2 (o.st 2 t77 t73 s18) fun u19 s20 =>
 bd (o.nil a0) fun t80 =>
 bd (o.fa 5 t80) fun t81 =>
 bd (o.ld t81 s20) fun t82 =>
 bd2 (kf 151 [t13] s20) fun t84 s21 =>
 bd2 (kf 150 [t82, t84] s21) fun t85 s22 =>
 bd (o.nil a0) fun t86 =>
 bd (o.fa 4 t86) fun t87 =>
 bd2 (o.st 1 t87 t85 s22) fun u23 s24 =>
 ck ((decide (o.ld t81 s21 = o.ld t81 s20) && true) && true) (bd2 (kf 64 [a0] s24) fun t89 s25 =>
 jn (o.br t89 (bd2 (kf 105 [a0] s25) fun t91 s26 =>
 nm [] s26)
 (nm [] s25))
 (fun v27 s28 => jT (B true) s28)
 (fun i29 v27 s28 => none)
 (fun r30 s28 => jT r30 s28))
def f78 (o : Ops) (kf : CallF) (N : Nat) (a0 a1 : T) (s : St) : Option (T × St) :=
 bd (o.nil a0) fun t9 =>
 bd (o.fa 1 t9) fun t10 =>
 bd (o.ld t10 s) fun t11 =>
 bd2 (kf 145 [t11] s) fun t12 s1 =>
 bd (o.ex t12 0) fun t13 =>
 bd (o.ex t12 1) fun t14 =>
 bd (o.neq t14 (I .i64 0)) fun t16 =>
 o.br t16 (jT (B false) s1)
 (bd (o.nil a0) fun t18 =>
 bd (o.fa 1 t18) fun t19 =>
 bd (o.ld t19 s1) fun t20 =>
 bd2 (kf 146 [t20, (Z (.str [118, 105, 101, 119, 46, 110, 101, 119]))] s1) fun t21 s2 =>
 f78_1 o kf N a0 s2 t13 a1)
theorem f78_ok : Ok Tryz.prog 78 (fun c => L2 (f78 fast c 8192)) := ok2 (fun o c => f78 o c 8192) Tryz.func78 (by kernel_rfl) (fun c a0 a1 s => by kernel_rfl)

/- slices.Clone[[]api.Grant,api.Grant] -/
def f79 (o : Ops) (kf : CallF) (N : Nat) (a0 : T) (s : St) : Option (T × St) :=
 bd (eqB .l a0 (Z .nils)) fun t4 =>
 o.br t4 (jT (Z .nils) s)
 (bd2 (o.new s (nSlice 0 (aFill [] []))) fun t5 s1 =>
 bd2 (aAppend 2 16 t5 a0 s1) fun t7 s2 =>
 jT t7 s2)
theorem f79_ok : Ok Tryz.prog 79 (fun c => L1 (f79 fast c 8192)) := ok1 (fun o c => f79 o c 8192) Tryz.func79 (by kernel_rfl) (fun c a0 s => by kernel_rfl)

/- (disk.Disk).find -/
def f80 (o : Ops) (kf : CallF) (N : Nat) (a0 a1 : T) (s : St) : Option (T × St) :=
 jn (bd (eqB .p a0 (Z .nilp)) fun t8 =>
 o.br t8 (bd (retT [(Z .nilp), (I .i64 10)]) fun r1 =>
 jR r1 s)
 (bd2 (kf 152 [a1] s) fun t11 s2 =>
 bd (aUn .not t11) fun t12 =>
 o.br t12 (bd (retT [(Z .nilp), (I .i64 1)]) fun r3 =>
 jR r3 s2)
 (bd (o.nil a0) fun t15 =>
 bd (o.fa 1 t15) fun t16 =>
 bd (o.ld t16 s2) fun t17 =>
 bd (Go.Abs.F.look .s false (.s (.nilp)) t17 a1 s2.get) fun t19 =>
 bd (eqB .p t19 (Z .nilp)) fun t20 =>
 o.br t20 (bd (retT [(Z .nilp), (I .i64 9)]) fun r4 =>
 jR r4 s2)
 (nm [a0, a1] s2))))
 (fun v5 s6 => o.vk v5 0 fun v5_0 =>
 o.vk v5 1 fun v5_1 =>
 bd (o.nil v5_0) fun t22 =>
 bd (o.fa 1 t22) fun t23 =>
 bd (o.ld t23 s6) fun t24 =>
 bd (Go.Abs.F.look .s false (.s (.nilp)) t24 v5_1 s6.get) fun t26 =>
 bd (retT [t26, (I .i64 0)]) fun r9 =>
 jT r9 s6)
 (fun i7 v5 s6 => none)
 (fun r8 s6 => jT r8 s6)
theorem f80_ok : Ok Tryz.prog 80 (fun c => L2 (f80 fast c 8192)) := ok2 (fun o c => f80 o c 8192) Tryz.func80 (by kernel_rfl) (fun c a0 a1 s => by kernel_rfl)

/- bytes.Clone -/
def f81 (o : Ops) (kf : CallF) (N : Nat) (a0 : T) (s : St) : Option (T × St) :=
 bd (eqB .l a0 (Z .nils)) fun t4 =>
 o.br t4 (jT (Z .nils) s)
 (bd2 (o.new s (nSlice 0 (aFill [] []))) fun t5 s1 =>
 bd2 (aAppend 1 1 t5 a0 s1) fun t7 s2 =>
 jT t7 s2)
theorem f81_ok : Ok Tryz.prog 81 (fun c => L1 (f81 fast c 8192)) := ok1 (fun o c => f81 o c 8192) Tryz.func81 (by kernel_rfl) (fun c a0 s => by kernel_rfl)

/- view.one -/
def f82 (o : Ops) (kf : CallF) (N : Nat) (a0 a1 : T) (s : St) : Option (T × St) :=
 bd2 (o.new s (nCells [.int .i64 0, .int .i64 0])) fun t4 s1 =>
 bd2 (kf 153 [a0, a1] s1) fun t18 s2 =>
 bd (o.ex t18 0) fun t19 =>
 bd (o.ex t18 1) fun t20 =>
 bd (o.ex t18 2) fun t21 =>
 bd2 (kf 153 [a0, t20] s2) fun t25 s3 =>
 bd (o.ex t25 0) fun t26 =>
 bd (o.ex t25 1) fun t27 =>
 bd (o.ex t25 2) fun t28 =>
 bd (o.neq t21 (I .i64 0)) fun t30 =>
 bd (gF t30 (some t28)) fun t32 =>
 bd (gF t30 (o.neq t32 (I .i64 0))) fun t33 =>
 bd (pT t30 t33) fun t34 =>
 bd (gF t34 (some a0)) fun t36 =>
 bd (gF t34 (o.ln t36)) fun t37 =>
 bd (gF t34 (some t27)) fun t38 =>
 bd (gF t34 (o.sub t37 t38)) fun t39 =>
 bd (gF t34 (o.lss t39 (I .i64 4))) fun t40 =>
 bd (pT t34 t40) fun t41 =>
 bd (gF t41 (some t19)) fun t43 =>
 bd (gF t41 (o.gtr t43 (I .u64 1073741824))) fun t44 =>
 bd (pT t41 t44) fun t45 =>
 bd (gF t45 (some t26)) fun t47 =>
 bd (gF t45 (o.geq t47 (I .u64 2))) fun t48 =>
 bd (pT t45 t48) fun t49 =>
 o.br t49 (bd (asAggT (aFill [.int .i64 0, .int .i64 0] [])) fun t50 =>
 bd2 (o.st 2 t4 t50 s3) fun u4 s5 =>
 bd (rC (o.ldn 2 t4 s5) (rT a1 (rT (B false) (some [])))) fun l6 =>
 bd (retT l6) fun r7 =>
 jT r7 s5)
 (bd (o.cv .i64 t19) fun t53 =>
 bd (o.cv .i64 t26) fun t55 =>
 bd (asAggT (aFill [.int .i64 0, .int .i64 0] [(0, 1, t53), (1, 1, t55)])) fun t56 =>
 bd2 (o.new s3 (nCells [.int .i64 0, .int .i64 0])) fun t13 s8 =>
 bd2 (o.st 2 t13 t56 s8) fun u9 s10 =>
 bd (o.ldn 2 t13 s10) fun t58 =>
 bd2 (kf 154 [t58] s10) fun t59 s11 =>
 bd (o.ex t59 0) fun t60 =>
 bd (o.ex t59 1) fun t61 =>
 bd (o.ldn 2 t13 s11) fun t62 =>
 bd (o.add t27 (I .i64 4)) fun t64 =>
 bd (o.eql t61 (I .i64 0)) fun t66 =>
 bd (gU t66 (some t60)) fun t68 =>
 bd (gU t66 (some a0)) fun t69 =>
 bd (gU t66 (some a1)) fun t70 =>
 bd (gU t66 (some t27)) fun t71 =>
 bd (gU t66 (o.add t71 (I .i64 4))) fun t72 =>
 bd (gU t66 (aPieceSl 1 t69 (some t70) (some t72) none)) fun t73 =>
 bd2 (gS (gd t66 true) s11 (kf 155 [t68, t73] s11)) fun t74 s12 =>
 bd (pF t66 t74) fun t75 =>
 bd2 (o.st 2 t4 t62 s12) fun u13 s14 =>
 ck ((decide (o.ldn 2 t13 s12 = o.ldn 2 t13 s11) && true) && true) (bd (rC (o.ldn 2 t4 s14) (rT t64 (rT t75 (some [])))) fun l15 =>
 bd (retT l15) fun r16 =>
 jT r16 s14))
theorem f82_ok : Ok Tryz.prog 82 (fun c => L2 (f82 fast c 8192)) := ok2 (fun o c => f82 o c 8192) Tryz.func82 (by kernel_rfl) (fun c a0 a1 s => by kernel_rfl)

/- (air.Air).Flying -/
def f83 (o : Ops) (kf : CallF) (N : Nat) (a0 : T) (s : St) : Option (T × St) :=
 bd (eqB .p a0 (Z .nilp)) fun t5 =>
 o.br t5 (jT (Z .nils) s)
 (bd2 (o.new s (nCells [.nils])) fun t3 s1 =>
 bd (aClo 156 [t3] []) fun t7 =>
 bd2 (kf 99 [a0, t7] s1) fun t8 s2 =>
 bd (o.ld t3 s2) fun t9 =>
 jT t9 s2)
theorem f83_ok : Ok Tryz.prog 83 (fun c => L1 (f83 fast c 8192)) := ok1 (fun o c => f83 o c 8192) Tryz.func83 (by kernel_rfl) (fun c a0 s => by kernel_rfl)

/- (view.Arbiter).Last -/
def f84 (o : Ops) (kf : CallF) (N : Nat) (a0 : T) (s : St) : Option (T × St) :=
 bd2 (o.new s (nCells [.int .i64 0, .int .i64 0])) fun t2 s1 =>
 bd (eqB .p a0 (Z .nilp)) fun t4 =>
 bd (gF t4 (some a0)) fun t6 =>
 bd (gF t4 (o.nil t6)) fun t7 =>
 bd (gF t4 (o.fa 1 t7)) fun t8 =>
 bd (gF t4 (o.ld t8 s1)) fun t9 =>
 bd (gF t4 (o.ln t9)) fun t10 =>
 bd (gF t4 (o.eql t10 (I .i64 0))) fun t11 =>
 bd (pT t4 t11) fun t12 =>
 o.br t12 (bd2 (kf 157 [] s1) fun t13 s2 =>
 bd2 (o.st 2 t2 t13 s2) fun u3 s4 =>
 bd (rC (o.ldn 2 t2 s4) (some [])) fun l5 =>
 bd (retT l5) fun r6 =>
 jT r6 s4)
 (bd (o.nil a0) fun t15 =>
 bd (o.fa 1 t15) fun t16 =>
 bd (o.ld t16 s1) fun t17 =>
 bd (o.nil a0) fun t19 =>
 bd (o.fa 1 t19) fun t20 =>
 bd (o.ld t20 s1) fun t21 =>
 bd (o.ln t21) fun t22 =>
 bd (o.sub t22 (I .i64 1)) fun t23 =>
 bd (o.ix 2 t17 t23) fun t24 =>
 bd (o.ldn 2 t24 s1) fun t25 =>
 bd2 (o.st 2 t2 t25 s1) fun u7 s8 =>
 bd (rC (o.ldn 2 t2 s8) (some [])) fun l9 =>
 bd (retT l9) fun r10 =>
 jT r10 s8)
theorem f84_ok : Ok Tryz.prog 84 (fun c => L1 (f84 fast c 8192)) := ok1 (fun o c => f84 o c 8192) Tryz.func84 (by kernel_rfl) (fun c a0 s => by kernel_rfl)

/- slices.Equal[[]api.Entry,api.Entry] -/
def f85_l1 (o : Ops) (kf : CallF) (N : Nat) (v : List T) (s : St) : Option (JO × St) :=
 o.vk v 0 fun v_0 =>
 o.vk v 1 fun v_1 =>
 o.vk v 2 fun v_2 =>
 o.vk v 3 fun v_3 =>
 bd (o.lss v_3 v_2) fun t14 =>
 o.br t14 (jn (bd (o.ix 8 v_0 v_3) fun t18 =>
 bd (o.ldn 8 t18 s) fun t19 =>
 bd (o.ix 8 v_1 v_3) fun t22 =>
 bd (o.ldn 8 t22 s) fun t23 =>
 bd (neB (.a 8 [(0, .i), (1, .i), (2, .i), (3, .i), (4, .i), (5, .i), (6, .i), (7, .s)]) t19 t23) fun t24 =>
 o.br t24 (jR (B false) s)
 (nm [v_0, v_1, v_2, v_3] s))
 (fun v1 s2 => o.vk v1 0 fun v1_0 =>
 o.vk v1 1 fun v1_1 =>
 o.vk v1 2 fun v1_2 =>
 o.vk v1 3 fun v1_3 =>
 bd (o.add v1_3 (I .i64 1)) fun t25 =>
 nm [v1_0, v1_1, v1_2, t25] s2)
 (fun i3 v1 s2 => jE i3 v1 s2)
 (fun r4 s2 => jR r4 s2))
 (jE 0 [] s)
def f85 (o : Ops) (kf : CallF) (N : Nat) (a0 a1 : T) (s : St) : Option (T × St) :=
 bd (o.ln a0) fun t7 =>
 bd (o.ln a1) fun t9 =>
 bd (o.neq t7 t9) fun t10 =>
 o.br t10 (jT (B false) s)
 (bd (o.ln a0) fun t12 =>
 jn (jn (o.loops (f85_l1 o kf N) N [a0, a1, t12, (I .i64 0)] s)
 (fun v5 s6 => nm [] s6)
 (fun i7 v5 s6 => if i7 = 0 then nm v5 s6 else jE i7 v5 s6)
 (fun r8 s6 => jR r8 s6))
 (fun v9 s10 => jT (B true) s10)
 (fun i11 v9 s10 => none)
 (fun r12 s10 => jT r12 s10))
theorem f85_ok : Ok Tryz.prog 85 (fun c => L2 (f85 fast c 8192)) := ok2 (fun o c => f85 o c 8192) Tryz.func85 (by kernel_rfl) (fun c a0 a1 s => by kernel_rfl)

/- (mark.Mark).Commit -/
def f86 (o : Ops) (kf : CallF) (N : Nat) (a0 : T) (s : St) : Option (T × St) :=
 bd (eqB .p a0 (Z .nilp)) fun t4 =>
 o.br t4 (jT (I .i64 0) s)
 (bd (o.nil a0) fun t6 =>
 bd (o.fa 3 t6) fun t7 =>
 bd (o.ld t7 s) fun t8 =>
 jT t8 s)
theorem f86_ok : Ok Tryz.prog 86 (fun c => L1 (f86 fast c 8192)) := ok1 (fun o c => f86 o c 8192) Tryz.func86 (by kernel_rfl) (fun c a0 s => by kernel_rfl)

/- order.Roll -/
def f87_l1_1 (o : Ops) (kf : CallF) (N : Nat) (t25 : T) (s5 : St) (t36 t41 t6 v_0 v_1 t34 t35 : T) (s4 : St) (t40 v_4 v_2 v_3 : T) : Option (JO × St) :=
 bd2 (gS (gd t25 false) s5 (kf 161 [t36, t41] s5)) fun t42 s6 =>
 bd (gF t25 (o.fa 0 t6)) fun t43 =>
 bd (gF t25 (o.ld t43 s6)) fun t44 =>
 bd (gF t25 (some v_0)) fun t45 =>
 bd (gF t25 (some v_1)) fun t46 =>
 bd (gF t25 (o.ix 5 t45 t46)) fun t47 =>
 bd (gF t25 (o.fa 0 t47)) fun t48 =>
 bd (gF t25 (o.ld t48 s6)) fun t49 =>
 bd2 (gS (gd t25 false) s6 (kf 160 [t44, t49] s6)) fun t50 s7 =>
 bd2 (gS (gd t25 false) s7 (o.new s7 (nSlice 3 (aFill [.int .i64 0, .int .i64 0, .int .i64 0] [(0, 1, t34), (1, 1, t42), (2, 1, t50)])))) fun t51 s8 =>
 bd2 (gS (gd t25 false) s8 (kf 159 [t51] s8)) fun t52 s9 =>
 bd (gF t25 (o.lss t52 (I .i64 0))) fun t53 =>
 bd (pT t25 t53) fun t54 =>
 ck ((wq (gd t25 false) (decide (aLoad1 t35 (overlay 0 s4.get (ovOG (gd t25 false) 27 s7.size (nSlice 3 (aFill [.int .i64 0, .int .i64 0, .int .i64 0] [(0, 1, t34), (1, 1, t42), (2, 1, t50)])) [])) = o.ld t35 s5)) && true) && ((wq (gd t25 false) (decide (aLoad1 t40 (overlay 0 s4.get (ovOG (gd t25 false) 27 s7.size (nSlice 3 (aFill [.int .i64 0, .int .i64 0, .int .i64 0] [(0, 1, t34), (1, 1, t42), (2, 1, t50)])) [])) = o.ld t40 s5)) && true) && ((wq (gd t25 false) (decide (aLoad1 t43 (overlay 0 s4.get (ovOG (gd t25 false) 27 s7.size (nSlice 3 (aFill [.int .i64 0, .int .i64 0, .int .i64 0] [(0, 1, t34), (1, 1, t42), (2, 1, t50)])) [])) = o.ld t43 s6)) && (wq (gd t25 false) (decide (aLoad1 t43 (overlay 11 s5.get (ovOG (gd t25 false) 27 s7.size (nSlice 3 (aFill [.int .i64 0, .int .i64 0, .int .i64 0] [(0, 1, t34), (1, 1, t42), (2, 1, t50)])) [])) = o.ld t43 s6)) && true)) && ((wq (gd t25 false) (decide (aLoad1 t48 (overlay 0 s4.get (ovOG (gd t25 false) 27 s7.size (nSlice 3 (aFill [.int .i64 0, .int .i64 0, .int .i64 0] [(0, 1, t34), (1, 1, t42), (2, 1, t50)])) [])) = o.ld t48 s6)) && (wq (gd t25 false) (decide (aLoad1 t48 (overlay 11 s5.get (ovOG (gd t25 false) 27 s7.size (nSlice 3 (aFill [.int .i64 0, .int .i64 0, .int .i64 0] [(0, 1, t34), (1, 1, t42), (2, 1, t50)])) [])) = o.ld t48 s6)) && true)) && true)))) (jn (o.br t54 (nm [v_0, v_4, v_2, v_3, v_4] s9)
 (nm [v_0, v_1, v_2, v_3, v_4] s9))
 (fun v10 s11 => o.vk v10 0 fun v10_0 =>
 o.vk v10 1 fun v10_1 =>
 o.vk v10 2 fun v10_2 =>
 o.vk v10 3 fun v10_3 =>
 o.vk v10 4 fun v10_4 =>
 nm [v10_0, v10_1, v10_2, v10_3, v10_4] s11)
 (fun i12 v10 s11 => if i12 = 1 then nm v10 s11 else jE i12 v10 s11)
 (fun r13 s11 => jR r13 s11))
def f87_l1 (o : Ops) (kf : CallF) (N : Nat) (v : List T) (s : St) : Option (JO × St) :=
 o.vk v 0 fun v_0 =>
 o.vk v 1 fun v_1 =>
 o.vk v 2 fun v_2 =>
 o.vk v 3 fun v_3 =>
 o.vk v 4 fun v_4 =>
 bd (o.lss v_4 v_3) fun t11 =>
 o.br t11 (jn (bd (o.ix 5 v_2 v_4) fun t13 =>
 bd (o.ldn 5 t13 s) fun t14 =>
 bd2 (o.new s (nCells [.int .i64 0, .int .i64 0, .int .i64 0, .int .i64 0, .int .u32 0])) fun t6 s1 =>
 bd2 (o.st 5 t6 t14 s1) fun u2 s3 =>
 bd (aClo 158 [t6] []) fun t15 =>
 bd (o.fa 1 t6) fun t16 =>
 bd (o.ld t16 s3) fun t17 =>
 bd (o.geq t17 (I .i64 3)) fun t18 =>
 bd (gF t18 (some v_0)) fun t20 =>
 bd (gF t18 (some t15)) fun t21 =>
 bd2 (gS (gd t18 false) s3 (kf 129 [t20, t21] s3)) fun t22 s4 =>
 bd (pT t18 t22) fun t23 =>
 o.br t23 (nm [v_0, v_1, v_2, v_3, v_4] s4)
 (bd (o.lss v_1 (I .i64 0)) fun t25 =>
 bd (gF t25 (o.fa 1 t6)) fun t27 =>
 bd (gF t25 (o.ld t27 s4)) fun t28 =>
 bd (gF t25 (some v_0)) fun t29 =>
 bd (gF t25 (some v_1)) fun t30 =>
 bd (gF t25 (o.ix 5 t29 t30)) fun t31 =>
 bd (gF t25 (o.fa 1 t31)) fun t32 =>
 bd (gF t25 (o.ld t32 s4)) fun t33 =>
 bd2 (gS (gd t25 false) s4 (kf 160 [t28, t33] s4)) fun t34 s5 =>
 bd (gF t25 (o.fa 2 t6)) fun t35 =>
 bd (gF t25 (o.ld t35 s5)) fun t36 =>
 bd (gF t25 (some v_0)) fun t37 =>
 bd (gF t25 (some v_1)) fun t38 =>
 bd (gF t25 (o.ix 5 t37 t38)) fun t39 =>
 bd (gF t25 (o.fa 2 t39)) fun t40 =>
 bd (gF t25 (o.ld t40 s5)) fun t41 =>
 f87_l1_1 o kf N t25 s5 t36 t41 t6 v_0 v_1 t34 t35 s4 t40 v_4 v_2 v_3))
 (fun v14 s15 => o.vk v14 0 fun v14_0 =>
 o.vk v14 1 fun v14_1 =>
 o.vk v14 2 fun v14_2 =>
 o.vk v14 3 fun v14_3 =>
 o.vk v14 4 fun v14_4 =>
 bd (o.add v14_4 (I .i64 1)) fun t56 =>
 nm [v14_0, v14_1, v14_2, v14_3, t56] s15)
 (fun i16 v14 s15 => jE i16 v14 s15)
 (fun r17 s15 => jR r17 s15))
 (jE 0 [v_0, v_1] s)
def f87 (o : Ops) (kf : CallF) (N : Nat) (a0 : T) (s : St) : Option (T × St) :=
 bd (o.ln a0) fun t9 =>
 jn (jn (o.loops (f87_l1 o kf N) N [a0, (I .i64 (-1)), a0, t9, (I .i64 0)] s)
 (fun v18 s19 => nm [.any, .any] s19)
 (fun i20 v18 s19 => if i20 = 0 then nm v18 s19 else jE i20 v18 s19)
 (fun r21 s19 => jR r21 s19))
 (fun v22 s23 => o.vk v22 0 fun v22_0 =>
 o.vk v22 1 fun v22_1 =>
 bd (o.lss v22_1 (I .i64 0)) fun t58 =>
 o.br t58 (bd (retT [(I .i64 (-1)), (I .i64 0)]) fun r26 =>
 jT r26 s23)
 (bd (o.ix 5 v22_0 v22_1) fun t61 =>
 bd (o.fa 0 t61) fun t62 =>
 bd (o.ld t62 s23) fun t63 =>
 bd (o.ix 5 v22_0 v22_1) fun t66 =>
 bd (o.fa 1 t66) fun t67 =>
 bd (o.ld t67 s23) fun t68 =>
 bd (o.add t68 (I .i64 1)) fun t69 =>
 bd (retT [t63, t69]) fun r27 =>
 jT r27 s23))
 (fun i24 v22 s23 => none)
 (fun r25 s23 => jT r25 s23)
theorem f87_ok : Ok Tryz.prog 87 (fun c => L1 (f87 fast c 8192)) := ok1 (fun o c => f87 o c 8192) Tryz.func87 (by kernel_rfl) (fun c a0 s => by kernel_rfl)

/- gate.All -/
def f88_l1 (o : Ops) (kf : CallF) (N : Nat) (v : List T) (s : St) : Option (JO × St) :=
 o.vk v 0 fun v_0 =>
 o.vk v 1 fun v_1 =>
 o.vk v 2 fun v_2 =>
 o.vk v 3 fun v_3 =>
 o.vk v 4 fun v_4 =>
 o.vk v 5 fun v_5 =>
 o.vk v 6 fun v_6 =>
 o.vk v 7 fun v_7 =>
 bd (o.lss v_7 v_6) fun t15 =>
 o.br t15 (jn (bd (o.ix 5 v_5 v_7) fun t16 =>
 bd (o.ldn 5 t16 s) fun t17 =>
 bd2 (o.new s (nCells [.int .i64 0, .int .i64 0, .int .i64 0, .int .i64 0, .int .u32 0])) fun t11 s2 =>
 bd2 (o.st 5 t11 t17 s2) fun u3 s4 =>
 bd (o.ldn 5 t11 s4) fun t18 =>
 bd (o.ldn 6 v_3 s4) fun t19 =>
 bd2 (kf 162 [t18, t19, v_0, v_1, v_2] s4) fun t23 s5 =>
 bd (aUn .not t23) fun t24 =>
 o.br t24 (nm [v_0, v_1, v_2, v_3, v_4, v_5, v_6, v_7] s5)
 (bd (o.fa 0 t11) fun t26 =>
 bd (o.ld t26 s5) fun t27 =>
 bd2 (o.new s5 (nSlice 1 (aFill [.int .i64 0] [(0, 1, t27)]))) fun t28 s6 =>
 bd2 (aAppend 1 8 v_4 t28 s6) fun t29 s7 =>
 nm [v_0, v_1, v_2, v_3, t29, v_5, v_6, v_7] s7))
 (fun v8 s9 => o.vk v8 0 fun v8_0 =>
 o.vk v8 1 fun v8_1 =>
 o.vk v8 2 fun v8_2 =>
 o.vk v8 3 fun v8_3 =>
 o.vk v8 4 fun v8_4 =>
 o.vk v8 5 fun v8_5 =>
 o.vk v8 6 fun v8_6 =>
 o.vk v8 7 fun v8_7 =>
 bd (o.add v8_7 (I .i64 1)) fun t30 =>
 nm [v8_0, v8_1, v8_2, v8_3, v8_4, v8_5, v8_6, t30] s9)
 (fun i10 v8 s9 => jE i10 v8 s9)
 (fun r11 s9 => jR r11 s9))
 (jE 0 [v_4] s)
def f88 (o : Ops) (kf : CallF) (N : Nat) (a0 a1 a2 a3 : T) (s : St) : Option (T × St) :=
 bd2 (o.new s (nBox a0)) fun t4 s1 =>
 bd (o.ln a2) fun t13 =>
 jn (jn (o.loops (f88_l1 o kf N) N [a1, a2, a3, t4, (Z .nils), a2, t13, (I .i64 0)] s1)
 (fun v12 s13 => nm [.any] s13)
 (fun i14 v12 s13 => if i14 = 0 then nm v12 s13 else jE i14 v12 s13)
 (fun r15 s13 => jR r15 s13))
 (fun v16 s17 => o.vk v16 0 fun v16_0 =>
 bd2 (kf 163 [v16_0] s17) fun t32 s20 =>
 jT v16_0 s20)
 (fun i18 v16 s17 => none)
 (fun r19 s17 => jT r19 s17)
theorem f88_ok : Ok Tryz.prog 88 (fun c => L4 (f88 fast c 8192)) := ok4 (fun o c => f88 o c 8192) Tryz.func88 (by kernel_rfl) (fun c a0 a1 a2 a3 s => by kernel_rfl)

/- (store.Store).Rule -/
def f89 (o : Ops) (kf : CallF) (N : Nat) (a0 : T) (s : St) : Option (T × St) :=
 bd2 (o.new s (nCells [.int .i64 0, .int .i64 0, .int .i64 0, .int .i64 0, .int .i64 0, .int .i64 0])) fun t2 s1 =>
 bd (eqB .p a0 (Z .nilp)) fun t4 =>
 o.br t4 (bd (asAggT (aFill [.int .i64 0, .int .i64 0, .int .i64 0, .int .i64 0, .int .i64 0, .int .i64 0] [])) fun t5 =>
 bd2 (o.st 6 t2 t5 s1) fun u2 s3 =>
 bd (rC (o.ldn 6 t2 s3) (some [])) fun l4 =>
 bd (retT l4) fun r5 =>
 jT r5 s3)
 (bd (o.nil a0) fun t7 =>
 bd (o.fa 3 t7) fun t8 =>
 bd (o.ld t8 s1) fun t9 =>
 bd2 (kf 164 [t9] s1) fun t10 s6 =>
 bd2 (o.st 6 t2 t10 s6) fun u7 s8 =>
 bd (rC (o.ldn 6 t2 s8) (some [])) fun l9 =>
 bd (retT l9) fun r10 =>
 jT r10 s8)
theorem f89_ok : Ok Tryz.prog 89 (fun c => L1 (f89 fast c 8192)) := ok1 (fun o c => f89 o c 8192) Tryz.func89 (by kernel_rfl) (fun c a0 s => by kernel_rfl)

/- twin.actors -/
def f90 (o : Ops) (kf : CallF) (N : Nat) (s : St) : Option (T × St) :=
 bd2 (o.new s (nSlice 4 (aFill [.nilf, .nilf, .nilf, .nilf] [(0, 1, (Z (.clo 165 []))), (1, 1, (Z (.clo 166 []))), (2, 1, (Z (.clo 167 []))), (3, 1, (Z (.clo 168 [])))]))) fun t1 s1 =>
 jT t1 s1
theorem f90_ok : Ok Tryz.prog 90 (fun c => L0 (f90 fast c 8192)) := ok0 (fun o c => f90 o c 8192) Tryz.func90 (by kernel_rfl) (fun c s => by kernel_rfl)

/- frame.Get -/
def f91_1 (o : Ops) (kf : CallF) (N : Nat) (t24 t15 : T) (s16 : St) (t7 t5 t1 t4 t2 : T) : Option (T × St) :=
 jn (bd (o.eql t24 (I .i64 1)) fun t29 =>
 jn (o.br t29 (bd2 (dyn Tryz.prog kf t15 [] s16) fun t31 s17 =>
 bd (o.fa 3 t7) fun t32 =>
 bd2 (o.st 1 t32 t31 s17) fun u18 s19 =>
 bd2 (dyn Tryz.prog kf t15 [] s19) fun t34 s20 =>
 bd (o.ld t5 s20) fun t35 =>
 bd (aUn .not t35) fun t36 =>
 bd (gU t36 (some t34)) fun t38 =>
 bd (gU t36 (o.ld t1 s20)) fun t39 =>
 bd (gU t36 (o.ln t39)) fun t40 =>
 bd (gU t36 (o.ld t4 s20)) fun t41 =>
 bd (gU t36 (o.sub t40 t41)) fun t42 =>
 bd (gU t36 (o.leq t38 t42)) fun t43 =>
 bd (pF t36 t43) fun t44 =>
 jn (o.br t44 (bd (o.ld t1 s20) fun t45 =>
 bd (o.ld t4 s20) fun t46 =>
 bd (o.ld t4 s20) fun t47 =>
 bd (o.add t47 t34) fun t49 =>
 bd (aPieceSl 1 t45 (some t46) (some t49) none) fun t50 =>
 bd2 (kf 81 [t50] s20) fun t51 s21 =>
 bd (o.fa 4 t7) fun t52 =>
 bd2 (o.st 1 t52 t51 s21) fun u22 s23 =>
 nm [t1, t2, t5, t7] s23)
 (nm [t1, t2, t5, t7] s20))
 (fun v24 s25 => o.vk v24 0 fun v24_0 =>
 o.vk v24 1 fun v24_1 =>
 o.vk v24 2 fun v24_2 =>
 o.vk v24 3 fun v24_3 =>
 nm [v24_0, v24_1, v24_2, v24_3] s25)
 (fun i26 v24 s25 => jE i26 v24 s25)
 (fun r27 s25 => jR r27 s25))
 (bd (o.eql t24 (I .i64 2)) fun t54 =>
 jn (o.br t54 (bd2 (dyn Tryz.prog kf t15 [] s16) fun t56 s28 =>
 bd (o.fa 3 t7) fun t57 =>
 bd2 (o.st 1 t57 t56 s28) fun u29 s30 =>
 nm [t1, t2, t5, t7] s30)
 (bd2 (dyn Tryz.prog kf t15 [] s16) fun t26 s31 =>
 bd (o.fa 2 t7) fun t27 =>
 bd2 (o.st 1 t27 t26 s31) fun u32 s33 =>
 nm [t1, t2, t5, t7] s33))
 (fun v34 s35 => o.vk v34 0 fun v34_0 =>
 o.vk v34 1 fun v34_1 =>
 o.vk v34 2 fun v34_2 =>
 o.vk v34 3 fun v34_3 =>
 nm [v34_0, v34_1, v34_2, v34_3] s35)
 (fun i36 v34 s35 => jE i36 v34 s35)
 (fun r37 s35 => jR r37 s35)))
 (fun v38 s39 => o.vk v38 0 fun v38_0 =>
 o.vk v38 1 fun v38_1 =>
 o.vk v38 2 fun v38_2 =>
 o.vk v38 3 fun v38_3 =>
 nm [v38_0, v38_1, v38_2, v38_3] s39)
 (fun i40 v38 s39 => if i40 = 0 then nm v38 s39 else jE i40 v38 s39)
 (fun r41 s39 => jR r41 s39))
 (fun v42 s43 => o.vk v42 0 fun v42_0 =>
 o.vk v42 1 fun v42_1 =>
 o.vk v42 2 fun v42_2 =>
 o.vk v42 3 fun v42_3 =>
 bd (o.ldn 5 v42_3 s43) fun t59 =>
 bd2 (kf 170 [t59] s43) fun t60 s46 =>
 bd (o.ex t60 0) fun t61 =>
 bd (o.ex t60 1) fun t62 =>
 bd (o.ld v42_2 s46) fun t63 =>
 bd (gF t63 (some t62)) fun t65 =>
 bd (gF t63 (o.neq t65 (I .i64 0))) fun t66 =>
 bd (pT t63 t66) fun t67 =>
 bd (gF t67 (some t61)) fun t69 =>
 bd (gF t67 (o.ld v42_0 s46)) fun t70 =>
 bd2 (gS (gd t67 false) s46 (kf 171 [t69, t70] s46)) fun t71 s47 =>
 bd (gF t67 (aUn .not t71)) fun t72 =>
 bd (pT t67 t72) fun t73 =>
 o.br t73 (bd (asAggT (aFill [.int .i64 0, .int .i64 0, .int .i64 0, .int .i64 0, .nils] [])) fun t74 =>
 bd2 (o.st 5 v42_1 t74 s47) fun u48 s49 =>
 bd (rC (o.ldn 5 v42_1 s49) (rT (I .i64 2) (some []))) fun l50 =>
 bd (retT l50) fun r51 =>
 jT r51 s49)
 (bd (o.ldn 5 v42_3 s47) fun t75 =>
 bd2 (o.st 5 v42_1 t75 s47) fun u52 s53 =>
 bd (rC (o.ldn 5 v42_1 s53) (rT (I .i64 0) (some []))) fun l54 =>
 bd (retT l54) fun r55 =>
 jT r55 s53))
 (fun i44 v42 s43 => none)
 (fun r45 s43 => jT r45 s43)
def f91 (o : Ops) (kf : CallF) (N : Nat) (a0 : T) (s : St) : Option (T × St) :=
 bd2 (o.new s (nBox a0)) fun t1 s1 =>
 bd2 (o.new s1 (nCells [.int .i64 0, .int .i64 0, .int .i64 0, .int .i64 0, .nils])) fun t2 s2 =>
 bd (o.ld t1 s2) fun t11 =>
 bd (o.ln t11) fun t12 =>
 bd (o.leq t12 (I .i64 4)) fun t13 =>
 o.br t13 (bd (asAggT (aFill [.int .i64 0, .int .i64 0, .int .i64 0, .int .i64 0, .nils] [])) fun t14 =>
 bd2 (o.st 5 t2 t14 s2) fun u3 s4 =>
 bd (rC (o.ldn 5 t2 s4) (rT (I .i64 2) (some []))) fun l5 =>
 bd (retT l5) fun r6 =>
 jT r6 s4)
 (bd2 (o.new s2 (nCells [.int .i64 0])) fun t4 s7 =>
 bd2 (o.new s7 (nCells [.bool false])) fun t5 s8 =>
 bd2 (o.st 1 t4 (I .i64 5) s8) fun u9 s10 =>
 bd2 (o.st 1 t5 (B false) s10) fun u11 s12 =>
 bd (aClo 169 [t1, t4, t5] []) fun t15 =>
 bd (o.ld t1 s12) fun t16 =>
 bd (o.ix 1 t16 (I .i64 4)) fun t17 =>
 bd (o.ld t17 s12) fun t18 =>
 bd (o.cv .i64 t18) fun t19 =>
 bd2 (dyn Tryz.prog kf t15 [] s12) fun t21 s13 =>
 bd (asAggT (aFill [.int .i64 0, .int .i64 0, .int .i64 0, .int .i64 0, .nils] [(0, 1, t19), (1, 1, t21)])) fun t22 =>
 bd2 (o.new s13 (nCells [.int .i64 0, .int .i64 0, .int .i64 0, .int .i64 0, .nils])) fun t7 s14 =>
 bd2 (o.st 5 t7 t22 s14) fun u15 s16 =>
 ck ((decide (aLoad1 t1 (updM (s13.get) s13.size (.cells true [.int .i64 0, .int .i64 0, .int .i64 0, .int .i64 0, .nils])) = o.ld t1 s12) && true) && ((decide (aLoad1 t17 (updM (s13.get) s13.size (.cells true [.int .i64 0, .int .i64 0, .int .i64 0, .int .i64 0, .nils])) = o.ld t17 s12) && true) && true)) (bd (o.fa 0 t7) fun t23 =>
 bd (o.ld t23 s16) fun t24 =>
 f91_1 o kf N t24 t15 s16 t7 t5 t1 t4 t2))
theorem f91_ok : Ok Tryz.prog 91 (fun c => L1 (f91 fast c 8192)) := ok1 (fun o c => f91 o c 8192) Tryz.func91 (by kernel_rfl) (fun c a0 s => by kernel_rfl)

/- (twin.Twin).arbitrate -/
def f92_1 (o : Ops) (kf : CallF) (N : Nat) (t15 t3 : T) (s1 : St) (a0 : T) : Option (T × St) :=
 o.br t15 (bd (o.fa 4 t3) fun t16 =>
 bd (o.ld t16 s1) fun t17 =>
 bd (asAggT (aFill [.nils, .int .i64 0, .bool false] [(0, 1, t17)])) fun t18 =>
 bd2 (o.new s1 (nBox t18)) fun t19 s3 =>
 bd2 (kf 95 [t19] s3) fun t21 s4 =>
 bd (o.eql t21 (I .i64 3)) fun t22 =>
 bd (gU t22 (some a0)) fun t24 =>
 bd (gU t22 (o.nil t24)) fun t25 =>
 bd (gU t22 (o.fa 3 t25)) fun t26 =>
 bd (gU t22 (o.ld t26 s4)) fun t27 =>
 bd2 (gS (gd t22 true) s4 (kf 84 [t27] s4)) fun t28 s5 =>
 bd (gU t22 (aField none 0 t28)) fun t29 =>
 bd (gU t22 (o.gtr t29 (I .i64 0))) fun t30 =>
 bd (pF t22 t30) fun t31 =>
 jn (o.br t31 (bd2 (kf 95 [t19] s5) fun t34 s6 =>
 bd (o.bin .and t34 (I .i64 1)) fun t35 =>
 bd (o.nil a0) fun t37 =>
 bd (o.fa 3 t37) fun t38 =>
 bd (o.ld t38 s6) fun t39 =>
 bd2 (kf 84 [t39] s6) fun t40 s7 =>
 bd (aField none 0 t40) fun t41 =>
 bd (o.nil a0) fun t43 =>
 bd (o.fa 3 t43) fun t44 =>
 bd (o.ld t44 s7) fun t45 =>
 bd2 (kf 84 [t45] s7) fun t46 s8 =>
 bd (aField none 1 t46) fun t47 =>
 bd (asAggT (aFill [.int .i64 0, .int .i64 0, .int .i64 0, .int .i64 0, .nils] [(0, 1, (I .i64 3)), (1, 1, t41), (2, 1, t47)])) fun t48 =>
 bd2 (kf 172 [a0, t35, t48] s8) fun t49 s9 =>
 ck ((decide (o.ld t38 s5 = o.ld t38 s6) && true) && ((decide (o.ld t44 s5 = o.ld t44 s7) && (decide (o.ld t44 s6 = o.ld t44 s7) && true)) && true)) (nm [] s9))
 (nm [] s5))
 (fun v10 s11 => bd (retT []) fun r14 =>
 jT r14 s11)
 (fun i12 v10 s11 => none)
 (fun r13 s11 => jT r13 s11))
 (bd (o.fa 0 t3) fun t50 =>
 bd (o.ld t50 s1) fun t51 =>
 bd (o.neq t51 (I .i64 4)) fun t52 =>
 o.br t52 (bd (retT []) fun r15 =>
 jT r15 s1)
 (bd (o.nil a0) fun t54 =>
 bd (o.fa 3 t54) fun t55 =>
 bd (o.ld t55 s1) fun t56 =>
 bd2 (kf 84 [t56] s1) fun t57 s16 =>
 bd2 (o.new s16 (nCells [.int .i64 0, .int .i64 0])) fun t5 s17 =>
 bd2 (o.st 2 t5 t57 s17) fun u18 s19 =>
 bd (o.nil a0) fun t60 =>
 bd (o.fa 3 t60) fun t61 =>
 bd (o.ld t61 s19) fun t62 =>
 bd (o.fa 2 t3) fun t63 =>
 bd (o.ld t63 s19) fun t64 =>
 bd (o.fa 1 t3) fun t65 =>
 bd (o.ld t65 s19) fun t66 =>
 bd2 (kf 173 [t62, t64, t66] s19) fun t67 s20 =>
 bd (o.ex t67 0) fun t68 =>
 bd (o.ex t67 1) fun t69 =>
 bd2 (o.new s20 (nCells [.int .i64 0, .int .i64 0])) fun t6 s21 =>
 bd2 (o.st 2 t6 t68 s21) fun u22 s23 =>
 bd (o.neq t69 (I .i64 0)) fun t71 =>
 o.br t71 (bd (retT []) fun r24 =>
 jT r24 s23)
 (bd (o.fa 2 t3) fun t73 =>
 bd (o.ld t73 s23) fun t74 =>
 bd (o.fa 0 t6) fun t75 =>
 bd (o.ld t75 s23) fun t76 =>
 bd (o.fa 1 t6) fun t77 =>
 bd (o.ld t77 s23) fun t78 =>
 bd (asAggT (aFill [.int .i64 0, .int .i64 0, .int .i64 0, .int .i64 0, .nils] [(0, 1, (I .i64 3)), (1, 1, t76), (2, 1, t78)])) fun t79 =>
 bd2 (kf 172 [a0, t74, t79] s23) fun t80 s25 =>
 bd (o.ldn 2 t6 s25) fun t81 =>
 bd (o.ldn 2 t5 s25) fun t82 =>
 bd (neB (.a 2 [(0, .i), (1, .i)]) t81 t82) fun t83 =>
 jn (o.br t83 (bd (o.fa 2 t3) fun t85 =>
 bd (o.ld t85 s25) fun t86 =>
 bd (o.sub (I .i64 1) t86) fun t87 =>
 bd (o.fa 0 t6) fun t88 =>
 bd (o.ld t88 s25) fun t89 =>
 bd (o.fa 1 t6) fun t90 =>
 bd (o.ld t90 s25) fun t91 =>
 bd (asAggT (aFill [.int .i64 0, .int .i64 0, .int .i64 0, .int .i64 0, .nils] [(0, 1, (I .i64 3)), (1, 1, t89), (2, 1, t91)])) fun t92 =>
 bd2 (kf 172 [a0, t87, t92] s25) fun t93 s26 =>
 nm [] s26)
 (nm [] s25))
 (fun v27 s28 => bd (retT []) fun r31 =>
 jT r31 s28)
 (fun i29 v27 s28 => none)
 (fun r30 s28 => jT r30 s28))))
def f92 (o : Ops) (kf : CallF) (N : Nat) (a0 a1 : T) (s : St) : Option (T × St) :=
 bd2 (o.new s (nBox a1)) fun t3 s1 =>
 bd (o.nil a0) fun t9 =>
 bd (o.fa 3 t9) fun t10 =>
 bd (o.ld t10 s1) fun t11 =>
 bd (eqB .p t11 (Z .nilp)) fun t12 =>
 o.br t12 (bd (retT []) fun r2 =>
 jT r2 s1)
 (bd (o.fa 0 t3) fun t13 =>
 bd (o.ld t13 s1) fun t14 =>
 bd (o.eql t14 (I .i64 1)) fun t15 =>
 f92_1 o kf N t15 t3 s1 a0)
theorem f92_ok : Ok Tryz.prog 92 (fun c => L2 (f92 fast c 8192)) := ok2 (fun o c => f92 o c 8192) Tryz.func92 (by kernel_rfl) (fun c a0 a1 s => by kernel_rfl)

/- (twin.site).learn -/
def f93_1 (o : Ops) (kf : CallF) (N : Nat) (t13 a0 : T) (s : St) (a1 a2 : T) : Option (T × St) :=
 o.br t13 (bd (o.nil a0) fun t16 =>
 bd (o.fa 5 t16) fun t17 =>
 bd (o.ld t17 s) fun t18 =>
 bd (o.eql a1 t18) fun t19 =>
 bd (gU t19 (some a2)) fun t21 =>
 bd (gU t19 (some a0)) fun t22 =>
 bd (gU t19 (o.nil t22)) fun t23 =>
 bd (gU t19 (o.fa 6 t23)) fun t24 =>
 bd (gU t19 (o.ld t24 s)) fun t25 =>
 bd (gU t19 (o.eql t21 t25)) fun t26 =>
 bd (pF t19 t26) fun t27 =>
 jT t27 s)
 (bd (o.nil a0) fun t29 =>
 bd (o.fa 7 t29) fun t30 =>
 bd (o.ld t30 s) fun t31 =>
 bd (o.nil a0) fun t34 =>
 bd (o.fa 0 t34) fun t35 =>
 bd (o.ld t35 s) fun t36 =>
 bd (o.eql a2 t36) fun t37 =>
 jn (o.br t37 (nm [a0, a1, a2, a1] s)
 (nm [a0, a1, a2, t31] s))
 (fun v1 s2 => o.vk v1 0 fun v1_0 =>
 o.vk v1 1 fun v1_1 =>
 o.vk v1 2 fun v1_2 =>
 o.vk v1 3 fun v1_3 =>
 bd2 (kf 174 [v1_0, v1_1, v1_2, v1_3] s2) fun t43 s5 =>
 bd (aUn .not t43) fun t44 =>
 o.br t44 (jT (B false) s5)
 (bd (o.nil v1_0) fun t46 =>
 bd (o.fa 4 t46) fun t47 =>
 bd (o.ld t47 s5) fun t48 =>
 bd2 (kf 175 [t48, v1_1] s5) fun t50 s6 =>
 bd (asAggT (aFill [.bool false, .int .i64 0, .int .i64 0, .int .i64 0, .bool false] [])) fun t57 =>
 bd (o.nil v1_0) fun t58 =>
 bd (o.fa 17 t58) fun t59 =>
 bd2 (o.st 5 t59 t57 s6) fun u7 s8 =>
 bd (o.nil v1_0) fun t60 =>
 bd (o.fa 27 t60) fun t61 =>
 bd2 (o.st 1 t61 (I .i64 0) s8) fun u9 s10 =>
 bd (o.nil v1_0) fun t62 =>
 bd (o.fa 28 t62) fun t63 =>
 bd2 (o.st 1 t63 (B false) s10) fun u11 s12 =>
 bd (o.nil v1_0) fun t64 =>
 bd (o.fa 25 t64) fun t65 =>
 bd2 (o.st 1 t65 (Z .nils) s12) fun u13 s14 =>
 bd (o.nil v1_0) fun t66 =>
 bd (o.fa 26 t66) fun t67 =>
 bd2 (o.st 1 t67 (I .i64 0) s14) fun u15 s16 =>
 bd (o.nil v1_0) fun t68 =>
 bd (o.fa 24 t68) fun t69 =>
 bd2 (o.st 1 t69 (I .i64 0) s16) fun u17 s18 =>
 bd2 (kf 64 [v1_0] s18) fun t71 s19 =>
 jn (o.br t71 (bd (o.nil v1_0) fun t73 =>
 bd (o.fa 16 t73) fun t74 =>
 bd2 (o.st 1 t74 (B false) s19) fun u20 s21 =>
 bd2 (kf 105 [v1_0] s21) fun t76 s22 =>
 bd (o.nil v1_0) fun t78 =>
 bd (o.fa 4 t78) fun t79 =>
 bd (o.ld t79 s22) fun t80 =>
 bd (o.nil v1_0) fun t82 =>
 bd (o.fa 3 t82) fun t83 =>
 bd (o.ld t83 s22) fun t84 =>
 bd2 (kf 151 [t84] s22) fun t85 s23 =>
 bd2 (kf 176 [t80, t85] s23) fun t86 s24 =>
 ck ((decide (o.ld t79 s23 = o.ld t79 s22) && true) && true) (nm [v1_0] s24))
 (nm [v1_0] s19))
 (fun v25 s26 => o.vk v25 0 fun v25_0 =>
 bd2 (kf 108 [v25_0] s26) fun t88 s29 =>
 jT (B true) s29)
 (fun i27 v25 s26 => none)
 (fun r28 s26 => jT r28 s26)))
 (fun i3 v1 s2 => none)
 (fun r4 s2 => jT r4 s2))
def f93 (o : Ops) (kf : CallF) (N : Nat) (a0 a1 a2 : T) (s : St) : Option (T × St) :=
 bd (o.nil a0) fun t10 =>
 bd (o.fa 5 t10) fun t11 =>
 bd (o.ld t11 s) fun t12 =>
 bd (o.leq a1 t12) fun t13 =>
 f93_1 o kf N t13 a0 s a1 a2
theorem f93_ok : Ok Tryz.prog 93 (fun c => L3 (f93 fast c 8192)) := ok3 (fun o c => f93 o c 8192) Tryz.func93 (by kernel_rfl) (fun c a0 a1 a2 s => by kernel_rfl)

/- (twin.Twin).ask -/
def f94 (o : Ops) (kf : CallF) (N : Nat) (a0 a1 : T) (s : St) : Option (T × St) :=
 bd2 (kf 64 [a1] s) fun t5 s1 =>
 bd (gF t5 (some a1)) fun t7 =>
 bd (gF t5 (o.nil t7)) fun t8 =>
 bd (gF t5 (o.fa 7 t8)) fun t9 =>
 bd (gF t5 (o.ld t9 s1)) fun t10 =>
 bd (gF t5 (some a1)) fun t11 =>
 bd (gF t5 (o.nil t11)) fun t12 =>
 bd (gF t5 (o.fa 5 t12)) fun t13 =>
 bd (gF t5 (o.ld t13 s1)) fun t14 =>
 bd (gF t5 (o.eql t10 t14)) fun t15 =>
 bd (pT t5 t15) fun t16 =>
 jn (o.br t16 (bd (o.nil a1) fun t19 =>
 bd (o.fa 5 t19) fun t20 =>
 bd (o.ld t20 s1) fun t21 =>
 bd (o.nil a1) fun t23 =>
 bd (o.fa 0 t23) fun t24 =>
 bd (o.ld t24 s1) fun t25 =>
 bd (asAggT (aFill [.int .i64 0, .int .i64 0, .int .i64 0, .int .i64 0, .nils] [(0, 1, (I .i64 4)), (1, 1, t21), (2, 1, t25)])) fun t26 =>
 bd2 (kf 172 [a0, (I .i64 2), t26] s1) fun t27 s2 =>
 bd (o.nil a0) fun t30 =>
 bd (o.fa 0 t30) fun t31 =>
 bd (o.ld t31 s2) fun t32 =>
 bd (o.add t32 (I .i64 4)) fun t33 =>
 bd (o.nil a1) fun t34 =>
 bd (o.fa 23 t34) fun t35 =>
 bd2 (o.st 1 t35 t33 s2) fun u3 s4 =>
 nm [] s4)
 (nm [] s1))
 (fun v5 s6 => bd (retT []) fun r9 =>
 jT r9 s6)
 (fun i7 v5 s6 => none)
 (fun r8 s6 => jT r8 s6)
theorem f94_ok : Ok Tryz.prog 94 (fun c => L2 (f94 fast c 8192)) := ok2 (fun o c => f94 o c 8192) Tryz.func94 (by kernel_rfl) (fun c a0 a1 s => by kernel_rfl)

/- (twin.reader).next -/
def f95 (o : Ops) (kf : CallF) (N : Nat) (a0 : T) (s : St) : Option (T × St) :=
 bd (o.nil a0) fun t8 =>
 bd (o.fa 0 t8) fun t9 =>
 bd (o.ld t9 s) fun t10 =>
 bd (o.nil a0) fun t12 =>
 bd (o.fa 1 t12) fun t13 =>
 bd (o.ld t13 s) fun t14 =>
 bd2 (kf 153 [t10, t14] s) fun t15 s1 =>
 bd (o.ex t15 0) fun t16 =>
 bd (o.ex t15 1) fun t17 =>
 bd (o.ex t15 2) fun t18 =>
 bd (o.nil a0) fun t21 =>
 bd (o.fa 2 t21) fun t22 =>
 bd (o.ld t22 s1) fun t23 =>
 bd (gF t23 (some t18)) fun t25 =>
 bd (gF t23 (o.neq t25 (I .i64 0))) fun t26 =>
 bd (pT t23 t26) fun t27 =>
 bd (o.nil a0) fun t28 =>
 bd (o.fa 2 t28) fun t29 =>
 bd2 (o.st 1 t29 t27 s1) fun u2 s3 =>
 bd (o.nil a0) fun t32 =>
 bd (o.fa 1 t32) fun t33 =>
 bd2 (o.st 1 t33 t17 s3) fun u4 s5 =>
 bd2 (kf 177 [t16] s5) fun t35 s6 =>
 jT t35 s6
theorem f95_ok : Ok Tryz.prog 95 (fun c => L1 (f95 fast c 8192)) := ok1 (fun o c => f95 o c 8192) Tryz.func95 (by kernel_rfl) (fun c a0 s => by kernel_rfl)

/- (twin.Twin).status -/
def f96_1 (o : Ops) (kf : CallF) (N : Nat) (t89 t94 : T) (s18 : St) (t92 v11_5 v11_1 v11_3 v11_2 v11_0 v11_4 : T) : Option (T × St) :=
 bd (gF t89 (o.fa 17 t94)) fun t95 =>
 bd (gF t89 (o.fa 3 t95)) fun t96 =>
 bd (gF t89 (o.ld t96 s18)) fun t97 =>
 bd (gF t89 (o.neq t92 t97)) fun t98 =>
 bd (pT t89 t98) fun t99 =>
 bd (gF v11_5 (some v11_1)) fun t102 =>
 bd (gF v11_5 (o.nil t102)) fun t103 =>
 bd (gF v11_5 (o.fa 17 t103)) fun t104 =>
 bd (gF v11_5 (o.fa 4 t104)) fun t105 =>
 bd (gF v11_5 (o.ld t105 s18)) fun t106 =>
 bd (pT v11_5 t106) fun t107 =>
 bd (o.fa 4 v11_3) fun t108 =>
 bd2 (o.st 1 t108 t107 s18) fun u20 s21 =>
 bd (o.ldn 5 v11_3 s21) fun t110 =>
 bd (o.nil v11_1) fun t111 =>
 bd (o.fa 17 t111) fun t112 =>
 bd2 (o.st 5 t112 t110 s21) fun u22 s23 =>
 bd (o.nil v11_1) fun t114 =>
 bd (o.fa 4 t114) fun t115 =>
 bd (o.ld t115 s23) fun t116 =>
 bd (o.nil v11_1) fun t118 =>
 bd (o.fa 3 t118) fun t119 =>
 bd (o.ld t119 s23) fun t120 =>
 bd2 (kf 151 [t120] s23) fun t121 s24 =>
 bd2 (kf 176 [t116, t121] s24) fun t122 s25 =>
 ck ((decide (o.ld t115 s24 = o.ld t115 s23) && true) && true) (bd (o.nil v11_1) fun t124 =>
 bd (o.fa 4 t124) fun t125 =>
 bd (o.ld t125 s25) fun t126 =>
 bd (o.fa 1 v11_3) fun t128 =>
 bd (o.ld t128 s25) fun t129 =>
 bd (o.nil v11_1) fun t131 =>
 bd (o.fa 3 t131) fun t132 =>
 bd (o.ld t132 s25) fun t133 =>
 bd2 (kf 151 [t133] s25) fun t134 s26 =>
 bd (aFold aMin2 t129 [t134]) fun t135 =>
 bd2 (kf 179 [t126, v11_2, t135] s26) fun t136 s27 =>
 ck ((decide (o.ld t125 s26 = o.ld t125 s25) && true) && ((decide (o.ld t128 s26 = o.ld t128 s25) && true) && true)) (bd (o.nil v11_1) fun t139 =>
 bd (o.fa 0 t139) fun t140 =>
 bd (o.ld t140 s27) fun t141 =>
 bd2 (kf 181 [v11_1] s27) fun t144 s28 =>
 bd2 (kf 180 [v11_0, t141, v11_2, t144] s28) fun t145 s29 =>
 ck ((decide (o.ld t140 s28 = o.ld t140 s27) && true) && true) (bd (gF v11_4 (some t99)) fun t148 =>
 bd (gF v11_4 (some t148)) fun t149 =>
 bd (gU t149 (some v11_1)) fun t150 =>
 bd2 (gS (gd t149 true) s29 (kf 182 [t150] s29)) fun t151 s30 =>
 bd (gF v11_4 (pF t149 t151)) fun t152 =>
 bd (pT v11_4 t152) fun t153 =>
 jn (o.br t153 (bd2 (kf 183 [v11_0, v11_1] s30) fun t156 s31 =>
 nm [] s31)
 (nm [] s30))
 (fun v32 s33 => bd (retT []) fun r36 =>
 jT r36 s33)
 (fun i34 v32 s33 => none)
 (fun r35 s33 => jT r35 s33))))
def f96_2 (o : Ops) (kf : CallF) (N : Nat) (t28 t32 : T) (s8 : St) (a1 a2 a0 t8 t21 t24 : T) : Option (T × St) :=
 bd (pT t28 t32) fun t33 =>
 o.br t33 (bd (retT []) fun r9 =>
 jT r9 s8)
 (bd (o.nil a1) fun t36 =>
 bd (o.fa 5 t36) fun t37 =>
 bd (o.ld t37 s8) fun t38 =>
 bd (o.gtr a2 t38) fun t39 =>
 jn (o.br t39 (bd (o.nil a1) fun t43 =>
 bd (o.fa 0 t43) fun t44 =>
 bd (o.ld t44 s8) fun t45 =>
 bd2 (kf 93 [a1, a2, t45] s8) fun t46 s10 =>
 nm [a0, a1, a2, t8, t21, t24] s10)
 (nm [a0, a1, a2, t8, t21, t24] s8))
 (fun v11 s12 => o.vk v11 0 fun v11_0 =>
 o.vk v11 1 fun v11_1 =>
 o.vk v11 2 fun v11_2 =>
 o.vk v11 3 fun v11_3 =>
 o.vk v11 4 fun v11_4 =>
 o.vk v11 5 fun v11_5 =>
 bd (o.nil v11_1) fun t49 =>
 bd (o.fa 5 t49) fun t50 =>
 bd (o.ld t50 s12) fun t51 =>
 bd (o.neq v11_2 t51) fun t52 =>
 bd (gF t52 (some v11_1)) fun t54 =>
 bd2 (gS (gd t52 false) s12 (kf 64 [t54] s12)) fun t55 s15 =>
 bd (gF t52 (aUn .not t55)) fun t56 =>
 bd (pT t52 t56) fun t57 =>
 o.br t57 (bd2 (kf 178 [v11_0, v11_1] s15) fun t60 s16 =>
 bd (retT []) fun r17 =>
 jT r17 s16)
 (bd2 (kf 105 [v11_1] s15) fun t62 s18 =>
 bd (aUn .not t62) fun t63 =>
 o.br t63 (bd (retT []) fun r19 =>
 jT r19 s18)
 (bd (o.nil v11_1) fun t65 =>
 bd (o.fa 17 t65) fun t66 =>
 bd (o.fa 0 t66) fun t67 =>
 bd (o.ld t67 s18) fun t68 =>
 bd (aUn .not t68) fun t69 =>
 bd (gF t69 (o.fa 1 v11_3)) fun t71 =>
 bd (gF t69 (o.ld t71 s18)) fun t72 =>
 bd (gF t69 (some v11_1)) fun t73 =>
 bd (gF t69 (o.nil t73)) fun t74 =>
 bd (gF t69 (o.fa 17 t74)) fun t75 =>
 bd (gF t69 (o.fa 1 t75)) fun t76 =>
 bd (gF t69 (o.ld t76 s18)) fun t77 =>
 bd (gF t69 (o.gtr t72 t77)) fun t78 =>
 bd (pT t69 t78) fun t79 =>
 bd (gF t79 (o.fa 2 v11_3)) fun t81 =>
 bd (gF t79 (o.ld t81 s18)) fun t82 =>
 bd (gF t79 (some v11_1)) fun t83 =>
 bd (gF t79 (o.nil t83)) fun t84 =>
 bd (gF t79 (o.fa 17 t84)) fun t85 =>
 bd (gF t79 (o.fa 2 t85)) fun t86 =>
 bd (gF t79 (o.ld t86 s18)) fun t87 =>
 bd (gF t79 (o.gtr t82 t87)) fun t88 =>
 bd (pT t79 t88) fun t89 =>
 bd (gF t89 (o.fa 3 v11_3)) fun t91 =>
 bd (gF t89 (o.ld t91 s18)) fun t92 =>
 bd (gF t89 (some v11_1)) fun t93 =>
 bd (gF t89 (o.nil t93)) fun t94 =>
 f96_1 o kf N t89 t94 s18 t92 v11_5 v11_1 v11_3 v11_2 v11_0 v11_4)))
 (fun i13 v11 s12 => none)
 (fun r14 s12 => jT r14 s12))
def f96 (o : Ops) (kf : CallF) (N : Nat) (a0 a1 a2 a3 : T) (s : St) : Option (T × St) :=
 bd2 (kf 95 [a3] s) fun t13 s1 =>
 bd2 (kf 95 [a3] s1) fun t15 s2 =>
 bd2 (kf 95 [a3] s2) fun t17 s3 =>
 bd (asAggT (aFill [.bool false, .int .i64 0, .int .i64 0, .int .i64 0, .bool false] [(0, 1, (B true)), (1, 1, t13), (2, 1, t15), (3, 1, t17)])) fun t18 =>
 bd2 (o.new s3 (nCells [.bool false, .int .i64 0, .int .i64 0, .int .i64 0, .bool false])) fun t8 s4 =>
 bd2 (o.st 5 t8 t18 s4) fun u5 s6 =>
 bd2 (kf 95 [a3] s6) fun t20 s7 =>
 bd (o.eql t20 (I .i64 1)) fun t21 =>
 bd2 (kf 95 [a3] s7) fun t23 s8 =>
 bd (o.eql t23 (I .i64 1)) fun t24 =>
 bd (o.nil a3) fun t26 =>
 bd (o.fa 2 t26) fun t27 =>
 bd (o.ld t27 s8) fun t28 =>
 bd (gF t28 (o.fa 1 t8)) fun t30 =>
 bd (gF t28 (o.ld t30 s8)) fun t31 =>
 bd (gF t28 (o.lss t31 (I .i64 0))) fun t32 =>
 f96_2 o kf N t28 t32 s8 a1 a2 a0 t8 t21 t24
theorem f96_ok : Ok Tryz.prog 96 (fun c => L4 (f96 fast c 8192)) := ok4 (fun o c => f96 o c 8192) Tryz.func96 (by kernel_rfl) (fun c a0 a1 a2 a3 s => by kernel_rfl)

/- (twin.Twin).data -/
def f97_1 (o : Ops) (kf : CallF) (N : Nat) (t81 t83 v7_1 : T) (s16 : St) (v7_3 v7_2 v7_0 : T) : Option (T × St) :=
 bd (o.geq t81 t83) fun t84 =>
 bd (gU t84 (some v7_1)) fun t86 =>
 bd (gU t84 (o.nil t86)) fun t87 =>
 bd (gU t84 (o.fa 27 t87)) fun t88 =>
 bd (gU t84 (o.ld t88 s16)) fun t89 =>
 bd (gU t84 (some v7_1)) fun t90 =>
 bd (gU t84 (o.nil t90)) fun t91 =>
 bd (gU t84 (o.fa 3 t91)) fun t92 =>
 bd (gU t84 (o.ld t92 s16)) fun t93 =>
 bd2 (gS (gd t84 true) s16 (kf 114 [t93] s16)) fun t94 s17 =>
 bd (gU t84 (o.ln t94)) fun t95 =>
 bd (gU t84 (o.eql t89 t95)) fun t96 =>
 bd (pF t84 t96) fun t97 =>
 bd (gU t97 (some v7_1)) fun t99 =>
 bd (gU t97 (o.nil t99)) fun t100 =>
 bd (gU t97 (o.fa 8 t100)) fun t101 =>
 bd (gU t97 (o.fa 1 t101)) fun t102 =>
 bd (gU t97 (o.ld t102 s17)) fun t103 =>
 bd (gU t97 (o.fa 1 v7_3)) fun t104 =>
 bd (gU t97 (o.ld t104 s17)) fun t105 =>
 bd (gU t97 (o.geq t103 t105)) fun t106 =>
 bd (pF t97 t106) fun t107 =>
 ck ((wq (gd t84 true) (decide (o.ld t88 s17 = o.ld t88 s16)) && true) && true) (bd (o.nil v7_1) fun t110 =>
 bd (o.fa 28 t110) fun t111 =>
 bd2 (o.st 1 t111 t107 s17) fun u18 s19 =>
 bd (gU t107 (some v7_1)) fun t114 =>
 bd (gU t107 (o.nil t114)) fun t115 =>
 bd (gU t107 (o.fa 7 t115)) fun t116 =>
 bd (gU t107 (o.ld t116 s19)) fun t117 =>
 bd (gU t107 (some v7_2)) fun t118 =>
 bd (gU t107 (o.neq t117 t118)) fun t119 =>
 bd (pF t107 t119) fun t120 =>
 jn (o.br t120 (bd (o.nil v7_1) fun t123 =>
 bd (o.fa 5 t123) fun t124 =>
 bd (o.ld t124 s19) fun t125 =>
 bd (o.nil v7_1) fun t127 =>
 bd (o.fa 6 t127) fun t128 =>
 bd (o.ld t128 s19) fun t129 =>
 bd2 (kf 174 [v7_1, t125, t129, v7_2] s19) fun t131 s20 =>
 nm [v7_0, v7_1] s20)
 (nm [v7_0, v7_1] s19))
 (fun v21 s22 => o.vk v21 0 fun v21_0 =>
 o.vk v21 1 fun v21_1 =>
 bd (o.nil v21_1) fun t133 =>
 bd (o.fa 16 t133) fun t134 =>
 bd (o.ld t134 s22) fun t135 =>
 jn (o.br t135 (bd2 (kf 94 [v21_0, v21_1] s22) fun t138 s25 =>
 nm [v21_0, v21_1] s25)
 (nm [v21_0, v21_1] s22))
 (fun v26 s27 => o.vk v26 0 fun v26_0 =>
 o.vk v26 1 fun v26_1 =>
 bd2 (kf 187 [v26_0, v26_1, (I .i64 0)] s27) fun t141 s30 =>
 bd (retT []) fun r31 =>
 jT r31 s30)
 (fun i28 v26 s27 => none)
 (fun r29 s27 => jT r29 s27))
 (fun i23 v21 s22 => none)
 (fun r24 s22 => jT r24 s22))
def f97_2 (o : Ops) (kf : CallF) (N : Nat) (t15 t8 : T) (s4 : St) (a1 a2 a0 : T) : Option (T × St) :=
 bd (gF t15 (o.fa 4 t8)) fun t17 =>
 bd (gF t15 (o.ld t17 s4)) fun t18 =>
 bd (gF t15 (o.lss t18 (I .i64 0))) fun t19 =>
 bd (pT t15 t19) fun t20 =>
 o.br t20 (bd (retT []) fun r5 =>
 jT r5 s4)
 (bd (o.nil a1) fun t23 =>
 bd (o.fa 5 t23) fun t24 =>
 bd (o.ld t24 s4) fun t25 =>
 bd (o.gtr a2 t25) fun t26 =>
 jn (o.br t26 (bd (o.nil a1) fun t30 =>
 bd (o.fa 0 t30) fun t31 =>
 bd (o.ld t31 s4) fun t32 =>
 bd (o.sub (I .i64 1) t32) fun t33 =>
 bd2 (kf 93 [a1, a2, t33] s4) fun t34 s6 =>
 nm [a0, a1, a2, t8] s6)
 (nm [a0, a1, a2, t8] s4))
 (fun v7 s8 => o.vk v7 0 fun v7_0 =>
 o.vk v7 1 fun v7_1 =>
 o.vk v7 2 fun v7_2 =>
 o.vk v7 3 fun v7_3 =>
 bd (o.nil v7_1) fun t37 =>
 bd (o.fa 5 t37) fun t38 =>
 bd (o.ld t38 s8) fun t39 =>
 bd (o.lss v7_2 t39) fun t40 =>
 o.br t40 (bd2 (kf 178 [v7_0, v7_1] s8) fun t43 s11 =>
 bd (retT []) fun r12 =>
 jT r12 s11)
 (bd (o.nil v7_1) fun t46 =>
 bd (o.fa 5 t46) fun t47 =>
 bd (o.ld t47 s8) fun t48 =>
 bd (o.neq v7_2 t48) fun t49 =>
 bd (gF t49 (some v7_1)) fun t51 =>
 bd (gF t49 (o.nil t51)) fun t52 =>
 bd (gF t49 (o.fa 6 t52)) fun t53 =>
 bd (gF t49 (o.ld t53 s8)) fun t54 =>
 bd (gF t49 (some v7_1)) fun t55 =>
 bd (gF t49 (o.nil t55)) fun t56 =>
 bd (gF t49 (o.fa 0 t56)) fun t57 =>
 bd (gF t49 (o.ld t57 s8)) fun t58 =>
 bd (gF t49 (o.eql t54 t58)) fun t59 =>
 bd (pT t49 t59) fun t60 =>
 o.br t60 (bd (retT []) fun r13 =>
 jT r13 s8)
 (bd (o.nil v7_1) fun t62 =>
 bd (o.fa 8 t62) fun t63 =>
 bd (o.fa 0 t63) fun t64 =>
 bd (o.ld t64 s8) fun t65 =>
 bd (o.neq t65 v7_2) fun t67 =>
 bd (gU t67 (some v7_1)) fun t69 =>
 bd (gU t67 (some v7_2)) fun t70 =>
 bd (gU t67 (asAggT (aFill [.int .i64 0, .int .i64 0, .int .i64 0, .int .i64 0, .nils] [(0, 1, t70)]))) fun t71 =>
 bd2 (gS (gd t67 true) s8 (kf 185 [t69, t71] s8)) fun t72 s14 =>
 bd (gU t67 (aUn .not t72)) fun t73 =>
 bd (pF t67 t73) fun t74 =>
 o.br t74 (bd (retT []) fun r15 =>
 jT r15 s14)
 (bd (o.ldn 8 v7_3 s14) fun t76 =>
 bd2 (kf 186 [v7_1, t76] s14) fun t77 s16 =>
 bd (o.nil v7_1) fun t79 =>
 bd (o.fa 27 t79) fun t80 =>
 bd (o.ld t80 s16) fun t81 =>
 bd (o.fa 0 v7_3) fun t82 =>
 bd (o.ld t82 s16) fun t83 =>
 f97_1 o kf N t81 t83 v7_1 s16 v7_3 v7_2 v7_0))))
 (fun i9 v7 s8 => none)
 (fun r10 s8 => jT r10 s8))
def f97 (o : Ops) (kf : CallF) (N : Nat) (a0 a1 a2 a3 : T) (s : St) : Option (T × St) :=
 bd2 (kf 184 [a3] s) fun t11 s1 =>
 bd2 (o.new s1 (nCells [.int .i64 0, .int .i64 0, .int .i64 0, .int .i64 0, .int .i64 0, .nils, .nils, .nils])) fun t8 s2 =>
 bd2 (o.st 8 t8 t11 s2) fun u3 s4 =>
 bd (o.nil a3) fun t13 =>
 bd (o.fa 2 t13) fun t14 =>
 bd (o.ld t14 s4) fun t15 =>
 f97_2 o kf N t15 t8 s4 a1 a2 a0
theorem f97_ok : Ok Tryz.prog 97 (fun c => L4 (f97 fast c 8192)) := ok4 (fun o c => f97 o c 8192) Tryz.func97 (by kernel_rfl) (fun c a0 a1 a2 a3 s => by kernel_rfl)

/- slices.Contains[[]int,int] -/
def f98 (o : Ops) (kf : CallF) (N : Nat) (a0 a1 : T) (s : St) : Option (T × St) :=
 bd2 (kf 188 [a0, a1] s) fun t7 s1 =>
 bd (o.geq t7 (I .i64 0)) fun t8 =>
 jT t8 s1
theorem f98_ok : Ok Tryz.prog 98 (fun c => L2 (f98 fast c 8192)) := ok2 (fun o c => f98 o c 8192) Tryz.func98 (by kernel_rfl) (fun c a0 a1 s => by kernel_rfl)

/- (air.Air).look -/
def f99_l1 (o : Ops) (kf : CallF) (N : Nat) (v : List T) (s : St) : Option (JO × St) :=
 o.vk v 0 fun v_0 =>
 o.vk v 1 fun v_1 =>
 o.vk v 2 fun v_2 =>
 jn (bd (o.nil v_0) fun t9 =>
 bd (o.fa 1 t9) fun t10 =>
 bd (o.ld t10 s) fun t11 =>
 bd2 (aSelR (.int .i64 0) t11 s) fun t12 s1 =>
 bd (o.ex t12 0) fun t13 =>
 bd (o.eql t13 (I .i64 0)) fun t14 =>
 jn (o.br t14 (bd (o.ex t12 2) fun t15 =>
 bd2 (dyn Tryz.prog kf v_1 [t15] s1) fun t18 s2 =>
 jn (o.br t18 (bd2 (o.new s2 (nSlice 1 (aFill [.int .i64 0] [(0, 1, t15)]))) fun t21 s3 =>
 bd2 (aAppend 1 8 v_2 t21 s3) fun t22 s4 =>
 nm [v_0, v_1, t22] s4)
 (nm [v_0, v_1, v_2] s2))
 (fun v5 s6 => o.vk v5 0 fun v5_0 =>
 o.vk v5 1 fun v5_1 =>
 o.vk v5 2 fun v5_2 =>
 nm [v5_0, v5_1, v5_2] s6)
 (fun i7 v5 s6 => if i7 = 2 then nm v5 s6 else jE i7 v5 s6)
 (fun r8 s6 => jR r8 s6))
 (jE 0 [v_0, v_2] s1))
 (fun v9 s10 => o.vk v9 0 fun v9_0 =>
 o.vk v9 1 fun v9_1 =>
 o.vk v9 2 fun v9_2 =>
 nm [v9_0, v9_1, v9_2] s10)
 (fun i11 v9 s10 => if i11 = 1 then nm v9 s10 else jE i11 v9 s10)
 (fun r12 s10 => jR r12 s10))
 (fun v13 s14 => o.vk v13 0 fun v13_0 =>
 o.vk v13 1 fun v13_1 =>
 o.vk v13 2 fun v13_2 =>
 nm [v13_0, v13_1, v13_2] s14)
 (fun i15 v13 s14 => jE i15 v13 s14)
 (fun r16 s14 => jR r16 s14)
def f99_l2 (o : Ops) (kf : CallF) (N : Nat) (v : List T) (s : St) : Option (JO × St) :=
 o.vk v 0 fun v_0 =>
 o.vk v 1 fun v_1 =>
 o.vk v 2 fun v_2 =>
 o.vk v 3 fun v_3 =>
 bd (o.lss v_3 v_2) fun t26 =>
 o.br t26 (jn (bd (o.ix 1 v_1 v_3) fun t27 =>
 bd (o.ld t27 s) fun t28 =>
 bd (o.nil v_0) fun t30 =>
 bd (o.fa 1 t30) fun t31 =>
 bd (o.ld t31 s) fun t32 =>
 bd2 (aSend t32 t28 s) fun u25 s26 =>
 nm [v_0, v_1, v_2, v_3] s26)
 (fun v27 s28 => o.vk v27 0 fun v27_0 =>
 o.vk v27 1 fun v27_1 =>
 o.vk v27 2 fun v27_2 =>
 o.vk v27 3 fun v27_3 =>
 bd (o.add v27_3 (I .i64 1)) fun t34 =>
 nm [v27_0, v27_1, v27_2, t34] s28)
 (fun i29 v27 s28 => jE i29 v27 s28)
 (fun r30 s28 => jR r30 s28))
 (jE 3 [] s)
def f99 (o : Ops) (kf : CallF) (N : Nat) (a0 a1 : T) (s : St) : Option (T × St) :=
 jn (jn (o.loops (f99_l1 o kf N) N [a0, a1, (Z .nils)] s)
 (fun v17 s18 => nm [.any, .any] s18)
 (fun i19 v17 s18 => if i19 = 0 then nm v17 s18 else jE i19 v17 s18)
 (fun r20 s18 => jR r20 s18))
 (fun v21 s22 => o.vk v21 0 fun v21_0 =>
 o.vk v21 1 fun v21_1 =>
 bd (o.ln v21_1) fun t24 =>
 jn (jn (o.loops (f99_l2 o kf N) N [v21_0, v21_1, t24, (I .i64 0)] s22)
 (fun v31 s32 => nm [] s32)
 (fun i33 v31 s32 => if i33 = 3 then nm v31 s32 else jE i33 v31 s32)
 (fun r34 s32 => jR r34 s32))
 (fun v35 s36 => bd (retT []) fun r39 =>
 jT r39 s36)
 (fun i37 v35 s36 => none)
 (fun r38 s36 => jT r38 s36))
 (fun i23 v21 s22 => none)
 (fun r24 s22 => jT r24 s22)
theorem f99_ok : Ok Tryz.prog 99 (fun c => L2 (f99 fast c 8192)) := ok2 (fun o c => f99 o c 8192) Tryz.func99 (by kernel_rfl) (fun c a0 a1 s => by kernel_rfl)

/- (air.Air).Lose$1 -/
def f100 (o : Ops) (kf : CallF) (N : Nat) (a0 a1 : T) (s : St) : Option (T × St) :=
 bd (o.ld a1 s) fun t5 =>
 bd (o.neq a0 t5) fun t6 =>
 jT t6 s
theorem f100_ok : Ok Tryz.prog 100 (fun c => L2 (f100 fast c 8192)) := ok2 (fun o c => f100 o c 8192) Tryz.func100 (by kernel_rfl) (fun c a0 a1 s => by kernel_rfl)

/- (air.Air).Post -/
def f101 (o : Ops) (kf : CallF) (N : Nat) (a0 a1 a2 : T) (s : St) : Option (T × St) :=
 jn (bd (eqB .p a0 (Z .nilp)) fun t11 =>
 o.br t11 (bd (retT [(I .i64 (-1)), (I .i64 10)]) fun r1 =>
 jR r1 s)
 (bd (o.lss a1 (I .i64 0)) fun t14 =>
 bd (gF t14 (some a1)) fun t16 =>
 bd (gF t14 (o.geq t16 (I .i64 3))) fun t17 =>
 bd (pT t14 t17) fun t18 =>
 bd (gF t18 (some a2)) fun t20 =>
 bd (gF t18 (o.ln t20)) fun t21 =>
 bd (gF t18 (o.gtr t21 (I .i64 5000))) fun t22 =>
 bd (pT t18 t22) fun t23 =>
 o.br t23 (bd (retT [(I .i64 (-1)), (I .i64 1)]) fun r2 =>
 jR r2 s)
 (nm [a0, a1, a2] s)))
 (fun v3 s4 => o.vk v3 0 fun v3_0 =>
 o.vk v3 1 fun v3_1 =>
 o.vk v3 2 fun v3_2 =>
 bd (o.nil v3_0) fun t25 =>
 bd (o.fa 0 t25) fun t26 =>
 bd (o.ld t26 s4) fun t27 =>
 bd (o.ln t27) fun t28 =>
 bd (o.nil v3_0) fun t30 =>
 bd (o.fa 1 t30) fun t31 =>
 bd (o.ld t31 s4) fun t32 =>
 bd2 (aSelS t32 t28 s4) fun t34 s7 =>
 bd (o.ex t34 0) fun t35 =>
 bd (o.eql t35 (I .i64 0)) fun t36 =>
 jn (o.br t36 (nm [v3_0, v3_1, v3_2, t28] s7)
 (bd (retT [(I .i64 (-1)), (I .i64 8)]) fun r8 =>
 jR r8 s7))
 (fun v9 s10 => o.vk v9 0 fun v9_0 =>
 o.vk v9 1 fun v9_1 =>
 o.vk v9 2 fun v9_2 =>
 o.vk v9 3 fun v9_3 =>
 bd (o.nil v9_0) fun t39 =>
 bd (o.fa 0 t39) fun t40 =>
 bd (o.ld t40 s10) fun t41 =>
 bd2 (kf 81 [v9_2] s10) fun t44 s13 =>
 bd (asAggT (aFill [.int .i64 0, .nils, .bool false] [(0, 1, v9_1), (1, 1, t44)])) fun t45 =>
 bd2 (o.new s13 (nSlice 1 (aFill [.int .i64 0, .nils, .bool false] [(0, 3, t45)]))) fun t46 s14 =>
 bd2 (aAppend 3 40 t41 t46 s14) fun t47 s15 =>
 bd (o.nil v9_0) fun t48 =>
 bd (o.fa 0 t48) fun t49 =>
 bd2 (o.st 1 t49 t47 s15) fun u16 s17 =>
 ck ((decide (aLoad1 t40 (overlay 8 s13.get (ovO 9 s13.size (nSlice 1 (aFill [.int .i64 0, .nils, .bool false] [(0, 3, t45)])) [])) = o.ld t40 s10) && true) && true) (bd (retT [v9_3, (I .i64 0)]) fun r18 =>
 jT r18 s17))
 (fun i11 v9 s10 => none)
 (fun r12 s10 => jT r12 s10))
 (fun i5 v3 s4 => none)
 (fun r6 s4 => jT r6 s4)
theorem f101_ok : Ok Tryz.prog 101 (fun c => L3 (f101 fast c 8192)) := ok3 (fun o c => f101 o c 8192) Tryz.func101 (by kernel_rfl) (fun c a0 a1 a2 s => by kernel_rfl)

/- (disk.Disk).Crash -/
def f102_l1 (o : Ops) (kf : CallF) (N : Nat) (v : List T) (s : St) : Option (JO × St) :=
 o.vk v 0 fun v_0 =>
 o.vk v 1 fun v_1 =>
 o.vk v 2 fun v_2 =>
 o.vk v 3 fun v_3 =>
 o.vk v 4 fun v_4 =>
 bd (o.lss v_4 v_3) fun t12 =>
 o.br t12 (jn (bd (o.ix 1 v_2 v_4) fun t14 =>
 bd (o.ld t14 s) fun t15 =>
 bd (o.nil v_0) fun t17 =>
 bd (o.fa 1 t17) fun t18 =>
 bd (o.ld t18 s) fun t19 =>
 bd (Go.Abs.F.look .s false (.s (.nilp)) t19 t15 s.get) fun t21 =>
 bd (o.ln v_1) fun t24 =>
 bd (o.lss v_4 t24) fun t25 =>
 jn (o.br t25 (bd (o.ix 1 v_1 v_4) fun t28 =>
 bd (o.ld t28 s) fun t29 =>
 bd (aFold aMax2 t29 [(I .i64 0)]) fun t30 =>
 bd (o.nil t21) fun t32 =>
 bd (o.fa 0 t32) fun t33 =>
 bd (o.ld t33 s) fun t34 =>
 bd (o.ln t34) fun t35 =>
 bd (o.nil t21) fun t37 =>
 bd (o.fa 1 t37) fun t38 =>
 bd (o.ld t38 s) fun t39 =>
 bd (o.sub t35 t39) fun t40 =>
 bd (aFold aMin2 t30 [t40]) fun t41 =>
 nm [v_0, v_1, t21, t41, v_2, v_3, v_4] s)
 (nm [v_0, v_1, t21, (I .i64 0), v_2, v_3, v_4] s))
 (fun v2 s3 => o.vk v2 0 fun v2_0 =>
 o.vk v2 1 fun v2_1 =>
 o.vk v2 2 fun v2_2 =>
 o.vk v2 3 fun v2_3 =>
 o.vk v2 4 fun v2_4 =>
 o.vk v2 5 fun v2_5 =>
 o.vk v2 6 fun v2_6 =>
 bd (o.nil v2_2) fun t44 =>
 bd (o.fa 0 t44) fun t45 =>
 bd (o.ld t45 s3) fun t46 =>
 bd (o.nil v2_2) fun t48 =>
 bd (o.fa 1 t48) fun t49 =>
 bd (o.ld t49 s3) fun t50 =>
 bd (o.add t50 v2_3) fun t52 =>
 bd (aPieceSl 1 t46 none (some t52) none) fun t53 =>
 bd (o.nil v2_2) fun t54 =>
 bd (o.fa 0 t54) fun t55 =>
 bd2 (o.st 1 t55 t53 s3) fun u6 s7 =>
 bd (o.nil v2_2) fun t58 =>
 bd (o.fa 0 t58) fun t59 =>
 bd (o.ld t59 s7) fun t60 =>
 bd (o.ln t60) fun t61 =>
 bd (o.nil v2_2) fun t62 =>
 bd (o.fa 1 t62) fun t63 =>
 bd2 (o.st 1 t63 t61 s7) fun u8 s9 =>
 nm [v2_0, v2_1, v2_4, v2_5, v2_6] s9)
 (fun i4 v2 s3 => if i4 = 1 then nm v2 s3 else jE i4 v2 s3)
 (fun r5 s3 => jR r5 s3))
 (fun v10 s11 => o.vk v10 0 fun v10_0 =>
 o.vk v10 1 fun v10_1 =>
 o.vk v10 2 fun v10_2 =>
 o.vk v10 3 fun v10_3 =>
 o.vk v10 4 fun v10_4 =>
 bd (o.add v10_4 (I .i64 1)) fun t64 =>
 nm [v10_0, v10_1, v10_2, v10_3, t64] s11)
 (fun i12 v10 s11 => jE i12 v10 s11)
 (fun r13 s11 => jR r13 s11))
 (jE 0 [] s)
def f102 (o : Ops) (kf : CallF) (N : Nat) (a0 a1 : T) (s : St) : Option (T × St) :=
 bd2 (kf 189 [a0] s) fun t9 s1 =>
 bd (o.ln t9) fun t10 =>
 jn (jn (o.loops (f102_l1 o kf N) N [a0, a1, t9, t10, (I .i64 0)] s1)
 (fun v14 s15 => nm [] s15)
 (fun i16 v14 s15 => if i16 = 0 then nm v14 s15 else jE i16 v14 s15)
 (fun r17 s15 => jR r17 s15))
 (fun v18 s19 => bd (retT []) fun r22 =>
 jT r22 s19)
 (fun i20 v18 s19 => none)
 (fun r21 s19 => jT r21 s19)
theorem f102_ok : Ok Tryz.prog 102 (fun c => L2 (f102 fast c 8192)) := ok2 (fun o c => f102 o c 8192) Tryz.func102 (by kernel_rfl) (fun c a0 a1 s => by kernel_rfl)

/- (twin.site).stop -/
def f103 (o : Ops) (kf : CallF) (N : Nat) (a0 a1 : T) (s : St) : Option (T × St) :=
 bd (o.nil a0) fun t5 =>
 bd (o.fa 1 t5) fun t6 =>
 bd (o.ld t6 s) fun t7 =>
 bd2 (kf 102 [t7, a1] s) fun t9 s1 =>
 bd (o.nil a0) fun t12 =>
 bd (o.fa 0 t12) fun t13 =>
 bd (o.ld t13 s1) fun t14 =>
 bd (o.nil a0) fun t16 =>
 bd (o.fa 1 t16) fun t17 =>
 bd (o.ld t17 s1) fun t18 =>
 bd (asAggT (aFill [.int .i64 0, .nilp, .bool false, .nilp, .nilp, .int .i64 0, .int .i64 0, .int .i64 0, .int .i64 0, .int .i64 0, .int .i64 0, .int .i64 0, .nils, .int .i64 0, .nils, .int .i64 0, .bool false, .bool false, .int .i64 0, .int .i64 0, .int .i64 0, .bool false, .nilc, .int .i64 0, .int .i64 0, .nils, .int .i64 0, .int .i64 0, .bool false] [(0, 1, t14), (1, 1, t18)])) fun t19 =>
 bd (o.nil a0) fun t20 =>
 bd2 (o.st 29 t20 t19 s1) fun u2 s3 =>
 bd (retT []) fun r4 =>
 jT r4 s3
theorem f103_ok : Ok Tryz.prog 103 (fun c => L2 (f103 fast c 8192)) := ok2 (fun o c => f103 o c 8192) Tryz.func103 (by kernel_rfl) (fun c a0 a1 s => by kernel_rfl)

/- head.Put -/
def f104_l1 (o : Ops) (kf : CallF) (N : Nat) (v : List T) (s : St) : Option (JO × St) :=
 o.vk v 0 fun v_0 =>
 o.vk v 1 fun v_1 =>
 o.vk v 2 fun v_2 =>
 o.vk v 3 fun v_3 =>
 bd (o.gtr v_3 (I .i64 0)) fun t32 =>
 o.br t32 (jn (bd (o.fa 1 v_0) fun t33 =>
 bd (o.ld t33 s) fun t34 =>
 bd (o.sub v_3 (I .i64 1)) fun t36 =>
 bd (o.ix 2 t34 t36) fun t37 =>
 bd (o.fa 0 t37) fun t38 =>
 bd (o.ld t38 s) fun t39 =>
 jn (bd (o.fa 0 v_1) fun t42 =>
 bd (o.ld t42 s) fun t43 =>
 bd (o.eql t39 t43) fun t44 =>
 o.br t44 (bd (o.ldn 2 v_0 s) fun t45 =>
 bd2 (o.st 2 v_2 t45 s) fun u13 s14 =>
 bd (rC (o.ldn 2 v_2 s14) (rT (I .i64 7) (some []))) fun l15 =>
 bd (retT l15) fun r16 =>
 jR r16 s14)
 (bd (o.fa 0 v_1) fun t48 =>
 bd (o.ld t48 s) fun t49 =>
 bd (o.lss t39 t49) fun t50 =>
 o.br t50 (jE 0 [v_0, v_1, v_2, v_3] s)
 (nm [v_0, v_1, v_2, v_3] s)))
 (fun v17 s18 => o.vk v17 0 fun v17_0 =>
 o.vk v17 1 fun v17_1 =>
 o.vk v17 2 fun v17_2 =>
 o.vk v17 3 fun v17_3 =>
 bd (o.sub v17_3 (I .i64 1)) fun t52 =>
 nm [v17_0, v17_1, v17_2, t52] s18)
 (fun i19 v17 s18 => if i19 = 1 then nm v17 s18 else jE i19 v17 s18)
 (fun r20 s18 => jR r20 s18))
 (fun v21 s22 => o.vk v21 0 fun v21_0 =>
 o.vk v21 1 fun v21_1 =>
 o.vk v21 2 fun v21_2 =>
 o.vk v21 3 fun v21_3 =>
 nm [v21_0, v21_1, v21_2, v21_3] s22)
 (fun i23 v21 s22 => jE i23 v21 s22)
 (fun r24 s22 => jR r24 s22))
 (jE 0 [v_0, v_1, v_2, v_3] s)
def f104_1 (o : Ops) (kf : CallF) (N : Nat) (t9 t3 : T) (s4 : St) (t2 t4 : T) : Option (T × St) :=
 bd (aUn .not t9) fun t10 =>
 bd (gF t10 (o.fa 0 t3)) fun t12 =>
 bd (gF t10 (o.ld t12 s4)) fun t13 =>
 bd (gF t10 (o.lss t13 (I .i64 0))) fun t14 =>
 bd (pT t10 t14) fun t15 =>
 bd (gF t15 (o.fa 0 t3)) fun t17 =>
 bd (gF t15 (o.ld t17 s4)) fun t18 =>
 bd (gF t15 (o.geq t18 (I .i64 1099511627776))) fun t19 =>
 bd (pT t15 t19) fun t20 =>
 o.br t20 (bd (o.ldn 2 t2 s4) fun t21 =>
 bd2 (o.st 2 t4 t21 s4) fun u5 s6 =>
 bd (rC (o.ldn 2 t4 s6) (rT (I .i64 1) (some []))) fun l7 =>
 bd (retT l7) fun r8 =>
 jT r8 s6)
 (bd (o.fa 0 t3) fun t22 =>
 bd (o.ld t22 s4) fun t23 =>
 bd (o.fa 0 t2) fun t24 =>
 bd (o.ld t24 s4) fun t25 =>
 bd (o.lss t23 t25) fun t26 =>
 o.br t26 (bd (o.ldn 2 t2 s4) fun t27 =>
 bd2 (o.st 2 t4 t27 s4) fun u9 s10 =>
 bd (rC (o.ldn 2 t4 s10) (rT (I .i64 6) (some []))) fun l11 =>
 bd (retT l11) fun r12 =>
 jT r12 s10)
 (bd (o.fa 1 t2) fun t28 =>
 bd (o.ld t28 s4) fun t29 =>
 bd (o.ln t29) fun t30 =>
 jn (jn (o.loops (f104_l1 o kf N) N [t2, t3, t4, t30] s4)
 (fun v25 s26 => nm [.any, .any, .any, .any] s26)
 (fun i27 v25 s26 => if i27 = 0 then nm v25 s26 else jE i27 v25 s26)
 (fun r28 s26 => jR r28 s26))
 (fun v29 s30 => o.vk v29 0 fun v29_0 =>
 o.vk v29 1 fun v29_1 =>
 o.vk v29 2 fun v29_2 =>
 o.vk v29 3 fun v29_3 =>
 bd (o.fa 1 v29_0) fun t53 =>
 bd (o.ld t53 s30) fun t54 =>
 bd (o.ln t54) fun t55 =>
 bd (o.eql t55 (I .i64 64)) fun t56 =>
 o.br t56 (bd (o.ldn 2 v29_0 s30) fun t57 =>
 bd2 (o.st 2 v29_2 t57 s30) fun u33 s34 =>
 bd (rC (o.ldn 2 v29_2 s34) (rT (I .i64 8) (some []))) fun l35 =>
 bd (retT l35) fun r36 =>
 jT r36 s34)
 (bd (o.fa 1 v29_0) fun t58 =>
 bd (o.ld t58 s30) fun t59 =>
 bd2 (kf 192 [t59] s30) fun t60 s37 =>
 bd (o.ldn 2 v29_1 s37) fun t62 =>
 bd2 (o.new s37 (nSlice 1 (aFill [.int .i64 0, .int .i64 0] [(0, 2, t62)]))) fun t63 s38 =>
 bd2 (kf 191 [t60, v29_3, t63] s38) fun t64 s39 =>
 bd (o.fa 1 v29_0) fun t65 =>
 bd2 (o.st 1 t65 t64 s39) fun u40 s41 =>
 ck ((decide (aLoadN 2 v29_1 (overlay 0 s30.get (ovO 5 s37.size (nSlice 1 (aFill [.int .i64 0, .int .i64 0] [(0, 2, t62)])) [])) = o.ldn 2 v29_1 s37) && true) && true) (bd (o.ldn 2 v29_0 s41) fun t66 =>
 bd2 (o.st 2 v29_2 t66 s41) fun u42 s43 =>
 bd (rC (o.ldn 2 v29_2 s43) (rT (I .i64 0) (some []))) fun l44 =>
 bd (retT l44) fun r45 =>
 jT r45 s43)))
 (fun i31 v29 s30 => none)
 (fun r32 s30 => jT r32 s30)))
def f104 (o : Ops) (kf : CallF) (N : Nat) (a0 a1 : T) (s : St) : Option (T × St) :=
 bd2 (o.new s (nBox a0)) fun t2 s1 =>
 bd2 (o.new s1 (nBox a1)) fun t3 s2 =>
 bd2 (o.new s2 (nCells [.int .i64 0, .nils])) fun t4 s3 =>
 bd (o.ldn 2 t2 s3) fun t8 =>
 bd2 (kf 190 [t8] s3) fun t9 s4 =>
 f104_1 o kf N t9 t3 s4 t2 t4
theorem f104_ok : Ok Tryz.prog 104 (fun c => L2 (f104 fast c 8192)) := ok2 (fun o c => f104 o c 8192) Tryz.func104 (by kernel_rfl) (fun c a0 a1 s => by kernel_rfl)

end
end Go.Proofs.YtcihabdmigpklaaGreatDoor
