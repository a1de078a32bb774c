/-
  Several texts in one: what functions that the law reaches compute. No conditions but those named in each line.
-/
import Derived.Test.YtoibllpfjnicfaaAbsE
import Derived.Test.YtoibllpfjnicfaaRows
import Derived.Shelf.SlGeneric
import Derived.Shelf.SlIterI.Nil
import Derived.Shelf.SortM.Plain
import Derived.Shelf.SortM.SortNone
import Derived.Ground.GgzProg
import Derived.Ground.SlgmProg
import Derived.Test.YtoibllpfjnicfaaProg
import Derived.Test.YtoibllpfjnicfaaChecked
import Derived.WalkKit
/-
  What the laws of layer 15 and the functions that they reach compute, printed by a program of our own: each text is by definition the run of the code. No conditions.
-/
namespace Go.Proofs.Ytoibllpfjnicfaa
open Go Go.Abs Go.Abs.F
set_option linter.unusedVariables false
noncomputable section
def keysOf : List (S × V) → Option (List Int)
  | [] => some []
  | (.int .i64 n, _) :: r => match keysOf r with
    | some l => match (Lit.int .i64 n).wf && !l.contains n with
      | true => some (n :: l)
      | false => none
    | none => none
  | _ :: _ => none

def put (n : Int) : List Int → List Int
  | [] => [n]
  | m :: r => match decide (n ≤ m) with
    | true => n :: m :: r
    | false => m :: put n r

def sorted : List Int → List Int
  | [] => []
  | n :: r => put n (sorted r)

def keptP : CallF := fun f ts σ => match Nat.beq f 13 with
  | false => none
  | true => match ts with
    | [.v (.s (.ptr i o))] => match σ.get i with
      | some (.cells _ vs) => match vs[o + 1]? with
        | some (.map m) => match σ.get m with
          | some (.map es) => match Nat.ble es.length 1000, keysOf es with
            | true, some [] => some (Z .nils, σ)
            | true, some (k :: l) => some (Z (.sl σ.size 0 (l.length + 1) (.grown 1)), σ.push (.cells false ((sorted (k :: l)).map (S.int .i64))))
            | _, _ => none
          | _ => none
        | _ => none
      | _ => none
    | _ => none
abbrev prim : CallF := orP (toldP 8 true) keptP
abbrev R (d : Nat) : CallF := runQ Try.prog 8192 prim d
end
end Go.Proofs.Ytoibllpfjnicfaa


/-
  What functions that the laws reach compute, printed by a program of our own: each text is by definition the run of the code. No conditions.
-/
namespace Go.Proofs.Ytoibllpfjnicfaa
open Go Go.Abs Go.Abs.F
set_option linter.unusedVariables false
noncomputable section
set_option maxRecDepth 100000 in
theorem told_all : gave true (runQ Try.prog 64 keptP 16 8 [] St.empty) = true := by kernel_rfl
theorem told_run (d : Nat) (s : St) : R (d + 1) 8 [] s = some (B true, s) := runQ_prim rfl
end
end Go.Proofs.Ytoibllpfjnicfaa


/-
  What functions that the laws reach compute, printed by a program of our own: each text is by definition the run of the code. No conditions.
-/
namespace Go.Proofs.Ytoibllpfjnicfaa
open Go Go.Abs Go.Abs.F
set_option linter.unusedVariables false
noncomputable section
/- twinkeep/recv.New -/
def f7 (callf : CallF) (N : Nat) (s : St) : Option (T × St) :=
  bd2 (aNew s (nMap)) fun t1 s1 =>
  bd (asAggT (aFill [.int .i64 0, .nilm] [(1, 1, t1)])) fun t2 =>
  bd2 (aNew s1 (nBox t2)) fun t3 s2 =>
  some (t3, s2)

theorem f7_eq (callf : CallF) (N : Nat) (s : St) : bodyC Try.prog callf N Try.f7 [] s = f7 callf N s := by kernel_rfl

theorem f7_run (d : Nat) (s : St) : R (d + 1) 7 [] s = f7 (R d) 8192 s := (runQ_body rfl Try.func7 (by kernel_rfl)).trans (f7_eq ..)

/- (twinkeep/recv.Recv).Take: a loop; 0: t0 r, 1: t10 l -/
def f9_l1 (callf : CallF) (N : Nat) (v : List T) (s : St) : Option (JO × St) :=
  jn (bd (aNil (v.getD 0 .any)) fun t60 =>
  bd (aFieldAddr 1 t60) fun t61 =>
  bd (aLoad1 t61 s.get) fun t62 =>
  bd (aNil (v.getD 0 .any)) fun t64 =>
  bd (aFieldAddr 0 t64) fun t65 =>
  bd (aLoad1 t65 s.get) fun t66 =>
  bd (aBin .add t66 (I .i64 1)) fun t67 =>
  bd (Go.Abs.F.look .i true (.s (.nils)) t62 t67 s.get) fun t68 =>
  bd (aExtract t68 0) fun t69 =>
  bd (aExtract t68 1) fun t70 =>
  bd (aUn .not t70) fun t72 =>
  br t72 (some (.exit 1 [(v.getD 1 .any)], s))
  (bd (aNil (v.getD 0 .any)) fun t74 =>
  bd (aFieldAddr 0 t74) fun t75 =>
  bd (aLoad1 t75 s.get) fun t76 =>
  bd (aBin .add t76 (I .i64 1)) fun t77 =>
  bd (aNil (v.getD 0 .any)) fun t78 =>
  bd (aFieldAddr 0 t78) fun t79 =>
  bd2 (aStore 1 t79 t77 s) fun _ s10 =>
  bd (aNil (v.getD 0 .any)) fun t81 =>
  bd (aFieldAddr 1 t81) fun t82 =>
  bd (aLoad1 t82 s10.get) fun t83 =>
  bd (aNil (v.getD 0 .any)) fun t85 =>
  bd (aFieldAddr 0 t85) fun t86 =>
  bd (aLoad1 t86 s10.get) fun t87 =>
  bd2 (mdel .i t83 t87 s10) fun _ s11 =>
  bd2 (aNew s11 (nSlice 1 (aFill [.nils] [(0, 1, t69)]))) fun t90 s12 =>
  bd2 (aAppend 1 24 (v.getD 1 .any) t90 s12) fun t91 s13 =>
  some (.normal [(v.getD 0 .any), t91], s13)))
  (fun v14 s15 => some (.normal [(v14.getD 0 .any), (v14.getD 1 .any)], s15))
  (fun i16 v14 s15 => some (.exit i16 v14, s15))
  (fun r17 s15 => some (.ret r17, s15))

/- (twinkeep/recv.Recv).Take -/
def f9 (callf : CallF) (N : Nat) (a0 : T) (a1 : T) (a2 : T) (s : St) : Option (T × St) :=
  jn (bd (eqB .p a0 (Z .nilp)) fun t15 =>
  br t15 (bd (retT [(Z .nils), (I .i64 10)]) fun r1 =>
  some (.ret r1, s))
  (bd (aBin .lss a1 (I .i64 1)) fun t18 =>
  bd (gT (gd t18 false) (some a1)) fun t20 =>
  bd (gT (gd t18 false) (aBin .sub t20 (I .i64 8))) fun t21 =>
  bd (gT (gd t18 false) (some a0)) fun t22 =>
  bd (gT (gd t18 false) (aNil t22)) fun t23 =>
  bd (gT (gd t18 false) (aFieldAddr 0 t23)) fun t24 =>
  bd (gT (gd t18 false) (aLoad1 t24 s.get)) fun t25 =>
  bd (gT (gd t18 false) (aBin .gtr t21 t25)) fun t26 =>
  bd (aPick t18 (B true) t26) fun t27 =>
  bd (gT (gd t27 false) (some a2)) fun t29 =>
  bd (gT (gd t27 false) (aLenSl t29)) fun t30 =>
  bd (gT (gd t27 false) (aBin .gtr t30 (I .i64 4100))) fun t31 =>
  bd (aPick t27 (B true) t31) fun t32 =>
  br t32 (bd (retT [(Z .nils), (I .i64 5)]) fun r2 =>
  some (.ret r2, s))
  (some (.normal [a0, a1, a2], s))))
  (fun v3 s4 => bd (aNil (v3.getD 0 .any)) fun t35 =>
  bd (aFieldAddr 1 t35) fun t36 =>
  bd (aLoad1 t36 s4.get) fun t37 =>
  bd (Go.Abs.F.look .i true (.s (.nils)) t37 (v3.getD 1 .any) s4.get) fun t39 =>
  bd (aExtract t39 0) fun t40 =>
  bd (aExtract t39 1) fun t41 =>
  bd (gT (gd t41 false) (some (v3.getD 1 .any))) fun t44 =>
  bd (gT (gd t41 false) (some (v3.getD 0 .any))) fun t45 =>
  bd (gT (gd t41 false) (aNil t45)) fun t46 =>
  bd (gT (gd t41 false) (aFieldAddr 0 t46)) fun t47 =>
  bd (gT (gd t41 false) (aLoad1 t47 s4.get)) fun t48 =>
  bd (gT (gd t41 false) (aBin .leq t44 t48)) fun t49 =>
  bd (aPick t41 (B true) t49) fun t50 =>
  br t50 (bd (retT [(Z .nils), (I .i64 0)]) fun r7 =>
  some (r7, s4))
  (bd (aNil (v3.getD 0 .any)) fun t52 =>
  bd (aFieldAddr 1 t52) fun t53 =>
  bd (aLoad1 t53 s4.get) fun t54 =>
  bd2 (callf 20 [(v3.getD 2 .any)] s4) fun t57 s8 =>
  bd2 (mset .i t54 (v3.getD 1 .any) t57 s8) fun _ s9 =>
  ck ((decide (aLoad1 t53 s8.get = aLoad1 t53 s4.get) && true) && true) (jn (jn (loops (f9_l1 callf N) N [(v3.getD 0 .any), (Z .nils)] s9)
  (fun v18 s19 => some (.normal [.any], s19))
  (fun i20 v18 s19 => if i20 = 1 then some (.normal v18, s19) else some (.exit i20 v18, s19))
  (fun r21 s19 => some (.ret r21, s19)))
  (fun v22 s23 => bd (retT [(v22.getD 0 .any), (I .i64 0)]) fun r26 =>
  some (r26, s23))
  (fun i24 v22 s23 => none)
  (fun r25 s23 => some (r25, s23)))))
  (fun i5 v3 s4 => none)
  (fun r6 s4 => some (r6, s4))

theorem f9_eq (callf : CallF) (N : Nat) (a0 : T) (a1 : T) (a2 : T) (s : St) : bodyC Try.prog callf N Try.f9 [a0, a1, a2] s = f9 callf N a0 a1 a2 s := by kernel_rfl

theorem f9_run (d : Nat) (a0 : T) (a1 : T) (a2 : T) (s : St) : R (d + 1) 9 [a0, a1, a2] s = f9 (R d) 8192 a0 a1 a2 s := (runQ_body rfl Try.func9 (by kernel_rfl)).trans (f9_eq ..)

/- (twinkeep/recv.Recv).Got -/
def f11 (callf : CallF) (N : Nat) (a0 : T) (s : St) : Option (T × St) :=
  bd (eqB .p a0 (Z .nilp)) fun t4 =>
  br t4 (some ((I .i64 0), s))
  (bd (aNil a0) fun t6 =>
  bd (aFieldAddr 0 t6) fun t7 =>
  bd (aLoad1 t7 s.get) fun t8 =>
  some (t8, s))

theorem f11_eq (callf : CallF) (N : Nat) (a0 : T) (s : St) : bodyC Try.prog callf N Try.f11 [a0] s = f11 callf N a0 s := by kernel_rfl

theorem f11_run (d : Nat) (a0 : T) (s : St) : R (d + 1) 11 [a0] s = f11 (R d) 8192 a0 s := (runQ_body rfl Try.func11 (by kernel_rfl)).trans (f11_eq ..)

/- bytes.Clone -/
def f20 (callf : CallF) (N : Nat) (a0 : T) (s : St) : Option (T × St) :=
  bd (eqB .l a0 (Z .nils)) fun t4 =>
  br t4 (some ((Z .nils), s))
  (bd2 (aNew s (nSlice 0 (aFill [] []))) fun t5 s1 =>
  bd2 (aAppend 1 1 t5 a0 s1) fun t7 s2 =>
  some (t7, s2))

theorem f20_eq (callf : CallF) (N : Nat) (a0 : T) (s : St) : bodyC Try.prog callf N Try.f20 [a0] s = f20 callf N a0 s := by kernel_rfl

theorem f20_run (d : Nat) (a0 : T) (s : St) : R (d + 1) 20 [a0] s = f20 (R d) 8192 a0 s := (runQ_body rfl Try.func20 (by kernel_rfl)).trans (f20_eq ..)

end
end Go.Proofs.Ytoibllpfjnicfaa


/-
  What functions that the laws reach compute, printed by a program of our own: each text is by definition the run of the code. No conditions.
-/
namespace Go.Proofs.Ytoibllpfjnicfaa
open Go Go.Abs Go.Abs.F
set_option linter.unusedVariables false
noncomputable section
/- twinkeep/send.New -/
def f14 (callf : CallF) (N : Nat) (s : St) : Option (T × St) :=
  bd (asAggT (aFill [.nils, .int .i64 0, .int .i64 0, .int .i64 0, .int .i64 0, .int .i64 0] [(3, 1, (I .i64 2)), (4, 1, (I .i64 (-1)))])) fun t1 =>
  bd2 (aNew s (nBox t1)) fun t2 s1 =>
  some (t2, s1)

/- (twinkeep/send.Send).Put -/
def f15 (callf : CallF) (N : Nat) (a0 : T) (a1 : T) (s : St) : Option (T × St) :=
  jn (bd (eqB .p a0 (Z .nilp)) fun t7 =>
  br t7 (some (.ret (I .i64 10), s))
  (bd (aLenSl a1) fun t10 =>
  bd (aBin .gtr t10 (I .i64 4100)) fun t11 =>
  br t11 (some (.ret (I .i64 5), s))
  (bd (aNil a0) fun t14 =>
  bd (aFieldAddr 0 t14) fun t15 =>
  bd (aLoad1 t15 s.get) fun t16 =>
  bd (aLenSl t16) fun t17 =>
  bd (aBin .eql t17 (I .i64 1000)) fun t18 =>
  br t18 (some (.ret (I .i64 8), s))
  (some (.normal [a0, a1], s)))))
  (fun v1 s2 => bd (aNil (v1.getD 0 .any)) fun t21 =>
  bd (aFieldAddr 0 t21) fun t22 =>
  bd (aLoad1 t22 s2.get) fun t23 =>
  bd2 (callf 20 [(v1.getD 1 .any)] s2) fun t25 s5 =>
  bd2 (aNew s5 (nSlice 1 (aFill [.nils] [(0, 1, t25)]))) fun t26 s6 =>
  bd2 (aAppend 1 24 t23 t26 s6) fun t27 s7 =>
  bd (aNil (v1.getD 0 .any)) fun t28 =>
  bd (aFieldAddr 0 t28) fun t29 =>
  bd2 (aStore 1 t29 t27 s7) fun _ s8 =>
  ck ((decide (aLoad1 t22 (overlay 7 s5.get (ovO 7 s5.size (nSlice 1 (aFill [.nils] [(0, 1, t25)])) [])) = aLoad1 t22 s2.get) && true) && true) (some ((I .i64 0), s8)))
  (fun i3 v1 s2 => none)
  (fun r4 s2 => some (r4, s2))

/- (twinkeep/send.Send).Acked -/
def f16 (callf : CallF) (N : Nat) (a0 : T) (s : St) : Option (T × St) :=
  bd (eqB .p a0 (Z .nilp)) fun t4 =>
  br t4 (some ((I .i64 0), s))
  (bd (aNil a0) fun t6 =>
  bd (aFieldAddr 1 t6) fun t7 =>
  bd (aLoad1 t7 s.get) fun t8 =>
  some (t8, s))

/- (twinkeep/send.Send).Out: a loop; 0: t0 s, 1: t5 l -/
def f17_l1 (callf : CallF) (N : Nat) (v : List T) (s : St) : Option (JO × St) :=
  bd (aNil (v.getD 0 .any)) fun t63 =>
  bd (aFieldAddr 2 t63) fun t64 =>
  bd (aLoad1 t64 s.get) fun t65 =>
  bd (aNil (v.getD 0 .any)) fun t67 =>
  bd (aFieldAddr 1 t67) fun t68 =>
  bd (aLoad1 t68 s.get) fun t69 =>
  bd (aNil (v.getD 0 .any)) fun t71 =>
  bd (aFieldAddr 0 t71) fun t72 =>
  bd (aLoad1 t72 s.get) fun t73 =>
  bd (aLenSl t73) fun t74 =>
  bd (aBin .add t69 t74) fun t75 =>
  bd (aBin .lss t65 t75) fun t76 =>
  br t76 (jn (bd (aNil (v.getD 0 .any)) fun t78 =>
  bd (aFieldAddr 2 t78) fun t79 =>
  bd (aLoad1 t79 s.get) fun t80 =>
  bd (aNil (v.getD 0 .any)) fun t82 =>
  bd (aFieldAddr 1 t82) fun t83 =>
  bd (aLoad1 t83 s.get) fun t84 =>
  bd (aBin .add t84 (I .i64 8)) fun t85 =>
  bd (aBin .geq t80 t85) fun t86 =>
  br t86 (some (.exit 0 [(v.getD 0 .any), (v.getD 1 .any)], s))
  (bd (aNil (v.getD 0 .any)) fun t88 =>
  bd (aFieldAddr 2 t88) fun t89 =>
  bd (aLoad1 t89 s.get) fun t90 =>
  bd (aBin .add t90 (I .i64 1)) fun t91 =>
  bd (aNil (v.getD 0 .any)) fun t92 =>
  bd (aFieldAddr 2 t92) fun t93 =>
  bd2 (aStore 1 t93 t91 s) fun _ s10 =>
  bd (aNil (v.getD 0 .any)) fun t96 =>
  bd (aFieldAddr 2 t96) fun t97 =>
  bd (aLoad1 t97 s10.get) fun t98 =>
  bd2 (aNew s10 (nSlice 1 (aFill [.int .i64 0] [(0, 1, t98)]))) fun t99 s11 =>
  bd2 (aAppend 1 8 (v.getD 1 .any) t99 s11) fun t100 s12 =>
  some (.normal [(v.getD 0 .any), t100], s12)))
  (fun v13 s14 => some (.normal [(v13.getD 0 .any), (v13.getD 1 .any)], s14))
  (fun i15 v13 s14 => some (.exit i15 v13, s14))
  (fun r16 s14 => some (.ret r16, s14)))
  (some (.exit 0 [(v.getD 0 .any), (v.getD 1 .any)], s))

/- (twinkeep/send.Send).Out -/
def f17 (callf : CallF) (N : Nat) (a0 : T) (a1 : T) (s : St) : Option (T × St) :=
  bd (eqB .p a0 (Z .nilp)) fun t7 =>
  br t7 (some ((Z .nils), s))
  (bd (aNil a0) fun t10 =>
  bd (aFieldAddr 5 t10) fun t11 =>
  bd (aLoad1 t11 s.get) fun t12 =>
  bd (aFold aMax2 t12 [a1]) fun t14 =>
  bd (aNil a0) fun t15 =>
  bd (aFieldAddr 5 t15) fun t16 =>
  bd2 (aStore 1 t16 t14 s) fun _ s1 =>
  bd (aNil a0) fun t18 =>
  bd (aFieldAddr 4 t18) fun t19 =>
  bd (aLoad1 t19 s1.get) fun t20 =>
  bd (aBin .neq t20 (I .i64 (-1))) fun t21 =>
  bd (gT (gd t21 true) (some a0)) fun t23 =>
  bd (gT (gd t21 true) (aNil t23)) fun t24 =>
  bd (gT (gd t21 true) (aFieldAddr 4 t24)) fun t25 =>
  bd (gT (gd t21 true) (aLoad1 t25 s1.get)) fun t26 =>
  bd (gT (gd t21 true) (some a0)) fun t27 =>
  bd (gT (gd t21 true) (aNil t27)) fun t28 =>
  bd (gT (gd t21 true) (aFieldAddr 5 t28)) fun t29 =>
  bd (gT (gd t21 true) (aLoad1 t29 s1.get)) fun t30 =>
  bd (gT (gd t21 true) (aBin .leq t26 t30)) fun t31 =>
  bd (aPick t21 t31 (B false)) fun t32 =>
  jn (br t32 (bd (aNil a0) fun t35 =>
  bd (aFieldAddr 1 t35) fun t36 =>
  bd (aLoad1 t36 s1.get) fun t37 =>
  bd (aBin .add t37 (I .i64 1)) fun t38 =>
  bd2 (aNew s1 (nSlice 1 (aFill [.int .i64 0] [(0, 1, t38)]))) fun t39 s2 =>
  bd2 (aAppend 1 8 (Z .nils) t39 s2) fun t40 s3 =>
  bd (aNil a0) fun t43 =>
  bd (aFieldAddr 3 t43) fun t44 =>
  bd (aLoad1 t44 s3.get) fun t45 =>
  bd (aBin .mul (I .i64 2) t45) fun t46 =>
  bd (aFold aMin2 t46 [(I .i64 16)]) fun t47 =>
  bd (aNil a0) fun t48 =>
  bd (aFieldAddr 3 t48) fun t49 =>
  bd2 (aStore 1 t49 t47 s3) fun _ s4 =>
  bd (aNil a0) fun t52 =>
  bd (aFieldAddr 5 t52) fun t53 =>
  bd (aLoad1 t53 s4.get) fun t54 =>
  bd (aNil a0) fun t56 =>
  bd (aFieldAddr 3 t56) fun t57 =>
  bd (aLoad1 t57 s4.get) fun t58 =>
  bd (aBin .add t54 t58) fun t59 =>
  bd (aNil a0) fun t60 =>
  bd (aFieldAddr 4 t60) fun t61 =>
  bd2 (aStore 1 t61 t59 s4) fun _ s5 =>
  some (.normal [a0, t40], s5))
  (some (.normal [a0, (Z .nils)], s1)))
  (fun v6 s7 => jn (jn (loops (f17_l1 callf N) N [(v6.getD 0 .any), (v6.getD 1 .any)] s7)
  (fun v17 s18 => some (.normal [.any, .any], s18))
  (fun i19 v17 s18 => if i19 = 0 then some (.normal v17, s18) else some (.exit i19 v17, s18))
  (fun r20 s18 => some (.ret r20, s18)))
  (fun v21 s22 => bd (aNil (v21.getD 0 .any)) fun t102 =>
  bd (aFieldAddr 4 t102) fun t103 =>
  bd (aLoad1 t103 s22.get) fun t104 =>
  bd (aBin .eql t104 (I .i64 (-1))) fun t105 =>
  bd (gT (gd t105 true) (some (v21.getD 0 .any))) fun t107 =>
  bd (gT (gd t105 true) (aNil t107)) fun t108 =>
  bd (gT (gd t105 true) (aFieldAddr 2 t108)) fun t109 =>
  bd (gT (gd t105 true) (aLoad1 t109 s22.get)) fun t110 =>
  bd (gT (gd t105 true) (some (v21.getD 0 .any))) fun t111 =>
  bd (gT (gd t105 true) (aNil t111)) fun t112 =>
  bd (gT (gd t105 true) (aFieldAddr 1 t112)) fun t113 =>
  bd (gT (gd t105 true) (aLoad1 t113 s22.get)) fun t114 =>
  bd (gT (gd t105 true) (aBin .gtr t110 t114)) fun t115 =>
  bd (aPick t105 t115 (B false)) fun t116 =>
  jn (br t116 (bd (aNil (v21.getD 0 .any)) fun t119 =>
  bd (aFieldAddr 5 t119) fun t120 =>
  bd (aLoad1 t120 s22.get) fun t121 =>
  bd (aNil (v21.getD 0 .any)) fun t123 =>
  bd (aFieldAddr 3 t123) fun t124 =>
  bd (aLoad1 t124 s22.get) fun t125 =>
  bd (aBin .add t121 t125) fun t126 =>
  bd (aNil (v21.getD 0 .any)) fun t127 =>
  bd (aFieldAddr 4 t127) fun t128 =>
  bd2 (aStore 1 t128 t126 s22) fun _ s25 =>
  some (.normal [(v21.getD 1 .any)], s25))
  (some (.normal [(v21.getD 1 .any)], s22)))
  (fun v26 s27 => some ((v26.getD 0 .any), s27))
  (fun i28 v26 s27 => none)
  (fun r29 s27 => some (r29, s27)))
  (fun i23 v21 s22 => none)
  (fun r24 s22 => some (r24, s22)))
  (fun i8 v6 s7 => none)
  (fun r9 s7 => some (r9, s7)))

/- (twinkeep/send.Send).Body -/
def f18 (callf : CallF) (N : Nat) (a0 : T) (a1 : T) (s : St) : Option (T × St) :=
  bd (eqB .p a0 (Z .nilp)) fun t7 =>
  bd (gT (gd t7 false) (some a1)) fun t9 =>
  bd (gT (gd t7 false) (some a0)) fun t10 =>
  bd (gT (gd t7 false) (aNil t10)) fun t11 =>
  bd (gT (gd t7 false) (aFieldAddr 1 t11)) fun t12 =>
  bd (gT (gd t7 false) (aLoad1 t12 s.get)) fun t13 =>
  bd (gT (gd t7 false) (aBin .leq t9 t13)) fun t14 =>
  bd (aPick t7 (B true) t14) fun t15 =>
  bd (gT (gd t15 false) (some a1)) fun t17 =>
  bd (gT (gd t15 false) (some a0)) fun t18 =>
  bd (gT (gd t15 false) (aNil t18)) fun t19 =>
  bd (gT (gd t15 false) (aFieldAddr 1 t19)) fun t20 =>
  bd (gT (gd t15 false) (aLoad1 t20 s.get)) fun t21 =>
  bd (gT (gd t15 false) (aBin .sub t17 t21)) fun t22 =>
  bd (gT (gd t15 false) (some a0)) fun t23 =>
  bd (gT (gd t15 false) (aNil t23)) fun t24 =>
  bd (gT (gd t15 false) (aFieldAddr 0 t24)) fun t25 =>
  bd (gT (gd t15 false) (aLoad1 t25 s.get)) fun t26 =>
  bd (gT (gd t15 false) (aLenSl t26)) fun t27 =>
  bd (gT (gd t15 false) (aBin .gtr t22 t27)) fun t28 =>
  bd (aPick t15 (B true) t28) fun t29 =>
  br t29 (bd (retT [(Z .nils), (B false)]) fun r1 =>
  some (r1, s))
  (bd (aNil a0) fun t31 =>
  bd (aFieldAddr 0 t31) fun t32 =>
  bd (aLoad1 t32 s.get) fun t33 =>
  bd (aNil a0) fun t36 =>
  bd (aFieldAddr 1 t36) fun t37 =>
  bd (aLoad1 t37 s.get) fun t38 =>
  bd (aBin .sub a1 t38) fun t39 =>
  bd (aBin .sub t39 (I .i64 1)) fun t40 =>
  bd (aIndexSl 1 t33 t40) fun t41 =>
  bd (aLoad1 t41 s.get) fun t42 =>
  bd2 (callf 20 [t42] s) fun t43 s2 =>
  bd (retT [t43, (B true)]) fun r3 =>
  some (r3, s2))

/- (twinkeep/send.Send).Ack -/
def f19 (callf : CallF) (N : Nat) (a0 : T) (a1 : T) (s : St) : Option (T × St) :=
  jn (bd (eqB .p a0 (Z .nilp)) fun t7 =>
  br t7 (some (.ret (I .i64 10), s))
  (bd (aBin .lss a1 (I .i64 0)) fun t10 =>
  bd (gT (gd t10 false) (some a1)) fun t12 =>
  bd (gT (gd t10 false) (some a0)) fun t13 =>
  bd (gT (gd t10 false) (aNil t13)) fun t14 =>
  bd (gT (gd t10 false) (aFieldAddr 2 t14)) fun t15 =>
  bd (gT (gd t10 false) (aLoad1 t15 s.get)) fun t16 =>
  bd (gT (gd t10 false) (aBin .gtr t12 t16)) fun t17 =>
  bd (aPick t10 (B true) t17) fun t18 =>
  br t18 (some (.ret (I .i64 5), s))
  (bd (aNil a0) fun t22 =>
  bd (aFieldAddr 1 t22) fun t23 =>
  bd (aLoad1 t23 s.get) fun t24 =>
  bd (aBin .leq a1 t24) fun t25 =>
  br t25 (some (.ret (I .i64 0), s))
  (some (.normal [a0, a1], s)))))
  (fun v1 s2 => bd (aNil (v1.getD 0 .any)) fun t28 =>
  bd (aFieldAddr 0 t28) fun t29 =>
  bd (aLoad1 t29 s2.get) fun t30 =>
  bd (aNil (v1.getD 0 .any)) fun t33 =>
  bd (aFieldAddr 1 t33) fun t34 =>
  bd (aLoad1 t34 s2.get) fun t35 =>
  bd (aBin .sub (v1.getD 1 .any) t35) fun t36 =>
  bd (aPieceSl 1 t30 (some t36) none none) fun t37 =>
  bd (aNil (v1.getD 0 .any)) fun t38 =>
  bd (aFieldAddr 0 t38) fun t39 =>
  bd2 (aStore 1 t39 t37 s2) fun _ s5 =>
  bd (aNil (v1.getD 0 .any)) fun t44 =>
  bd (aFieldAddr 1 t44) fun t45 =>
  bd2 (aStore 1 t45 (v1.getD 1 .any) s5) fun _ s6 =>
  bd (aNil (v1.getD 0 .any)) fun t46 =>
  bd (aFieldAddr 3 t46) fun t47 =>
  bd2 (aStore 1 t47 (I .i64 2) s6) fun _ s7 =>
  bd (aNil (v1.getD 0 .any)) fun t48 =>
  bd (aFieldAddr 4 t48) fun t49 =>
  bd2 (aStore 1 t49 (I .i64 (-1)) s7) fun _ s8 =>
  bd (aNil (v1.getD 0 .any)) fun t51 =>
  bd (aFieldAddr 2 t51) fun t52 =>
  bd (aLoad1 t52 s8.get) fun t53 =>
  bd (aNil (v1.getD 0 .any)) fun t55 =>
  bd (aFieldAddr 1 t55) fun t56 =>
  bd (aLoad1 t56 s8.get) fun t57 =>
  bd (aBin .gtr t53 t57) fun t58 =>
  jn (br t58 (bd (aNil (v1.getD 0 .any)) fun t61 =>
  bd (aFieldAddr 5 t61) fun t62 =>
  bd (aLoad1 t62 s8.get) fun t63 =>
  bd (aNil (v1.getD 0 .any)) fun t65 =>
  bd (aFieldAddr 3 t65) fun t66 =>
  bd (aLoad1 t66 s8.get) fun t67 =>
  bd (aBin .add t63 t67) fun t68 =>
  bd (aNil (v1.getD 0 .any)) fun t69 =>
  bd (aFieldAddr 4 t69) fun t70 =>
  bd2 (aStore 1 t70 t68 s8) fun _ s9 =>
  some (.normal [], s9))
  (some (.normal [], s8)))
  (fun v10 s11 => some ((I .i64 0), s11))
  (fun i12 v10 s11 => none)
  (fun r13 s11 => some (r13, s11)))
  (fun i3 v1 s2 => none)
  (fun r4 s2 => some (r4, s2))

end
end Go.Proofs.Ytoibllpfjnicfaa


/-
  What functions that the laws reach compute, printed by a program of our own: each text is by definition the run of the code. No conditions.
-/
namespace Go.Proofs.Ytoibllpfjnicfaa
open Go Go.Abs Go.Abs.F
set_option linter.unusedVariables false
noncomputable section
/- twinkeep/twinkeeplaw15.RecvPlays: a loop; 0: t0 l, 1: t3 r, 2: t4 m, 3: t5 i, 4: t6 a, 5: t8 b, 6: t10 k -/
def f3_l2 (callf : CallF) (N : Nat) (v : List T) (s : St) : Option (JO × St) :=
  bd (aLenSl (v.getD 5 .any)) fun t96 =>
  bd (aBin .lss (v.getD 6 .any) t96) fun t97 =>
  br t97 (jn (bd (aIndexSl 1 (v.getD 4 .any) (v.getD 6 .any)) fun t102 =>
  bd (aLoad1 t102 s.get) fun t103 =>
  bd (aBytesStr t103 s.get) fun t104 =>
  bd (aIndexSl 1 (v.getD 5 .any) (v.getD 6 .any)) fun t107 =>
  bd (aLoad1 t107 s.get) fun t108 =>
  bd (aBin .neq t104 t108) fun t109 =>
  br t109 (some (.ret (B false), s))
  (some (.normal [(v.getD 0 .any), (v.getD 1 .any), (v.getD 2 .any), (v.getD 3 .any), (v.getD 4 .any), (v.getD 5 .any), (v.getD 6 .any)], s)))
  (fun v10 s11 => bd (aBin .add (v10.getD 6 .any) (I .i64 1)) fun t99 =>
  some (.normal [(v10.getD 0 .any), (v10.getD 1 .any), (v10.getD 2 .any), (v10.getD 3 .any), (v10.getD 4 .any), (v10.getD 5 .any), t99], s11))
  (fun i12 v10 s11 => some (.exit i12 v10, s11))
  (fun r13 s11 => some (.ret r13, s11)))
  (some (.exit 2 [(v.getD 0 .any), (v.getD 1 .any), (v.getD 2 .any), (v.getD 3 .any)], s))

/- twinkeep/twinkeeplaw15.RecvPlays: a loop; 0: t0 l, 1: t3 r, 2: t4 m, 3: t5 i -/
def f3_l1 (callf : CallF) (N : Nat) (v : List T) (s : St) : Option (JO × St) :=
  bd (aLenSl (v.getD 0 .any)) fun t22 =>
  bd (aBin .lss (v.getD 3 .any) t22) fun t23 =>
  br t23 (jn (bd (aIndexSl 2 (v.getD 0 .any) (v.getD 3 .any)) fun t28 =>
  bd (aFieldAddr 1 t28) fun t29 =>
  bd (aLoad1 t29 s.get) fun t30 =>
  bd (aLenSl t30) fun t31 =>
  bd (aBin .gtr t31 (I .i64 40)) fun t32 =>
  br t32 (bd2 (callf 8 [] s) fun t33 s4 =>
  some (.ret t33, s4))
  (bd (aIndexSl 2 (v.getD 0 .any) (v.getD 3 .any)) fun t38 =>
  bd (aFieldAddr 0 t38) fun t39 =>
  bd (aLoad1 t39 s.get) fun t40 =>
  bd (aIndexSl 2 (v.getD 0 .any) (v.getD 3 .any)) fun t43 =>
  bd (aFieldAddr 1 t43) fun t44 =>
  bd (aLoad1 t44 s.get) fun t45 =>
  bd2 (callf 9 [(v.getD 1 .any), t40, t45] s) fun t46 s5 =>
  bd (aExtract t46 0) fun t47 =>
  bd (aExtract t46 1) fun t48 =>
  bd (aIndexSl 2 (v.getD 0 .any) (v.getD 3 .any)) fun t53 =>
  bd (aFieldAddr 0 t53) fun t54 =>
  bd (aLoad1 t54 s5.get) fun t55 =>
  bd (aIndexSl 2 (v.getD 0 .any) (v.getD 3 .any)) fun t58 =>
  bd (aFieldAddr 1 t58) fun t59 =>
  bd (aLoad1 t59 s5.get) fun t60 =>
  bd (aBytesStr t60 s5.get) fun t61 =>
  bd2 (callf 10 [(v.getD 2 .any), t55, t61] s5) fun t62 s6 =>
  bd (aExtract t62 0) fun t63 =>
  bd (aExtract t62 1) fun t64 =>
  bd (aBin .neq t48 t64) fun t67 =>
  bd (gT (gd t67 false) (some t47)) fun t69 =>
  bd (gT (gd t67 false) (aLenSl t69)) fun t70 =>
  bd (gT (gd t67 false) (some t63)) fun t71 =>
  bd (gT (gd t67 false) (aLenSl t71)) fun t72 =>
  bd (gT (gd t67 false) (aBin .neq t70 t72)) fun t73 =>
  bd (aPick t67 (B true) t73) fun t74 =>
  bd (gT (gd t74 false) (some (v.getD 1 .any))) fun t76 =>
  bd2 (gS (gd t74 false) s6 (callf 11 [t76] s6)) fun t77 s7 =>
  bd (gT (gd t74 false) (some (v.getD 2 .any))) fun t78 =>
  bd (gT (gd t74 false) (aNil t78)) fun t79 =>
  bd (gT (gd t74 false) (aFieldAddr 0 t79)) fun t80 =>
  bd (gT (gd t74 false) (aLoad1 t80 s7.get)) fun t81 =>
  bd (gT (gd t74 false) (aBin .neq t77 t81)) fun t82 =>
  bd (aPick t74 (B true) t82) fun t83 =>
  bd (gT (gd t83 false) (some (v.getD 1 .any))) fun t85 =>
  bd2 (gS (gd t83 false) s7 (callf 13 [t85] s7)) fun t86 s8 =>
  bd (gT (gd t83 false) (some (v.getD 2 .any))) fun t87 =>
  bd (gT (gd t83 false) (aNil t87)) fun t88 =>
  bd (gT (gd t83 false) (aFieldAddr 1 t88)) fun t89 =>
  bd (gT (gd t83 false) (aLoad1 t89 s8.get)) fun t90 =>
  bd2 (gS (gd t83 false) s8 (callf 12 [t86, t90] s8)) fun t91 s9 =>
  bd (gT (gd t83 false) (aUn .not t91)) fun t92 =>
  bd (aPick t83 (B true) t92) fun t93 =>
  ck ((wq (gd t74 false) (decide (aLoad1 t80 s6.get = aLoad1 t80 s7.get)) && true) && ((wq (gd t83 false) (decide (aLoad1 t89 s7.get = aLoad1 t89 s8.get)) && true) && true)) (br t93 (some (.ret (B false), s9))
  (jn (jn (loops (f3_l2 callf N) N [(v.getD 0 .any), (v.getD 1 .any), (v.getD 2 .any), (v.getD 3 .any), t47, t63, (I .i64 0)] s9)
  (fun v14 s15 => some (.normal [.any, .any, .any, .any], s15))
  (fun i16 v14 s15 => if i16 = 2 then some (.normal v14, s15) else some (.exit i16 v14, s15))
  (fun r17 s15 => some (.ret r17, s15)))
  (fun v18 s19 => some (.normal [(v18.getD 0 .any), (v18.getD 1 .any), (v18.getD 2 .any), (v18.getD 3 .any)], s19))
  (fun i20 v18 s19 => if i20 = 1 then some (.normal v18, s19) else some (.exit i20 v18, s19))
  (fun r21 s19 => some (.ret r21, s19))))))
  (fun v22 s23 => bd (aBin .add (v22.getD 3 .any) (I .i64 1)) fun t25 =>
  some (.normal [(v22.getD 0 .any), (v22.getD 1 .any), (v22.getD 2 .any), t25], s23))
  (fun i24 v22 s23 => some (.exit i24 v22, s23))
  (fun r25 s23 => some (.ret r25, s23)))
  (some (.exit 0 [], s))

/- twinkeep/twinkeeplaw15.RecvPlays -/
def f3 (callf : CallF) (N : Nat) (a0 : T) (s : St) : Option (T × St) :=
  bd2 (callf 7 [] s) fun t11 s1 =>
  bd (asAggT (aFill [.int .i64 0, .nils, .nils] [])) fun t12 =>
  bd2 (aNew s1 (nBox t12)) fun t13 s2 =>
  bd (eqB .p t11 (Z .nilp)) fun t15 =>
  br t15 (some ((B false), s2))
  (bd (aLenSl a0) fun t17 =>
  bd (aBin .gtr t17 (I .i64 100)) fun t18 =>
  br t18 (bd2 (callf 8 [] s2) fun t19 s3 =>
  some (t19, s3))
  (jn (jn (loops (f3_l1 callf N) N [a0, t11, t13, (I .i64 0)] s2)
  (fun v26 s27 => some (.normal [], s27))
  (fun i28 v26 s27 => if i28 = 0 then some (.normal v26, s27) else some (.exit i28 v26, s27))
  (fun r29 s27 => some (.ret r29, s27)))
  (fun v30 s31 => bd2 (callf 8 [] s31) fun t110 s34 =>
  some (t110, s34))
  (fun i32 v30 s31 => none)
  (fun r33 s31 => some (r33, s31))))

theorem f3_eq (callf : CallF) (N : Nat) (a0 : T) (s : St) : bodyC Try.prog callf N Try.f3 [a0] s = f3 callf N a0 s := by kernel_rfl

theorem f3_run (d : Nat) (a0 : T) (s : St) : R (d + 1) 3 [a0] s = f3 (R d) 8192 a0 s := (runQ_body rfl Try.func3 (by kernel_rfl)).trans (f3_eq ..)

/- twinkeep/twinkeeplaw15.RecvStream: a loop; 0: t1 lose, 1: t5 s, 2: t6 r, 3: t7 k, 4: t8 i -/
def f6_l1 (callf : CallF) (N : Nat) (v : List T) (s : St) : Option (JO × St) :=
  bd (aBin .leq (v.getD 4 .any) (v.getD 3 .any)) fun t33 =>
  br t33 (jn (bd (aConv .u8 (v.getD 4 .any)) fun t38 =>
  bd2 (aNew s (nSlice 1 (aFill [.int .u8 0] [(0, 1, t38)]))) fun t39 s3 =>
  bd2 (callf 15 [(v.getD 1 .any), t39] s3) fun t40 s4 =>
  bd (aBin .neq t40 (I .i64 0)) fun t41 =>
  br t41 (some (.ret (B false), s4))
  (some (.normal [(v.getD 0 .any), (v.getD 1 .any), (v.getD 2 .any), (v.getD 3 .any), (v.getD 4 .any)], s4)))
  (fun v5 s6 => bd (aBin .add (v5.getD 4 .any) (I .i64 1)) fun t35 =>
  some (.normal [(v5.getD 0 .any), (v5.getD 1 .any), (v5.getD 2 .any), (v5.getD 3 .any), t35], s6))
  (fun i7 v5 s6 => some (.exit i7 v5, s6))
  (fun r8 s6 => some (.ret r8, s6)))
  (some (.exit 0 [(v.getD 0 .any), (v.getD 1 .any), (v.getD 2 .any), (v.getD 3 .any)], s))

/- twinkeep/twinkeeplaw15.RecvStream: a loop; 0: t1 lose, 1: t5 s, 2: t6 r, 3: t7 k, 4: t9 got, 5: t10 t, 6: t11 l, 7: t12 i, 8: t16 x, 9: t18 j -/
def f6_l4 (callf : CallF) (N : Nat) (v : List T) (s : St) : Option (JO × St) :=
  bd (aLenSl (v.getD 8 .any)) fun t102 =>
  bd (aBin .lss (v.getD 9 .any) t102) fun t103 =>
  br t103 (jn (bd (aBin .add (v.getD 4 .any) (I .i64 1)) fun t107 =>
  bd (aIndexSl 1 (v.getD 8 .any) (v.getD 9 .any)) fun t110 =>
  bd (aLoad1 t110 s.get) fun t111 =>
  bd (aLenSl t111) fun t112 =>
  bd (aBin .neq t112 (I .i64 1)) fun t113 =>
  bd (gT (gd t113 false) (some (v.getD 8 .any))) fun t115 =>
  bd (gT (gd t113 false) (some (v.getD 9 .any))) fun t116 =>
  bd (gT (gd t113 false) (aIndexSl 1 t115 t116)) fun t117 =>
  bd (gT (gd t113 false) (aLoad1 t117 s.get)) fun t118 =>
  bd (gT (gd t113 false) (aIndexSl 1 t118 (I .i64 0))) fun t119 =>
  bd (gT (gd t113 false) (aLoad1 t119 s.get)) fun t120 =>
  bd (gT (gd t113 false) (some t107)) fun t121 =>
  bd (gT (gd t113 false) (aConv .u8 t121)) fun t122 =>
  bd (gT (gd t113 false) (aBin .neq t120 t122)) fun t123 =>
  bd (aPick t113 (B true) t123) fun t124 =>
  br t124 (some (.ret (B false), s))
  (some (.normal [(v.getD 0 .any), (v.getD 1 .any), (v.getD 2 .any), (v.getD 3 .any), t107, (v.getD 5 .any), (v.getD 6 .any), (v.getD 7 .any), (v.getD 8 .any), (v.getD 9 .any)], s)))
  (fun v25 s26 => bd (aBin .add (v25.getD 9 .any) (I .i64 1)) fun t105 =>
  some (.normal [(v25.getD 0 .any), (v25.getD 1 .any), (v25.getD 2 .any), (v25.getD 3 .any), (v25.getD 4 .any), (v25.getD 5 .any), (v25.getD 6 .any), (v25.getD 7 .any), (v25.getD 8 .any), t105], s26))
  (fun i27 v25 s26 => some (.exit i27 v25, s26))
  (fun r28 s26 => some (.ret r28, s26)))
  (some (.exit 6 [(v.getD 0 .any), (v.getD 1 .any), (v.getD 2 .any), (v.getD 3 .any), (v.getD 4 .any), (v.getD 5 .any), (v.getD 6 .any), (v.getD 7 .any)], s))

/- twinkeep/twinkeeplaw15.RecvStream: a loop; 0: t1 lose, 1: t5 s, 2: t6 r, 3: t7 k, 4: t9 got, 5: t10 t, 6: t11 l, 7: t12 i -/
def f6_l3 (callf : CallF) (N : Nat) (v : List T) (s : St) : Option (JO × St) :=
  bd (aBin .geq (v.getD 7 .any) (I .i64 0)) fun t59 =>
  br t59 (jn (bd (aLenSl (v.getD 0 .any)) fun t64 =>
  bd (aBin .lss (v.getD 5 .any) t64) fun t65 =>
  jn (br t65 (bd (aIndexSl 1 (v.getD 0 .any) (v.getD 5 .any)) fun t68 =>
  bd (aLoad1 t68 s.get) fun t69 =>
  some (.normal [(v.getD 0 .any), (v.getD 1 .any), (v.getD 2 .any), (v.getD 3 .any), (v.getD 4 .any), (v.getD 5 .any), (v.getD 6 .any), (v.getD 7 .any), t69], s))
  (some (.normal [(v.getD 0 .any), (v.getD 1 .any), (v.getD 2 .any), (v.getD 3 .any), (v.getD 4 .any), (v.getD 5 .any), (v.getD 6 .any), (v.getD 7 .any), (I .i64 0)], s)))
  (fun v19 s20 => bd (aIndexSl 1 (v19.getD 6 .any) (v19.getD 7 .any)) fun t74 =>
  bd (aLoad1 t74 s20.get) fun t75 =>
  bd2 (callf 18 [(v19.getD 1 .any), t75] s20) fun t76 s23 =>
  bd (aExtract t76 0) fun t77 =>
  bd (aExtract t76 1) fun t78 =>
  bd (aUn .not t78) fun t80 =>
  br t80 (some (.ret (B false), s23))
  (bd (aBin .and (v19.getD 7 .any) (I .i64 15)) fun t83 =>
  bd (aConv .u64 t83) fun t84 =>
  bd (aBin .shr (v19.getD 8 .any) t84) fun t85 =>
  bd (aBin .and t85 (I .i64 1)) fun t86 =>
  bd (aBin .eql t86 (I .i64 1)) fun t87 =>
  br t87 (some (.normal [(v19.getD 0 .any), (v19.getD 1 .any), (v19.getD 2 .any), (v19.getD 3 .any), (v19.getD 4 .any), (v19.getD 5 .any), (v19.getD 6 .any), (v19.getD 7 .any)], s23))
  (bd (aIndexSl 1 (v19.getD 6 .any) (v19.getD 7 .any)) fun t92 =>
  bd (aLoad1 t92 s23.get) fun t93 =>
  bd2 (callf 9 [(v19.getD 2 .any), t93, t77] s23) fun t95 s24 =>
  bd (aExtract t95 0) fun t96 =>
  bd (aExtract t95 1) fun t97 =>
  bd (aBin .neq t97 (I .i64 0)) fun t99 =>
  br t99 (some (.ret (B false), s24))
  (jn (jn (loops (f6_l4 callf N) N [(v19.getD 0 .any), (v19.getD 1 .any), (v19.getD 2 .any), (v19.getD 3 .any), (v19.getD 4 .any), (v19.getD 5 .any), (v19.getD 6 .any), (v19.getD 7 .any), t96, (I .i64 0)] s24)
  (fun v29 s30 => some (.normal [.any, .any, .any, .any, .any, .any, .any, .any], s30))
  (fun i31 v29 s30 => if i31 = 6 then some (.normal v29, s30) else some (.exit i31 v29, s30))
  (fun r32 s30 => some (.ret r32, s30)))
  (fun v33 s34 => some (.normal [(v33.getD 0 .any), (v33.getD 1 .any), (v33.getD 2 .any), (v33.getD 3 .any), (v33.getD 4 .any), (v33.getD 5 .any), (v33.getD 6 .any), (v33.getD 7 .any)], s34))
  (fun i35 v33 s34 => if i35 = 5 then some (.normal v33, s34) else some (.exit i35 v33, s34))
  (fun r36 s34 => some (.ret r36, s34))))))
  (fun i21 v19 s20 => if i21 = 5 then some (.normal v19, s20) else some (.exit i21 v19, s20))
  (fun r22 s20 => some (.ret r22, s20)))
  (fun v37 s38 => bd (aBin .sub (v37.getD 7 .any) (I .i64 1)) fun t61 =>
  some (.normal [(v37.getD 0 .any), (v37.getD 1 .any), (v37.getD 2 .any), (v37.getD 3 .any), (v37.getD 4 .any), (v37.getD 5 .any), (v37.getD 6 .any), t61], s38))
  (fun i39 v37 s38 => some (.exit i39 v37, s38))
  (fun r40 s38 => some (.ret r40, s38)))
  (some (.exit 4 [(v.getD 0 .any), (v.getD 1 .any), (v.getD 2 .any), (v.getD 3 .any), (v.getD 4 .any), (v.getD 5 .any)], s))

/- twinkeep/twinkeeplaw15.RecvStream: a loop; 0: t1 lose, 1: t5 s, 2: t6 r, 3: t7 k, 4: t9 got, 5: t10 t -/
def f6_l2 (callf : CallF) (N : Nat) (v : List T) (s : St) : Option (JO × St) :=
  bd (aBin .lss (v.getD 5 .any) (I .i64 400)) fun t43 =>
  bd (gT (gd t43 true) (some (v.getD 1 .any))) fun t45 =>
  bd2 (gS (gd t43 true) s (callf 16 [t45] s)) fun t46 s17 =>
  bd (gT (gd t43 true) (some (v.getD 3 .any))) fun t47 =>
  bd (gT (gd t43 true) (aBin .lss t46 t47)) fun t48 =>
  bd (aPick t43 t48 (B false)) fun t49 =>
  br t49 (jn (bd2 (callf 17 [(v.getD 1 .any), (v.getD 5 .any)] s17) fun t54 s18 =>
  bd (aLenSl t54) fun t56 =>
  bd (aBin .sub t56 (I .i64 1)) fun t57 =>
  jn (jn (loops (f6_l3 callf N) N [(v.getD 0 .any), (v.getD 1 .any), (v.getD 2 .any), (v.getD 3 .any), (v.getD 4 .any), (v.getD 5 .any), t54, t57] s18)
  (fun v41 s42 => some (.normal [.any, .any, .any, .any, .any, .any], s42))
  (fun i43 v41 s42 => if i43 = 4 then some (.normal v41, s42) else some (.exit i43 v41, s42))
  (fun r44 s42 => some (.ret r44, s42)))
  (fun v45 s46 => bd (aLenSl (v45.getD 0 .any)) fun t127 =>
  bd (aBin .geq (v45.getD 5 .any) t127) fun t128 =>
  bd (gT (gd t128 false) (some (v45.getD 0 .any))) fun t130 =>
  bd (gT (gd t128 false) (some (v45.getD 5 .any))) fun t131 =>
  bd (gT (gd t128 false) (aIndexSl 1 t130 t131)) fun t132 =>
  bd (gT (gd t128 false) (aLoad1 t132 s46.get)) fun t133 =>
  bd (gT (gd t128 false) (aBin .shr t133 (I .u64 20))) fun t134 =>
  bd (gT (gd t128 false) (aBin .and t134 (I .i64 1))) fun t135 =>
  bd (gT (gd t128 false) (aBin .eql t135 (I .i64 0))) fun t136 =>
  bd (aPick t128 (B true) t136) fun t137 =>
  jn (br t137 (bd2 (callf 11 [(v45.getD 2 .any)] s46) fun t140 s49 =>
  bd2 (callf 19 [(v45.getD 1 .any), t140] s49) fun t141 s50 =>
  bd (aBin .neq t141 (I .i64 0)) fun t142 =>
  br t142 (some (.ret (B false), s50))
  (some (.normal [(v45.getD 0 .any), (v45.getD 1 .any), (v45.getD 2 .any), (v45.getD 3 .any), (v45.getD 4 .any), (v45.getD 5 .any)], s50)))
  (some (.normal [(v45.getD 0 .any), (v45.getD 1 .any), (v45.getD 2 .any), (v45.getD 3 .any), (v45.getD 4 .any), (v45.getD 5 .any)], s46)))
  (fun v51 s52 => some (.normal [(v51.getD 0 .any), (v51.getD 1 .any), (v51.getD 2 .any), (v51.getD 3 .any), (v51.getD 4 .any), (v51.getD 5 .any)], s52))
  (fun i53 v51 s52 => if i53 = 3 then some (.normal v51, s52) else some (.exit i53 v51, s52))
  (fun r54 s52 => some (.ret r54, s52)))
  (fun i47 v45 s46 => if i47 = 3 then some (.normal v45, s46) else some (.exit i47 v45, s46))
  (fun r48 s46 => some (.ret r48, s46)))
  (fun v55 s56 => bd (aBin .add (v55.getD 5 .any) (I .i64 1)) fun t51 =>
  some (.normal [(v55.getD 0 .any), (v55.getD 1 .any), (v55.getD 2 .any), (v55.getD 3 .any), (v55.getD 4 .any), t51], s56))
  (fun i57 v55 s56 => some (.exit i57 v55, s56))
  (fun r58 s56 => some (.ret r58, s56)))
  (some (.exit 2 [(v.getD 0 .any), (v.getD 1 .any), (v.getD 3 .any), (v.getD 4 .any)], s17))

/- twinkeep/twinkeeplaw15.RecvStream -/
def f6 (callf : CallF) (N : Nat) (a0 : T) (a1 : T) (s : St) : Option (T × St) :=
  bd2 (callf 14 [] s) fun t19 s1 =>
  bd2 (callf 7 [] s1) fun t20 s2 =>
  bd (aConv .u64 a0) fun t22 =>
  bd (aBin .rem t22 (I .u64 31)) fun t23 =>
  bd (aConv .i64 t23) fun t24 =>
  bd (eqB .p t19 (Z .nilp)) fun t26 =>
  bd (gT (gd t26 false) (some t20)) fun t28 =>
  bd (gT (gd t26 false) (eqB .p t28 (Z .nilp))) fun t29 =>
  bd (aPick t26 (B true) t29) fun t30 =>
  br t30 (some ((B false), s2))
  (jn (jn (loops (f6_l1 callf N) N [a1, t19, t20, t24, (I .i64 1)] s2)
  (fun v9 s10 => some (.normal [.any, .any, .any, .any], s10))
  (fun i11 v9 s10 => if i11 = 0 then some (.normal v9, s10) else some (.exit i11 v9, s10))
  (fun r12 s10 => some (.ret r12, s10)))
  (fun v13 s14 => jn (jn (loops (f6_l2 callf N) N [(v13.getD 0 .any), (v13.getD 1 .any), (v13.getD 2 .any), (v13.getD 3 .any), (I .i64 0), (I .i64 0)] s14)
  (fun v59 s60 => some (.normal [.any, .any, .any, .any], s60))
  (fun i61 v59 s60 => if i61 = 2 then some (.normal v59, s60) else some (.exit i61 v59, s60))
  (fun r62 s60 => some (.ret r62, s60)))
  (fun v63 s64 => bd2 (callf 8 [] s64) fun t143 s67 =>
  bd (gT (gd t143 true) (some (v63.getD 0 .any))) fun t145 =>
  bd (gT (gd t143 true) (aLenSl t145)) fun t146 =>
  bd (gT (gd t143 true) (aBin .gtr t146 (I .i64 100))) fun t147 =>
  bd (gT (gd t143 true) (some t147)) fun t148 =>
  bd (gT (gd t148 false) (some (v63.getD 3 .any))) fun t149 =>
  bd (gT (gd t148 false) (some (v63.getD 2 .any))) fun t150 =>
  bd (gT (gd t148 false) (aBin .eql t149 t150)) fun t151 =>
  bd (gT (gd t148 false) (some t151)) fun t152 =>
  bd (gT (gd t152 true) (some (v63.getD 1 .any))) fun t153 =>
  bd2 (gS (gd t152 true) s67 (callf 16 [t153] s67)) fun t154 s68 =>
  bd (gT (gd t152 true) (some (v63.getD 2 .any))) fun t155 =>
  bd (gT (gd t152 true) (aBin .eql t154 t155)) fun t156 =>
  bd (gT (gd t148 false) (aPick t152 t156 (B false))) fun t157 =>
  bd (gT (gd t143 true) (aPick t148 (B true) t157)) fun t158 =>
  bd (aPick t143 t158 (B false)) fun t159 =>
  some (t159, s68))
  (fun i65 v63 s64 => none)
  (fun r66 s64 => some (r66, s64)))
  (fun i15 v13 s14 => none)
  (fun r16 s14 => some (r16, s14)))

end
end Go.Proofs.Ytoibllpfjnicfaa


/-
  What functions that the laws reach compute, printed by a program of our own: each text is by definition the run of the code. No conditions.
-/
namespace Go.Proofs.Ytoibllpfjnicfaa
open Go Go.Abs Go.Abs.F
set_option linter.unusedVariables false
noncomputable section
/- (twinkeep/twinkeepref13.Recv).Take: a loop; 0: t0 r, 1: t1 seq, 2: t2 body, 3: t8 k -/
def f10_l1 (callf : CallF) (N : Nat) (v : List T) (s : St) : Option (JO × St) :=
  bd (aNil (v.getD 0 .any)) fun t30 =>
  bd (aFieldAddr 1 t30) fun t31 =>
  bd (aLoad1 t31 s.get) fun t32 =>
  bd (aLenSl t32) fun t33 =>
  bd (aBin .lss (v.getD 3 .any) t33) fun t34 =>
  bd (gT (gd t34 true) (some (v.getD 0 .any))) fun t36 =>
  bd (gT (gd t34 true) (aNil t36)) fun t37 =>
  bd (gT (gd t34 true) (aFieldAddr 1 t37)) fun t38 =>
  bd (gT (gd t34 true) (aLoad1 t38 s.get)) fun t39 =>
  bd (gT (gd t34 true) (some (v.getD 3 .any))) fun t40 =>
  bd (gT (gd t34 true) (aIndexSl 1 t39 t40)) fun t41 =>
  bd (gT (gd t34 true) (aLoad1 t41 s.get)) fun t42 =>
  bd (gT (gd t34 true) (some (v.getD 1 .any))) fun t43 =>
  bd (gT (gd t34 true) (aBin .lss t42 t43)) fun t44 =>
  bd (aPick t34 t44 (B false)) fun t45 =>
  br t45 (jn (bd (aBin .add (v.getD 3 .any) (I .i64 1)) fun t47 =>
  some (.normal [(v.getD 0 .any), (v.getD 1 .any), (v.getD 2 .any), t47], s))
  (fun v2 s3 => some (.normal [(v2.getD 0 .any), (v2.getD 1 .any), (v2.getD 2 .any), (v2.getD 3 .any)], s3))
  (fun i4 v2 s3 => some (.exit i4 v2, s3))
  (fun r5 s3 => some (.ret r5, s3)))
  (some (.exit 0 [(v.getD 0 .any), (v.getD 1 .any), (v.getD 2 .any), (v.getD 3 .any)], s))

/- (twinkeep/twinkeepref13.Recv).Take: a loop; 0: t0 r, 1: t11 out -/
def f10_l2 (callf : CallF) (N : Nat) (v : List T) (s : St) : Option (JO × St) :=
  bd (aNil (v.getD 0 .any)) fun t119 =>
  bd (aFieldAddr 1 t119) fun t120 =>
  bd (aLoad1 t120 s.get) fun t121 =>
  bd (aLenSl t121) fun t122 =>
  bd (aBin .gtr t122 (I .i64 0)) fun t123 =>
  bd (gT (gd t123 true) (some (v.getD 0 .any))) fun t125 =>
  bd (gT (gd t123 true) (aNil t125)) fun t126 =>
  bd (gT (gd t123 true) (aFieldAddr 1 t126)) fun t127 =>
  bd (gT (gd t123 true) (aLoad1 t127 s.get)) fun t128 =>
  bd (gT (gd t123 true) (aIndexSl 1 t128 (I .i64 0))) fun t129 =>
  bd (gT (gd t123 true) (aLoad1 t129 s.get)) fun t130 =>
  bd (gT (gd t123 true) (some (v.getD 0 .any))) fun t131 =>
  bd (gT (gd t123 true) (aNil t131)) fun t132 =>
  bd (gT (gd t123 true) (aFieldAddr 0 t132)) fun t133 =>
  bd (gT (gd t123 true) (aLoad1 t133 s.get)) fun t134 =>
  bd (gT (gd t123 true) (aBin .add t134 (I .i64 1))) fun t135 =>
  bd (gT (gd t123 true) (aBin .eql t130 t135)) fun t136 =>
  bd (aPick t123 t136 (B false)) fun t137 =>
  br t137 (jn (bd (aNil (v.getD 0 .any)) fun t140 =>
  bd (aFieldAddr 2 t140) fun t141 =>
  bd (aLoad1 t141 s.get) fun t142 =>
  bd (aIndexSl 1 t142 (I .i64 0)) fun t143 =>
  bd (aLoad1 t143 s.get) fun t144 =>
  bd2 (aNew s (nSlice 1 (aFill [.str []] [(0, 1, t144)]))) fun t145 s27 =>
  bd2 (aAppend 1 16 (v.getD 1 .any) t145 s27) fun t146 s28 =>
  bd (aNil (v.getD 0 .any)) fun t150 =>
  bd (aFieldAddr 1 t150) fun t151 =>
  bd (aLoad1 t151 s28.get) fun t152 =>
  bd (aPieceSl 1 t152 (some (I .i64 1)) none none) fun t153 =>
  bd (aNil (v.getD 0 .any)) fun t155 =>
  bd (aFieldAddr 2 t155) fun t156 =>
  bd (aLoad1 t156 s28.get) fun t157 =>
  bd (aPieceSl 1 t157 (some (I .i64 1)) none none) fun t158 =>
  bd (aNil (v.getD 0 .any)) fun t159 =>
  bd (aFieldAddr 1 t159) fun t160 =>
  bd2 (aStore 1 t160 t153 s28) fun _ s29 =>
  bd (aNil (v.getD 0 .any)) fun t161 =>
  bd (aFieldAddr 2 t161) fun t162 =>
  bd2 (aStore 1 t162 t158 s29) fun _ s30 =>
  bd (aNil (v.getD 0 .any)) fun t164 =>
  bd (aFieldAddr 0 t164) fun t165 =>
  bd (aLoad1 t165 s30.get) fun t166 =>
  bd (aBin .add t166 (I .i64 1)) fun t167 =>
  bd (aNil (v.getD 0 .any)) fun t168 =>
  bd (aFieldAddr 0 t168) fun t169 =>
  bd2 (aStore 1 t169 t167 s30) fun _ s31 =>
  some (.normal [(v.getD 0 .any), t146], s31))
  (fun v32 s33 => some (.normal [(v32.getD 0 .any), (v32.getD 1 .any)], s33))
  (fun i34 v32 s33 => some (.exit i34 v32, s33))
  (fun r35 s33 => some (.ret r35, s33)))
  (some (.exit 2 [(v.getD 1 .any)], s))

/- (twinkeep/twinkeepref13.Recv).Take -/
def f10 (callf : CallF) (N : Nat) (a0 : T) (a1 : T) (a2 : T) (s : St) : Option (T × St) :=
  bd (aBin .lss a1 (I .i64 1)) fun t13 =>
  bd (gT (gd t13 false) (some a1)) fun t15 =>
  bd (gT (gd t13 false) (some a0)) fun t16 =>
  bd (gT (gd t13 false) (aNil t16)) fun t17 =>
  bd (gT (gd t13 false) (aFieldAddr 0 t17)) fun t18 =>
  bd (gT (gd t13 false) (aLoad1 t18 s.get)) fun t19 =>
  bd (gT (gd t13 false) (aBin .add t19 (I .i64 8))) fun t20 =>
  bd (gT (gd t13 false) (aBin .gtr t15 t20)) fun t21 =>
  bd (aPick t13 (B true) t21) fun t22 =>
  bd (gT (gd t22 false) (some a2)) fun t24 =>
  bd (gT (gd t22 false) (aLenStr t24)) fun t25 =>
  bd (gT (gd t22 false) (aBin .gtr t25 (I .i64 4100))) fun t26 =>
  bd (aPick t22 (B true) t26) fun t27 =>
  br t27 (bd (retT [(Z .nils), (I .i64 5)]) fun r1 =>
  some (r1, s))
  (jn (jn (loops (f10_l1 callf N) N [a0, a1, a2, (I .i64 0)] s)
  (fun v6 s7 => some (.normal [.any, .any, .any, .any], s7))
  (fun i8 v6 s7 => if i8 = 0 then some (.normal v6, s7) else some (.exit i8 v6, s7))
  (fun r9 s7 => some (.ret r9, s7)))
  (fun v10 s11 => bd (aNil (v10.getD 0 .any)) fun t50 =>
  bd (aFieldAddr 0 t50) fun t51 =>
  bd (aLoad1 t51 s11.get) fun t52 =>
  bd (aBin .leq (v10.getD 1 .any) t52) fun t53 =>
  bd (gT (gd t53 false) (some (v10.getD 3 .any))) fun t55 =>
  bd (gT (gd t53 false) (some (v10.getD 0 .any))) fun t56 =>
  bd (gT (gd t53 false) (aNil t56)) fun t57 =>
  bd (gT (gd t53 false) (aFieldAddr 1 t57)) fun t58 =>
  bd (gT (gd t53 false) (aLoad1 t58 s11.get)) fun t59 =>
  bd (gT (gd t53 false) (aLenSl t59)) fun t60 =>
  bd (gT (gd t53 false) (aBin .lss t55 t60)) fun t61 =>
  bd (gT (gd t53 false) (some t61)) fun t62 =>
  bd (gT (gd t62 true) (some (v10.getD 0 .any))) fun t63 =>
  bd (gT (gd t62 true) (aNil t63)) fun t64 =>
  bd (gT (gd t62 true) (aFieldAddr 1 t64)) fun t65 =>
  bd (gT (gd t62 true) (aLoad1 t65 s11.get)) fun t66 =>
  bd (gT (gd t62 true) (some (v10.getD 3 .any))) fun t67 =>
  bd (gT (gd t62 true) (aIndexSl 1 t66 t67)) fun t68 =>
  bd (gT (gd t62 true) (aLoad1 t68 s11.get)) fun t69 =>
  bd (gT (gd t62 true) (some (v10.getD 1 .any))) fun t70 =>
  bd (gT (gd t62 true) (aBin .eql t69 t70)) fun t71 =>
  bd (gT (gd t53 false) (aPick t62 t71 (B false))) fun t72 =>
  bd (aPick t53 (B true) t72) fun t73 =>
  br t73 (bd (retT [(Z .nils), (I .i64 0)]) fun r14 =>
  some (r14, s11))
  (bd2 (aNew s11 (nSlice 0 (aFill [] []))) fun t74 s15 =>
  bd (aNil (v10.getD 0 .any)) fun t76 =>
  bd (aFieldAddr 1 t76) fun t77 =>
  bd (aLoad1 t77 s15.get) fun t78 =>
  bd (aPieceSl 1 t78 none (some (v10.getD 3 .any)) none) fun t80 =>
  bd2 (aAppend 1 8 t74 t80 s15) fun t81 s16 =>
  bd2 (aNew s16 (nSlice 0 (aFill [] []))) fun t82 s17 =>
  bd (aNil (v10.getD 0 .any)) fun t84 =>
  bd (aFieldAddr 2 t84) fun t85 =>
  bd (aLoad1 t85 s17.get) fun t86 =>
  bd (aPieceSl 1 t86 none (some (v10.getD 3 .any)) none) fun t88 =>
  bd2 (aAppend 1 16 t82 t88 s17) fun t89 s18 =>
  ck ((decide (aLoad1 t85 (overlay 0 s11.get (ovO 0 s11.size (nSlice 0 (aFill [] [])) (ovO 8 s16.size (nSlice 0 (aFill [] [])) []))) = aLoad1 t85 s17.get) && true) && true) (bd2 (aNew s18 (nSlice 1 (aFill [.int .i64 0] [(0, 1, (v10.getD 1 .any))]))) fun t94 s19 =>
  bd2 (aAppend 1 8 t81 t94 s19) fun t95 s20 =>
  bd (aNil (v10.getD 0 .any)) fun t97 =>
  bd (aFieldAddr 1 t97) fun t98 =>
  bd (aLoad1 t98 s20.get) fun t99 =>
  bd (aPieceSl 1 t99 (some (v10.getD 3 .any)) none none) fun t101 =>
  bd2 (aAppend 1 8 t95 t101 s20) fun t102 s21 =>
  bd2 (aNew s21 (nSlice 1 (aFill [.str []] [(0, 1, (v10.getD 2 .any))]))) fun t105 s22 =>
  bd2 (aAppend 1 16 t89 t105 s22) fun t106 s23 =>
  bd (aNil (v10.getD 0 .any)) fun t108 =>
  bd (aFieldAddr 2 t108) fun t109 =>
  bd (aLoad1 t109 s23.get) fun t110 =>
  bd (aPieceSl 1 t110 (some (v10.getD 3 .any)) none none) fun t112 =>
  bd2 (aAppend 1 16 t106 t112 s23) fun t113 s24 =>
  bd (aNil (v10.getD 0 .any)) fun t114 =>
  bd (aFieldAddr 1 t114) fun t115 =>
  bd2 (aStore 1 t115 t102 s24) fun _ s25 =>
  bd (aNil (v10.getD 0 .any)) fun t116 =>
  bd (aFieldAddr 2 t116) fun t117 =>
  bd2 (aStore 1 t117 t113 s25) fun _ s26 =>
  ck ((decide (aLoad1 t98 (overlay 0 s18.get (ovO 4 s18.size (nSlice 1 (aFill [.int .i64 0] [(0, 1, (v10.getD 1 .any))])) (ovO 15 s21.size (nSlice 1 (aFill [.str []] [(0, 1, (v10.getD 2 .any))])) []))) = aLoad1 t98 s20.get) && true) && ((decide (aLoad1 t109 (overlay 0 s18.get (ovO 4 s18.size (nSlice 1 (aFill [.int .i64 0] [(0, 1, (v10.getD 1 .any))])) (ovO 15 s21.size (nSlice 1 (aFill [.str []] [(0, 1, (v10.getD 2 .any))])) []))) = aLoad1 t109 s23.get) && (decide (aLoad1 t109 (overlay 6 s20.get (ovO 4 s18.size (nSlice 1 (aFill [.int .i64 0] [(0, 1, (v10.getD 1 .any))])) (ovO 15 s21.size (nSlice 1 (aFill [.str []] [(0, 1, (v10.getD 2 .any))])) []))) = aLoad1 t109 s23.get) && (decide (aLoad1 t109 (overlay 13 s21.get (ovO 4 s18.size (nSlice 1 (aFill [.int .i64 0] [(0, 1, (v10.getD 1 .any))])) (ovO 15 s21.size (nSlice 1 (aFill [.str []] [(0, 1, (v10.getD 2 .any))])) []))) = aLoad1 t109 s23.get) && true))) && true)) (jn (jn (loops (f10_l2 callf N) N [(v10.getD 0 .any), (Z .nils)] s26)
  (fun v36 s37 => some (.normal [.any], s37))
  (fun i38 v36 s37 => if i38 = 2 then some (.normal v36, s37) else some (.exit i38 v36, s37))
  (fun r39 s37 => some (.ret r39, s37)))
  (fun v40 s41 => bd (retT [(v40.getD 0 .any), (I .i64 0)]) fun r44 =>
  some (r44, s41))
  (fun i42 v40 s41 => none)
  (fun r43 s41 => some (r43, s41))))))
  (fun i12 v10 s11 => none)
  (fun r13 s11 => some (r13, s11)))

theorem f10_eq (callf : CallF) (N : Nat) (a0 : T) (a1 : T) (a2 : T) (s : St) : bodyC Try.prog callf N Try.f10 [a0, a1, a2] s = f10 callf N a0 a1 a2 s := by kernel_rfl

theorem f10_run (d : Nat) (a0 : T) (a1 : T) (a2 : T) (s : St) : R (d + 1) 10 [a0, a1, a2] s = f10 (R d) 8192 a0 a1 a2 s := (runQ_body rfl Try.func10 (by kernel_rfl)).trans (f10_eq ..)

/- twinkeep/twinkeeplaw14.Same64: a loop; 0: t0 a, 1: t1 b, 2: t5 i -/
def f12_l1 (callf : CallF) (N : Nat) (v : List T) (s : St) : Option (JO × St) :=
  bd (aLenSl (v.getD 0 .any)) fun t13 =>
  bd (aBin .lss (v.getD 2 .any) t13) fun t14 =>
  br t14 (jn (bd (aIndexSl 1 (v.getD 0 .any) (v.getD 2 .any)) fun t19 =>
  bd (aLoad1 t19 s.get) fun t20 =>
  bd (aIndexSl 1 (v.getD 1 .any) (v.getD 2 .any)) fun t23 =>
  bd (aLoad1 t23 s.get) fun t24 =>
  bd (aBin .neq t20 t24) fun t25 =>
  br t25 (some (.ret (B false), s))
  (some (.normal [(v.getD 0 .any), (v.getD 1 .any), (v.getD 2 .any)], s)))
  (fun v1 s2 => bd (aBin .add (v1.getD 2 .any) (I .i64 1)) fun t16 =>
  some (.normal [(v1.getD 0 .any), (v1.getD 1 .any), t16], s2))
  (fun i3 v1 s2 => some (.exit i3 v1, s2))
  (fun r4 s2 => some (.ret r4, s2)))
  (some (.exit 0 [], s))

/- twinkeep/twinkeeplaw14.Same64 -/
def f12 (callf : CallF) (N : Nat) (a0 : T) (a1 : T) (s : St) : Option (T × St) :=
  bd (aLenSl a0) fun t7 =>
  bd (aLenSl a1) fun t9 =>
  bd (aBin .neq t7 t9) fun t10 =>
  br t10 (some ((B false), s))
  (jn (jn (loops (f12_l1 callf N) N [a0, a1, (I .i64 0)] s)
  (fun v5 s6 => some (.normal [], s6))
  (fun i7 v5 s6 => if i7 = 0 then some (.normal v5, s6) else some (.exit i7 v5, s6))
  (fun r8 s6 => some (.ret r8, s6)))
  (fun v9 s10 => some ((B true), s10))
  (fun i11 v9 s10 => none)
  (fun r12 s10 => some (r12, s10)))

theorem f12_eq (callf : CallF) (N : Nat) (a0 : T) (a1 : T) (s : St) : bodyC Try.prog callf N Try.f12 [a0, a1] s = f12 callf N a0 a1 s := by kernel_rfl

theorem f12_run (d : Nat) (a0 : T) (a1 : T) (s : St) : R (d + 1) 12 [a0, a1] s = f12 (R d) 8192 a0 a1 s := (runQ_body rfl Try.func12 (by kernel_rfl)).trans (f12_eq ..)

end
end Go.Proofs.Ytoibllpfjnicfaa


/-
  What functions that the laws reach compute, printed by a program of our own: each text is by definition the run of the code. No conditions.
-/
namespace Go.Proofs.Ytoibllpfjnicfaa
end Go.Proofs.Ytoibllpfjnicfaa


/-
  What Take does, in any store in which the receiver holds bodies ahead of what is there. No conditions but those named in each line.
-/
namespace Go.Proofs.Ytoibllpfjnicfaa
open Go Go.Abs Go.Abs.F
set_option linter.unusedVariables false

abbrev Kp := List (Int × Bs)
def getK (x : Int) : Kp → Option Bs
  | [] => none
  | p :: r => if p.1 = x then some p.2 else getK x r
def delK (x : Int) : Kp → Kp
  | [] => []
  | p :: r => if p.1 = x then r else p :: delK x r
def popM : Nat → Int → Kp → List Bs → Int × Kp × List Bs
  | 0, n, K, out => (n, K, out)
  | f + 1, n, K, out => match getK (n + 1) K with
    | some b => popM f (n + 1) (delK (n + 1) K) (out ++ [b])
    | none => (n, K, out)
def takeM (n : Int) (K : Kp) (seq : Int) (b : Bs) : (Int × Kp × List Bs) × Int :=
  if seq < 1 ∨ n + 8 < seq ∨ 4100 < b.length then ((n, K, []), 5)
  else if (getK seq K).isSome ∨ seq ≤ n then ((n, K, []), 0)
  else (popM (K.length + 1) n (K ++ [(seq, b)]) [], 0)

def BIn (s : St) (lo hi : Nat) (b : Bs) (y : S) : Prop := RB s y b ∧ ∀ c, own y = some c → lo ≤ c ∧ c < hi
def EntR (s : St) (lo hi : Nat) (p : Int × Bs) (e : S × V) : Prop := ∃ y, e = (S.int .i64 p.1, V.s y) ∧ BIn s lo hi p.2 y

section
variable {s t : St} {i m lo hi : Nat} {n : Int} {K : Kp} {es : List (S × V)} {b : Bs} {x y : S}

theorem BIn.keep (h : BIn s lo hi b y) {lo' hi' : Nat} (h1 : lo' ≤ lo) (h2 : hi ≤ hi') (hk : ∀ c, lo ≤ c → c < hi → t.get c = s.get c) : BIn t lo' hi' b y :=
  ⟨h.1.keep fun c hc => hk c (h.2 c hc).1 (h.2 c hc).2, fun c hc => by have := h.2 c hc; omega⟩
theorem EntR.keep {p : Int × Bs} {e : S × V} (h : EntR s lo hi p e) {lo' hi' : Nat} (h1 : lo' ≤ lo) (h2 : hi ≤ hi') (hk : ∀ c, lo ≤ c → c < hi → t.get c = s.get c) : EntR t lo' hi' p e := by
  obtain ⟨y, e1, e2⟩ := h
  exact ⟨y, e1, e2.keep h1 h2 hk⟩

theorem get_some (x : Int) : ∀ {K : Kp} {es : List (S × V)}, All2 (EntR s lo hi) K es → ∀ (k0 : Nat) {b : Bs}, getK x K = some b →
    ∃ j y, aFind (.int .i64 x) es k0 = some (some (k0 + j, V.s y)) ∧ es[j]? = some (S.int .i64 x, V.s y) ∧ BIn s lo hi b y ∧ All2 (EntR s lo hi) (delK x K) (es.eraseIdx j) := by
  intro K es h
  induction h with
  | nil => intro k0 b hg; cases hg
  | cons a r ih =>
    rename_i p e K es
    intro k0 b hg
    obtain ⟨y, rfl, hy⟩ := a
    unfold getK at hg
    by_cases hx : p.1 = x
    · rw [if_pos hx] at hg
      cases hg
      subst hx
      refine ⟨0, y, by simp [aFind, keyEq], rfl, hy, ?_⟩
      unfold delK
      rw [if_pos rfl]
      exact r
    · rw [if_neg hx] at hg
      obtain ⟨j, z, h1, h2, h3, h4⟩ := ih (k0 + 1) hg
      have hk : aFind (.int .i64 x) ((S.int .i64 p.1, V.s y) :: es) k0 = aFind (.int .i64 x) es (k0 + 1) := by simp [aFind, keyEq, Ne.symm hx]
      refine ⟨j + 1, z, by rw [hk, h1, show k0 + 1 + j = k0 + (j + 1) by omega], by simpa using h2, h3, ?_⟩
      unfold delK
      rw [if_neg hx, List.eraseIdx_cons_succ]
      exact .cons ⟨y, rfl, hy⟩ h4

theorem get_none (x : Int) : ∀ {K : Kp} {es : List (S × V)}, All2 (EntR s lo hi) K es → ∀ (k0 : Nat), getK x K = none → aFind (.int .i64 x) es k0 = some none := by
  intro K es h
  induction h with
  | nil => intro k0 _; rfl
  | cons a r ih =>
    rename_i p e K es
    intro k0 hg
    obtain ⟨y, rfl, hy⟩ := a
    unfold getK at hg
    by_cases hx : p.1 = x
    · rw [if_pos hx] at hg; cases hg
    · rw [if_neg hx] at hg
      have hk : aFind (.int .i64 x) ((S.int .i64 p.1, V.s y) :: es) k0 = aFind (.int .i64 x) es (k0 + 1) := by simp [aFind, keyEq, Ne.symm hx]
      rw [hk]
      exact ih (k0 + 1) hg

theorem delK_len (x : Int) : ∀ {K : Kp} {b : Bs}, getK x K = some b → (delK x K).length + 1 = K.length
  | [], b, h => by cases h
  | p :: r, b, h => by
    unfold getK at h
    unfold delK
    by_cases hx : p.1 = x
    · rw [if_pos hx]; simp
    · rw [if_neg hx] at h ⊢
      have := delK_len x h
      simp; omega

structure HasB (s : St) (i m lo hi : Nat) (n : Int) (K : Kp) : Prop where
  wf : s.wf
  ri : s.get i = some (.cells true [.int .i64 n, .map m])
  ilo : i < lo
  mlo : m < lo
  loh : lo ≤ hi
  his : hi ≤ s.size
  mp : ∃ es, s.get m = some (.map es) ∧ All2 (EntR s lo hi) K es

theorem HasB.ne (h : HasB s i m lo hi n K) : m ≠ i := by
  intro e
  obtain ⟨es, h1, _⟩ := h.mp
  rw [e, h.ri] at h1
  cases h1

theorem all2_mono' {α β : Type} {A B : α → β → Prop} {l : List α} {r : List β} (h : All2 A l r) (hk : ∀ a b, A a b → B a b) : All2 B l r := forall2_mono hk h

theorem HasB.keep (h : HasB s i m lo hi n K) (wf : t.wf) (hz : s.size ≤ t.size) (hk : ∀ c, c < s.size → t.get c = s.get c) : HasB t i m lo hi n K := by
  obtain ⟨es, h1, h2⟩ := h.mp
  have hi' := h.wf.lt h.ri
  have hm' := h.wf.lt h1
  have hh := h.his
  exact ⟨wf, by rw [hk _ hi']; exact h.ri, h.ilo, h.mlo, h.loh, by omega, es, by rw [hk _ hm']; exact h1, all2_mono' h2 fun a b hab => hab.keep (Nat.le_refl _) (Nat.le_refl _) fun c h3 h4 => hk c (by omega)⟩

theorem HasB.up (h : HasB s i m lo hi n K) {hi' : Nat} (h1 : hi ≤ hi') (h2 : hi' ≤ s.size) : HasB s i m lo hi' n K := by
  obtain ⟨es, h3, h4⟩ := h.mp
  have := h.loh
  exact ⟨h.wf, h.ri, h.ilo, h.mlo, by omega, h2, es, h3, all2_mono' h4 fun a b hab => hab.keep (Nat.le_refl _) h1 fun _ _ _ => rfl⟩

theorem eqBl_nils : eqB .l (Z .nils) (Z .nils) = some (B true) := rfl
theorem eqBl_sl (c o l : Nat) (q : Cap) : eqB .l (Z (.sl c o l q)) (Z .nils) = some (B false) := by cases q <;> rfl
theorem eqBl_emp (c e : Nat) : eqB .l (Z (.emp c e)) (Z .nils) = some (B false) := rfl

theorem clone_run (d : Nat) (wf : s.wf) (h : RB s x b) (ho : ∀ c, own x = some c → c < s.size) (hl : b.length ≤ 100000) :
    ∃ y t, R (d + 1) 20 [Z x] s = some (Z y, t) ∧ RB t y b ∧ Gr s t ∧ ∀ c, own y = some c → s.size ≤ c ∧ c < t.size := by
  rw [f20_run]
  unfold f20
  have go : eqB .l (Z x) (Z .nils) = some (B false) → ∃ y t, (bd (eqB .l (Z x) (Z .nils)) fun t4 => br t4 (some ((Z .nils), s)) (bd2 (aNew s (nSlice 0 (aFill [] []))) fun t5 s1 => bd2 (aAppend 1 1 t5 (Z x) s1) fun t7 s2 => some (t7, s2))) = some (Z y, t) ∧ RB t y b ∧ Gr s t ∧ ∀ c, own y = some c → s.size ≤ c ∧ c < t.size := by
    intro e
    have L := Fr.lit 1 wf (n := 0) (vs := []) rfl
    have nw : aNew s (nSlice 0 (aFill [] [])) = some (Z (.sl s.size 0 0 (.known 0)), s.push (.cells true [])) := by simp [aNew, nSlice, aFill]
    obtain ⟨y, t, ap, fb, _, _⟩ := FB.app (bs := []) (cs := b) L (h.gr ho L.gr) (by simpa using (show b.length ≤ 1000000 by omega))
    refine ⟨y, t, ?_, by simpa using fb.rd, fb.gr, fb.new⟩
    simp [e, nw, ap]
  rcases h.rd with ⟨hn, rfl | ⟨c, g, rfl⟩ | ⟨c, o, cap, rfl⟩⟩ | ⟨c, o, cap, w, rows, rfl, _⟩
  · have hb : b = [] := List.eq_nil_of_length_eq_zero hn
    subst hb
    exact ⟨.nils, s, by simp [eqBl_nils], Rd.nil 1 s, Gr.refl wf, fun c hc => by cases hc⟩
  · exact go (eqBl_emp c g)
  · exact go (eqBl_sl c o 0 cap)
  · exact go (eqBl_sl c o _ cap)

theorem got_run (d : Nat) (h : s.get i = some (.cells true [.int .i64 n, .map m])) : R (d + 1) 11 [Z (.ptr i 0)] s = some (I .i64 n, s) := by
  have l0 : aLoad1 (Z (.ptr i 0)) s.get = some (I .i64 n) := aLoad1_of h rfl
  rw [f11_run]
  unfold f11
  simp [l0]

theorem new_run (d : Nat) : R (d + 1) 7 [] s = some (Z (.ptr (s.size + 1) 0), (s.push (.map [])).push (.cells true [.int .i64 0, .map s.size])) := by
  rw [f7_run]
  unfold f7
  simp [aNew, nMap, nBox, aFill, V.cells, setRange, asAggT]

structure OutB (t : St) (lo hi : Nat) (y : S) (out : List Bs) : Prop where
  ex : ∃ ys, Ow 1 t y out.length ys ∧ All2 (BIn t lo hi) out ys
  new : ∀ c, own y = some c → hi ≤ c ∧ c < t.size

structure RowB (s0 : St) (i m lo hi : Nat) (n : Int) (K : Kp) (out : List Bs) (v : List T) (s : St) : Prop where
  has : HasB s i m lo hi n K
  out : ∃ y, v = [Z (.ptr i 0), Z y] ∧ OutB s lo hi y out
  siz : s0.size ≤ s.size
  old : ∀ c, c < hi → c ≠ i → c ≠ m → s.get c = s0.get c

theorem row_step (r : CallF) (s0 : St) (hhi : hi ≤ s0.size) {n : Int} {K : Kp} {out : List Bs} {v : List T} {s : St} (h : RowB s0 i m lo hi n K out v s) (h0 : 0 ≤ n) (h1 : n ≤ 2000000) (hol : out.length ≤ 7000) {b : Bs} (hg : getK (n + 1) K = some b) :
    ∃ v' s', f9_l1 r 8192 v s = some (.normal v', s') ∧ RowB s0 i m lo hi (n + 1) (delK (n + 1) K) (out ++ [b]) v' s' := by
  obtain ⟨hh, ⟨y, rfl, hy⟩, hsz, hold⟩ := h
  obtain ⟨es, hes, hall⟩ := hh.mp
  have hi' := hh.wf.lt hh.ri
  have hm' := hh.wf.lt hes
  have hmi := hh.ne
  have q1 := hh.ilo
  have q2 := hh.mlo
  have q3 := hh.loh
  have q4 := hh.his
  obtain ⟨j, z, hf, hj, hz, hall'⟩ := get_some (n + 1) hall 0 hg
  rw [Nat.zero_add] at hf
  have l0 : aLoad1 (Z (.ptr i 0)) s.get = some (I .i64 n) := aLoad1_of hh.ri rfl
  have l1 : aLoad1 (Z (.ptr i 1)) s.get = some (Z (.map m)) := aLoad1_of hh.ri rfl
  have w1 : IntKind.i64.wrap (n + 1) = n + 1 := wrap_in _ (by omega) (by omega)
  have lk : Go.Abs.F.look .i true (.s .nils) (Z (.map m)) (I .i64 (n + 1)) s.get = some (.tup [.s z, .s (.bool true)]) := by
    simp [Go.Abs.F.look, isKey, aLookup, hes, hf]
  obtain ⟨s1, hs1⟩ : ∃ s1, s1 = s.set i (.cells true [.int .i64 (n + 1), .map m]) := ⟨_, rfl⟩
  have st : aStore 1 (Z (.ptr i 0)) (I .i64 (n + 1)) s = some (tt, s1) := by rw [hs1]; exact aStore1_of hh.ri (by simp)
  have g1 : ∀ c, c ≠ i → s1.get c = s.get c := fun c hc => by rw [hs1, St.get_set_ne _ _ hc]
  have g1i : s1.get i = some (.cells true [.int .i64 (n + 1), .map m]) := by rw [hs1, St.get_set_same]
  have z1 : s1.size = s.size := by rw [hs1]; rfl
  have f1 : s1.wf := by rw [hs1]; exact St.wf_set hh.wf hi' _
  have m0 : aLoad1 (Z (.ptr i 0)) s1.get = some (I .i64 (n + 1)) := aLoad1_of g1i rfl
  have m1 : aLoad1 (Z (.ptr i 1)) s1.get = some (Z (.map m)) := aLoad1_of g1i rfl
  obtain ⟨s2, hs2⟩ : ∃ s2, s2 = s1.set m (.map (es.eraseIdx j)) := ⟨_, rfl⟩
  have dl : mdel .i (Z (.map m)) (I .i64 (n + 1)) s1 = some (tt, s2) := by
    simp [mdel, isKey, aDelete, g1 m hmi, hes, hf, hs2]
  have g2 : ∀ c, c ≠ m → s2.get c = s1.get c := fun c hc => by rw [hs2, St.get_set_ne _ _ hc]
  have g2m : s2.get m = some (.map (es.eraseIdx j)) := by rw [hs2, St.get_set_same]
  have z2 : s2.size = s.size := by rw [hs2]; exact z1
  have f2 : s2.wf := by rw [hs2]; exact St.wf_set f1 (by omega) _
  have keep2 : ∀ c, lo ≤ c → s2.get c = s.get c := fun c hc => by rw [g2 c (by omega), g1 c (by omega)]
  obtain ⟨ys, how, hys⟩ := hy.ex
  have how2 : Ow 1 s2 y out.length ys := how.keep fun c hc => keep2 c (by have := (hy.new c hc).1; omega)
  have L := Fr.lit 1 f2 (n := 1) (vs := [z]) rfl
  have nw : aNew s2 (nSlice 1 (aFill [.nils] [(0, 1, Z z)])) = some (Z (.sl s.size 0 1 (.known 1)), s2.push (.cells true [z])) := by
    simp [aNew, nSlice, aFill, V.cells, setRange, z2]
  obtain ⟨y', s4, ap, wf4, hz4, how4, old4, new4⟩ := (how2.gr f2 L.gr).append (by_ := 24) L.gr.wf (by omega) L.rd.src rfl (by omega)
  rw [z2] at ap
  have hz3 : (s2.push (.cells true [z])).size = s.size + 1 := by simp [z2]
  have k4 : ∀ c, c < hi → s4.get c = s2.get c := fun c hc => by
    rw [old4 c (by omega) (fun e => by have := (hy.new c e).1; omega), St.get_push_ne _ _ (by omega)]
  have keep4 : ∀ c, lo ≤ c → c < hi → s4.get c = s.get c := fun c h3 h4 => by rw [k4 c h4, keep2 c h3]
  refine ⟨[Z (.ptr i 0), Z y'], s4, ?_, ⟨⟨wf4, by rw [k4 i (by omega), g2 i (Ne.symm hmi)]; exact g1i, q1, q2, q3, by omega, _, by rw [k4 m (by omega)]; exact g2m, all2_mono' hall' fun a b hab => hab.keep (Nat.le_refl _) (Nat.le_refl _) keep4⟩, ⟨y', rfl, ⟨ys ++ [z], by simpa using how4, ?_⟩, fun c hc => ?_⟩, by omega, fun c h3 h4 h5 => ?_⟩⟩
  · unfold f9_l1
    simp [l0, l1, w1, lk, st, m0, m1, dl, nw, ap, aExtract]
  · exact forall2_append (all2_mono' hys fun a b hab => BIn.keep hab (Nat.le_refl _) (Nat.le_refl _) keep4) (.cons (BIn.keep hz (Nat.le_refl _) (Nat.le_refl _) keep4) .nil)
  · have hlt := how4.lt wf4 hc
    rcases new4 with e | e | ⟨c', e, hc'⟩
    · rw [e] at hc; cases hc
    · rw [e] at hc; exact ⟨(hy.new c hc).1, hlt⟩
    · rw [e] at hc; cases hc; exact ⟨by omega, hlt⟩
  · rw [k4 c h3, g2 c h5, g1 c h4]
    exact hold c h3 h4 h5

theorem row_end (r : CallF) {s0 : St} {n : Int} {K : Kp} {out : List Bs} {v : List T} {s : St} (h : RowB s0 i m lo hi n K out v s) (h0 : 0 ≤ n) (h1 : n ≤ 2000000) (hg : getK (n + 1) K = none) :
    ∃ y, v = [Z (.ptr i 0), Z y] ∧ f9_l1 r 8192 v s = some (.exit 1 [Z y], s) := by
  obtain ⟨hh, ⟨y, rfl, hy⟩, hsz, hold⟩ := h
  obtain ⟨es, hes, hall⟩ := hh.mp
  have hf := get_none (n + 1) hall 0 hg
  have l0 : aLoad1 (Z (.ptr i 0)) s.get = some (I .i64 n) := aLoad1_of hh.ri rfl
  have l1 : aLoad1 (Z (.ptr i 1)) s.get = some (Z (.map m)) := aLoad1_of hh.ri rfl
  have w1 : IntKind.i64.wrap (n + 1) = n + 1 := wrap_in _ (by omega) (by omega)
  have lk : Go.Abs.F.look .i true (.s .nils) (Z (.map m)) (I .i64 (n + 1)) s.get = some (.tup [.s .nils, .s (.bool false)]) := by
    simp [Go.Abs.F.look, isKey, aLookup, hes, hf]
  refine ⟨y, rfl, ?_⟩
  unfold f9_l1
  simp [l0, l1, w1, lk, aExtract]

theorem row_run (r : CallF) (s0 : St) (hhi : hi ≤ s0.size) : ∀ (f : Nat) (n : Int) (K : Kp) (out : List Bs) (v : List T) (s : St) (N : Nat), RowB s0 i m lo hi n K out v s → 0 ≤ n → n + f ≤ 1900000 → out.length + f ≤ 7000 → K.length ≤ f → f < N →
    ∃ y τ, loops (f9_l1 r 8192) N v s = some (.exit 1 [Z y], τ) ∧ RowB s0 i m lo hi (popM f n K out).1 (popM f n K out).2.1 (popM f n K out).2.2 [Z (.ptr i 0), Z y] τ := by
  intro f
  induction f with
  | zero =>
    intro n K out v s N h h0 h1 h2 hk hN
    have : K = [] := List.eq_nil_of_length_eq_zero (by omega)
    subst this
    obtain ⟨N, rfl⟩ : ∃ M, N = M + 1 := ⟨N - 1, by omega⟩
    obtain ⟨y, rfl, e⟩ := row_end r h h0 (by omega) rfl
    exact ⟨y, s, by rw [loops, e], h⟩
  | succ f ih =>
    intro n K out v s N h h0 h1 h2 hk hN
    obtain ⟨N, rfl⟩ : ∃ M, N = M + 1 := ⟨N - 1, by omega⟩
    cases hg : getK (n + 1) K with
    | none =>
      obtain ⟨y, rfl, e⟩ := row_end r h h0 (by omega) hg
      exact ⟨y, s, by rw [loops, e], by simp only [popM, hg]; exact h⟩
    | some b =>
      obtain ⟨v', s', e, h'⟩ := row_step r s0 hhi h h0 (by omega) (by omega) hg
      have hl := delK_len _ hg
      obtain ⟨y, τ, e2, h3⟩ := ih (n + 1) (delK (n + 1) K) (out ++ [b]) v' s' N h' (by omega) (by omega) (by simp; omega) (by omega) (by omega)
      refine ⟨y, τ, ?_, ?_⟩
      · rw [loops, e]; exact e2
      · simp only [popM, hg]; exact h3

theorem take_run (d : Nat) {seq : Int} (h : HasB s i m lo s.size n K) (h0 : 0 ≤ n) (h1 : n ≤ 1000000) (hK : K.length ≤ 5000) (hx : RB s x b) (hox : ∀ c, own x = some c → c < s.size) (hb : b.length ≤ 100000) (hs1 : seq ≤ 9223372036854775807) :
    ∃ y t, R (d + 2) 9 [Z (.ptr i 0), I .i64 seq, Z x] s = some (.tup [.s y, .s (.int .i64 (takeM n K seq b).2)], t) ∧ HasB t i m lo t.size (takeM n K seq b).1.1 (takeM n K seq b).1.2.1 ∧
      (∃ hi, s.size ≤ hi ∧ OutB t lo hi y (takeM n K seq b).1.2.2) ∧ s.size ≤ t.size ∧ ∀ c, c < s.size → c ≠ i → c ≠ m → t.get c = s.get c := by
  have l0 : aLoad1 (Z (.ptr i 0)) s.get = some (I .i64 n) := aLoad1_of h.ri rfl
  have l1 : aLoad1 (Z (.ptr i 1)) s.get = some (Z (.map m)) := aLoad1_of h.ri rfl
  have lb := hx.lenB
  obtain ⟨es, hes, hall⟩ := h.mp
  have hi' := h.wf.lt h.ri
  have hm' := h.wf.lt hes
  have nout : ∃ hi, s.size ≤ hi ∧ OutB s lo hi .nils [] := ⟨s.size, Nat.le_refl _, ⟨[], Ow.nil 1 s, .nil⟩, fun c hc => by cases hc⟩
  rw [f9_run]
  unfold f9
  unfold takeM
  by_cases c1 : seq < 1
  · rw [if_pos (.inl c1)]
    refine ⟨.nils, s, ?_, h, nout, Nat.le_refl _, fun _ _ _ _ => rfl⟩
    simp [c1, retT, allV]
  have w8 : IntKind.i64.wrap (seq - 8) = seq - 8 := wrap_in _ (by omega) (by omega)
  by_cases c2 : n + 8 < seq
  · rw [if_pos (.inr (.inl c2))]
    have c2' : n < seq - 8 := by omega
    refine ⟨.nils, s, ?_, h, nout, Nat.le_refl _, fun _ _ _ _ => rfl⟩
    simp [c1, l0, w8, c2', retT, allV]
  have c2' : ¬ n < seq - 8 := by omega
  by_cases c3 : 4100 < b.length
  · rw [if_pos (.inr (.inr c3))]
    have c3' : (4100 : Int) < (b.length : Int) := by omega
    refine ⟨.nils, s, ?_, h, nout, Nat.le_refl _, fun _ _ _ _ => rfl⟩
    generalize (b.length : Int) = BL at *
    simp [c1, l0, w8, c2', lb, c3', retT, allV]
  have c3' : ¬ (4100 : Int) < (b.length : Int) := by omega
  rw [if_neg (by rintro (h | h | h) <;> omega)]
  cases hg : getK seq K with
  | some b' =>
    obtain ⟨j, z, hf, hj, _, _⟩ := get_some seq hall 0 hg
    have lk : Go.Abs.F.look .i true (.s .nils) (Z (.map m)) (I .i64 seq) s.get = some (.tup [.s z, .s (.bool true)]) := by
      simp [Go.Abs.F.look, isKey, aLookup, hes, hf]
    rw [if_pos (.inl rfl)]
    refine ⟨.nils, s, ?_, h, nout, Nat.le_refl _, fun _ _ _ _ => rfl⟩
    generalize (b.length : Int) = BL at *
    simp [c1, l0, l1, w8, c2', lb, c3', retT, allV, lk, aExtract]
  | none =>
    have hf := get_none seq hall 0 hg
    have lk : Go.Abs.F.look .i true (.s .nils) (Z (.map m)) (I .i64 seq) s.get = some (.tup [.s .nils, .s (.bool false)]) := by
      simp [Go.Abs.F.look, isKey, aLookup, hes, hf]
    by_cases c4 : seq ≤ n
    · rw [if_pos (.inr c4)]
      refine ⟨.nils, s, ?_, h, nout, Nat.le_refl _, fun _ _ _ _ => rfl⟩
      generalize (b.length : Int) = BL at *
      simp [c1, l0, l1, w8, c2', lb, c3', retT, allV, lk, aExtract, c4]
    rw [if_neg (by rintro (h | h); cases h; exact c4 h)]
    obtain ⟨z, s8, ec, rz, g8, nz⟩ := clone_run d h.wf hx hox hb
    have l8 : aLoad1 (Z (.ptr i 1)) s8.get = some (Z (.map m)) := aLoad1_of ((g8.2.2 i hi').trans h.ri) rfl
    obtain ⟨s9, hs9⟩ : ∃ s9, s9 = s8.set m (.map (es ++ [(S.int .i64 seq, V.s z)])) := ⟨_, rfl⟩
    have ms : mset .i (Z (.map m)) (I .i64 seq) (Z z) s8 = some (tt, s9) := by
      simp [mset, isKey, aMapSet, (g8.2.2 m hm').trans hes, hf, hs9]
    have g9 : ∀ c, c ≠ m → s9.get c = s8.get c := fun c hc => by rw [hs9, St.get_set_ne _ _ hc]
    have z8 := g8.2.1
    have z9 : s9.size = s8.size := by rw [hs9]; rfl
    have q1 := h.ilo
    have q2 := h.mlo
    have q3 := h.loh
    have k9 : ∀ c, lo ≤ c → c < s.size → s9.get c = s.get c := fun c h3 h4 => by rw [g9 c (by omega), g8.2.2 c h4]
    have hh9 : HasB s9 i m lo s9.size n (K ++ [(seq, b)]) := by
      refine ⟨by rw [hs9]; exact St.wf_set g8.wf (by omega) _, by rw [g9 i (Ne.symm h.ne), g8.2.2 i hi']; exact h.ri, q1, q2, by omega, Nat.le_refl _, _, by rw [hs9, St.get_set_same], ?_⟩
      refine forall2_append (all2_mono' hall fun a e hab => hab.keep (Nat.le_refl _) (by omega) k9) (.cons ⟨z, rfl, ?_⟩ .nil)
      refine ⟨rz.keep fun c hc => g9 c (by have := (nz c hc).1; omega), fun c hc => by have := nz c hc; omega⟩
    obtain ⟨y, τ, lp, hr⟩ := row_run (R (d + 1)) s9 (Nat.le_refl _) (K.length + 1) n (K ++ [(seq, b)]) [] [Z (.ptr i 0), Z .nils] s9 8192
      ⟨hh9, ⟨.nils, rfl, ⟨[], Ow.nil 1 s9, .nil⟩, fun c hc => by cases hc⟩, Nat.le_refl _, fun _ _ _ _ => rfl⟩ h0 (by omega) (by simp; omega) (by simp) (by omega)
    obtain ⟨hh', ⟨y', ey, ho'⟩, hsz', hold'⟩ := hr
    cases ey
    refine ⟨y, τ, ?_, hh'.up (by omega) (Nat.le_refl _), ⟨s9.size, by omega, ho'⟩, by omega, fun c h3 h4 h5 => ?_⟩
    · generalize popM (K.length + 1) n (K ++ [(seq, b)]) [] = PM at *
      generalize R (d + 1) = r at *
      generalize (b.length : Int) = BL at *
      simp [c1, l0, l1, w8, c2', lb, c3', retT, allV, lk, aExtract, c4, ec, l8, ms, lp]
    · rw [hold' c (by omega) h4 h5, g9 c h5, g8.2.2 c h3]
end
end Go.Proofs.Ytoibllpfjnicfaa


/-
  What the document's Take does, in any store in which the receiver's numbers and bodies lie sorted. No conditions but those named in each line.
-/
namespace Go.Proofs.Ytoibllpfjnicfaa
open Go Go.Abs Go.Abs.F
set_option linter.unusedVariables false

def Ks (M : Kp) : List S := M.map fun p => S.int .i64 p.1
def Bss (M : Kp) : List S := M.map fun p => S.str p.2
@[simp] theorem Ks_len (M : Kp) : (Ks M).length = M.length := by simp [Ks]
@[simp] theorem Bss_len (M : Kp) : (Bss M).length = M.length := by simp [Bss]

def kM (q : Int) : Kp → Nat
  | [] => 0
  | p :: r => if p.1 < q then kM q r + 1 else 0

theorem kM_le (q : Int) : ∀ M : Kp, kM q M ≤ M.length
  | [] => Nat.le_refl _
  | p :: r => by
    have := kM_le q r
    unfold kM
    split
    · simp only [List.length_cons]; omega
    · simp
theorem kM_lt (q : Int) : ∀ (M : Kp) (j : Nat), j < kM q M → ∃ p, M[j]? = some p ∧ p.1 < q
  | [], j, h => by simp [kM] at h
  | p :: r, j, h => by
    unfold kM at h
    split at h
    · rename_i hp
      cases j with
      | zero => exact ⟨p, rfl, hp⟩
      | succ j =>
        obtain ⟨p', h1, h2⟩ := kM_lt q r j (by omega)
        exact ⟨p', by simpa using h1, h2⟩
    · omega
theorem kM_at (q : Int) : ∀ (M : Kp) (p : Int × Bs), M[kM q M]? = some p → ¬ p.1 < q
  | [], p, h => by simp at h
  | p' :: r, p, h => by
    unfold kM at h
    split at h
    · exact kM_at q r p (by simpa using h)
    · rename_i hp
      simp at h
      subst h
      exact hp

def popS : Int → Kp → List Bs → Int × Kp × List Bs
  | n, [], out => (n, [], out)
  | n, p :: r, out => if p.1 = n + 1 then popS (n + 1) r (out ++ [p.2]) else (n, p :: r, out)

def insS (M : Kp) (q : Int) (b : Bs) : Kp := M.take (kM q M) ++ (q, b) :: M.drop (kM q M)

def takeS (n : Int) (M : Kp) (seq : Int) (b : Bs) : (Int × Kp × List Bs) × Int :=
  if seq < 1 ∨ n + 8 < seq ∨ 4100 < b.length then ((n, M, []), 5)
  else if seq ≤ n ∨ (M[kM seq M]?).map (·.1) = some seq then ((n, M, []), 0)
  else (popS n (insS M seq b) [], 0)

section
variable {s t : St} {i lo : Nat} {n : Int} {M : Kp} {b : Bs}

structure HasS (s : St) (i lo : Nat) (n : Int) (M : Kp) : Prop where
  wf : s.wf
  ex : ∃ x y, s.get i = some (.cells true [.int .i64 n, x, y]) ∧ Rd 1 s x M.length (Ks M) ∧ Rd 1 s y M.length (Bss M) ∧ ∀ c, own x = some c ∨ own y = some c → lo ≤ c ∧ c < s.size
  ilo : i < lo
  los : lo ≤ s.size

theorem HasS.keep (h : HasS s i lo n M) (wf : t.wf) (hz : s.size ≤ t.size) (hi : t.get i = s.get i) (hk : ∀ c, lo ≤ c → c < s.size → t.get c = s.get c) : HasS t i lo n M := by
  obtain ⟨x, y, h1, h2, h3, h4⟩ := h.ex
  have := h.los
  exact ⟨wf, ⟨x, y, by rw [hi]; exact h1, h2.keep fun c hc => hk c (h4 c (.inl hc)).1 (h4 c (.inl hc)).2, h3.keep fun c hc => hk c (h4 c (.inr hc)).1 (h4 c (.inr hc)).2, fun c hc => by have := h4 c hc; omega⟩, h.ilo, by omega⟩

theorem find_run (r : CallF) (h : HasS s i lo n M) (hM : M.length ≤ 5000) (q : Int) (a2 : T) :
    loops (f10_l1 r 8192) 8192 [Z (.ptr i 0), I .i64 q, a2, I .i64 0] s = some (.exit 0 [Z (.ptr i 0), I .i64 q, a2, I .i64 (kM q M : Nat)], s) := by
  obtain ⟨x, y, h1, h2, h3, h4⟩ := h.ex
  have l1 : aLoad1 (Z (.ptr i 1)) s.get = some (Z x) := aLoad1_of h1 rfl
  have ln := h2.lens
  have hle := kM_le q M
  obtain ⟨j, τ, lp, rfl, rfl⟩ := loops_inv (f := f10_l1 r 8192) (fun f v u => ∃ k : Nat, f + k = kM q M ∧ v = [Z (.ptr i 0), I .i64 q, a2, I .i64 k] ∧ u = s)
    (fun j u => j = .exit 0 [Z (.ptr i 0), I .i64 q, a2, I .i64 (kM q M : Nat)] ∧ u = s) (by
    rintro f v u ⟨k, hk, rfl, rfl⟩
    by_cases hkl : k < kM q M
    · left
      obtain ⟨p, hp, hlt⟩ := kM_lt q M k hkl
      obtain ⟨P, ix, ld⟩ := h2.at1 (i := (k : Int)) (j := k) (v := .int .i64 p.1) rfl (by simp [Ks, hp])
      have c0 : (k : Int) < (M.length : Int) := by omega
      have w1 : IntKind.i64.wrap ((k : Int) + 1) = ((k + 1 : Nat) : Int) := by rw [wrap_in _ (by omega) (by omega)]; omega
      refine ⟨_, u, f - 1, ?_, by omega, k + 1, by omega, rfl, rfl⟩
      unfold f10_l1
      generalize ((k + 1 : Nat) : Int) = K1 at *
      generalize (k : Int) = KK at *
      generalize (M.length : Int) = ML at *
      simp [l1, ln, c0, ix, ld, hlt, w1]
    · right
      have : k = kM q M := by omega
      subst this
      refine ⟨_, u, ?_, (fun v hv => by cases hv), rfl, rfl⟩
      by_cases hlen : kM q M < M.length
      · have hp : M[kM q M]? = some M[kM q M] := List.getElem?_eq_getElem hlen
        have hnl := kM_at q M _ hp
        obtain ⟨P, ix, ld⟩ := h2.at1 (i := ((kM q M : Nat) : Int)) (j := kM q M) (v := .int .i64 M[kM q M].1) rfl (by simp [Ks, hp])
        have c0 : ((kM q M : Nat) : Int) < (M.length : Int) := by omega
        generalize M[kM q M] = pp at *
        unfold f10_l1
        generalize ((kM q M : Nat) : Int) = KK at *
        generalize (M.length : Int) = ML at *
        simp [l1, ln, c0, ix, ld, hnl]
      · have c0 : ¬ ((kM q M : Nat) : Int) < (M.length : Int) := by omega
        unfold f10_l1
        generalize ((kM q M : Nat) : Int) = KK at *
        generalize (M.length : Int) = ML at *
        simp [l1, ln, c0]) 8192 (kM q M) [Z (.ptr i 0), I .i64 q, a2, I .i64 0] s ⟨0, by omega, by simp, rfl⟩ (by omega)
  exact lp

structure RowS (s0 : St) (i lo : Nat) (n : Int) (M : Kp) (out : List Bs) (v : List T) (s : St) : Prop where
  wf : s.wf
  ex : ∃ x y, s.get i = some (.cells true [.int .i64 n, x, y]) ∧ Rd 1 s x M.length (Ks M) ∧ Rd 1 s y M.length (Bss M) ∧ ∀ c, own x = some c ∨ own y = some c → lo ≤ c ∧ c < s0.size
  out : ∃ z, v = [Z (.ptr i 0), Z z] ∧ Ow 1 s z out.length (strS out) ∧ ∀ c, own z = some c → s0.size ≤ c
  siz : s0.size ≤ s.size
  old : ∀ c, c < s0.size → c ≠ i → s.get c = s0.get c

theorem rows_step (r : CallF) {s0 : St} (hil : i < lo) (his : i < s0.size) {p : Int × Bs} {out : List Bs} {v : List T} (h : RowS s0 i lo n (p :: M) out v s) (h0 : 0 ≤ n) (h1 : n ≤ 2000000) (hol : out.length ≤ 7000) (hp : p.1 = n + 1) :
    ∃ v' s', f10_l2 r 8192 v s = some (.normal v', s') ∧ RowS s0 i lo (n + 1) M (out ++ [p.2]) v' s' := by
  obtain ⟨wf, ⟨x, y, g1, g2, g3, g4⟩, ⟨z, rfl, hz, nz⟩, hsz, hold⟩ := h
  have l0 : aLoad1 (Z (.ptr i 0)) s.get = some (I .i64 n) := aLoad1_of g1 rfl
  have l1 : aLoad1 (Z (.ptr i 1)) s.get = some (Z x) := aLoad1_of g1 rfl
  have l2 : aLoad1 (Z (.ptr i 2)) s.get = some (Z y) := aLoad1_of g1 rfl
  have ln := g2.lens
  have c0 : (0 : Int) < ((p :: M).length : Nat) := by simp only [List.length_cons]; omega
  have w1 : IntKind.i64.wrap (n + 1) = n + 1 := wrap_in _ (by omega) (by omega)
  obtain ⟨P, ix, ld⟩ := g2.at1 (i := 0) (j := 0) (v := .int .i64 (n + 1)) rfl (by simp [Ks, hp])
  obtain ⟨Q, iy, le⟩ := g3.at1 (i := 0) (j := 0) (v := .str p.2) rfl (by simp [Bss])
  have L := Fr.lit 1 wf (n := 1) (vs := [.str p.2]) rfl
  have nw : aNew s (nSlice 1 (aFill [.str []] [(0, 1, Z (.str p.2))])) = some (Z (.sl s.size 0 1 (.known 1)), s.push (.cells true [.str p.2])) := by
    simp [aNew, nSlice, aFill, V.cells, setRange]
  have hzl : ∀ c, own z = some c → c < s.size := fun c hc => hz.lt wf hc
  obtain ⟨z', s4, ap, wf4, hz4, how4, old4, new4⟩ := (hz.gr wf L.gr).append (by_ := 16) L.gr.wf (by omega) L.rd.src rfl (by omega)
  have hz3 : (s.push (.cells true [.str p.2])).size = s.size + 1 := by simp
  have k4 : ∀ c, c < s0.size → s4.get c = s.get c := fun c hc => by
    rw [old4 c (by omega) (fun e => by have := nz c e; omega), St.get_push_ne _ _ (by omega)]
  have g14 : s4.get i = some (.cells true [.int .i64 n, x, y]) := by rw [k4 i his]; exact g1
  have r2 := g2.keep (t := s4) fun c hc => k4 c (g4 c (.inl hc)).2
  have r3 := g3.keep (t := s4) fun c hc => k4 c (g4 c (.inr hc)).2
  obtain ⟨x', px, rx, ox⟩ := r2.onfrom (lo := 1) (by simp)
  obtain ⟨y', py, ry, oy⟩ := r3.onfrom (lo := 1) (by simp)
  have px : aPieceSl 1 (Z x) (some (I .i64 1)) none none = some (Z x') := px
  have py : aPieceSl 1 (Z y) (some (I .i64 1)) none none = some (Z y') := py
  have m0 : aLoad1 (Z (.ptr i 0)) s4.get = some (I .i64 n) := aLoad1_of g14 rfl
  have m1 : aLoad1 (Z (.ptr i 1)) s4.get = some (Z x) := aLoad1_of g14 rfl
  have m2 : aLoad1 (Z (.ptr i 2)) s4.get = some (Z y) := aLoad1_of g14 rfl
  obtain ⟨s5, hs5⟩ : ∃ s5, s5 = s4.set i (.cells true [.int .i64 n, x', y]) := ⟨_, rfl⟩
  have st5 : aStore 1 (Z (.ptr i 1)) (Z x') s4 = some (tt, s5) := by rw [hs5]; exact aStore1_of g14 (by simp)
  have g15 : s5.get i = some (.cells true [.int .i64 n, x', y]) := by rw [hs5, St.get_set_same]
  obtain ⟨s6, hs6⟩ : ∃ s6, s6 = s5.set i (.cells true [.int .i64 n, x', y']) := ⟨_, rfl⟩
  have st6 : aStore 1 (Z (.ptr i 2)) (Z y') s5 = some (tt, s6) := by rw [hs6]; exact aStore1_of g15 (by simp)
  have g16 : s6.get i = some (.cells true [.int .i64 n, x', y']) := by rw [hs6, St.get_set_same]
  have n0 : aLoad1 (Z (.ptr i 0)) s6.get = some (I .i64 n) := aLoad1_of g16 rfl
  obtain ⟨s7, hs7⟩ : ∃ s7, s7 = s6.set i (.cells true [.int .i64 (n + 1), x', y']) := ⟨_, rfl⟩
  have st7 : aStore 1 (Z (.ptr i 0)) (I .i64 (n + 1)) s6 = some (tt, s7) := by rw [hs7]; exact aStore1_of g16 (by simp)
  have g17 : s7.get i = some (.cells true [.int .i64 (n + 1), x', y']) := by rw [hs7, St.get_set_same]
  have z7 : s7.size = s4.size := by rw [hs7, hs6, hs5]; simp
  have k7 : ∀ c, c ≠ i → s7.get c = s4.get c := fun c hc => by rw [hs7, St.get_set_ne _ _ hc, hs6, St.get_set_ne _ _ hc, hs5, St.get_set_ne _ _ hc]
  have wf7 : s7.wf := by
    rw [hs7, hs6, hs5]
    exact St.wf_set (St.wf_set (St.wf_set wf4 (by omega) _) (by simp; omega) _) (by simp; omega) _
  have ox' : ∀ c, own x' = some c → own x = some c := fun c hc => by
    rcases ox with e | e
    · rw [e] at hc; cases hc
    · rwa [e] at hc
  have oy' : ∀ c, own y' = some c → own y = some c := fun c hc => by
    rcases oy with e | e
    · rw [e] at hc; cases hc
    · rwa [e] at hc
  have zi : ∀ c, own z' = some c → s0.size ≤ c := fun c hc => by
    rcases new4 with e | e | ⟨c', e, hc'⟩
    · rw [e] at hc; cases hc
    · rw [e] at hc; exact nz c hc
    · rw [e] at hc; cases hc; omega
  refine ⟨[Z (.ptr i 0), Z z'], s7, ?_, ⟨wf7, ⟨x', y', g17, ?_, ?_, fun c hc => ?_⟩, ⟨z', rfl, ?_, zi⟩, by omega, fun c h3 h4 => ?_⟩⟩
  · unfold f10_l2
    generalize (((p :: M).length : Nat) : Int) = ML at *
    simp [l0, l1, l2, ln, c0, ix, ld, iy, le, w1, nw, ap, m1, m2, px, py, st5, st6, n0, st7]
  · have := rx.keep (t := s7) fun c hc => k7 c (by have := g4 c (.inl (ox' c hc)); omega)
    simpa [Ks] using this
  · have := ry.keep (t := s7) fun c hc => k7 c (by have := g4 c (.inr (oy' c hc)); omega)
    simpa [Bss] using this
  · rcases hc with hc | hc
    · exact g4 c (.inl (ox' c hc))
    · exact g4 c (.inr (oy' c hc))
  · have := how4.keep (t := s7) fun c hc => k7 c (by have := zi c hc; omega)
    simpa [strS] using this
  · rw [k7 c h4, k4 c h3]
    exact hold c h3 h4

theorem rows_end (r : CallF) {s0 : St} {out : List Bs} {v : List T} (h : RowS s0 i lo n M out v s) (h0 : 0 ≤ n) (h1 : n ≤ 2000000) (hp : ∀ p r, M = p :: r → p.1 ≠ n + 1) :
    ∃ z, v = [Z (.ptr i 0), Z z] ∧ f10_l2 r 8192 v s = some (.exit 2 [Z z], s) := by
  obtain ⟨wf, ⟨x, y, g1, g2, g3, g4⟩, ⟨z, rfl, hz, nz⟩, hsz, hold⟩ := h
  have l0 : aLoad1 (Z (.ptr i 0)) s.get = some (I .i64 n) := aLoad1_of g1 rfl
  have l1 : aLoad1 (Z (.ptr i 1)) s.get = some (Z x) := aLoad1_of g1 rfl
  have ln := g2.lens
  have w1 : IntKind.i64.wrap (n + 1) = n + 1 := wrap_in _ (by omega) (by omega)
  refine ⟨z, rfl, ?_⟩
  cases M with
  | nil =>
    unfold f10_l2
    simp [l1, ln]
  | cons p r' =>
    have c0 : (0 : Int) < ((p :: r').length : Nat) := by simp only [List.length_cons]; omega
    have hne := hp p r' rfl
    obtain ⟨P, ix, ld⟩ := g2.at1 (i := 0) (j := 0) (v := .int .i64 p.1) rfl (by simp [Ks])
    unfold f10_l2
    generalize (((p :: r').length : Nat) : Int) = ML at *
    simp [l0, l1, ln, c0, ix, ld, w1, hne]

theorem rows_run (r : CallF) (s0 : St) (hil : i < lo) (his : i < s0.size) : ∀ (M : Kp) (n : Int) (out : List Bs) (v : List T) (s : St) (N : Nat), RowS s0 i lo n M out v s → 0 ≤ n → n + M.length ≤ 1900000 → out.length + M.length ≤ 7000 → M.length < N →
    ∃ z τ, loops (f10_l2 r 8192) N v s = some (.exit 2 [Z z], τ) ∧ RowS s0 i lo (popS n M out).1 (popS n M out).2.1 (popS n M out).2.2 [Z (.ptr i 0), Z z] τ := by
  intro M
  induction M with
  | nil =>
    intro n out v s N h h0 h1 h2 hN
    obtain ⟨N, rfl⟩ : ∃ M, N = M + 1 := ⟨N - 1, by omega⟩
    obtain ⟨z, rfl, e⟩ := rows_end r h h0 (by simp at h1; omega) (fun p r e => by cases e)
    exact ⟨z, s, by rw [loops, e], h⟩
  | cons p M ih =>
    intro n out v s N h h0 h1 h2 hN
    obtain ⟨N, rfl⟩ : ∃ M, N = M + 1 := ⟨N - 1, by omega⟩
    simp only [List.length_cons] at h1 h2 hN
    by_cases hp : p.1 = n + 1
    · obtain ⟨v', s', e, h'⟩ := rows_step r hil his h h0 (by omega) (by omega) hp
      obtain ⟨z, τ, e2, h3⟩ := ih (n + 1) (out ++ [p.2]) v' s' N h' (by omega) (by omega) (by simp; omega) (by omega)
      refine ⟨z, τ, by rw [loops, e]; exact e2, ?_⟩
      unfold popS
      rw [if_pos hp]
      exact h3
    · obtain ⟨z, rfl, e⟩ := rows_end r h h0 (by omega) (fun p' r' e => by cases e; exact hp)
      refine ⟨z, s, by rw [loops, e], ?_⟩
      unfold popS
      rw [if_neg hp]
      exact h

theorem Ks_ins (M : Kp) (q : Int) (b : Bs) : Ks (insS M q b) = (Ks M).take (kM q M) ++ [S.int .i64 q] ++ (Ks M).drop (kM q M) := by
  simp [Ks, insS, List.map_take, List.map_drop]
theorem Bss_ins (M : Kp) (q : Int) (b : Bs) : Bss (insS M q b) = (Bss M).take (kM q M) ++ [S.str b] ++ (Bss M).drop (kM q M) := by
  simp [Bss, insS, List.map_take, List.map_drop]
theorem ins_len (M : Kp) (q : Int) (b : Bs) : (insS M q b).length = M.length + 1 := by
  have := kM_le q M
  simp [insS]; omega

theorem ov_at {g g' : Mem} {P i j : Nat} {x : S} {vs : List S} {l : List (Nat × Nat × Blk)} (h : g i = some (.cells true vs)) (h' : g' i = some (.cells true vs)) (hx : vs[j]? = some x) (hl : ∀ q k b, (q, k, b) ∈ l → k ≠ i) :
    aLoad1 (Z (.ptr i j)) (overlay P g l) = aLoad1 (Z (.ptr i j)) g' := by
  have e : overlay P g l i = g i := overlay_miss P g i l fun q k b hm _ => hl q k b hm
  rw [aLoad1_of (e.trans h) hx, aLoad1_of h' hx]

theorem ovO_mem {k n : Nat} {x : New} {r : List (Nat × Nat × Blk)} {q j : Nat} {b : Blk} (h : (q, j, b) ∈ ovO k n x r) : j = n ∨ (q, j, b) ∈ r := by
  unfold ovO at h
  split at h
  · rcases List.mem_cons.1 h with h | h
    · cases h; exact .inl rfl
    · exact .inr h
  · exact .inr h

set_option maxHeartbeats 4000000 in
theorem rtake_run (d : Nat) {seq : Int} (h : HasS s i lo n M) (h0 : 0 ≤ n) (h1 : n ≤ 1000000) (hM : M.length ≤ 5000) (hb : b.length ≤ 100000) :
    ∃ z t, R (d + 1) 10 [Z (.ptr i 0), I .i64 seq, Z (.str b)] s = some (.tup [.s z, .s (.int .i64 (takeS n M seq b).2)], t) ∧ HasS t i lo (takeS n M seq b).1.1 (takeS n M seq b).1.2.1 ∧
      Rd 1 t z (takeS n M seq b).1.2.2.length (strS (takeS n M seq b).1.2.2) ∧ (∀ c, own z = some c → s.size ≤ c ∧ c < t.size) ∧ s.size ≤ t.size ∧ ∀ c, c < s.size → c ≠ i → t.get c = s.get c := by
  obtain ⟨x, y, g1, g2, g3, g4⟩ := h.ex
  have wf := h.wf
  have hi := wf.lt g1
  have l0 : aLoad1 (Z (.ptr i 0)) s.get = some (I .i64 n) := aLoad1_of g1 rfl
  have l1 : aLoad1 (Z (.ptr i 1)) s.get = some (Z x) := aLoad1_of g1 rfl
  have lx := g2.lens
  rw [f10_run]
  unfold f10
  unfold takeS
  by_cases c1 : seq < 1
  · rw [if_pos (.inl c1)]
    refine ⟨.nils, s, ?_, h, Rd.nil 1 s, (fun c hc => by cases hc), Nat.le_refl _, fun _ _ _ => rfl⟩
    simp [c1, retT, allV]
  have w8 : IntKind.i64.wrap (n + 8) = n + 8 := wrap_in _ (by omega) (by omega)
  by_cases c2 : n + 8 < seq
  · rw [if_pos (.inr (.inl c2))]
    refine ⟨.nils, s, ?_, h, Rd.nil 1 s, (fun c hc => by cases hc), Nat.le_refl _, fun _ _ _ => rfl⟩
    simp [c1, l0, w8, c2, retT, allV]
  by_cases c3 : 4100 < b.length
  · rw [if_pos (.inr (.inr c3))]
    have c3' : (4100 : Int) < (b.length : Int) := by omega
    refine ⟨.nils, s, ?_, h, Rd.nil 1 s, (fun c hc => by cases hc), Nat.le_refl _, fun _ _ _ => rfl⟩
    have lb : aLenStr (Z (.str b)) = some (I .i64 b.length) := aLenStr_str b
    generalize (b.length : Int) = BL at *
    simp [c1, l0, w8, c2, lb, c3', retT, allV]
  have c3' : ¬ (4100 : Int) < (b.length : Int) := by omega
  have lb : aLenStr (Z (.str b)) = some (I .i64 b.length) := aLenStr_str b
  rw [if_neg (by rintro (h | h | h) <;> omega)]
  have fr := find_run (R d) h hM seq (Z (.str b))
  have hk := kM_le seq M
  obtain ⟨k, hkd⟩ : ∃ k, k = kM seq M := ⟨_, rfl⟩
  rw [← hkd] at fr hk ⊢
  by_cases c4 : seq ≤ n
  · rw [if_pos (.inl c4)]
    refine ⟨.nils, s, ?_, h, Rd.nil 1 s, (fun c hc => by cases hc), Nat.le_refl _, fun _ _ _ => rfl⟩
    generalize (b.length : Int) = BL at *
    generalize (M.length : Int) = ML at *
    generalize (k : Int) = KK at *
    simp [c1, l0, l1, w8, c2, lb, c3', retT, allV, fr, c4, show ∀ b, gd tt b = some false from fun _ => rfl]
  by_cases c5 : (M[k]?).map (·.1) = some seq
  · rw [if_pos (.inr c5)]
    obtain ⟨p, hp, he⟩ := Option.map_eq_some_iff.1 c5
    have hkl := (List.getElem?_eq_some_iff.1 hp).1
    obtain ⟨P, ix, ld⟩ := g2.at1 (i := (k : Int)) (j := k) (v := .int .i64 seq) rfl (by simp [Ks, hp, he])
    have c6 : (k : Int) < (M.length : Int) := by omega
    refine ⟨.nils, s, ?_, h, Rd.nil 1 s, (fun c hc => by cases hc), Nat.le_refl _, fun _ _ _ => rfl⟩
    generalize (b.length : Int) = BL at *
    generalize (M.length : Int) = ML at *
    generalize (k : Int) = KK at *
    simp [c1, l0, l1, w8, c2, lb, c3', retT, allV, fr, c4, lx, c6, ix, ld]
  rw [if_neg (by rintro (h | h); exact c4 h; exact c5 h)]
  have tst : ∃ bb : T, (bb = B false) ∧ (((k : Int) < (M.length : Int)) → ∃ P sq, aIndexSl 1 (Z x) (I .i64 k) = some P ∧ aLoad1 P s.get = some (I .i64 sq) ∧ sq ≠ seq) := by
    refine ⟨_, rfl, fun hlt => ?_⟩
    have hkl : k < M.length := by omega
    have hp : M[k]? = some M[k] := List.getElem?_eq_getElem hkl
    obtain ⟨P, ix, ld⟩ := g2.at1 (i := (k : Int)) (j := k) (v := .int .i64 M[k].1) rfl (by simp [Ks, hp])
    exact ⟨P, _, ix, ld, fun e => c5 (by rw [hp]; simp [e])⟩
  obtain ⟨_, _, tst⟩ := tst
  have g2' : x = x := rfl
  have LX := Fr.lit 1 wf (n := 0) (vs := []) rfl
  have nw1 : aNew s (nSlice 0 (aFill [] [])) = some (Z (.sl s.size 0 0 (.known 0)), s.push (.cells true [])) := by simp [aNew, nSlice, aFill]
  have zp : (s.push (.cells true [])).size = s.size + 1 := by simp
  have gx1 := g2.gr (fun c hc => (g4 c (.inl hc)).2) LX.gr
  obtain ⟨x1, px1, rx1, _⟩ := gx1.upto (hi := k) hk
  obtain ⟨X, s16, apX, FX, zX, _⟩ := LX.append (by_ := 8) (by omega) rx1.src rx1.len (by omega)
  have l1a : aLoad1 (Z (.ptr i 1)) (s.push (.cells true [])).get = some (Z x) := aLoad1_of (by rw [LX.gr.2.2 i hi]; exact g1) rfl
  have LY := Fr.lit 1 FX.gr.wf (n := 0) (vs := []) rfl
  have nw2 : aNew s16 (nSlice 0 (aFill [] [])) = some (Z (.sl s16.size 0 0 (.known 0)), s16.push (.cells true [])) := by simp [aNew, nSlice, aFill]
  have G17 := FX.gr.trans LY.gr
  have l2a : aLoad1 (Z (.ptr i 2)) (s16.push (.cells true [])).get = some (Z y) := aLoad1_of (by rw [G17.2.2 i hi]; exact g1) rfl
  have gy1 := g3.gr (fun c hc => (g4 c (.inr hc)).2) G17
  obtain ⟨y1, py1, ry1, _⟩ := gy1.upto (hi := k) hk
  obtain ⟨Y, s18, apY, FY, zY, _⟩ := LY.append (by_ := 16) (by omega) ry1.src ry1.len (by omega)
  have FX18 := FX.gr' FY.gr
  have zp16 : (s16.push (.cells true [])).size = s16.size + 1 := by simp
  have L19 := Fr.lit 1 FX18.gr.wf (n := 1) (vs := [.int .i64 seq]) rfl
  have nw3 : aNew s18 (nSlice 1 (aFill [.int .i64 0] [(0, 1, I .i64 seq)])) = some (Z (.sl s18.size 0 1 (.known 1)), s18.push (.cells true [.int .i64 seq])) := by simp [aNew, nSlice, aFill, V.cells, setRange]
  have zp18 : (s18.push (.cells true [.int .i64 seq])).size = s18.size + 1 := by simp
  obtain ⟨X2, s20, apX2, FX2, zX2, kX2, nX2⟩ := (FX18.gr' L19.gr).append' (by_ := 8) (by omega) L19.rd.src rfl (by omega)
  have l1b : aLoad1 (Z (.ptr i 1)) s20.get = some (Z x) := aLoad1_of (by rw [FX2.gr.2.2 i hi]; exact g1) rfl
  have gx2 := g2.gr (fun c hc => (g4 c (.inl hc)).2) FX2.gr
  obtain ⟨x2, px2, rx2, _⟩ := gx2.onfrom (lo := k) hk
  obtain ⟨X3, s21, apX3, FX3, zX3, kX3, nX3⟩ := FX2.append' (by_ := 8) (by omega) rx2.src rx2.len (by omega)
  have hYX : ∀ c, own Y = some c → s16.size ≤ c ∧ c < s18.size := FY.new
  have hX : ∀ c, own X = some c → s.size ≤ c ∧ c < s16.size := FX.new
  have hX2 : ∀ c, own X2 = some c → (s.size ≤ c ∧ c < s16.size) ∨ s18.size ≤ c := fun c hc => by
    rcases nX2 with e | e | ⟨c', e, hc'⟩
    · rw [e] at hc; cases hc
    · rw [e] at hc; exact .inl (hX c hc)
    · rw [e] at hc; cases hc; right; omega
  have hX3 : ∀ c, own X3 = some c → (s.size ≤ c ∧ c < s16.size) ∨ s18.size ≤ c := fun c hc => by
    rcases nX3 with e | e | ⟨c', e, hc'⟩
    · rw [e] at hc; cases hc
    · rw [e] at hc; exact hX2 c hc
    · rw [e] at hc; cases hc; right; omega
  have kY : ∀ c, own Y = some c → s21.get c = s18.get c := fun c hc => by
    have h1 := hYX c hc
    rw [kX3 c (by omega) (fun e => by have := hX2 c e; omega), kX2 c (by omega) (fun e => by have := hX c e; omega), L19.gr.2.2 c h1.2]
  have FY21 : Fr 1 s s21 Y (0 + k) ([] ++ (Bss M).take (k * 1)) := ⟨FX3.gr, FY.ow.keep kY, fun c hc => by have := hYX c hc; omega⟩
  have L22 := Fr.lit 1 FX3.gr.wf (n := 1) (vs := [.str b]) rfl
  have nw4 : aNew s21 (nSlice 1 (aFill [.str []] [(0, 1, Z (.str b))])) = some (Z (.sl s21.size 0 1 (.known 1)), s21.push (.cells true [.str b])) := by simp [aNew, nSlice, aFill, V.cells, setRange]
  have zp21 : (s21.push (.cells true [.str b])).size = s21.size + 1 := by simp
  obtain ⟨Y2, s23, apY2, FY2, zY2, kY2, nY2⟩ := (FY21.gr' L22.gr).append' (by_ := 16) (by omega) L22.rd.src rfl (by omega)
  have l2b : aLoad1 (Z (.ptr i 2)) s23.get = some (Z y) := aLoad1_of (by rw [FY2.gr.2.2 i hi]; exact g1) rfl
  have gy2 := g3.gr (fun c hc => (g4 c (.inr hc)).2) FY2.gr
  obtain ⟨y2, py2, ry2, _⟩ := gy2.onfrom (lo := k) hk
  obtain ⟨Y3, s24, apY3, FY3, zY3, kY3, nY3⟩ := FY2.append' (by_ := 16) (by omega) ry2.src ry2.len (by omega)
  have hX3l : ∀ c, own X3 = some c → c < s21.size := fun c hc => (FX3.new c hc).2
  have hY2 : ∀ c, own Y2 = some c → (s16.size ≤ c ∧ c < s18.size) ∨ s21.size ≤ c := fun c hc => by
    rcases nY2 with e | e | ⟨c', e, hc'⟩
    · rw [e] at hc; cases hc
    · rw [e] at hc; exact .inl (hYX c hc)
    · rw [e] at hc; cases hc; right; omega
  have kX : ∀ c, own X3 = some c → s24.get c = s21.get c := fun c hc => by
    have h1 := hX3l c hc
    have h2 := hX3 c hc
    rw [kY3 c (by omega) (fun e => by have := hY2 c e; omega), kY2 c (by omega) (fun e => by have := hYX c e; omega), L22.gr.2.2 c h1]
  have OX24 := FX3.ow.keep kX
  have g24 : s24.get i = some (.cells true [.int .i64 n, x, y]) := by rw [FY3.gr.2.2 i hi]; exact g1
  obtain ⟨s25, hs25⟩ : ∃ t, t = s24.set i (.cells true [.int .i64 n, X3, y]) := ⟨_, rfl⟩
  have st1 : aStore 1 (Z (.ptr i 1)) (Z X3) s24 = some (tt, s25) := by rw [hs25]; exact aStore1_of g24 (by simp)
  have g25 : s25.get i = some (.cells true [.int .i64 n, X3, y]) := by rw [hs25, St.get_set_same]
  obtain ⟨s26, hs26⟩ : ∃ t, t = s25.set i (.cells true [.int .i64 n, X3, Y3]) := ⟨_, rfl⟩
  have st2 : aStore 1 (Z (.ptr i 2)) (Z Y3) s25 = some (tt, s26) := by rw [hs26]; exact aStore1_of g25 (by simp)
  have g26 : s26.get i = some (.cells true [.int .i64 n, X3, Y3]) := by rw [hs26, St.get_set_same]
  have z26 : s26.size = s24.size := by rw [hs26, hs25]; simp
  have hs24 := FY3.gr.2.1
  have k26 : ∀ c, c ≠ i → s26.get c = s24.get c := fun c hc => by rw [hs26, St.get_set_ne _ _ hc, hs25, St.get_set_ne _ _ hc]
  have wf26 : s26.wf := by
    rw [hs26, hs25]
    exact St.wf_set (St.wf_set FY3.gr.wf (by omega) _) (by simp; omega) _
  have ck1 : aLoad1 (Z (.ptr i 2)) (overlay 0 s.get (ovO 0 s.size (nSlice 0 (aFill [] [])) (ovO 8 s16.size (nSlice 0 (aFill [] [])) []))) = aLoad1 (Z (.ptr i 2)) (s16.push (.cells true [])).get :=
    ov_at g1 (by rw [G17.2.2 i hi]; exact g1) rfl fun q j b hm => by
      have := FX.gr.2.1
      rcases ovO_mem hm with rfl | hm
      · omega
      rcases ovO_mem hm with rfl | hm
      · omega
      · cases hm
  have ovB : ∀ (P : Nat) (u v : St), u.get i = some (.cells true [.int .i64 n, x, y]) → v.get i = some (.cells true [.int .i64 n, x, y]) → ∀ (j : Nat) (q : S), ([.int .i64 n, x, y] : List S)[j]? = some q →
      aLoad1 (Z (.ptr i j)) (overlay P u.get (ovO 4 s18.size (nSlice 1 (aFill [.int .i64 0] [(0, 1, I .i64 seq)])) (ovO 15 s21.size (nSlice 1 (aFill [.str []] [(0, 1, Z (.str b))])) []))) = aLoad1 (Z (.ptr i j)) v.get :=
    fun P u v hu hv j q hq => ov_at hu hv hq fun q' j' b' hm => by
      have h1 := FX18.gr.2.1
      have h2 := FX3.gr.2.1
      rcases ovO_mem hm with rfl | hm
      · omega
      rcases ovO_mem hm with rfl | hm
      · omega
      · cases hm
  have h18 : s18.get i = some (.cells true [.int .i64 n, x, y]) := by rw [FX18.gr.2.2 i hi]; exact g1
  have h20 : s20.get i = some (.cells true [.int .i64 n, x, y]) := by rw [FX2.gr.2.2 i hi]; exact g1
  have h21 : s21.get i = some (.cells true [.int .i64 n, x, y]) := by rw [FX3.gr.2.2 i hi]; exact g1
  have h23 : s23.get i = some (.cells true [.int .i64 n, x, y]) := by rw [FY2.gr.2.2 i hi]; exact g1
  have ck2 := ovB 0 s18 s20 h18 h20 1 x rfl
  have ck3 := ovB 0 s18 s23 h18 h23 2 y rfl
  have ck4 := ovB 6 s20 s23 h20 h23 2 y rfl
  have ck5 := ovB 13 s21 s23 h21 h23 2 y rfl
  have hXi : ∀ c, own X3 = some c → c ≠ i := fun c hc => by have := (FX3.new c hc).1; omega
  have hYi : ∀ c, own Y3 = some c → c ≠ i := fun c hc => by have := (FY3.new c hc).1; omega
  have rX : Rd 1 s26 X3 (insS M seq b).length (Ks (insS M seq b)) := by
    have := (OX24.keep fun c hc => k26 c (hXi c hc)).rd
    rw [ins_len, Ks_ins, ← hkd]
    have e : 0 + k + 1 + (M.length - k) = M.length + 1 := by omega
    rw [e] at this
    simpa using this
  have rY : Rd 1 s26 Y3 (insS M seq b).length (Bss (insS M seq b)) := by
    have := (FY3.ow.keep fun c hc => k26 c (hYi c hc)).rd
    rw [ins_len, Bss_ins, ← hkd]
    have e : 0 + k + 1 + (M.length - k) = M.length + 1 := by omega
    rw [e] at this
    simpa using this
  have hlos := h.los
  have hlen := ins_len M seq b
  obtain ⟨z, τ, lp, hr⟩ := rows_run (R d) s26 h.ilo (by omega) (insS M seq b) n [] [Z (.ptr i 0), Z .nils] s26 8192
    ⟨wf26, ⟨X3, Y3, g26, rX, rY, fun c hc => by
      rcases hc with hc | hc
      · have := FX3.new c hc; have := hX3l c hc; omega
      · have := FY3.new c hc; omega⟩, ⟨.nils, rfl, Ow.nil 1 s26, fun c hc => by cases hc⟩, Nat.le_refl _, fun _ _ _ => rfl⟩ h0 (by omega) (by simp; omega) (by omega)
  obtain ⟨wfτ, ⟨xx, yy, e1, e2, e3, e4⟩, ⟨z', ez, oz, nz⟩, szτ, oldτ⟩ := hr
  cases ez
  refine ⟨z, τ, ?_, ⟨wfτ, ⟨xx, yy, e1, e2, e3, fun c hc => by have := e4 c hc; omega⟩, h.ilo, by omega⟩, oz.rd, fun c hc => ⟨by have := nz c hc; omega, oz.lt wfτ hc⟩, by omega, fun c h3 h4 => ?_⟩
  · generalize popS n (insS M seq b) [] = PM at *
    generalize R d = r at *
    generalize (b.length : Int) = BL at *
    by_cases c6 : (k : Int) < (M.length : Int)
    · obtain ⟨P, sq, ix, ld, hsq⟩ := tst c6
      generalize (M.length : Int) = ML at *
      generalize (k : Int) = KK at *
      simp [c1, l0, l1, w8, c2, lb, c3', retT, allV, fr, c4, lx, c6, ix, ld, hsq, nw1, l1a, px1, apX, nw2, l2a, py1, apY, ck1, nw3, apX2, l1b, px2, apX3, nw4, apY2, l2b, py2, apY3, st1, st2, ck2, ck3, ck4, ck5, lp]
    · generalize (M.length : Int) = ML at *
      generalize (k : Int) = KK at *
      simp [c1, l0, l1, w8, c2, lb, c3', retT, allV, fr, c4, lx, c6, nw1, l1a, px1, apX, nw2, l2a, py1, apY, ck1, nw3, apX2, l1b, px2, apX3, nw4, apY2, l2b, py2, apY3, st1, st2, ck2, ck3, ck4, ck5, lp]
  · rw [oldτ c (by omega) h4, k26 c h4, FY3.gr.2.2 c h3]
end
end Go.Proofs.Ytoibllpfjnicfaa


/-
  The receiver that keeps its bodies as they came, and the document's, that keeps them sorted, tell the same. No conditions but those named in each line.
-/
namespace Go.Proofs.Ytoibllpfjnicfaa
open Go Go.Abs Go.Abs.F
set_option linter.unusedVariables false

structure Same (n : Int) (K M : Kp) : Prop where
  perm : K.Perm M
  sort : (M.map (·.1)).Pairwise (· < ·)
  gt : ∀ p ∈ M, n < p.1
  le : ∀ p ∈ M, p.1 ≤ 1000000

theorem getK_mem {x : Int} {b : Bs} : ∀ {K : Kp}, getK x K = some b → (x, b) ∈ K
  | [], h => by cases h
  | p :: r, h => by
    unfold getK at h
    split at h
    · rename_i e
      cases h
      subst e
      exact List.mem_cons_self
    · exact List.mem_cons_of_mem _ (getK_mem h)

theorem mem_getK {x : Int} {b : Bs} : ∀ {K : Kp}, (K.map (·.1)).Nodup → (x, b) ∈ K → getK x K = some b
  | [], _, h => by cases h
  | p :: r, hn, h => by
    rw [List.map_cons, List.nodup_cons] at hn
    unfold getK
    rcases List.mem_cons.1 h with h | h
    · subst h
      rw [if_pos rfl]
    · have : p.1 ≠ x := fun e => hn.1 (by rw [e]; exact List.mem_map_of_mem h)
      rw [if_neg this]
      exact mem_getK hn.2 h

theorem getK_perm {K M : Kp} (h : K.Perm M) (hn : (M.map (·.1)).Nodup) (x : Int) : getK x K = getK x M := by
  have hk : (K.map (·.1)).Nodup := (h.map _).nodup_iff.2 hn
  ext b
  exact ⟨fun e => mem_getK hn (h.mem_iff.1 (getK_mem e)), fun e => mem_getK hk (h.mem_iff.2 (getK_mem e))⟩

theorem delK_filter (x : Int) : ∀ {K : Kp}, (K.map (·.1)).Nodup → delK x K = K.filter fun p => decide (p.1 ≠ x)
  | [], _ => rfl
  | p :: r, hn => by
    rw [List.map_cons, List.nodup_cons] at hn
    unfold delK
    by_cases e : p.1 = x
    · rw [if_pos e, List.filter_cons_of_neg (by simp [e])]
      refine (List.filter_eq_self.2 fun q hq => ?_).symm
      have : q.1 ≠ x := fun e' => hn.1 (by rw [e, ← e']; exact List.mem_map_of_mem hq)
      simp [this]
    · rw [if_neg e, List.filter_cons_of_pos (by simp [e]), delK_filter x hn.2]

theorem nodup_of_lt {M : Kp} (h : (M.map (·.1)).Pairwise (· < ·)) : (M.map (·.1)).Nodup := h.imp fun h => by omega

theorem popS_le : ∀ (M : Kp) (n : Int) (out : List Bs), n ≤ (popS n M out).1
  | [], n, out => Int.le_refl _
  | p :: r, n, out => by
    unfold popS
    split
    · have := popS_le r (n + 1) (out ++ [p.2]); omega
    · exact Int.le_refl _

theorem pop_same : ∀ (M K : Kp) (n : Int) (out : List Bs) (f : Nat), Same n K M → M.length ≤ f → n ≤ 2000000 →
    (popM f n K out).1 = (popS n M out).1 ∧ (popM f n K out).2.2 = (popS n M out).2.2 ∧ Same (popS n M out).1 (popM f n K out).2.1 (popS n M out).2.1 ∧ (popS n M out).1 + (popM f n K out).2.1.length = n + K.length := by
  intro M
  induction M with
  | nil =>
    intro K n out f h hf hn
    have hk : K = [] := h.perm.eq_nil
    subst hk
    cases f with
    | zero => exact ⟨rfl, rfl, h, rfl⟩
    | succ f => exact ⟨rfl, rfl, h, rfl⟩
  | cons p r ih =>
    intro K n out f h hf hn
    obtain ⟨f, rfl⟩ : ∃ q, f = q + 1 := ⟨f - 1, by simp at hf; omega⟩
    have hnd := nodup_of_lt h.sort
    have hg := getK_perm h.perm hnd (n + 1)
    have hs := h.sort
    rw [List.map_cons, List.pairwise_cons] at hs
    by_cases hp : p.1 = n + 1
    · have h1 : getK (n + 1) (p :: r) = some p.2 := by unfold getK; rw [if_pos hp]
      rw [h1] at hg
      have hd : (delK (n + 1) K).Perm r := by
        rw [delK_filter _ ((h.perm.map _).nodup_iff.2 hnd)]
        have := h.perm.filter fun p => decide (p.1 ≠ n + 1)
        refine this.trans ?_
        rw [← delK_filter _ hnd]
        unfold delK
        rw [if_pos hp]
      have hlen := delK_len _ hg
      have S1 : Same (n + 1) (delK (n + 1) K) r := ⟨hd, hs.2, fun q hq => by have := hs.1 q.1 (List.mem_map_of_mem hq); omega, fun q hq => h.le q (List.mem_cons_of_mem _ hq)⟩
      obtain ⟨a1, a2, a3, a4⟩ := ih (delK (n + 1) K) (n + 1) (out ++ [p.2]) f S1 (by simp at hf; omega) (by have := h.le p List.mem_cons_self; omega)
      simp only [popM, hg]
      rw [show popS n (p :: r) out = popS (n + 1) r (out ++ [p.2]) from by conv => lhs; unfold popS; rw [if_pos hp]]
      exact ⟨a1, a2, a3, by rw [a4]; omega⟩
    · have h1 : getK (n + 1) (p :: r) = none := by
        cases hh : getK (n + 1) (p :: r) with
        | none => rfl
        | some b =>
          exfalso
          have hgt := h.gt p List.mem_cons_self
          rcases List.mem_cons.1 (getK_mem hh) with e | e
          · rw [← e] at hp; exact hp rfl
          · have := hs.1 (n + 1) (List.mem_map_of_mem (f := (·.1)) e)
            omega
      rw [h1] at hg
      simp only [popM, hg]
      rw [show popS n (p :: r) out = (n, p :: r, out) from by unfold popS; rw [if_neg hp]]
      exact ⟨rfl, rfl, h, rfl⟩

theorem have_iff (q : Int) : ∀ {M : Kp}, (M.map (·.1)).Pairwise (· < ·) → ((getK q M).isSome = true ↔ (M[kM q M]?).map (·.1) = some q)
  | [], _ => by simp [getK]
  | p :: r, h => by
    rw [List.map_cons, List.pairwise_cons] at h
    unfold getK kM
    by_cases h1 : p.1 < q
    · rw [if_neg (show p.1 ≠ q by omega), if_pos h1, have_iff q h.2]
      simp
    · rw [if_neg h1]
      by_cases h2 : p.1 = q
      · rw [if_pos h2]
        simp [h2]
      · rw [if_neg h2]
        have : getK q r = none := by
          cases hh : getK q r with
          | none => rfl
          | some b =>
            exfalso
            have := h.1 q (List.mem_map_of_mem (f := (·.1)) (getK_mem hh))
            omega
        rw [this]
        simp [h2]

theorem ins_same {n q : Int} {K M : Kp} {b : Bs} (h : Same n K M) (hq : n < q) (hl : q ≤ 1000000) (hne : (M[kM q M]?).map (·.1) ≠ some q) : Same n (K ++ [(q, b)]) (insS M q b) := by
  have hmem : ∀ p ∈ insS M q b, p = (q, b) ∨ p ∈ M := by
    intro p hp
    unfold insS at hp
    rcases List.mem_append.1 hp with hp | hp
    · exact .inr (List.mem_of_mem_take hp)
    · rcases List.mem_cons.1 hp with hp | hp
      · exact .inl hp
      · exact .inr (List.mem_of_mem_drop hp)
  refine ⟨?_, ?_, fun p hp => ?_, fun p hp => ?_⟩
  · refine (List.perm_append_comm).trans ?_
    refine ((List.Perm.cons (q, b) h.perm)).trans ?_
    unfold insS
    have := (List.perm_middle (a := (q, b)) (l₁ := M.take (kM q M)) (l₂ := M.drop (kM q M))).symm
    rwa [List.take_append_drop] at this
  · unfold insS
    rw [List.map_append, List.map_cons, List.map_take, List.map_drop]
    have hs := h.sort
    have hlow : ∀ a ∈ (M.map (·.1)).take (kM q M), a < q := by
      intro a ha
      rw [List.mem_iff_getElem?] at ha
      obtain ⟨j, hj⟩ := ha
      rw [List.getElem?_take] at hj
      split at hj
      · rename_i hjk
        obtain ⟨p, h1, h2⟩ := kM_lt q M j hjk
        rw [List.getElem?_map, h1] at hj
        cases hj
        exact h2
      · cases hj
    have hhigh : ∀ a ∈ (M.map (·.1)).drop (kM q M), q < a := by
      intro a ha
      cases hd : (M.map (·.1)).drop (kM q M) with
      | nil => rw [hd] at ha; cases ha
      | cons c l =>
        have hk : kM q M < M.length := by
          have h1 := congrArg List.length hd
          simp at h1
          omega
        have hp : M[kM q M]? = some M[kM q M] := List.getElem?_eq_getElem hk
        have hc : c = M[kM q M].1 := by
          have h1 : ((M.map (·.1)).drop (kM q M))[0]? = some c := by rw [hd]; rfl
          rw [List.getElem?_drop, Nat.add_zero, List.getElem?_map, hp] at h1
          simpa using h1.symm
        have h2 := kM_at q M _ hp
        have h3 : M[kM q M].1 ≠ q := fun e => hne (by rw [hp]; simp [e])
        have h4 : ((M.map (·.1)).drop (kM q M)).Pairwise (· < ·) := hs.sublist (List.drop_sublist _ _)
        rw [hd, List.pairwise_cons] at h4
        rw [hd] at ha
        rcases List.mem_cons.1 ha with rfl | ha
        · omega
        · have := h4.1 a ha; omega
    refine List.pairwise_append.2 ⟨hs.sublist (List.take_sublist _ _), List.pairwise_cons.2 ⟨hhigh, hs.sublist (List.drop_sublist _ _)⟩, fun a ha c hc => ?_⟩
    have h1 := hlow a ha
    rcases List.mem_cons.1 hc with rfl | hc
    · exact h1
    · have := hhigh c hc; omega
  · rcases hmem p hp with rfl | hp
    · exact hq
    · exact h.gt p hp
  · rcases hmem p hp with rfl | hp
    · exact hl
    · exact h.le p hp

theorem take_same {n q : Int} {K M : Kp} {b : Bs} (h : Same n K M) (hn : n ≤ 900000) :
    (takeM n K q b).2 = (takeS n M q b).2 ∧ (takeM n K q b).1.1 = (takeS n M q b).1.1 ∧ (takeM n K q b).1.2.2 = (takeS n M q b).1.2.2 ∧ Same (takeM n K q b).1.1 (takeM n K q b).1.2.1 (takeS n M q b).1.2.1 ∧
      (takeM n K q b).1.1 + (takeM n K q b).1.2.1.length ≤ n + K.length + 1 ∧ n ≤ (takeM n K q b).1.1 := by
  unfold takeM takeS
  by_cases c1 : q < 1 ∨ n + 8 < q ∨ 4100 < b.length
  · rw [if_pos c1, if_pos c1]
    exact ⟨rfl, rfl, rfl, h, by show n + (K.length : Int) ≤ _; omega, Int.le_refl _⟩
  rw [if_neg c1, if_neg c1]
  have hg := getK_perm h.perm (nodup_of_lt h.sort) q
  have hi := have_iff q h.sort
  rw [hg]
  by_cases c2 : q ≤ n ∨ (M[kM q M]?).map (·.1) = some q
  · rw [if_pos c2, if_pos (by rcases c2 with c | c; exact .inr c; exact .inl (hi.2 c))]
    exact ⟨rfl, rfl, rfl, h, by show n + (K.length : Int) ≤ _; omega, Int.le_refl _⟩
  rw [if_neg c2, if_neg (fun c => c2 (by rcases c with c | c; exact .inr (hi.1 c); exact .inl c))]
  have h1 : n < q := by
    by_cases h : n < q
    · exact h
    · exact absurd (.inl (by omega)) c2
  have hS := ins_same (b := b) h h1 (by omega) fun e => c2 (.inr e)
  have hl := h.perm.length_eq
  obtain ⟨a1, a2, a3, a4⟩ := pop_same (insS M q b) (K ++ [(q, b)]) n [] (K.length + 1) hS (by rw [ins_len]; omega) (by omega)
  refine ⟨rfl, a1, a2, by rw [← a1] at a3; exact a3, ?_, ?_⟩
  · show (popM (K.length + 1) n (K ++ [(q, b)]) []).1 + _ ≤ _
    rw [a1, a4]
    simp; omega
  · show n ≤ (popM (K.length + 1) n (K ++ [(q, b)]) []).1
    rw [a1]
    exact popS_le _ _ _
end Go.Proofs.Ytoibllpfjnicfaa


/-
  The layouts of maps.Keys, slices.Sorted and slices.Sort in this program, as the kit lays them. No conditions.
-/
namespace Go.Proofs
open Go.Shelf
def Try.keysA_ren : Go.Shelf.Ren := ⟨fun | 7 => 22 | 10 => 25 | n => n, fun | 23 => 55 | 26 => 2 | 3 => 31 | 28 => 61 | 0 => 0 | 27 => 60 | 33 => 66 | 4 => 4 | n => n, fun | n => n⟩
theorem Try.keysA : Go.Proofs.SlLaysZI.n7 Try.prog Try.keysA_ren := {
  mixed := by kernel_rfl
  f7 := ⟨Try.f22.name, by decide, Try.func22.trans (congrArg some (by kernel_rfl))⟩
  f10 := ⟨Try.f25.name, by decide, Try.func25.trans (congrArg some (by kernel_rfl))⟩
  t0 := Try.underlying0
  a0 := Try.isAgg0
  z0 := Try.sizeOf0
  v0 := Try.zeroValue0
  t4 := Try.underlying4
  a4 := Try.isAgg4
  z4 := Try.sizeOf4
  v4 := Try.zeroValue4
  t23 := Try.underlying55
  a23 := Try.isAgg55
  z23 := Try.sizeOf55
  v23 := Try.zeroValue55
  t26 := Try.underlying2
  a26 := Try.isAgg2
  z26 := Try.sizeOf2
  v26 := Try.zeroValue2
  t27 := Try.underlying60
  a27 := Try.isAgg60
  z27 := Try.sizeOf60
  v27 := Try.zeroValue60
  t28 := Try.underlying61
  a28 := Try.isAgg61
  z28 := Try.sizeOf61
  v28 := Try.zeroValue61
  t33 := Try.underlying66
  a33 := Try.isAgg66
  z33 := Try.sizeOf66
  v33 := Try.zeroValue66 }
def Try.sortedA_ren : Go.Shelf.Ren := ⟨fun | 6 => 21 | 8 => 23 | 9 => 24 | 11 => 26 | 13 => 28 | 12 => 27 | 23 => 38 | 24 => 39 | 14 => 29 | 15 => 30 | 16 => 31 | 17 => 32 | 18 => 33 | 19 => 34 | 20 => 35 | 21 => 36 | 22 => 37 | 25 => 40 | 26 => 41 | 27 => 42 | 28 => 43 | 29 => 44 | 30 => 45 | 31 => 46 | n => n, fun | 26 => 2 | 28 => 61 | 24 => 26 | 0 => 0 | 3 => 3 | 37 => 44 | 48 => 80 | 50 => 82 | 4 => 4 | 40 => 72 | 39 => 71 | 45 => 77 | 5 => 5 | 9 => 9 | 51 => 83 | 55 => 87 | 57 => 89 | 58 => 90 | 33 => 66 | n => n, fun | n => n⟩
theorem Try.sortedA : Go.Proofs.SlLaysZI.n6 Try.prog Try.sortedA_ren := {
  mixed := by kernel_rfl
  f6 := ⟨Try.f21.name, by decide, Try.func21.trans (congrArg some (by kernel_rfl))⟩
  f8 := ⟨Try.f23.name, by decide, Try.func23.trans (congrArg some (by kernel_rfl))⟩
  f11 := ⟨Try.f26.name, by decide, Try.func26.trans (congrArg some (by kernel_rfl))⟩
  t0 := Try.underlying0
  a0 := Try.isAgg0
  z0 := Try.sizeOf0
  v0 := Try.zeroValue0
  t24 := Try.underlying26
  a24 := Try.isAgg26
  z24 := Try.sizeOf26
  v24 := Try.zeroValue26
  t26 := Try.underlying2
  a26 := Try.isAgg2
  z26 := Try.sizeOf2
  v26 := Try.zeroValue2
  t28 := Try.underlying61
  a28 := Try.isAgg61
  z28 := Try.sizeOf61
  v28 := Try.zeroValue61
  i26 := by kernel_rfl }
def Try.sortA_ren : Go.Shelf.Ren := ⟨fun | 5 => 24 | 8 => 28 | 7 => 27 | 19 => 38 | 20 => 39 | 10 => 29 | 11 => 30 | 12 => 31 | 13 => 32 | 14 => 33 | 15 => 34 | 16 => 35 | 17 => 36 | 18 => 37 | 30 => 40 | 31 => 41 | 32 => 42 | 33 => 43 | 34 => 44 | 35 => 45 | 40 => 46 | n => n, fun | 23 => 26 | 25 => 2 | 3 => 3 | 32 => 44 | 22 => 26 | 0 => 0 | 44 => 80 | 46 => 82 | 4 => 4 | 36 => 72 | 35 => 71 | 41 => 77 | 5 => 5 | 9 => 9 | 53 => 83 | 57 => 87 | 63 => 89 | 64 => 90 | n => n, fun | n => n⟩
theorem Try.sortA : Go.Proofs.SlLaysM.n5 Try.prog Try.sortA_ren := {
  mixed := by kernel_rfl
  f5 := ⟨Try.f24.name, by decide, Try.func24.trans (congrArg some (by kernel_rfl))⟩
  f7 := ⟨Try.f27.name, by decide, Try.func27.trans (congrArg some (by kernel_rfl))⟩
  f8 := Try.func28.trans (congrArg some (by kernel_rfl))
  f10 := ⟨Try.f29.name, by decide, Try.func29.trans (congrArg some (by kernel_rfl))⟩
  f11 := ⟨Try.f30.name, by decide, Try.func30.trans (congrArg some (by kernel_rfl))⟩
  f12 := ⟨Try.f31.name, by decide, Try.func31.trans (congrArg some (by kernel_rfl))⟩
  f13 := ⟨Try.f32.name, by decide, Try.func32.trans (congrArg some (by kernel_rfl))⟩
  f14 := ⟨Try.f33.name, by decide, Try.func33.trans (congrArg some (by kernel_rfl))⟩
  f15 := ⟨Try.f34.name, by decide, Try.func34.trans (congrArg some (by kernel_rfl))⟩
  f16 := ⟨Try.f35.name, by decide, Try.func35.trans (congrArg some (by kernel_rfl))⟩
  f17 := ⟨Try.f36.name, by decide, Try.func36.trans (congrArg some (by kernel_rfl))⟩
  f18 := ⟨Try.f37.name, by decide, Try.func37.trans (congrArg some (by kernel_rfl))⟩
  f19 := Try.func38.trans (congrArg some (by kernel_rfl))
  f20 := Try.func39.trans (congrArg some (by kernel_rfl))
  f30 := ⟨Try.f40.name, by decide, Try.func40.trans (congrArg some (by kernel_rfl))⟩
  f31 := Try.func41.trans (congrArg some (by kernel_rfl))
  f32 := Try.func42.trans (congrArg some (by kernel_rfl))
  f33 := ⟨Try.f43.name, by decide, Try.func43.trans (congrArg some (by kernel_rfl))⟩
  f34 := ⟨Try.f44.name, by decide, Try.func44.trans (congrArg some (by kernel_rfl))⟩
  f35 := ⟨Try.f45.name, by decide, Try.func45.trans (congrArg some (by kernel_rfl))⟩
  f40 := ⟨Try.f46.name, by decide, Try.func46.trans (congrArg some (by kernel_rfl))⟩
  t0 := Try.underlying0
  a0 := Try.isAgg0
  z0 := Try.sizeOf0
  v0 := Try.zeroValue0
  t3 := Try.underlying3
  a3 := Try.isAgg3
  z3 := Try.sizeOf3
  v3 := Try.zeroValue3
  t4 := Try.underlying4
  a4 := Try.isAgg4
  z4 := Try.sizeOf4
  v4 := Try.zeroValue4
  t5 := Try.underlying5
  a5 := Try.isAgg5
  z5 := Try.sizeOf5
  v5 := Try.zeroValue5
  t9 := Try.underlying9
  a9 := Try.isAgg9
  z9 := Try.sizeOf9
  v9 := Try.zeroValue9
  t22 := Try.underlying26
  a22 := Try.isAgg26
  z22 := Try.sizeOf26
  v22 := Try.zeroValue26
  t23 := Try.underlying26
  a23 := Try.isAgg26
  z23 := Try.sizeOf26
  v23 := Try.zeroValue26
  t25 := Try.underlying2
  a25 := Try.isAgg2
  z25 := Try.sizeOf2
  v25 := Try.zeroValue2
  t32 := Try.underlying44
  a32 := Try.isAgg44
  z32 := Try.sizeOf44
  v32 := Try.zeroValue44
  t35 := Try.underlying71
  a35 := Try.isAgg71
  z35 := Try.sizeOf71
  v35 := Try.zeroValue71
  t36 := Try.underlying72
  a36 := Try.isAgg72
  z36 := Try.sizeOf72
  v36 := Try.zeroValue72
  t41 := Try.underlying77
  a41 := Try.isAgg77
  z41 := Try.sizeOf77
  v41 := Try.zeroValue77
  t44 := Try.underlying80
  a44 := Try.isAgg80
  z44 := Try.sizeOf80
  v44 := Try.zeroValue80
  t46 := Try.underlying82
  a46 := Try.isAgg82
  z46 := Try.sizeOf82
  v46 := Try.zeroValue82
  t53 := Try.underlying83
  a53 := Try.isAgg83
  z53 := Try.sizeOf83
  v53 := Try.zeroValue83
  t57 := Try.underlying87
  a57 := Try.isAgg87
  z57 := Try.sizeOf87
  v57 := Try.zeroValue87
  t63 := Try.underlying89
  a63 := Try.isAgg89
  z63 := Try.sizeOf89
  v63 := Try.zeroValue89
  t64 := Try.underlying90
  a64 := Try.isAgg90
  z64 := Try.sizeOf90
  v64 := Try.zeroValue90 }
end Go.Proofs


/-
  What Kept gives at a map: its keys, sorted, in a new slice; nil where it has none; nothing that was there has changed. Conditions: the receiver's second cell holds the map; it has few keys.
-/
namespace Go.Proofs
open Go.RowKit Go.Maps Go.Sort Go.Shelf

theorem Try.sortsA (m : Nat) : AnyZI.SortsIn Try.prog Try.sortedA_ren Fence.wide m :=
  ⟨fun blk off cap ss W hH hblk hsz => callsIn_wide.2 (AnyM.slices_Sort_int Try.sortA blk off cap ss W hH hblk hsz),
   fun p cap W => callsIn_wide.2 (AnyM.slices_Sort_int_none Try.sortA p cap W)⟩

set_option maxHeartbeats 1000000 in
theorem Try.kept_calls {H : Type} (rb ro b nn : Nat) (D0 : DataW H) (R : Value → Option (DataW H × List MemPlace)) (w : World) (hc : w.cell? ⟨rb, ro + 1, none⟩ = some (.map (some b))) (hown : w.ownsMap Try.prog 2 R b nn D0) (hmax : Maps.size D0 ≤ maxLen) (hbytes : Maps.size D0 * 8 ≤ 140737488355328) :
    Calls Try.prog 13 #[.pointer (some ⟨rb, ro, none⟩)] w fun e w' => ∃ (v : Value) (ss : List Int), e = .returned v ∧ ss.Perm (intKeys D0) ∧
      w'.ownsRow w.heap.size 2 1 v ss.length ((ss.mergeSort (fun x y => decide (x ≤ y))).map encZ) ∧ (v = .slice none 0 0 ↔ ss = []) ∧ Below w.heap.size w w' := by
  refine (callsIn_wide (n := 6)).1 ?_
  have hbl := hown.lt
  have hseq : SeqGives Fence.wide 2 Try.prog 25 #[.pointer (some ⟨w.heap.size, 0, none⟩)] encZ (fun ss => ss.Perm (intKeys D0)) (Maps.size D0) (w.alloc (.cells #[.map (some b)] 55)) :=
    AnyZI.keys_gives (ρ := Try.keysA_ren) { Try.keysA with } Fence.wide _ trivial rfl (by omega) w.heap.size b nn D0 _ (by simp) (by simp) (by
      obtain ⟨es, clock, hb, Ft, hs, hD⟩ := hown
      exact ⟨es, clock, (Below.heap_alloc _ _ b hbl).trans hb, Ft, hs, hD⟩)
  have cK : ∀ mb W, CallsIn Fence.wide 5 Try.prog 22 #[.map mb] W fun e w' => e = .returned (.func (.func 25) #[] #[.pointer (some ⟨W.heap.size, 0, none⟩)]) ∧ w' = W.alloc (.cells #[.map mb] 55) := fun mb W => AnyZI.keys_in Try.keysA Fence.wide 5 trivial rfl mb W
  have cS := AnyZI.sorted_in Try.sortedA Fence.wide 5 trivial trivial trivial trivial rfl (by omega) (Try.sortsA _) (enters_of Try.func24 (by kernel_rfl) rfl) 25 #[.pointer (some ⟨w.heap.size, 0, none⟩)] trivial (enters_of Try.func25 (by kernel_rfl) rfl) _ _ hmax hbytes _ hseq
  change CallsIn _ _ Try.prog 21 _ _ _ at cS
  have hfK : Fence.wide.fn 22 := trivial
  have hfS : Fence.wide.fn 21 := trivial
  refine callsIn_of_wp Try.func13 rfl trivial ?_ rfl
  simp only [Try.ntmps13, List.size_toArray, List.length_cons, List.length_nil, Nat.reduceAdd, Nat.reduceSub, Array.replicate_succ, Array.replicate_zero, List.push_toArray, List.append_toArray, List.nil_append, List.cons_append]
  gi_wp2_with (first
    | (gi_at_call 22; refine (cK _ _).mono ?_; rintro e w' ⟨rfl, rfl⟩)
    | (gi_at_call 21; refine cS.mono ?_; rintro e w' ⟨v, ss, rfl, hS, hrow, hnil, hb⟩))
  go_ret
  exact ⟨v, ss, rfl, hS, ownsRow_base_a hrow (by simp), hnil, ((Below.refl _ w).alloc (Nat.le_refl _) _).trans (hb.mono (by simp))⟩
end Go.Proofs


/-
  What stands for Kept in our runs is what Kept does. No conditions.
-/
namespace Go.Proofs.Ytoibllpfjnicfaa
open Go Go.Abs Go.Abs.F
open Go.WideElems (Fit rd rg)
set_option linter.unusedVariables false

theorem keysOf_facts : ∀ {es : List (S × V)} {ks : List Int}, keysOf es = some ks → es.map (·.1) = ks.map (S.int .i64) ∧ ks.Nodup ∧ ∀ n ∈ ks, (Lit.int .i64 n).wf = true := by
  intro es
  induction es with
  | nil => intro ks h; cases h; exact ⟨rfl, .nil, fun n hn => by cases hn⟩
  | cons p r ih =>
    intro ks h
    obtain ⟨k, v⟩ := p
    unfold keysOf at h
    split at h
    · rename_i heq; cases heq
    · rename_i n v' r' heq
      cases heq
      split at h
      · rename_i l hl
        split at h
        · rename_i hw
          cases h
          obtain ⟨h1, h2, h3⟩ := ih hl
          rw [Bool.and_eq_true] at hw
          have hn : n ∉ l := by simpa using hw.2
          refine ⟨by simp [h1], List.nodup_cons.2 ⟨hn, h2⟩, fun m hm => ?_⟩
          rcases List.mem_cons.1 hm with rfl | hm
          · exact hw.1
          · exact h3 m hm
        · cases h
      · cases h
    · cases h

theorem put_perm (n : Int) : ∀ l : List Int, (put n l).Perm (n :: l)
  | [] => .refl _
  | m :: r => by
    unfold put
    cases decide (n ≤ m) with
    | true => exact .refl _
    | false => exact ((put_perm n r).cons m).trans (.swap n m r)

theorem put_sorted (n : Int) : ∀ l : List Int, l.Pairwise (· ≤ ·) → (put n l).Pairwise (· ≤ ·)
  | [], _ => List.pairwise_singleton _ _
  | m :: r, h => by
    unfold put
    by_cases hd : n ≤ m
    · simp only [decide_eq_true hd]
      refine List.pairwise_cons.2 ⟨fun x hx => ?_, h⟩
      rcases List.mem_cons.1 hx with rfl | hx
      · exact hd
      · exact Int.le_trans hd ((List.pairwise_cons.1 h).1 x hx)
    · simp only [decide_eq_false hd]
      refine List.pairwise_cons.2 ⟨fun x hx => ?_, put_sorted n r (List.pairwise_cons.1 h).2⟩
      rcases List.mem_cons.1 ((put_perm n r).mem_iff.1 hx) with rfl | hx
      · omega
      · exact (List.pairwise_cons.1 h).1 x hx

theorem sorted_perm' : ∀ l : List Int, (sorted l).Perm l
  | [] => .refl _
  | n :: r => (put_perm n _).trans ((sorted_perm' r).cons n)

theorem sorted_sorted : ∀ l : List Int, (sorted l).Pairwise (· ≤ ·)
  | [] => .nil
  | n :: r => put_sorted n _ (sorted_sorted r)

theorem sorted_merge (l : List Int) : l.mergeSort (fun x y => decide (x ≤ y)) = sorted l := by
  have h1 : (l.mergeSort (fun x y => decide (x ≤ y))).Perm (sorted l) := (List.mergeSort_perm _ _).trans (sorted_perm' l).symm
  have h2 : (l.mergeSort (fun x y => decide (x ≤ y))).Pairwise (· ≤ ·) := by
    have := List.pairwise_mergeSort (le := fun x y : Int => decide (x ≤ y)) (by intro a b c; simp; omega) (by intro a b; simp; omega) l
    exact this.imp fun h => by simpa using h
  exact h1.eq_of_pairwise (fun a b _ _ h h' => Int.le_antisymm h h') h2 (sorted_sorted l)

theorem kept_shape {f : FuncId} {ts : List T} {σ τ : St} {t : T} (h : keptP f ts σ = some (t, τ)) :
    f = 13 ∧ ∃ i o own vs m es ks, ts = [Z (.ptr i o)] ∧ σ.get i = some (.cells own vs) ∧ vs[o + 1]? = some (.map m) ∧ σ.get m = some (.map es) ∧ es.length ≤ 1000 ∧ keysOf es = some ks ∧
      ((ks = [] ∧ t = Z .nils ∧ τ = σ) ∨ (ks ≠ [] ∧ t = Z (.sl σ.size 0 ks.length (.grown 1)) ∧ τ = σ.push (.cells false ((sorted ks).map (S.int .i64))))) := by
  unfold keptP at h
  split at h
  · cases h
  · rename_i hf
    refine ⟨Nat.eq_of_beq_eq_true hf, ?_⟩
    split at h
    · rename_i i o
      split at h
      · rename_i own vs hi
        split at h
        · rename_i m hm
          split at h
          · rename_i es hes
            split at h
            · rename_i hl hk
              cases h
              exact ⟨i, o, own, vs, m, es, _, rfl, hi, hm, hes, Nat.le_of_ble_eq_true hl, hk, .inl ⟨rfl, rfl, rfl⟩⟩
            · rename_i k l hl hk
              cases h
              exact ⟨i, o, own, vs, m, es, _, rfl, hi, hm, hes, Nat.le_of_ble_eq_true hl, hk, .inr ⟨by simp, rfl, rfl⟩⟩
            · cases h
          · cases h
        · cases h
      · cases h
    · cases h

theorem owns_map {ι : Inj} {w : World} {L : Abs.Loc} {es : List (S × V)} {ks : List Int} (hb : BlkRel ι L w (.map es)) (hk : keysOf es = some ks) (hl : es.length ≤ 1000) :
    ∃ D0 : DataW Unit, w.ownsMap Try.prog 2 (fun _ => some (.nil, [])) L.b 1000 D0 ∧ (intKeys D0).Perm ks ∧ Maps.size D0 ≤ 1000 := by
  obtain ⟨mes, clk, h1, h2, h3, h4⟩ := hb
  obtain ⟨k1, k2, k3⟩ := keysOf_facts hk
  have hlen : mes.size = es.length := by rw [← Array.length_toList, ← forall2_length h2]
  have hkeys : mes.toList.map (·.key) = ks.map (Value.int .i64) := by
    have : ∀ {es : List (S × V)} {l : List MapEntry} {ks : List Int}, All2 (EntRel ι) es l → es.map (·.1) = ks.map (S.int .i64) → l.map (·.key) = ks.map (Value.int .i64) := by
      intro es l ks h
      induction h generalizing ks with
      | nil => intro e; cases ks with
        | nil => rfl
        | cons _ _ => simp at e
      | cons a b ih =>
        intro e
        cases ks with
        | nil => simp at e
        | cons k ks =>
          simp only [List.map_cons, List.cons.injEq] at e ⊢
          refine ⟨?_, ih e.2⟩
          have := a.1
          rw [e.1] at this
          exact this
    exact this h2 k1
  have hrd : ∀ x ∈ mes.toList, ∃ n, n ∈ ks ∧ x.key = .int .i64 n ∧ rd (H := Unit) Try.prog 2 (fun _ => some (.nil, [])) x = some (.int .i64 n, .nil) := by
    intro x hx
    have : x.key ∈ ks.map (Value.int .i64) := by rw [← hkeys]; exact List.mem_map_of_mem hx
    obtain ⟨n, hn, e⟩ := List.mem_map.1 this
    refine ⟨n, hn, e.symm, ?_⟩
    unfold rd
    rw [← e, Maps.keyOf_int_mk Try.underlying2 (k3 n hn)]
    rfl
  refine ⟨_, ⟨mes, clk, h1, ⟨by rw [hlen]; exact Nat.le_trans hl (by decide), ⟨h4, ?_, ?_⟩, fun x hx => ?_⟩, by omega, rfl⟩, ?_, ?_⟩
  · rw [List.nodup_iff_pairwise_ne, List.pairwise_map]
    exact h3.imp fun h => by omega
  · rw [hkeys]
    rw [List.nodup_iff_pairwise_ne, List.pairwise_map]
    exact (List.nodup_iff_pairwise_ne.1 k2).imp fun h e => h (by simpa using e)
  · obtain ⟨n, _, _, h⟩ := hrd x hx
    exact ⟨_, h⟩
  · show (List.map (fun p : Lit × DataW Unit => Go.intOf p.1) _).Perm ks
    refine ((WideShapes.sorted_perm _).map _).trans ?_
    rw [List.map_map]
    have : mes.toList.map ((fun p : Lit × DataW Unit => Go.intOf p.1) ∘ rg (H := Unit) Try.prog 2 (fun _ => some (.nil, []))) = ks := by
      have e1 : mes.toList.map ((fun p : Lit × DataW Unit => Go.intOf p.1) ∘ rg (H := Unit) Try.prog 2 (fun _ => some (.nil, []))) = mes.toList.map (fun x => match x.key with | .int _ n => n | _ => 0) := by
        apply List.map_congr_left
        intro x hx
        obtain ⟨n, _, hn, h⟩ := hrd x hx
        simp [rg, h, hn, Go.intOf]
      rw [e1]
      have e2 : mes.toList.map (fun x => match x.key with | .int _ n => n | _ => 0) = (mes.toList.map (·.key)).map (fun v => match v with | .int _ n => n | _ => 0) := by rw [List.map_map]; rfl
      rw [e2, hkeys, List.map_map]
      simp [Function.comp_def]
    rw [this]
  · show (List.foldr DataW.insert [] _).length ≤ 1000
    rw [(WideShapes.sorted_perm _).length_eq, List.length_map, Array.length_toList]
    omega

theorem keptP_sound : CallSound Try.prog keptP := by
  constructor
  · intro f ts σ t τ h wf
    obtain ⟨_, i, o, own, vs, m, es, ks, _, _, _, _, _, _, h | h⟩ := kept_shape h
    · obtain ⟨_, _, rfl⟩ := h
      exact ⟨wf, Nat.le_refl _⟩
    · obtain ⟨_, _, rfl⟩ := h
      exact ⟨St.wf_push wf _, by simp⟩
  · intro f ts σ t τ h wf ι w vs hR hF hA
    obtain ⟨rfl, i, o, own, cs, m, es, ks, rfl, hi, hm, hes, hl, hk, h⟩ := kept_shape h
    cases hA with
    | cons a b =>
    cases b
    obtain ⟨L, hL, rfl⟩ := a
    obtain ⟨c, e, fz, h1, h2, h3, h4, h5⟩ := hR.blk i L _ hL hi
    obtain ⟨v, hv, hr⟩ := h4 (o + 1) _ hm
    obtain ⟨M, hM, rfl⟩ := hr
    have hb := hR.blk m M _ hM hes
    obtain ⟨D0, hown, hp, hs⟩ := owns_map hb hk hl
    have hc : w.cell? ⟨L.b, L.base + o + 1, none⟩ = some (.map (some M.b)) := by
      unfold World.cell?
      simp only [h1]
      rw [Nat.add_assoc]
      simpa using hv
    refine (Try.kept_calls L.b (L.base + o) M.b 1000 D0 _ w hc hown (Nat.le_trans hs (by decide)) (by omega)).mono ?_
    rintro e' u ⟨v, ss, rfl, hss, hrow, hnil, hbel⟩
    have hperm := hss.trans hp
    have hmerge : ss.mergeSort (fun x y => decide (x ≤ y)) = sorted ks := by
      rw [← sorted_merge ks]
      exact mergeSort_of_perm_i hperm
    rw [hmerge] at hrow
    have hlen := hperm.length_eq
    rcases h with ⟨rfl, rfl, rfl⟩ | ⟨hne, rfl, rfl⟩
    · have : ss = [] := List.eq_nil_of_length_eq_zero (by simpa using hlen)
      refine ⟨ι, v, rfl, ⟨Nat.le_refl _, fun _ _ => rfl, fun _ _ h => h, fun _ _ h => h, fun _ _ _ => rfl, fun i L h1 h2 => by omega, hbel.os, hbel.output, hbel.size, fun k hk _ => hbel.block k hk⟩, ⟨fun i L b hi' hb' => ?_, hR.sep, hR.glob⟩, hnil.2 this⟩
      have hB := hR.blk i L b hi' hb'
      cases b with
      | dead => trivial
      | cells own vs => exact hB.congr (hbel.block _ (hB.lt trivial))
      | map es => exact hB.congr (hbel.block _ (hB.lt trivial))
      | glob g vs => exact hB.congr (hbel.block _ (hB.lt trivial))
    · have hssne : ss ≠ [] := fun e => hne (by rw [e] at hlen; exact List.eq_nil_of_length_eq_zero (by simpa using hlen.symm))
      rcases hrow.2 with ⟨e, _⟩ | ⟨g, cap, cur, rfl, hg, hcur, hle, hcap, hsz, htk⟩
      · exact absurd (hnil.1 e) hssne
      have hsl : (sorted ks).length = ks.length := (sorted_perm' ks).length_eq
      let κ : Inj := fun j => if j = σ.size then some ⟨g, 0, cap, 0⟩ else ι j
      have hκ : ι.le κ := by
        intro j M hj
        have : j ≠ σ.size := fun e => by rw [hF j (by omega) (by simp; omega)] at hj; cases hj
        simp [κ, this, hj]
      have hnew : BlkRel κ ⟨g, 0, cap, 0⟩ u (.cells false ((sorted ks).map (S.int .i64))) := by
        refine ⟨cur, _, (0, 0), hcur, by rw [hsz, Nat.mul_one], by simp [hsl, ← hlen]; exact hle, fun j x hx => ?_, fun e => by cases e⟩
        rw [List.getElem?_map, Option.map_eq_some_iff] at hx
        obtain ⟨n, hn, rfl⟩ := hx
        have hj : j < (sorted ks).length := (List.getElem?_eq_some_iff.1 hn).1
        have e1 : (cur.toList.take (ss.length * 1))[j]? = some (encZ n) := by rw [htk, List.getElem?_map, hn]; rfl
        rw [List.getElem?_take, if_pos (by omega), Array.getElem?_toList] at e1
        exact ⟨_, by simpa using e1, rfl⟩
      refine ⟨κ, _, rfl, ?_, ⟨fun j M b hj hb' => ?_, fun j k M N hj hk' hl' hh hjk => ?_, fun j n vs hg => ?_⟩, ?_⟩
      · refine ⟨by simp, fun j hj => ?_, fun j hj hl' => ?_, fun j hj hl' => ?_, fun j hj hn => ?_, fun j M h1 h2 hj _ => ?_, hbel.os, hbel.output, hbel.size, fun k hk' _ => hbel.block k hk'⟩
        · have : j ≠ σ.size := by simp at hj; omega
          simp [κ, this]
        · rwa [St.get_push_ne _ _ (by omega)] at hl'
        · rwa [St.get_push_ne _ _ (by omega)] at hl'
        · rw [St.get_push_ne _ _ (by omega)]
        · have : j = σ.size := by simp at h2; omega
          subst this
          simp [κ] at hj
          subst hj
          exact .inl hg
      · by_cases e : j = σ.size
        · subst e
          simp [κ] at hj
          subst hj
          rw [St.get_push_same] at hb'
          cases hb'
          exact hnew
        · simp [κ, e] at hj
          rw [St.get_push_ne _ _ e] at hb'
          have hB := (hR.blk j M b hj hb').mono hκ
          cases b with
          | dead => trivial
          | cells own vs => exact hB.congr (hbel.block _ (hB.lt trivial))
          | map es => exact hB.congr (hbel.block _ (hB.lt trivial))
          | glob g vs => exact hB.congr (hbel.block _ (hB.lt trivial))
      · have old : ∀ {j : Nat} {M : Abs.Loc}, j ≠ σ.size → κ j = some M → held ((σ.push (.cells false ((sorted ks).map (S.int .i64)))).get j) → M.b < w.heap.size := by
          intro j M e hj hh
          simp [κ, e] at hj
          rw [St.get_push_ne _ _ e] at hh
          cases hbj : σ.get j with
          | none => rw [hbj] at hh; exact hh.elim
          | some b => rw [hbj] at hh; exact (hR.blk j M b hj hbj).lt hh
        by_cases e1 : j = σ.size
        · subst e1
          have hb2 := old (fun e => hjk e.symm) hk' hh
          simp [κ] at hj
          subst hj
          intro e
          have : g = N.b := e
          omega
        · by_cases e2 : k = σ.size
          · subst e2
            have hb2 := old e1 hj hl'.held
            simp [κ] at hk'
            subst hk'
            intro e
            have : M.b = g := e
            omega
          · simp [κ, e1] at hj
            simp [κ, e2] at hk'
            rw [St.get_push_ne _ _ e1] at hl'
            rw [St.get_push_ne _ _ e2] at hh
            exact hR.sep j k M N hj hk' hl' hh hjk
      · by_cases e : j = σ.size
        · subst e
          rw [St.get_push_same] at hg
          cases hg
        · rw [St.get_push_ne _ _ e] at hg
          obtain ⟨L, hL⟩ := hR.glob j n vs hg
          exact ⟨L, hκ j L hL⟩
      · refine ⟨⟨g, 0, cap, 0⟩, cap, by simp [κ], ?_, by rw [← hlen]; exact hle, by simp⟩
        rw [hlen]

theorem prim_sound : CallSound Try.prog prim := orP_sound (toldP_sound (runQ_sound keptP_sound 64 16) told_all) keptP_sound
end Go.Proofs.Ytoibllpfjnicfaa


/-
  RecvPlays gives true, whatever its steps. Conditions: the steps' numbers and bodies lie in the store.
-/
namespace Go.Proofs.Ytoibllpfjnicfaa
open Go Go.Abs Go.Abs.F
set_option linter.unusedVariables false

section
variable {s t s0 u : St} {x y z xa : S} {a : List Int} {lo hi i m i' : Nat} {n : Int} {K M : Kp}

theorem gtt0 (b : Bool) : gd tt b = some false := rfl

theorem same_run (d : Nat) (hx : Rd 1 s x a.length (a.map (S.int .i64))) (hy : Rd 1 s y a.length (a.map (S.int .i64))) (hl : a.length ≤ 5000) : R (d + 1) 12 [Z x, Z y] s = some (B true, s) := by
  have lx := hx.lens
  have ly := hy.lens
  obtain ⟨j, τ, lp, rfl, rfl⟩ := loops_inv (f := f12_l1 (R d) 8192) (fun f v u => ∃ k : Nat, f + k = a.length ∧ v = [Z x, Z y, I .i64 k] ∧ u = s)
    (fun j u => j = .exit 0 [] ∧ u = s) (by
    rintro f v u ⟨k, hk, rfl, rfl⟩
    by_cases hkl : k < a.length
    · left
      have hp : a[k]? = some a[k] := List.getElem?_eq_getElem hkl
      obtain ⟨P, ix, ld⟩ := hx.at1 (i := (k : Int)) (j := k) (v := .int .i64 a[k]) rfl (by simp [hp])
      obtain ⟨Q, iy, le⟩ := hy.at1 (i := (k : Int)) (j := k) (v := .int .i64 a[k]) rfl (by simp [hp])
      have c0 : (k : Int) < (a.length : Int) := by omega
      have w1 : IntKind.i64.wrap ((k : Int) + 1) = ((k + 1 : Nat) : Int) := by rw [wrap_in _ (by omega) (by omega)]; omega
      refine ⟨_, u, f - 1, ?_, by omega, k + 1, by omega, rfl, rfl⟩
      unfold f12_l1
      generalize a[k] = ak at *
      generalize ((k + 1 : Nat) : Int) = K1 at *
      generalize (k : Int) = KK at *
      generalize (a.length : Int) = ML at *
      simp [lx, c0, ix, ld, iy, le, w1]
    · right
      have c0 : ¬ (k : Int) < (a.length : Int) := by omega
      refine ⟨_, u, ?_, (fun v hv => by cases hv), rfl, rfl⟩
      unfold f12_l1
      generalize (k : Int) = KK at *
      generalize (a.length : Int) = ML at *
      simp [lx, c0]) 8192 a.length [Z x, Z y, I .i64 0] s ⟨0, by omega, by simp, rfl⟩ (by omega)
  rw [f12_run]
  unfold f12
  generalize (a.length : Int) = ML at *
  simp [lx, ly, lp]

theorem wf64 {n : Int} (h0 : 0 ≤ n) (h1 : n ≤ 1000000) : (Lit.int .i64 n).wf = true := by
  have : IntKind.i64.min ≤ n ∧ n ≤ IntKind.i64.max := (show (-9223372036854775808 : Int) ≤ n ∧ n ≤ 9223372036854775807 from ⟨by omega, by omega⟩)
  simpa [Lit.wf] using this

theorem keysOf_ent : ∀ {K : Kp} {es : List (S × V)}, All2 (EntR s lo hi) K es → (K.map (·.1)).Nodup → (∀ p ∈ K, 0 ≤ p.1 ∧ p.1 ≤ 1000000) → keysOf es = some (K.map (·.1)) := by
  intro K es h
  induction h with
  | nil => intro _ _; rfl
  | cons p q ih =>
    rename_i k e K es
    intro hn hr
    obtain ⟨y, rfl, hy⟩ := p
    rw [List.map_cons, List.nodup_cons] at hn
    have h1 := ih hn.2 fun p hp => hr p (List.mem_cons_of_mem _ hp)
    have h2 := hr k List.mem_cons_self
    unfold keysOf
    simp only [h1, wf64 h2.1 h2.2]
    have : ((K.map (·.1)).contains k.1) = false := Bool.eq_false_iff.2 fun hc => hn.1 (List.contains_iff_mem.1 hc)
    rw [this]
    rfl

theorem kept_run (d : Nat) (h : HasB s i m lo hi n K) (hS : Same n K M) (h0 : 0 ≤ n) (hl : K.length ≤ 1000) :
    ∃ x t, R (d + 1) 13 [Z (.ptr i 0)] s = some (Z x, t) ∧ Gr s t ∧ Rd 1 t x (M.map (·.1)).length ((M.map (·.1)).map (S.int .i64)) := by
  obtain ⟨es, he, hes⟩ := h.mp
  have hnd := nodup_of_lt hS.sort
  have hk := keysOf_ent hes ((hS.perm.map _).nodup_iff.2 hnd) fun p hp => by
    have hp' := hS.perm.mem_iff.1 hp
    have h1 := hS.gt p hp'
    have h2 := hS.le p hp'
    omega
  have hel := forall2_length hes
  have hs : sorted (K.map (·.1)) = M.map (·.1) := by
    have h1 : (sorted (K.map (·.1))).Perm (M.map (·.1)) := (sorted_perm' _).trans (hS.perm.map _)
    exact h1.eq_of_pairwise (fun a b _ _ h h' => Int.le_antisymm h h') (sorted_sorted _) (hS.sort.imp fun h => by omega)
  have key : ∀ r, keptP 13 [Z (.ptr i 0)] s = some r → R (d + 1) 13 [Z (.ptr i 0)] s = some r := fun r hr => runQ_prim (by
    show orP (toldP 8 true) keptP 13 [Z (.ptr i 0)] s = some r
    unfold orP toldP
    exact hr)
  have hble : Nat.ble es.length 1000 = true := Nat.ble_eq_true_of_le (by omega)
  cases hkk : K.map (·.1) with
  | nil =>
    rw [hkk] at hk hs
    refine ⟨.nils, s, key _ ?_, Gr.refl h.wf, ?_⟩
    · unfold keptP
      simp [h.ri, he, hble, hk]
    · rw [← hs]
      exact Rd.nil 1 s
  | cons k l =>
    rw [hkk] at hk hs
    have hlen : (M.map (·.1)).length = l.length + 1 := by have := (hS.perm.map (·.1)).length_eq; rw [hkk] at this; simpa using this.symm
    refine ⟨.sl s.size 0 (l.length + 1) (.grown 1), s.push (.cells false ((sorted (k :: l)).map (S.int .i64))), key _ ?_, Gr.push h.wf _, ?_⟩
    · unfold keptP
      simp [h.ri, he, hble, hk]
    · rw [hs, hlen]
      have h3 : ((M.map (·.1)).map (S.int .i64)).length = (l.length + 1) * 1 := by simp only [List.length_map] at hlen ⊢; omega
      refine ⟨h3, .inr ⟨s.size, 0, .grown 1, false, (M.map (·.1)).map (S.int .i64), rfl, St.get_push_same _ _, by omega, ?_⟩, rfl⟩
      rw [List.drop_zero, List.take_of_length_le (by omega)]

theorem HasB.keep2 (h : HasB s i m lo hi n K) {q : Nat} (hq : q < lo) (h1 : q ≠ i) (h2 : q ≠ m) (wf : t.wf) (hz : s.size ≤ t.size) (hk : ∀ c, c < s.size → c ≠ q → t.get c = s.get c) : HasB t i m lo hi n K := by
  obtain ⟨es, g1, g2⟩ := h.mp
  have hi' := h.wf.lt h.ri
  have hm' := h.wf.lt g1
  have hh := h.his
  exact ⟨wf, by rw [hk _ hi' (Ne.symm h1)]; exact h.ri, h.ilo, h.mlo, h.loh, by omega, es, by rw [hk _ hm' (Ne.symm h2)]; exact g1, all2_mono' g2 fun a b hab => hab.keep (Nat.le_refl _) (Nat.le_refl _) fun c h3 h4 => hk c (by omega) (by omega)⟩

theorem bodies_run (r : CallF) (v0 v1 v2 v3 : T) {out : List Bs} {ys : List S} (hy : Rd 1 u y out.length ys) (hys : All2 (BIn u lo hi) out ys) (hz : Rd 1 u z out.length (strS out)) (hl : out.length ≤ 5000) :
    loops (f3_l2 r 8192) 8192 [v0, v1, v2, v3, Z y, Z z, I .i64 0] u = some (.exit 2 [v0, v1, v2, v3], u) := by
  have ly := hy.lens
  have lz := hz.lens
  obtain ⟨j, τ, lp, rfl, rfl⟩ := loops_inv (f := f3_l2 r 8192) (fun f v w => ∃ k : Nat, f + k = out.length ∧ v = [v0, v1, v2, v3, Z y, Z z, I .i64 k] ∧ w = u)
    (fun j w => j = .exit 2 [v0, v1, v2, v3] ∧ w = u) (by
    rintro f v w ⟨k, hk, rfl, rfl⟩
    by_cases hkl : k < out.length
    · left
      have hp : out[k]? = some out[k] := List.getElem?_eq_getElem hkl
      obtain ⟨yy, hyy, hb⟩ := forall2_get hys _ _ hp
      obtain ⟨P, ix, ld⟩ := hy.at1 (i := (k : Int)) (j := k) (v := yy) rfl hyy
      obtain ⟨Q, iy, le⟩ := hz.at1 (i := (k : Int)) (j := k) (v := .str out[k]) rfl (by rw [strS_get, hp]; rfl)
      have st := hb.1.str
      have c0 : (k : Int) < (out.length : Int) := by omega
      have w1 : IntKind.i64.wrap ((k : Int) + 1) = ((k + 1 : Nat) : Int) := by rw [wrap_in _ (by omega) (by omega)]; omega
      refine ⟨_, w, f - 1, ?_, by omega, k + 1, by omega, rfl, rfl⟩
      unfold f3_l2
      generalize out[k] = ok at *
      generalize ((k + 1 : Nat) : Int) = K1 at *
      generalize (k : Int) = KK at *
      generalize (out.length : Int) = ML at *
      simp [lz, c0, ix, ld, st, iy, le, w1]
    · right
      have c0 : ¬ (k : Int) < (out.length : Int) := by omega
      refine ⟨_, w, ?_, (fun v hv => by cases hv), rfl, rfl⟩
      unfold f3_l2
      generalize (k : Int) = KK at *
      generalize (out.length : Int) = ML at *
      simp [lz, c0]) 8192 out.length [v0, v1, v2, v3, Z y, Z z, I .i64 0] u ⟨0, by omega, by simp, rfl⟩ (by omega)
  exact lp

def OpR (s : St) (o : Int × Bs) (r : List S) : Prop := ∃ y, r = [.int .i64 o.1, y] ∧ RB s y o.2 ∧ (∀ c, own y = some c → c < s.size) ∧ o.1 ≤ 9223372036854775807

structure PI (s0 : St) (i m i' lo : Nat) (q : Nat) (n : Int) (K M : Kp) (u : St) : Prop where
  hb : HasB u i m lo u.size n K
  hs : HasS u i' lo n M
  siz : s0.size ≤ u.size
  old : ∀ c, c < s0.size → u.get c = s0.get c
  rel : Same n K M
  nn : 0 ≤ n
  few : n + K.length ≤ q

theorem op_at {ops : List (Int × Bs)} {rows : List (List S)} (ha : Rd 2 s xa rows.length rows.flatten) (hr : All2 (OpR s) ops rows) {k : Nat} {o : Int × Bs} (ho : ops[k]? = some o) (hu : ∀ c, c < s.size → u.get c = s.get c) (hx : ∀ c, own xa = some c → c < s.size) :
    ∃ c p y, aIndexSl 2 (Z xa) (I .i64 k) = some (Z (.ptr c p)) ∧ aLoad1 (Z (.ptr c p)) u.get = some (I .i64 o.1) ∧ aLoad1 (Z (.ptr c (p + 1))) u.get = some (Z y) ∧ RB u y o.2 ∧ (∀ c, own y = some c → c < s.size) ∧ o.1 ≤ 9223372036854775807 := by
  obtain ⟨r, hr1, y, rfl, h1, h2, h3⟩ := forall2_get hr _ _ ho
  have hk := (List.getElem?_eq_some_iff.1 hr1).1
  have hl : ∀ r ∈ rows, r.length = 2 := by
    intro r hr'
    obtain ⟨j, hj⟩ := List.getElem?_of_mem hr'
    have hjl := (List.getElem?_eq_some_iff.1 hj).1
    have : j < ops.length := by rw [forall2_length hr]; exact hjl
    obtain ⟨r', e1, y', e2, _⟩ := forall2_get hr j _ (List.getElem?_eq_getElem this)
    rw [hj] at e1
    cases e1
    rw [e2]; rfl
  have ha' : Rd 2 u xa rows.length rows.flatten := ha.keep fun c hc => hu c (hx c hc)
  obtain ⟨c, p, e1, e2, _⟩ := ha'.at (i := (k : Int)) (j := k) rfl hk
  refine ⟨c, p, y, e1, ?_, ?_, h1.keep fun c hc => hu c (h2 c hc), h2, h3⟩
  · have := e2 0 (.int .i64 o.1) (by omega) (by rw [rows_get hl k 0 _ hr1 (by omega)]; rfl)
    simpa using this
  · exact e2 1 y (by omega) (by rw [rows_get hl k 1 _ hr1 (by omega)]; rfl)

set_option maxHeartbeats 1000000 in
theorem plays_loop {ops : List (Int × Bs)} {rows : List (List S)} (ha : Rd 2 s0 xa rows.length rows.flatten) (hr : All2 (OpR s0) ops rows) (hx : ∀ c, own xa = some c → c < s0.size) (hl : rows.length ≤ 100)
    (hii : i' ≠ i) (him : i' ≠ m) (hi0 : s0.size ≤ i) (hm0 : s0.size ≤ m) (hi'0 : s0.size ≤ i') (h0 : PI s0 i m i' lo 0 n K M u) :
    ∃ j τ, loops (f3_l1 (R 9) 8192) 8192 [Z xa, Z (.ptr i 0), Z (.ptr i' 0), I .i64 0] u = some (j, τ) ∧ (j = .exit 0 [] ∨ j = .ret (B true)) := by
  have lx := ha.lens
  have hlen := forall2_length hr
  refine loops_inv (f := f3_l1 (R 9) 8192) (fun f v u => ∃ (k : Nat) (n : Int) (K M : Kp), f + k = rows.length ∧ v = [Z xa, Z (.ptr i 0), Z (.ptr i' 0), I .i64 k] ∧ PI s0 i m i' lo k n K M u)
    (fun j u => j = .exit 0 [] ∨ j = .ret (B true)) (by
    rintro f v u ⟨k, n, K, M, hk, rfl, H⟩
    by_cases hkl : k < rows.length
    · have hop : ops[k]? = some (ops[k]'(by omega)) := List.getElem?_eq_getElem _
      obtain ⟨o, ho⟩ : ∃ o, ops[k]? = some o := ⟨_, hop⟩
      clear hop
      obtain ⟨c, p, y, ix, ld0, ld1, rb, ob, o63⟩ := op_at ha hr ho H.old hx
      have c0 : (k : Int) < (rows.length : Int) := by omega
      have ln := rb.lenB
      by_cases hb40 : 40 < o.2.length
      · right
        have c1 : (40 : Int) < (o.2.length : Int) := by omega
        have told := told_run 8 u
        refine ⟨_, u, ?_, (fun v hv => by cases hv), .inr rfl⟩
        unfold f3_l1
        simp only [Nat.reduceAdd] at told
        generalize R 9 = r at *
        generalize (o.2.length : Int) = BL at *
        generalize (k : Int) = KK at *
        generalize (rows.length : Int) = ML at *
        simp [lx, c0, ix, ld1, ln, c1, told]
      · left
        have c1 : ¬ (40 : Int) < (o.2.length : Int) := by omega
        have few := H.few
        have hnn := H.nn
        have hKM := H.rel.perm.length_eq
        obtain ⟨ya, s5, e9, hb5, ⟨hq, hqs, out5⟩, z5, k5⟩ := take_run 7 H.hb H.nn (by omega) (by omega) rb (fun c hc => by have := ob c hc; have := H.siz; omega) (by omega) o63
        have hsz := H.siz
        have hi1 := H.hb.ilo
        have hm1 := H.hb.mlo
        have hi2 := H.hs.ilo
        have hlo := H.hs.los
        have hs5 : HasS s5 i' lo n M := H.hs.keep hb5.wf z5 (k5 i' (by omega) hii him) fun c h1 h2 => k5 c h2 (by omega) (by omega)
        have old5 : ∀ c, c < s0.size → s5.get c = s0.get c := fun c hc => by rw [k5 c (by omega) (by omega) (by omega)]; exact H.old c hc
        obtain ⟨c', p', y', ix', ld0', ld1', rb', _⟩ := op_at ha hr ho old5 hx
        rw [ix] at ix'
        cases ix'
        have st := rb'.str
        obtain ⟨zb, s6, e10, hs6, rz, nz, z6, k6⟩ := rtake_run 8 (seq := o.1) (b := o.2) hs5 H.nn (by omega) (by omega) (by omega)
        obtain ⟨a1, a2, a3, a4, a5, a6⟩ := take_same (q := o.1) (b := o.2) H.rel (by omega)
        have hb6 : HasB s6 i m lo s6.size (takeM n K o.1 o.2).1.1 (takeM n K o.1 o.2).1.2.1 := (hb5.keep2 hi2 hii him hs6.wf z6 k6).up z6 (Nat.le_refl _)
        rw [← a1] at e10
        rw [← a2] at hs6
        rw [← a3] at rz
        obtain ⟨n', hn'⟩ : ∃ q, q = (takeM n K o.1 o.2).1.1 := ⟨_, rfl⟩
        obtain ⟨K', hK'⟩ : ∃ q, q = (takeM n K o.1 o.2).1.2.1 := ⟨_, rfl⟩
        obtain ⟨M', hM'⟩ : ∃ q, q = (takeS n M o.1 o.2).1.2.1 := ⟨_, rfl⟩
        obtain ⟨out, hout⟩ : ∃ q, q = (takeM n K o.1 o.2).1.2.2 := ⟨_, rfl⟩
        obtain ⟨E, hE⟩ : ∃ q, q = (takeM n K o.1 o.2).2 := ⟨_, rfl⟩
        rw [← hn'] at hb6 hs6 a4 a5 a6
        rw [← hK'] at hb6 a4 a5
        rw [← hM'] at hs6 a4
        rw [← hout] at rz out5
        rw [← hE] at e9 e10
        have eg := got_run 8 (s := s6) hb6.ri
        have hKM' := a4.perm.length_eq
        obtain ⟨kx, s8, ek, g8, rk⟩ := kept_run 8 hb6 a4 (by omega) (by omega)
        obtain ⟨sx, sy, g1, g2, g3, g4⟩ := hs6.ex
        have hi6 := hs6.wf.lt g1
        have l0 : aLoad1 (Z (.ptr i' 0)) s6.get = some (I .i64 n') := aLoad1_of g1 rfl
        have l1 : aLoad1 (Z (.ptr i' 1)) s6.get = some (Z sx) := aLoad1_of g1 rfl
        have l18 : aLoad1 (Z (.ptr i' 1)) s8.get = some (Z sx) := aLoad1_of (by rw [g8.2.2 i' hi6]; exact g1) rfl
        have rsx : Rd 1 s8 sx (M'.map (·.1)).length ((M'.map (·.1)).map (S.int .i64)) := by
          have := g2.gr (fun c hc => (g4 c (.inl hc)).2) g8
          simpa [Ks, Function.comp_def] using this
        have es := same_run 8 rk rsx (by simp; omega)
        obtain ⟨⟨ys, how, hys⟩, new5⟩ := out5
        have hol : out.length ≤ 5000 := by
          have := rz.len
          by_cases hc : out = []
          · rw [hc]; simp
          · have h1 : (popM (K.length + 1) n (K ++ [(o.1, o.2)]) []).2.2.length ≤ K.length + 2 := by
              have : ∀ (f : Nat) (n : Int) (K : Kp) (out : List Bs), (popM f n K out).2.2.length ≤ out.length + f := by
                intro f
                induction f with
                | zero => intro n K out; simp [popM]
                | succ f ih =>
                  intro n K out
                  unfold popM
                  split
                  · rename_i b hb
                    have := ih (n + 1) (delK (n + 1) K) (out ++ [b])
                    simp at this; omega
                  · simp
              have := this (K.length + 1) n (K ++ [(o.1, o.2)]) []
              simp at this; omega
            have h2 : out = [] ∨ out = (popM (K.length + 1) n (K ++ [(o.1, o.2)]) []).2.2 := by
              rw [hout]
              unfold takeM
              split
              · exact .inl rfl
              · split
                · exact .inl rfl
                · exact .inr rfl
            rcases h2 with h2 | h2
            · exact absurd h2 hc
            · rw [h2]; omega
        have k58 : ∀ c, c < s5.size → c ≠ i' → s8.get c = s5.get c := fun c h1 h2 => by rw [g8.2.2 c (by omega), k6 c h1 h2]
        have ry8 : Rd 1 s8 ya out.length ys := how.rd.keep fun c hc => k58 c (new5 c hc).2 (by have := (new5 c hc).1; omega)
        have hq5 : out = [] ∨ hq ≤ s5.size := by
          rcases how.ow with ⟨_, hz⟩ | ⟨c, rows, e, _⟩ | ⟨c, rows, cap, e, _⟩
          · exact .inl (List.eq_nil_of_length_eq_zero hz)
          · exact .inr (by have := new5 c (by rw [e]; rfl); omega)
          · exact .inr (by have := new5 c (by rw [e]; rfl); omega)
        have hys8 : All2 (BIn s8 lo hq) out ys := by
          rcases hq5 with hq5 | hq5
          · rw [hq5] at hys ⊢
            cases hys
            exact .nil
          · exact all2_mono' hys fun a b hab => BIn.keep hab (Nat.le_refl _) (Nat.le_refl _) fun c h1 h2 => k58 c (by omega) (by omega)
        have rz8 := rz.gr (fun c hc => (nz c hc).2) g8
        have lp := bodies_run (R 9) (Z xa) (Z (.ptr i 0)) (Z (.ptr i' 0)) (I .i64 k) ry8 hys8 rz8 hol
        have ly := ry8.lens
        have ly' := how.rd.lens
        have lz := rz.lens
        have w1 : IntKind.i64.wrap ((k : Int) + 1) = ((k + 1 : Nat) : Int) := by rw [wrap_in _ (by omega) (by omega)]; omega
        refine ⟨_, s8, f - 1, ?_, by omega, k + 1, n', K', M', by omega, rfl, ?_⟩
        · unfold f3_l1
          simp only [Nat.reduceAdd] at e9 e10 eg ek es
          generalize R 9 = r at *
          generalize ((k + 1 : Nat) : Int) = K1 at *
          generalize (o.2.length : Int) = BL at *
          generalize (out.length : Int) = OL at *
          generalize (k : Int) = KK at *
          generalize (rows.length : Int) = ML at *
          simp [lx, c0, ix, ld0, ld1, ln, c1, e9, ld0', ld1', st, e10, aExtract, ly', lz, eg, l0, ek, l1, l18, es, lp, w1, gtt0, wq]
        · exact ⟨(hb6.keep g8.wf g8.2.1 g8.2.2).up g8.2.1 (Nat.le_refl _), hs6.keep g8.wf g8.2.1 (g8.2.2 i' hi6) fun c h1 h2 => g8.2.2 c h2, by have := g8.2.1; omega, fun c hc => by rw [g8.2.2 c (by omega), k6 c (by omega) (by omega)]; exact old5 c hc, a4, by omega, by omega⟩
    · right
      have c0 : ¬ (k : Int) < (rows.length : Int) := by omega
      refine ⟨_, u, ?_, (fun v hv => by cases hv), .inl rfl⟩
      unfold f3_l1
      generalize (k : Int) = KK at *
      generalize (rows.length : Int) = ML at *
      simp [lx, c0]) 8192 rows.length [Z xa, Z (.ptr i 0), Z (.ptr i' 0), I .i64 0] u ⟨0, n, K, M, by omega, by simp, h0⟩ (by omega)

theorem plays_run {ops : List (Int × Bs)} {rows : List (List S)} (wf : s.wf) (ha : Rd 2 s xa rows.length rows.flatten) (hr : All2 (OpR s) ops rows) (hx : ∀ c, own xa = some c → c < s.size) : ∃ τ, R 10 3 [Z xa] s = some (B true, τ) := by
  have lx := ha.lens
  rw [f3_run]
  unfold f3
  have er := new_run (s := s) 8
  obtain ⟨s1, hs1⟩ : ∃ t, t = (s.push (.map [])).push (.cells true [.int .i64 0, .map s.size]) := ⟨_, rfl⟩
  rw [← hs1] at er
  have wf1 : s1.wf := by rw [hs1]; exact St.wf_push (St.wf_push wf _) _
  have z1 : s1.size = s.size + 2 := by rw [hs1]; rfl
  have o1 : ∀ c, c < s.size → s1.get c = s.get c := fun c hc => by rw [hs1, St.get_push_ne _ _ (by rw [St.size_push]; omega), St.get_push_ne _ _ (by omega)]
  have gm : s1.get s.size = some (.map []) := by rw [hs1, St.get_push_ne _ _ (by rw [St.size_push]; omega), St.get_push_same]
  have gr : s1.get (s.size + 1) = some (.cells true [.int .i64 0, .map s.size]) := by
    have := St.get_push_same (s.push (.map [])) (.cells true [.int .i64 0, .map s.size])
    rwa [St.size_push, ← hs1] at this
  obtain ⟨s2, hs2⟩ : ∃ t, t = s1.push (.cells true [.int .i64 0, .nils, .nils]) := ⟨_, rfl⟩
  have na : asAggT (aFill [.int .i64 0, .nils, .nils] []) = some (.v (.agg [.int .i64 0, .nils, .nils])) := rfl
  have nw : aNew s1 (nBox (.v (.agg [.int .i64 0, .nils, .nils]))) = some (Z (.ptr (s.size + 2) 0), s2) := by
    rw [hs2, ← z1]
    rfl
  have wf2 : s2.wf := by rw [hs2]; exact St.wf_push wf1 _
  have z2 : s2.size = s.size + 3 := by rw [hs2, St.size_push, z1]
  have o2 : ∀ c, c < s1.size → s2.get c = s1.get c := fun c hc => by rw [hs2, St.get_push_ne _ _ (by omega)]
  have g2 : s2.get (s.size + 2) = some (.cells true [.int .i64 0, .nils, .nils]) := by rw [hs2, ← z1]; exact St.get_push_same _ _
  have P0 : PI s (s.size + 1) s.size (s.size + 2) (s.size + 3) 0 0 [] [] s2 := by
    refine ⟨⟨wf2, by rw [o2 _ (by omega)]; exact gr, by omega, by omega, by omega, Nat.le_refl _, [], by rw [o2 _ (by omega)]; exact gm, .nil⟩, ⟨wf2, ⟨.nils, .nils, g2, Rd.nil 1 s2, Rd.nil 1 s2, fun c hc => by rcases hc with hc | hc <;> cases hc⟩, by omega, by omega⟩, by omega, fun c hc => by rw [o2 c (by omega), o1 c hc],
      ⟨.refl _, .nil, (fun p hp => by cases hp), fun p hp => by cases hp⟩, Int.le_refl _, by simp⟩
  simp only [Nat.reduceAdd] at er
  by_cases hl : (100 : Int) < (rows.length : Int)
  · have told := told_run 8 s2
    refine ⟨s2, ?_⟩
    simp only [Nat.reduceAdd] at told
    generalize R 9 = r at *
    generalize (rows.length : Int) = ML at *
    simp [er, na, nw, lx, hl, told]
  · obtain ⟨j, τ, lp, hj⟩ := plays_loop ha hr hx (by omega) (by omega) (by omega) (by omega) (by omega) (by omega) P0
    have told := told_run 8 τ
    refine ⟨τ, ?_⟩
    simp only [Nat.reduceAdd] at told
    rcases hj with rfl | rfl
    · generalize R 9 = r at *
      generalize (rows.length : Int) = ML at *
      simp [er, na, nw, lx, hl, told, lp]
    · generalize R 9 = r at *
      generalize (rows.length : Int) = ML at *
      simp [er, na, nw, lx, hl, told, lp]
end
end Go.Proofs.Ytoibllpfjnicfaa

