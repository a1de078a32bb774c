/-
  Several texts in one: what functions that the law reaches compute. No conditions but those named in each line.
-/
import Derived.Test.YtoibllpfjnicfaaAbsE
import Derived.Test.YtoibllpfjnicfaaRows
import Derived.Shelf.SlGeneric
import Derived.Shelf.SlIterI.Nil
import Derived.Shelf.SortM.Plain
import Derived.Shelf.SortM.SortNone
import Derived.Ground.GgzProg
import Derived.Ground.SlgmProg
import Derived.Test.YtoibllpfjnicfaaProg
import Derived.Test.YtoibllpfjnicfaaChecked
import Derived.WalkKit
/-
  What the laws of layer 15 and the functions that they reach compute, printed by a program of our own: each text is by definition the run of the code. No conditions.
-/
namespace Go.Proofs.Ytoibllpfjnicfaa
open Go Go.Abs Go.Abs.F
set_option linter.unusedVariables false
noncomputable section
def keysOf : List (S × V) → Option (List Int)
  | [] => some []
  | (.int .i64 n, _) :: r => match keysOf r with
    | some l => match (Lit.int .i64 n).wf && !l.contains n with
      | true => some (n :: l)
      | false => none
    | none => none
  | _ :: _ => none

def put (n : Int) : List Int → List Int
  | [] => [n]
  | m :: r => match decide (n ≤ m) with
    | true => n :: m :: r
    | false => m :: put n r

def sorted : List Int → List Int
  | [] => []
  | n :: r => put n (sorted r)

def keptP : CallF := fun f ts σ => match Nat.beq f 13 with
  | false => none
  | true => match ts with
    | [.v (.s (.ptr i o))] => match σ.get i with
      | some (.cells _ vs) => match vs[o + 1]? with
        | some (.map m) => match σ.get m with
          | some (.map es) => match Nat.ble es.length 1000, keysOf es with
            | true, some [] => some (Z .nils, σ)
            | true, some (k :: l) => some (Z (.sl σ.size 0 (l.length + 1) (.grown 1)), σ.push (.cells false ((sorted (k :: l)).map (S.int .i64))))
            | _, _ => none
          | _ => none
        | _ => none
      | _ => none
    | _ => none
abbrev prim : CallF := orP (toldP 8 true) keptP
abbrev R (d : Nat) : CallF := runQ Try.prog 8192 prim d
end
end Go.Proofs.Ytoibllpfjnicfaa


/-
  What functions that the laws reach compute, printed by a program of our own: each text is by definition the run of the code. No conditions.
-/
namespace Go.Proofs.Ytoibllpfjnicfaa
open Go Go.Abs Go.Abs.F
set_option linter.unusedVariables false
noncomputable section
set_option maxRecDepth 100000 in
theorem told_all : gave true (runQ Try.prog 64 keptP 16 8 [] St.empty) = true := by kernel_rfl
theorem told_run (d : Nat) (s : St) : R (d + 1) 8 [] s = some (B true, s) := runQ_prim rfl
end
end Go.Proofs.Ytoibllpfjnicfaa


/-
  What functions that the laws reach compute, printed by a program of our own: each text is by definition the run of the code. No conditions.
-/
namespace Go.Proofs.Ytoibllpfjnicfaa
open Go Go.Abs Go.Abs.F
set_option linter.unusedVariables false
noncomputable section
/- twinkeep/recv.New -/
def f7 (callf : CallF) (N : Nat) (s : St) : Option (T × St) :=
  bd2 (aNew s (nMap)) fun t1 s1 =>
  bd (asAggT (aFill [.int .i64 0, .nilm] [(1, 1, t1)])) fun t2 =>
  bd2 (aNew s1 (nBox t2)) fun t3 s2 =>
  some (t3, s2)

theorem f7_eq (callf : CallF) (N : Nat) (s : St) : bodyC Try.prog callf N Try.f7 [] s = f7 callf N s := by kernel_rfl

theorem f7_run (d : Nat) (s : St) : R (d + 1) 7 [] s = f7 (R d) 8192 s := (runQ_body rfl Try.func7 (by kernel_rfl)).trans (f7_eq ..)

/- (twinkeep/recv.Recv).Take: a loop; 0: t0 r, 1: t10 l -/
def f9_l1 (callf : CallF) (N : Nat) (v : List T) (s : St) : Option (JO × St) :=
  jn (bd (aNil (v.getD 0 .any)) fun t60 =>
  bd (aFieldAddr 1 t60) fun t61 =>
  bd (aLoad1 t61 s.get) fun t62 =>
  bd (aNil (v.getD 0 .any)) fun t64 =>
  bd (aFieldAddr 0 t64) fun t65 =>
  bd (aLoad1 t65 s.get) fun t66 =>
  bd (aBin .add t66 (I .i64 1)) fun t67 =>
  bd (Go.Abs.F.look .i true (.s (.nils)) t62 t67 s.get) fun t68 =>
  bd (aExtract t68 0) fun t69 =>
  bd (aExtract t68 1) fun t70 =>
  bd (aUn .not t70) fun t72 =>
  br t72 (some (.exit 1 [(v.getD 1 .any)], s))
  (bd (aNil (v.getD 0 .any)) fun t74 =>
  bd (aFieldAddr 0 t74) fun t75 =>
  bd (aLoad1 t75 s.get) fun t76 =>
  bd (aBin .add t76 (I .i64 1)) fun t77 =>
  bd (aNil (v.getD 0 .any)) fun t78 =>
  bd (aFieldAddr 0 t78) fun t79 =>
  bd2 (aStore 1 t79 t77 s) fun _ s10 =>
  bd (aNil (v.getD 0 .any)) fun t81 =>
  bd (aFieldAddr 1 t81) fun t82 =>
  bd (aLoad1 t82 s10.get) fun t83 =>
  bd (aNil (v.getD 0 .any)) fun t85 =>
  bd (aFieldAddr 0 t85) fun t86 =>
  bd (aLoad1 t86 s10.get) fun t87 =>
  bd2 (mdel .i t83 t87 s10) fun _ s11 =>
  bd2 (aNew s11 (nSlice 1 (aFill [.nils] [(0, 1, t69)]))) fun t90 s12 =>
  bd2 (aAppend 1 24 (v.getD 1 .any) t90 s12) fun t91 s13 =>
  some (.normal [(v.getD 0 .any), t91], s13)))
  (fun v14 s15 => some (.normal [(v14.getD 0 .any), (v14.getD 1 .any)], s15))
  (fun i16 v14 s15 => some (.exit i16 v14, s15))
  (fun r17 s15 => some (.ret r17, s15))

/- (twinkeep/recv.Recv).Take -/
def f9 (callf : CallF) (N : Nat) (a0 : T) (a1 : T) (a2 : T) (s : St) : Option (T × St) :=
  jn (bd (eqB .p a0 (Z .nilp)) fun t15 =>
  br t15 (bd (retT [(Z .nils), (I .i64 10)]) fun r1 =>
  some (.ret r1, s))
  (bd (aBin .lss a1 (I .i64 1)) fun t18 =>
  bd (gT (gd t18 false) (some a1)) fun t20 =>
  bd (gT (gd t18 false) (aBin .sub t20 (I .i64 8))) fun t21 =>
  bd (gT (gd t18 false) (some a0)) fun t22 =>
  bd (gT (gd t18 false) (aNil t22)) fun t23 =>
  bd (gT (gd t18 false) (aFieldAddr 0 t23)) fun t24 =>
  bd (gT (gd t18 false) (aLoad1 t24 s.get)) fun t25 =>
  bd (gT (gd t18 false) (aBin .gtr t21 t25)) fun t26 =>
  bd (aPick t18 (B true) t26) fun t27 =>
  bd (gT (gd t27 false) (some a2)) fun t29 =>
  bd (gT (gd t27 false) (aLenSl t29)) fun t30 =>
  bd (gT (gd t27 false) (aBin .gtr t30 (I .i64 4100))) fun t31 =>
  bd (aPick t27 (B true) t31) fun t32 =>
  br t32 (bd (retT [(Z .nils), (I .i64 5)]) fun r2 =>
  some (.ret r2, s))
  (some (.normal [a0, a1, a2], s))))
  (fun v3 s4 => bd (aNil (v3.getD 0 .any)) fun t35 =>
  bd (aFieldAddr 1 t35) fun t36 =>
  bd (aLoad1 t36 s4.get) fun t37 =>
  bd (Go.Abs.F.look .i true (.s (.nils)) t37 (v3.getD 1 .any) s4.get) fun t39 =>
  bd (aExtract t39 0) fun t40 =>
  bd (aExtract t39 1) fun t41 =>
  bd (gT (gd t41 false) (some (v3.getD 1 .any))) fun t44 =>
  bd (gT (gd t41 false) (some (v3.getD 0 .any))) fun t45 =>
  bd (gT (gd t41 false) (aNil t45)) fun t46 =>
  bd (gT (gd t41 false) (aFieldAddr 0 t46)) fun t47 =>
  bd (gT (gd t41 false) (aLoad1 t47 s4.get)) fun t48 =>
  bd (gT (gd t41 false) (aBin .leq t44 t48)) fun t49 =>
  bd (aPick t41 (B true) t49) fun t50 =>
  br t50 (bd (retT [(Z .nils), (I .i64 0)]) fun r7 =>
  some (r7, s4))
  (bd (aNil (v3.getD 0 .any)) fun t52 =>
  bd (aFieldAddr 1 t52) fun t53 =>
  bd (aLoad1 t53 s4.get) fun t54 =>
  bd2 (callf 20 [(v3.getD 2 .any)] s4) fun t57 s8 =>
  bd2 (mset .i t54 (v3.getD 1 .any) t57 s8) fun _ s9 =>
  ck ((decide (aLoad1 t53 s8.get = aLoad1 t53 s4.get) && true) && true) (jn (jn (loops (f9_l1 callf N) N [(v3.getD 0 .any), (Z .nils)] s9)
  (fun v18 s19 => some (.normal [.any], s19))
  (fun i20 v18 s19 => if i20 = 1 then some (.normal v18, s19) else some (.exit i20 v18, s19))
  (fun r21 s19 => some (.ret r21, s19)))
  (fun v22 s23 => bd (retT [(v22.getD 0 .any), (I .i64 0)]) fun r26 =>
  some (r26, s23))
  (fun i24 v22 s23 => none)
  (fun r25 s23 => some (r25, s23)))))
  (fun i5 v3 s4 => none)
  (fun r6 s4 => some (r6, s4))

theorem f9_eq (callf : CallF) (N : Nat) (a0 : T) (a1 : T) (a2 : T) (s : St) : bodyC Try.prog callf N Try.f9 [a0, a1, a2] s = f9 callf N a0 a1 a2 s := by kernel_rfl

theorem f9_run (d : Nat) (a0 : T) (a1 : T) (a2 : T) (s : St) : R (d + 1) 9 [a0, a1, a2] s = f9 (R d) 8192 a0 a1 a2 s := (runQ_body rfl Try.func9 (by kernel_rfl)).trans (f9_eq ..)

/- (twinkeep/recv.Recv).Got -/
def f11 (callf : CallF) (N : Nat) (a0 : T) (s : St) : Option (T × St) :=
  bd (eqB .p a0 (Z .nilp)) fun t4 =>
  br t4 (some ((I .i64 0), s))
  (bd (aNil a0) fun t6 =>
  bd (aFieldAddr 0 t6) fun t7 =>
  bd (aLoad1 t7 s.get) fun t8 =>
  some (t8, s))

theorem f11_eq (callf : CallF) (N : Nat) (a0 : T) (s : St) : bodyC Try.prog callf N Try.f11 [a0] s = f11 callf N a0 s := by kernel_rfl

theorem f11_run (d : Nat) (a0 : T) (s : St) : R (d + 1) 11 [a0] s = f11 (R d) 8192 a0 s := (runQ_body rfl Try.func11 (by kernel_rfl)).trans (f11_eq ..)

/- bytes.Clone -/
def f20 (callf : CallF) (N : Nat) (a0 : T) (s : St) : Option (T × St) :=
  bd (eqB .l a0 (Z .nils)) fun t4 =>
  br t4 (some ((Z .nils), s))
  (bd2 (aNew s (nSlice 0 (aFill [] []))) fun t5 s1 =>
  bd2 (aAppend 1 1 t5 a0 s1) fun t7 s2 =>
  some (t7, s2))

theorem f20_eq (callf : CallF) (N : Nat) (a0 : T) (s : St) : bodyC Try.prog callf N Try.f20 [a0] s = f20 callf N a0 s := by kernel_rfl

theorem f20_run (d : Nat) (a0 : T) (s : St) : R (d + 1) 20 [a0] s = f20 (R d) 8192 a0 s := (runQ_body rfl Try.func20 (by kernel_rfl)).trans (f20_eq ..)

end
end Go.Proofs.Ytoibllpfjnicfaa


/-
  What functions that the laws reach compute, printed by a program of our own: each text is by definition the run of the code. No conditions.
-/
namespace Go.Proofs.Ytoibllpfjnicfaa
open Go Go.Abs Go.Abs.F
set_option linter.unusedVariables false
noncomputable section
/- twinkeep/send.New -/
def f14 (callf : CallF) (N : Nat) (s : St) : Option (T × St) :=
  bd (asAggT (aFill [.nils, .int .i64 0, .int .i64 0, .int .i64 0, .int .i64 0, .int .i64 0] [(3, 1, (I .i64 2)), (4, 1, (I .i64 (-1)))])) fun t1 =>
  bd2 (aNew s (nBox t1)) fun t2 s1 =>
  some (t2, s1)

theorem f14_eq (callf : CallF) (N : Nat) (s : St) : bodyC Try.prog callf N Try.f14 [] s = f14 callf N s := by kernel_rfl

theorem f14_run (d : Nat) (s : St) : R (d + 1) 14 [] s = f14 (R d) 8192 s := (runQ_body rfl Try.func14 (by kernel_rfl)).trans (f14_eq ..)

/- (twinkeep/send.Send).Put -/
def f15 (callf : CallF) (N : Nat) (a0 : T) (a1 : T) (s : St) : Option (T × St) :=
  jn (bd (eqB .p a0 (Z .nilp)) fun t7 =>
  br t7 (some (.ret (I .i64 10), s))
  (bd (aLenSl a1) fun t10 =>
  bd (aBin .gtr t10 (I .i64 4100)) fun t11 =>
  br t11 (some (.ret (I .i64 5), s))
  (bd (aNil a0) fun t14 =>
  bd (aFieldAddr 0 t14) fun t15 =>
  bd (aLoad1 t15 s.get) fun t16 =>
  bd (aLenSl t16) fun t17 =>
  bd (aBin .eql t17 (I .i64 1000)) fun t18 =>
  br t18 (some (.ret (I .i64 8), s))
  (some (.normal [a0, a1], s)))))
  (fun v1 s2 => bd (aNil (v1.getD 0 .any)) fun t21 =>
  bd (aFieldAddr 0 t21) fun t22 =>
  bd (aLoad1 t22 s2.get) fun t23 =>
  bd2 (callf 20 [(v1.getD 1 .any)] s2) fun t25 s5 =>
  bd2 (aNew s5 (nSlice 1 (aFill [.nils] [(0, 1, t25)]))) fun t26 s6 =>
  bd2 (aAppend 1 24 t23 t26 s6) fun t27 s7 =>
  bd (aNil (v1.getD 0 .any)) fun t28 =>
  bd (aFieldAddr 0 t28) fun t29 =>
  bd2 (aStore 1 t29 t27 s7) fun _ s8 =>
  ck ((decide (aLoad1 t22 (overlay 7 s5.get (ovO 7 s5.size (nSlice 1 (aFill [.nils] [(0, 1, t25)])) [])) = aLoad1 t22 s2.get) && true) && true) (some ((I .i64 0), s8)))
  (fun i3 v1 s2 => none)
  (fun r4 s2 => some (r4, s2))

theorem f15_eq (callf : CallF) (N : Nat) (a0 : T) (a1 : T) (s : St) : bodyC Try.prog callf N Try.f15 [a0, a1] s = f15 callf N a0 a1 s := by kernel_rfl

theorem f15_run (d : Nat) (a0 : T) (a1 : T) (s : St) : R (d + 1) 15 [a0, a1] s = f15 (R d) 8192 a0 a1 s := (runQ_body rfl Try.func15 (by kernel_rfl)).trans (f15_eq ..)

/- (twinkeep/send.Send).Acked -/
def f16 (callf : CallF) (N : Nat) (a0 : T) (s : St) : Option (T × St) :=
  bd (eqB .p a0 (Z .nilp)) fun t4 =>
  br t4 (some ((I .i64 0), s))
  (bd (aNil a0) fun t6 =>
  bd (aFieldAddr 1 t6) fun t7 =>
  bd (aLoad1 t7 s.get) fun t8 =>
  some (t8, s))

theorem f16_eq (callf : CallF) (N : Nat) (a0 : T) (s : St) : bodyC Try.prog callf N Try.f16 [a0] s = f16 callf N a0 s := by kernel_rfl

theorem f16_run (d : Nat) (a0 : T) (s : St) : R (d + 1) 16 [a0] s = f16 (R d) 8192 a0 s := (runQ_body rfl Try.func16 (by kernel_rfl)).trans (f16_eq ..)

/- (twinkeep/send.Send).Out: a loop; 0: t0 s, 1: t5 l -/
def f17_l1 (callf : CallF) (N : Nat) (v : List T) (s : St) : Option (JO × St) :=
  bd (aNil (v.getD 0 .any)) fun t63 =>
  bd (aFieldAddr 2 t63) fun t64 =>
  bd (aLoad1 t64 s.get) fun t65 =>
  bd (aNil (v.getD 0 .any)) fun t67 =>
  bd (aFieldAddr 1 t67) fun t68 =>
  bd (aLoad1 t68 s.get) fun t69 =>
  bd (aNil (v.getD 0 .any)) fun t71 =>
  bd (aFieldAddr 0 t71) fun t72 =>
  bd (aLoad1 t72 s.get) fun t73 =>
  bd (aLenSl t73) fun t74 =>
  bd (aBin .add t69 t74) fun t75 =>
  bd (aBin .lss t65 t75) fun t76 =>
  br t76 (jn (bd (aNil (v.getD 0 .any)) fun t78 =>
  bd (aFieldAddr 2 t78) fun t79 =>
  bd (aLoad1 t79 s.get) fun t80 =>
  bd (aNil (v.getD 0 .any)) fun t82 =>
  bd (aFieldAddr 1 t82) fun t83 =>
  bd (aLoad1 t83 s.get) fun t84 =>
  bd (aBin .add t84 (I .i64 8)) fun t85 =>
  bd (aBin .geq t80 t85) fun t86 =>
  br t86 (some (.exit 0 [(v.getD 0 .any), (v.getD 1 .any)], s))
  (bd (aNil (v.getD 0 .any)) fun t88 =>
  bd (aFieldAddr 2 t88) fun t89 =>
  bd (aLoad1 t89 s.get) fun t90 =>
  bd (aBin .add t90 (I .i64 1)) fun t91 =>
  bd (aNil (v.getD 0 .any)) fun t92 =>
  bd (aFieldAddr 2 t92) fun t93 =>
  bd2 (aStore 1 t93 t91 s) fun _ s10 =>
  bd (aNil (v.getD 0 .any)) fun t96 =>
  bd (aFieldAddr 2 t96) fun t97 =>
  bd (aLoad1 t97 s10.get) fun t98 =>
  bd2 (aNew s10 (nSlice 1 (aFill [.int .i64 0] [(0, 1, t98)]))) fun t99 s11 =>
  bd2 (aAppend 1 8 (v.getD 1 .any) t99 s11) fun t100 s12 =>
  some (.normal [(v.getD 0 .any), t100], s12)))
  (fun v13 s14 => some (.normal [(v13.getD 0 .any), (v13.getD 1 .any)], s14))
  (fun i15 v13 s14 => some (.exit i15 v13, s14))
  (fun r16 s14 => some (.ret r16, s14)))
  (some (.exit 0 [(v.getD 0 .any), (v.getD 1 .any)], s))

/- (twinkeep/send.Send).Out -/
def f17 (callf : CallF) (N : Nat) (a0 : T) (a1 : T) (s : St) : Option (T × St) :=
  bd (eqB .p a0 (Z .nilp)) fun t7 =>
  br t7 (some ((Z .nils), s))
  (bd (aNil a0) fun t10 =>
  bd (aFieldAddr 5 t10) fun t11 =>
  bd (aLoad1 t11 s.get) fun t12 =>
  bd (aFold aMax2 t12 [a1]) fun t14 =>
  bd (aNil a0) fun t15 =>
  bd (aFieldAddr 5 t15) fun t16 =>
  bd2 (aStore 1 t16 t14 s) fun _ s1 =>
  bd (aNil a0) fun t18 =>
  bd (aFieldAddr 4 t18) fun t19 =>
  bd (aLoad1 t19 s1.get) fun t20 =>
  bd (aBin .neq t20 (I .i64 (-1))) fun t21 =>
  bd (gT (gd t21 true) (some a0)) fun t23 =>
  bd (gT (gd t21 true) (aNil t23)) fun t24 =>
  bd (gT (gd t21 true) (aFieldAddr 4 t24)) fun t25 =>
  bd (gT (gd t21 true) (aLoad1 t25 s1.get)) fun t26 =>
  bd (gT (gd t21 true) (some a0)) fun t27 =>
  bd (gT (gd t21 true) (aNil t27)) fun t28 =>
  bd (gT (gd t21 true) (aFieldAddr 5 t28)) fun t29 =>
  bd (gT (gd t21 true) (aLoad1 t29 s1.get)) fun t30 =>
  bd (gT (gd t21 true) (aBin .leq t26 t30)) fun t31 =>
  bd (aPick t21 t31 (B false)) fun t32 =>
  jn (br t32 (bd (aNil a0) fun t35 =>
  bd (aFieldAddr 1 t35) fun t36 =>
  bd (aLoad1 t36 s1.get) fun t37 =>
  bd (aBin .add t37 (I .i64 1)) fun t38 =>
  bd2 (aNew s1 (nSlice 1 (aFill [.int .i64 0] [(0, 1, t38)]))) fun t39 s2 =>
  bd2 (aAppend 1 8 (Z .nils) t39 s2) fun t40 s3 =>
  bd (aNil a0) fun t43 =>
  bd (aFieldAddr 3 t43) fun t44 =>
  bd (aLoad1 t44 s3.get) fun t45 =>
  bd (aBin .mul (I .i64 2) t45) fun t46 =>
  bd (aFold aMin2 t46 [(I .i64 16)]) fun t47 =>
  bd (aNil a0) fun t48 =>
  bd (aFieldAddr 3 t48) fun t49 =>
  bd2 (aStore 1 t49 t47 s3) fun _ s4 =>
  bd (aNil a0) fun t52 =>
  bd (aFieldAddr 5 t52) fun t53 =>
  bd (aLoad1 t53 s4.get) fun t54 =>
  bd (aNil a0) fun t56 =>
  bd (aFieldAddr 3 t56) fun t57 =>
  bd (aLoad1 t57 s4.get) fun t58 =>
  bd (aBin .add t54 t58) fun t59 =>
  bd (aNil a0) fun t60 =>
  bd (aFieldAddr 4 t60) fun t61 =>
  bd2 (aStore 1 t61 t59 s4) fun _ s5 =>
  some (.normal [a0, t40], s5))
  (some (.normal [a0, (Z .nils)], s1)))
  (fun v6 s7 => jn (jn (loops (f17_l1 callf N) N [(v6.getD 0 .any), (v6.getD 1 .any)] s7)
  (fun v17 s18 => some (.normal [.any, .any], s18))
  (fun i19 v17 s18 => if i19 = 0 then some (.normal v17, s18) else some (.exit i19 v17, s18))
  (fun r20 s18 => some (.ret r20, s18)))
  (fun v21 s22 => bd (aNil (v21.getD 0 .any)) fun t102 =>
  bd (aFieldAddr 4 t102) fun t103 =>
  bd (aLoad1 t103 s22.get) fun t104 =>
  bd (aBin .eql t104 (I .i64 (-1))) fun t105 =>
  bd (gT (gd t105 true) (some (v21.getD 0 .any))) fun t107 =>
  bd (gT (gd t105 true) (aNil t107)) fun t108 =>
  bd (gT (gd t105 true) (aFieldAddr 2 t108)) fun t109 =>
  bd (gT (gd t105 true) (aLoad1 t109 s22.get)) fun t110 =>
  bd (gT (gd t105 true) (some (v21.getD 0 .any))) fun t111 =>
  bd (gT (gd t105 true) (aNil t111)) fun t112 =>
  bd (gT (gd t105 true) (aFieldAddr 1 t112)) fun t113 =>
  bd (gT (gd t105 true) (aLoad1 t113 s22.get)) fun t114 =>
  bd (gT (gd t105 true) (aBin .gtr t110 t114)) fun t115 =>
  bd (aPick t105 t115 (B false)) fun t116 =>
  jn (br t116 (bd (aNil (v21.getD 0 .any)) fun t119 =>
  bd (aFieldAddr 5 t119) fun t120 =>
  bd (aLoad1 t120 s22.get) fun t121 =>
  bd (aNil (v21.getD 0 .any)) fun t123 =>
  bd (aFieldAddr 3 t123) fun t124 =>
  bd (aLoad1 t124 s22.get) fun t125 =>
  bd (aBin .add t121 t125) fun t126 =>
  bd (aNil (v21.getD 0 .any)) fun t127 =>
  bd (aFieldAddr 4 t127) fun t128 =>
  bd2 (aStore 1 t128 t126 s22) fun _ s25 =>
  some (.normal [(v21.getD 1 .any)], s25))
  (some (.normal [(v21.getD 1 .any)], s22)))
  (fun v26 s27 => some ((v26.getD 0 .any), s27))
  (fun i28 v26 s27 => none)
  (fun r29 s27 => some (r29, s27)))
  (fun i23 v21 s22 => none)
  (fun r24 s22 => some (r24, s22)))
  (fun i8 v6 s7 => none)
  (fun r9 s7 => some (r9, s7)))

theorem f17_eq (callf : CallF) (N : Nat) (a0 : T) (a1 : T) (s : St) : bodyC Try.prog callf N Try.f17 [a0, a1] s = f17 callf N a0 a1 s := by kernel_rfl

theorem f17_run (d : Nat) (a0 : T) (a1 : T) (s : St) : R (d + 1) 17 [a0, a1] s = f17 (R d) 8192 a0 a1 s := (runQ_body rfl Try.func17 (by kernel_rfl)).trans (f17_eq ..)

/- (twinkeep/send.Send).Body -/
def f18 (callf : CallF) (N : Nat) (a0 : T) (a1 : T) (s : St) : Option (T × St) :=
  bd (eqB .p a0 (Z .nilp)) fun t7 =>
  bd (gT (gd t7 false) (some a1)) fun t9 =>
  bd (gT (gd t7 false) (some a0)) fun t10 =>
  bd (gT (gd t7 false) (aNil t10)) fun t11 =>
  bd (gT (gd t7 false) (aFieldAddr 1 t11)) fun t12 =>
  bd (gT (gd t7 false) (aLoad1 t12 s.get)) fun t13 =>
  bd (gT (gd t7 false) (aBin .leq t9 t13)) fun t14 =>
  bd (aPick t7 (B true) t14) fun t15 =>
  bd (gT (gd t15 false) (some a1)) fun t17 =>
  bd (gT (gd t15 false) (some a0)) fun t18 =>
  bd (gT (gd t15 false) (aNil t18)) fun t19 =>
  bd (gT (gd t15 false) (aFieldAddr 1 t19)) fun t20 =>
  bd (gT (gd t15 false) (aLoad1 t20 s.get)) fun t21 =>
  bd (gT (gd t15 false) (aBin .sub t17 t21)) fun t22 =>
  bd (gT (gd t15 false) (some a0)) fun t23 =>
  bd (gT (gd t15 false) (aNil t23)) fun t24 =>
  bd (gT (gd t15 false) (aFieldAddr 0 t24)) fun t25 =>
  bd (gT (gd t15 false) (aLoad1 t25 s.get)) fun t26 =>
  bd (gT (gd t15 false) (aLenSl t26)) fun t27 =>
  bd (gT (gd t15 false) (aBin .gtr t22 t27)) fun t28 =>
  bd (aPick t15 (B true) t28) fun t29 =>
  br t29 (bd (retT [(Z .nils), (B false)]) fun r1 =>
  some (r1, s))
  (bd (aNil a0) fun t31 =>
  bd (aFieldAddr 0 t31) fun t32 =>
  bd (aLoad1 t32 s.get) fun t33 =>
  bd (aNil a0) fun t36 =>
  bd (aFieldAddr 1 t36) fun t37 =>
  bd (aLoad1 t37 s.get) fun t38 =>
  bd (aBin .sub a1 t38) fun t39 =>
  bd (aBin .sub t39 (I .i64 1)) fun t40 =>
  bd (aIndexSl 1 t33 t40) fun t41 =>
  bd (aLoad1 t41 s.get) fun t42 =>
  bd2 (callf 20 [t42] s) fun t43 s2 =>
  bd (retT [t43, (B true)]) fun r3 =>
  some (r3, s2))

theorem f18_eq (callf : CallF) (N : Nat) (a0 : T) (a1 : T) (s : St) : bodyC Try.prog callf N Try.f18 [a0, a1] s = f18 callf N a0 a1 s := by kernel_rfl

theorem f18_run (d : Nat) (a0 : T) (a1 : T) (s : St) : R (d + 1) 18 [a0, a1] s = f18 (R d) 8192 a0 a1 s := (runQ_body rfl Try.func18 (by kernel_rfl)).trans (f18_eq ..)

/- (twinkeep/send.Send).Ack -/
def f19 (callf : CallF) (N : Nat) (a0 : T) (a1 : T) (s : St) : Option (T × St) :=
  jn (bd (eqB .p a0 (Z .nilp)) fun t7 =>
  br t7 (some (.ret (I .i64 10), s))
  (bd (aBin .lss a1 (I .i64 0)) fun t10 =>
  bd (gT (gd t10 false) (some a1)) fun t12 =>
  bd (gT (gd t10 false) (some a0)) fun t13 =>
  bd (gT (gd t10 false) (aNil t13)) fun t14 =>
  bd (gT (gd t10 false) (aFieldAddr 2 t14)) fun t15 =>
  bd (gT (gd t10 false) (aLoad1 t15 s.get)) fun t16 =>
  bd (gT (gd t10 false) (aBin .gtr t12 t16)) fun t17 =>
  bd (aPick t10 (B true) t17) fun t18 =>
  br t18 (some (.ret (I .i64 5), s))
  (bd (aNil a0) fun t22 =>
  bd (aFieldAddr 1 t22) fun t23 =>
  bd (aLoad1 t23 s.get) fun t24 =>
  bd (aBin .leq a1 t24) fun t25 =>
  br t25 (some (.ret (I .i64 0), s))
  (some (.normal [a0, a1], s)))))
  (fun v1 s2 => bd (aNil (v1.getD 0 .any)) fun t28 =>
  bd (aFieldAddr 0 t28) fun t29 =>
  bd (aLoad1 t29 s2.get) fun t30 =>
  bd (aNil (v1.getD 0 .any)) fun t33 =>
  bd (aFieldAddr 1 t33) fun t34 =>
  bd (aLoad1 t34 s2.get) fun t35 =>
  bd (aBin .sub (v1.getD 1 .any) t35) fun t36 =>
  bd (aPieceSl 1 t30 (some t36) none none) fun t37 =>
  bd (aNil (v1.getD 0 .any)) fun t38 =>
  bd (aFieldAddr 0 t38) fun t39 =>
  bd2 (aStore 1 t39 t37 s2) fun _ s5 =>
  bd (aNil (v1.getD 0 .any)) fun t44 =>
  bd (aFieldAddr 1 t44) fun t45 =>
  bd2 (aStore 1 t45 (v1.getD 1 .any) s5) fun _ s6 =>
  bd (aNil (v1.getD 0 .any)) fun t46 =>
  bd (aFieldAddr 3 t46) fun t47 =>
  bd2 (aStore 1 t47 (I .i64 2) s6) fun _ s7 =>
  bd (aNil (v1.getD 0 .any)) fun t48 =>
  bd (aFieldAddr 4 t48) fun t49 =>
  bd2 (aStore 1 t49 (I .i64 (-1)) s7) fun _ s8 =>
  bd (aNil (v1.getD 0 .any)) fun t51 =>
  bd (aFieldAddr 2 t51) fun t52 =>
  bd (aLoad1 t52 s8.get) fun t53 =>
  bd (aNil (v1.getD 0 .any)) fun t55 =>
  bd (aFieldAddr 1 t55) fun t56 =>
  bd (aLoad1 t56 s8.get) fun t57 =>
  bd (aBin .gtr t53 t57) fun t58 =>
  jn (br t58 (bd (aNil (v1.getD 0 .any)) fun t61 =>
  bd (aFieldAddr 5 t61) fun t62 =>
  bd (aLoad1 t62 s8.get) fun t63 =>
  bd (aNil (v1.getD 0 .any)) fun t65 =>
  bd (aFieldAddr 3 t65) fun t66 =>
  bd (aLoad1 t66 s8.get) fun t67 =>
  bd (aBin .add t63 t67) fun t68 =>
  bd (aNil (v1.getD 0 .any)) fun t69 =>
  bd (aFieldAddr 4 t69) fun t70 =>
  bd2 (aStore 1 t70 t68 s8) fun _ s9 =>
  some (.normal [], s9))
  (some (.normal [], s8)))
  (fun v10 s11 => some ((I .i64 0), s11))
  (fun i12 v10 s11 => none)
  (fun r13 s11 => some (r13, s11)))
  (fun i3 v1 s2 => none)
  (fun r4 s2 => some (r4, s2))

theorem f19_eq (callf : CallF) (N : Nat) (a0 : T) (a1 : T) (s : St) : bodyC Try.prog callf N Try.f19 [a0, a1] s = f19 callf N a0 a1 s := by kernel_rfl

theorem f19_run (d : Nat) (a0 : T) (a1 : T) (s : St) : R (d + 1) 19 [a0, a1] s = f19 (R d) 8192 a0 a1 s := (runQ_body rfl Try.func19 (by kernel_rfl)).trans (f19_eq ..)

end
end Go.Proofs.Ytoibllpfjnicfaa


/-
  What functions that the laws reach compute, printed by a program of our own: each text is by definition the run of the code. No conditions.
-/
namespace Go.Proofs.Ytoibllpfjnicfaa
open Go Go.Abs Go.Abs.F
set_option linter.unusedVariables false
noncomputable section
/- twinkeep/twinkeeplaw15.RecvPlays: a loop; 0: t0 l, 1: t3 r, 2: t4 m, 3: t5 i, 4: t6 a, 5: t8 b, 6: t10 k -/
def f3_l2 (callf : CallF) (N : Nat) (v : List T) (s : St) : Option (JO × St) :=
  bd (aLenSl (v.getD 5 .any)) fun t96 =>
  bd (aBin .lss (v.getD 6 .any) t96) fun t97 =>
  br t97 (jn (bd (aIndexSl 1 (v.getD 4 .any) (v.getD 6 .any)) fun t102 =>
  bd (aLoad1 t102 s.get) fun t103 =>
  bd (aBytesStr t103 s.get) fun t104 =>
  bd (aIndexSl 1 (v.getD 5 .any) (v.getD 6 .any)) fun t107 =>
  bd (aLoad1 t107 s.get) fun t108 =>
  bd (aBin .neq t104 t108) fun t109 =>
  br t109 (some (.ret (B false), s))
  (some (.normal [(v.getD 0 .any), (v.getD 1 .any), (v.getD 2 .any), (v.getD 3 .any), (v.getD 4 .any), (v.getD 5 .any), (v.getD 6 .any)], s)))
  (fun v10 s11 => bd (aBin .add (v10.getD 6 .any) (I .i64 1)) fun t99 =>
  some (.normal [(v10.getD 0 .any), (v10.getD 1 .any), (v10.getD 2 .any), (v10.getD 3 .any), (v10.getD 4 .any), (v10.getD 5 .any), t99], s11))
  (fun i12 v10 s11 => some (.exit i12 v10, s11))
  (fun r13 s11 => some (.ret r13, s11)))
  (some (.exit 2 [(v.getD 0 .any), (v.getD 1 .any), (v.getD 2 .any), (v.getD 3 .any)], s))

/- twinkeep/twinkeeplaw15.RecvPlays: a loop; 0: t0 l, 1: t3 r, 2: t4 m, 3: t5 i -/
def f3_l1 (callf : CallF) (N : Nat) (v : List T) (s : St) : Option (JO × St) :=
  bd (aLenSl (v.getD 0 .any)) fun t22 =>
  bd (aBin .lss (v.getD 3 .any) t22) fun t23 =>
  br t23 (jn (bd (aIndexSl 2 (v.getD 0 .any) (v.getD 3 .any)) fun t28 =>
  bd (aFieldAddr 1 t28) fun t29 =>
  bd (aLoad1 t29 s.get) fun t30 =>
  bd (aLenSl t30) fun t31 =>
  bd (aBin .gtr t31 (I .i64 40)) fun t32 =>
  br t32 (bd2 (callf 8 [] s) fun t33 s4 =>
  some (.ret t33, s4))
  (bd (aIndexSl 2 (v.getD 0 .any) (v.getD 3 .any)) fun t38 =>
  bd (aFieldAddr 0 t38) fun t39 =>
  bd (aLoad1 t39 s.get) fun t40 =>
  bd (aIndexSl 2 (v.getD 0 .any) (v.getD 3 .any)) fun t43 =>
  bd (aFieldAddr 1 t43) fun t44 =>
  bd (aLoad1 t44 s.get) fun t45 =>
  bd2 (callf 9 [(v.getD 1 .any), t40, t45] s) fun t46 s5 =>
  bd (aExtract t46 0) fun t47 =>
  bd (aExtract t46 1) fun t48 =>
  bd (aIndexSl 2 (v.getD 0 .any) (v.getD 3 .any)) fun t53 =>
  bd (aFieldAddr 0 t53) fun t54 =>
  bd (aLoad1 t54 s5.get) fun t55 =>
  bd (aIndexSl 2 (v.getD 0 .any) (v.getD 3 .any)) fun t58 =>
  bd (aFieldAddr 1 t58) fun t59 =>
  bd (aLoad1 t59 s5.get) fun t60 =>
  bd (aBytesStr t60 s5.get) fun t61 =>
  bd2 (callf 10 [(v.getD 2 .any), t55, t61] s5) fun t62 s6 =>
  bd (aExtract t62 0) fun t63 =>
  bd (aExtract t62 1) fun t64 =>
  bd (aBin .neq t48 t64) fun t67 =>
  bd (gT (gd t67 false) (some t47)) fun t69 =>
  bd (gT (gd t67 false) (aLenSl t69)) fun t70 =>
  bd (gT (gd t67 false) (some t63)) fun t71 =>
  bd (gT (gd t67 false) (aLenSl t71)) fun t72 =>
  bd (gT (gd t67 false) (aBin .neq t70 t72)) fun t73 =>
  bd (aPick t67 (B true) t73) fun t74 =>
  bd (gT (gd t74 false) (some (v.getD 1 .any))) fun t76 =>
  bd2 (gS (gd t74 false) s6 (callf 11 [t76] s6)) fun t77 s7 =>
  bd (gT (gd t74 false) (some (v.getD 2 .any))) fun t78 =>
  bd (gT (gd t74 false) (aNil t78)) fun t79 =>
  bd (gT (gd t74 false) (aFieldAddr 0 t79)) fun t80 =>
  bd (gT (gd t74 false) (aLoad1 t80 s7.get)) fun t81 =>
  bd (gT (gd t74 false) (aBin .neq t77 t81)) fun t82 =>
  bd (aPick t74 (B true) t82) fun t83 =>
  bd (gT (gd t83 false) (some (v.getD 1 .any))) fun t85 =>
  bd2 (gS (gd t83 false) s7 (callf 13 [t85] s7)) fun t86 s8 =>
  bd (gT (gd t83 false) (some (v.getD 2 .any))) fun t87 =>
  bd (gT (gd t83 false) (aNil t87)) fun t88 =>
  bd (gT (gd t83 false) (aFieldAddr 1 t88)) fun t89 =>
  bd (gT (gd t83 false) (aLoad1 t89 s8.get)) fun t90 =>
  bd2 (gS (gd t83 false) s8 (callf 12 [t86, t90] s8)) fun t91 s9 =>
  bd (gT (gd t83 false) (aUn .not t91)) fun t92 =>
  bd (aPick t83 (B true) t92) fun t93 =>
  ck ((wq (gd t74 false) (decide (aLoad1 t80 s6.get = aLoad1 t80 s7.get)) && true) && ((wq (gd t83 false) (decide (aLoad1 t89 s7.get = aLoad1 t89 s8.get)) && true) && true)) (br t93 (some (.ret (B false), s9))
  (jn (jn (loops (f3_l2 callf N) N [(v.getD 0 .any), (v.getD 1 .any), (v.getD 2 .any), (v.getD 3 .any), t47, t63, (I .i64 0)] s9)
  (fun v14 s15 => some (.normal [.any, .any, .any, .any], s15))
  (fun i16 v14 s15 => if i16 = 2 then some (.normal v14, s15) else some (.exit i16 v14, s15))
  (fun r17 s15 => some (.ret r17, s15)))
  (fun v18 s19 => some (.normal [(v18.getD 0 .any), (v18.getD 1 .any), (v18.getD 2 .any), (v18.getD 3 .any)], s19))
  (fun i20 v18 s19 => if i20 = 1 then some (.normal v18, s19) else some (.exit i20 v18, s19))
  (fun r21 s19 => some (.ret r21, s19))))))
  (fun v22 s23 => bd (aBin .add (v22.getD 3 .any) (I .i64 1)) fun t25 =>
  some (.normal [(v22.getD 0 .any), (v22.getD 1 .any), (v22.getD 2 .any), t25], s23))
  (fun i24 v22 s23 => some (.exit i24 v22, s23))
  (fun r25 s23 => some (.ret r25, s23)))
  (some (.exit 0 [], s))

/- twinkeep/twinkeeplaw15.RecvPlays -/
def f3 (callf : CallF) (N : Nat) (a0 : T) (s : St) : Option (T × St) :=
  bd2 (callf 7 [] s) fun t11 s1 =>
  bd (asAggT (aFill [.int .i64 0, .nils, .nils] [])) fun t12 =>
  bd2 (aNew s1 (nBox t12)) fun t13 s2 =>
  bd (eqB .p t11 (Z .nilp)) fun t15 =>
  br t15 (some ((B false), s2))
  (bd (aLenSl a0) fun t17 =>
  bd (aBin .gtr t17 (I .i64 100)) fun t18 =>
  br t18 (bd2 (callf 8 [] s2) fun t19 s3 =>
  some (t19, s3))
  (jn (jn (loops (f3_l1 callf N) N [a0, t11, t13, (I .i64 0)] s2)
  (fun v26 s27 => some (.normal [], s27))
  (fun i28 v26 s27 => if i28 = 0 then some (.normal v26, s27) else some (.exit i28 v26, s27))
  (fun r29 s27 => some (.ret r29, s27)))
  (fun v30 s31 => bd2 (callf 8 [] s31) fun t110 s34 =>
  some (t110, s34))
  (fun i32 v30 s31 => none)
  (fun r33 s31 => some (r33, s31))))

/- twinkeep/twinkeeplaw15.RecvStream: a loop; 0: t1 lose, 1: t5 s, 2: t6 r, 3: t7 k, 4: t8 i -/
def f6_l1 (callf : CallF) (N : Nat) (v : List T) (s : St) : Option (JO × St) :=
  bd (aBin .leq (v.getD 4 .any) (v.getD 3 .any)) fun t33 =>
  br t33 (jn (bd (aConv .u8 (v.getD 4 .any)) fun t38 =>
  bd2 (aNew s (nSlice 1 (aFill [.int .u8 0] [(0, 1, t38)]))) fun t39 s3 =>
  bd2 (callf 15 [(v.getD 1 .any), t39] s3) fun t40 s4 =>
  bd (aBin .neq t40 (I .i64 0)) fun t41 =>
  br t41 (some (.ret (B false), s4))
  (some (.normal [(v.getD 0 .any), (v.getD 1 .any), (v.getD 2 .any), (v.getD 3 .any), (v.getD 4 .any)], s4)))
  (fun v5 s6 => bd (aBin .add (v5.getD 4 .any) (I .i64 1)) fun t35 =>
  some (.normal [(v5.getD 0 .any), (v5.getD 1 .any), (v5.getD 2 .any), (v5.getD 3 .any), t35], s6))
  (fun i7 v5 s6 => some (.exit i7 v5, s6))
  (fun r8 s6 => some (.ret r8, s6)))
  (some (.exit 0 [(v.getD 0 .any), (v.getD 1 .any), (v.getD 2 .any), (v.getD 3 .any)], s))

/- twinkeep/twinkeeplaw15.RecvStream: a loop; 0: t1 lose, 1: t5 s, 2: t6 r, 3: t7 k, 4: t9 got, 5: t10 t, 6: t11 l, 7: t12 i, 8: t16 x, 9: t18 j -/
def f6_l4 (callf : CallF) (N : Nat) (v : List T) (s : St) : Option (JO × St) :=
  bd (aLenSl (v.getD 8 .any)) fun t102 =>
  bd (aBin .lss (v.getD 9 .any) t102) fun t103 =>
  br t103 (jn (bd (aBin .add (v.getD 4 .any) (I .i64 1)) fun t107 =>
  bd (aIndexSl 1 (v.getD 8 .any) (v.getD 9 .any)) fun t110 =>
  bd (aLoad1 t110 s.get) fun t111 =>
  bd (aLenSl t111) fun t112 =>
  bd (aBin .neq t112 (I .i64 1)) fun t113 =>
  bd (gT (gd t113 false) (some (v.getD 8 .any))) fun t115 =>
  bd (gT (gd t113 false) (some (v.getD 9 .any))) fun t116 =>
  bd (gT (gd t113 false) (aIndexSl 1 t115 t116)) fun t117 =>
  bd (gT (gd t113 false) (aLoad1 t117 s.get)) fun t118 =>
  bd (gT (gd t113 false) (aIndexSl 1 t118 (I .i64 0))) fun t119 =>
  bd (gT (gd t113 false) (aLoad1 t119 s.get)) fun t120 =>
  bd (gT (gd t113 false) (some t107)) fun t121 =>
  bd (gT (gd t113 false) (aConv .u8 t121)) fun t122 =>
  bd (gT (gd t113 false) (aBin .neq t120 t122)) fun t123 =>
  bd (aPick t113 (B true) t123) fun t124 =>
  br t124 (some (.ret (B false), s))
  (some (.normal [(v.getD 0 .any), (v.getD 1 .any), (v.getD 2 .any), (v.getD 3 .any), t107, (v.getD 5 .any), (v.getD 6 .any), (v.getD 7 .any), (v.getD 8 .any), (v.getD 9 .any)], s)))
  (fun v25 s26 => bd (aBin .add (v25.getD 9 .any) (I .i64 1)) fun t105 =>
  some (.normal [(v25.getD 0 .any), (v25.getD 1 .any), (v25.getD 2 .any), (v25.getD 3 .any), (v25.getD 4 .any), (v25.getD 5 .any), (v25.getD 6 .any), (v25.getD 7 .any), (v25.getD 8 .any), t105], s26))
  (fun i27 v25 s26 => some (.exit i27 v25, s26))
  (fun r28 s26 => some (.ret r28, s26)))
  (some (.exit 6 [(v.getD 0 .any), (v.getD 1 .any), (v.getD 2 .any), (v.getD 3 .any), (v.getD 4 .any), (v.getD 5 .any), (v.getD 6 .any), (v.getD 7 .any)], s))

/- twinkeep/twinkeeplaw15.RecvStream: a loop; 0: t1 lose, 1: t5 s, 2: t6 r, 3: t7 k, 4: t9 got, 5: t10 t, 6: t11 l, 7: t12 i -/
def f6_l3 (callf : CallF) (N : Nat) (v : List T) (s : St) : Option (JO × St) :=
  bd (aBin .geq (v.getD 7 .any) (I .i64 0)) fun t59 =>
  br t59 (jn (bd (aLenSl (v.getD 0 .any)) fun t64 =>
  bd (aBin .lss (v.getD 5 .any) t64) fun t65 =>
  jn (br t65 (bd (aIndexSl 1 (v.getD 0 .any) (v.getD 5 .any)) fun t68 =>
  bd (aLoad1 t68 s.get) fun t69 =>
  some (.normal [(v.getD 0 .any), (v.getD 1 .any), (v.getD 2 .any), (v.getD 3 .any), (v.getD 4 .any), (v.getD 5 .any), (v.getD 6 .any), (v.getD 7 .any), t69], s))
  (some (.normal [(v.getD 0 .any), (v.getD 1 .any), (v.getD 2 .any), (v.getD 3 .any), (v.getD 4 .any), (v.getD 5 .any), (v.getD 6 .any), (v.getD 7 .any), (I .i64 0)], s)))
  (fun v19 s20 => bd (aIndexSl 1 (v19.getD 6 .any) (v19.getD 7 .any)) fun t74 =>
  bd (aLoad1 t74 s20.get) fun t75 =>
  bd2 (callf 18 [(v19.getD 1 .any), t75] s20) fun t76 s23 =>
  bd (aExtract t76 0) fun t77 =>
  bd (aExtract t76 1) fun t78 =>
  bd (aUn .not t78) fun t80 =>
  br t80 (some (.ret (B false), s23))
  (bd (aBin .and (v19.getD 7 .any) (I .i64 15)) fun t83 =>
  bd (aConv .u64 t83) fun t84 =>
  bd (aBin .shr (v19.getD 8 .any) t84) fun t85 =>
  bd (aBin .and t85 (I .i64 1)) fun t86 =>
  bd (aBin .eql t86 (I .i64 1)) fun t87 =>
  br t87 (some (.normal [(v19.getD 0 .any), (v19.getD 1 .any), (v19.getD 2 .any), (v19.getD 3 .any), (v19.getD 4 .any), (v19.getD 5 .any), (v19.getD 6 .any), (v19.getD 7 .any)], s23))
  (bd (aIndexSl 1 (v19.getD 6 .any) (v19.getD 7 .any)) fun t92 =>
  bd (aLoad1 t92 s23.get) fun t93 =>
  bd2 (callf 9 [(v19.getD 2 .any), t93, t77] s23) fun t95 s24 =>
  bd (aExtract t95 0) fun t96 =>
  bd (aExtract t95 1) fun t97 =>
  bd (aBin .neq t97 (I .i64 0)) fun t99 =>
  br t99 (some (.ret (B false), s24))
  (jn (jn (loops (f6_l4 callf N) N [(v19.getD 0 .any), (v19.getD 1 .any), (v19.getD 2 .any), (v19.getD 3 .any), (v19.getD 4 .any), (v19.getD 5 .any), (v19.getD 6 .any), (v19.getD 7 .any), t96, (I .i64 0)] s24)
  (fun v29 s30 => some (.normal [.any, .any, .any, .any, .any, .any, .any, .any], s30))
  (fun i31 v29 s30 => if i31 = 6 then some (.normal v29, s30) else some (.exit i31 v29, s30))
  (fun r32 s30 => some (.ret r32, s30)))
  (fun v33 s34 => some (.normal [(v33.getD 0 .any), (v33.getD 1 .any), (v33.getD 2 .any), (v33.getD 3 .any), (v33.getD 4 .any), (v33.getD 5 .any), (v33.getD 6 .any), (v33.getD 7 .any)], s34))
  (fun i35 v33 s34 => if i35 = 5 then some (.normal v33, s34) else some (.exit i35 v33, s34))
  (fun r36 s34 => some (.ret r36, s34))))))
  (fun i21 v19 s20 => if i21 = 5 then some (.normal v19, s20) else some (.exit i21 v19, s20))
  (fun r22 s20 => some (.ret r22, s20)))
  (fun v37 s38 => bd (aBin .sub (v37.getD 7 .any) (I .i64 1)) fun t61 =>
  some (.normal [(v37.getD 0 .any), (v37.getD 1 .any), (v37.getD 2 .any), (v37.getD 3 .any), (v37.getD 4 .any), (v37.getD 5 .any), (v37.getD 6 .any), t61], s38))
  (fun i39 v37 s38 => some (.exit i39 v37, s38))
  (fun r40 s38 => some (.ret r40, s38)))
  (some (.exit 4 [(v.getD 0 .any), (v.getD 1 .any), (v.getD 2 .any), (v.getD 3 .any), (v.getD 4 .any), (v.getD 5 .any)], s))

/- twinkeep/twinkeeplaw15.RecvStream: a loop; 0: t1 lose, 1: t5 s, 2: t6 r, 3: t7 k, 4: t9 got, 5: t10 t -/
def f6_l2 (callf : CallF) (N : Nat) (v : List T) (s : St) : Option (JO × St) :=
  bd (aBin .lss (v.getD 5 .any) (I .i64 400)) fun t43 =>
  bd (gT (gd t43 true) (some (v.getD 1 .any))) fun t45 =>
  bd2 (gS (gd t43 true) s (callf 16 [t45] s)) fun t46 s17 =>
  bd (gT (gd t43 true) (some (v.getD 3 .any))) fun t47 =>
  bd (gT (gd t43 true) (aBin .lss t46 t47)) fun t48 =>
  bd (aPick t43 t48 (B false)) fun t49 =>
  br t49 (jn (bd2 (callf 17 [(v.getD 1 .any), (v.getD 5 .any)] s17) fun t54 s18 =>
  bd (aLenSl t54) fun t56 =>
  bd (aBin .sub t56 (I .i64 1)) fun t57 =>
  jn (jn (loops (f6_l3 callf N) N [(v.getD 0 .any), (v.getD 1 .any), (v.getD 2 .any), (v.getD 3 .any), (v.getD 4 .any), (v.getD 5 .any), t54, t57] s18)
  (fun v41 s42 => some (.normal [.any, .any, .any, .any, .any, .any], s42))
  (fun i43 v41 s42 => if i43 = 4 then some (.normal v41, s42) else some (.exit i43 v41, s42))
  (fun r44 s42 => some (.ret r44, s42)))
  (fun v45 s46 => bd (aLenSl (v45.getD 0 .any)) fun t127 =>
  bd (aBin .geq (v45.getD 5 .any) t127) fun t128 =>
  bd (gT (gd t128 false) (some (v45.getD 0 .any))) fun t130 =>
  bd (gT (gd t128 false) (some (v45.getD 5 .any))) fun t131 =>
  bd (gT (gd t128 false) (aIndexSl 1 t130 t131)) fun t132 =>
  bd (gT (gd t128 false) (aLoad1 t132 s46.get)) fun t133 =>
  bd (gT (gd t128 false) (aBin .shr t133 (I .u64 20))) fun t134 =>
  bd (gT (gd t128 false) (aBin .and t134 (I .i64 1))) fun t135 =>
  bd (gT (gd t128 false) (aBin .eql t135 (I .i64 0))) fun t136 =>
  bd (aPick t128 (B true) t136) fun t137 =>
  jn (br t137 (bd2 (callf 11 [(v45.getD 2 .any)] s46) fun t140 s49 =>
  bd2 (callf 19 [(v45.getD 1 .any), t140] s49) fun t141 s50 =>
  bd (aBin .neq t141 (I .i64 0)) fun t142 =>
  br t142 (some (.ret (B false), s50))
  (some (.normal [(v45.getD 0 .any), (v45.getD 1 .any), (v45.getD 2 .any), (v45.getD 3 .any), (v45.getD 4 .any), (v45.getD 5 .any)], s50)))
  (some (.normal [(v45.getD 0 .any), (v45.getD 1 .any), (v45.getD 2 .any), (v45.getD 3 .any), (v45.getD 4 .any), (v45.getD 5 .any)], s46)))
  (fun v51 s52 => some (.normal [(v51.getD 0 .any), (v51.getD 1 .any), (v51.getD 2 .any), (v51.getD 3 .any), (v51.getD 4 .any), (v51.getD 5 .any)], s52))
  (fun i53 v51 s52 => if i53 = 3 then some (.normal v51, s52) else some (.exit i53 v51, s52))
  (fun r54 s52 => some (.ret r54, s52)))
  (fun i47 v45 s46 => if i47 = 3 then some (.normal v45, s46) else some (.exit i47 v45, s46))
  (fun r48 s46 => some (.ret r48, s46)))
  (fun v55 s56 => bd (aBin .add (v55.getD 5 .any) (I .i64 1)) fun t51 =>
  some (.normal [(v55.getD 0 .any), (v55.getD 1 .any), (v55.getD 2 .any), (v55.getD 3 .any), (v55.getD 4 .any), t51], s56))
  (fun i57 v55 s56 => some (.exit i57 v55, s56))
  (fun r58 s56 => some (.ret r58, s56)))
  (some (.exit 2 [(v.getD 0 .any), (v.getD 1 .any), (v.getD 3 .any), (v.getD 4 .any)], s17))

/- twinkeep/twinkeeplaw15.RecvStream -/
def f6 (callf : CallF) (N : Nat) (a0 : T) (a1 : T) (s : St) : Option (T × St) :=
  bd2 (callf 14 [] s) fun t19 s1 =>
  bd2 (callf 7 [] s1) fun t20 s2 =>
  bd (aConv .u64 a0) fun t22 =>
  bd (aBin .rem t22 (I .u64 31)) fun t23 =>
  bd (aConv .i64 t23) fun t24 =>
  bd (eqB .p t19 (Z .nilp)) fun t26 =>
  bd (gT (gd t26 false) (some t20)) fun t28 =>
  bd (gT (gd t26 false) (eqB .p t28 (Z .nilp))) fun t29 =>
  bd (aPick t26 (B true) t29) fun t30 =>
  br t30 (some ((B false), s2))
  (jn (jn (loops (f6_l1 callf N) N [a1, t19, t20, t24, (I .i64 1)] s2)
  (fun v9 s10 => some (.normal [.any, .any, .any, .any], s10))
  (fun i11 v9 s10 => if i11 = 0 then some (.normal v9, s10) else some (.exit i11 v9, s10))
  (fun r12 s10 => some (.ret r12, s10)))
  (fun v13 s14 => jn (jn (loops (f6_l2 callf N) N [(v13.getD 0 .any), (v13.getD 1 .any), (v13.getD 2 .any), (v13.getD 3 .any), (I .i64 0), (I .i64 0)] s14)
  (fun v59 s60 => some (.normal [.any, .any, .any, .any], s60))
  (fun i61 v59 s60 => if i61 = 2 then some (.normal v59, s60) else some (.exit i61 v59, s60))
  (fun r62 s60 => some (.ret r62, s60)))
  (fun v63 s64 => bd2 (callf 8 [] s64) fun t143 s67 =>
  bd (gT (gd t143 true) (some (v63.getD 0 .any))) fun t145 =>
  bd (gT (gd t143 true) (aLenSl t145)) fun t146 =>
  bd (gT (gd t143 true) (aBin .gtr t146 (I .i64 100))) fun t147 =>
  bd (gT (gd t143 true) (some t147)) fun t148 =>
  bd (gT (gd t148 false) (some (v63.getD 3 .any))) fun t149 =>
  bd (gT (gd t148 false) (some (v63.getD 2 .any))) fun t150 =>
  bd (gT (gd t148 false) (aBin .eql t149 t150)) fun t151 =>
  bd (gT (gd t148 false) (some t151)) fun t152 =>
  bd (gT (gd t152 true) (some (v63.getD 1 .any))) fun t153 =>
  bd2 (gS (gd t152 true) s67 (callf 16 [t153] s67)) fun t154 s68 =>
  bd (gT (gd t152 true) (some (v63.getD 2 .any))) fun t155 =>
  bd (gT (gd t152 true) (aBin .eql t154 t155)) fun t156 =>
  bd (gT (gd t148 false) (aPick t152 t156 (B false))) fun t157 =>
  bd (gT (gd t143 true) (aPick t148 (B true) t157)) fun t158 =>
  bd (aPick t143 t158 (B false)) fun t159 =>
  some (t159, s68))
  (fun i65 v63 s64 => none)
  (fun r66 s64 => some (r66, s64)))
  (fun i15 v13 s14 => none)
  (fun r16 s14 => some (r16, s14)))

theorem f6_eq (callf : CallF) (N : Nat) (a0 : T) (a1 : T) (s : St) : bodyC Try.prog callf N Try.f6 [a0, a1] s = f6 callf N a0 a1 s := by kernel_rfl

theorem f6_run (d : Nat) (a0 : T) (a1 : T) (s : St) : R (d + 1) 6 [a0, a1] s = f6 (R d) 8192 a0 a1 s := (runQ_body rfl Try.func6 (by kernel_rfl)).trans (f6_eq ..)

end
end Go.Proofs.Ytoibllpfjnicfaa


/-
  What functions that the laws reach compute, printed by a program of our own: each text is by definition the run of the code. No conditions.
-/
namespace Go.Proofs.Ytoibllpfjnicfaa
open Go Go.Abs Go.Abs.F
set_option linter.unusedVariables false
noncomputable section
/- (twinkeep/twinkeepref13.Recv).Take: a loop; 0: t0 r, 1: t1 seq, 2: t2 body, 3: t8 k -/
def f10_l1 (callf : CallF) (N : Nat) (v : List T) (s : St) : Option (JO × St) :=
  bd (aNil (v.getD 0 .any)) fun t30 =>
  bd (aFieldAddr 1 t30) fun t31 =>
  bd (aLoad1 t31 s.get) fun t32 =>
  bd (aLenSl t32) fun t33 =>
  bd (aBin .lss (v.getD 3 .any) t33) fun t34 =>
  bd (gT (gd t34 true) (some (v.getD 0 .any))) fun t36 =>
  bd (gT (gd t34 true) (aNil t36)) fun t37 =>
  bd (gT (gd t34 true) (aFieldAddr 1 t37)) fun t38 =>
  bd (gT (gd t34 true) (aLoad1 t38 s.get)) fun t39 =>
  bd (gT (gd t34 true) (some (v.getD 3 .any))) fun t40 =>
  bd (gT (gd t34 true) (aIndexSl 1 t39 t40)) fun t41 =>
  bd (gT (gd t34 true) (aLoad1 t41 s.get)) fun t42 =>
  bd (gT (gd t34 true) (some (v.getD 1 .any))) fun t43 =>
  bd (gT (gd t34 true) (aBin .lss t42 t43)) fun t44 =>
  bd (aPick t34 t44 (B false)) fun t45 =>
  br t45 (jn (bd (aBin .add (v.getD 3 .any) (I .i64 1)) fun t47 =>
  some (.normal [(v.getD 0 .any), (v.getD 1 .any), (v.getD 2 .any), t47], s))
  (fun v2 s3 => some (.normal [(v2.getD 0 .any), (v2.getD 1 .any), (v2.getD 2 .any), (v2.getD 3 .any)], s3))
  (fun i4 v2 s3 => some (.exit i4 v2, s3))
  (fun r5 s3 => some (.ret r5, s3)))
  (some (.exit 0 [(v.getD 0 .any), (v.getD 1 .any), (v.getD 2 .any), (v.getD 3 .any)], s))

/- (twinkeep/twinkeepref13.Recv).Take: a loop; 0: t0 r, 1: t11 out -/
def f10_l2 (callf : CallF) (N : Nat) (v : List T) (s : St) : Option (JO × St) :=
  bd (aNil (v.getD 0 .any)) fun t119 =>
  bd (aFieldAddr 1 t119) fun t120 =>
  bd (aLoad1 t120 s.get) fun t121 =>
  bd (aLenSl t121) fun t122 =>
  bd (aBin .gtr t122 (I .i64 0)) fun t123 =>
  bd (gT (gd t123 true) (some (v.getD 0 .any))) fun t125 =>
  bd (gT (gd t123 true) (aNil t125)) fun t126 =>
  bd (gT (gd t123 true) (aFieldAddr 1 t126)) fun t127 =>
  bd (gT (gd t123 true) (aLoad1 t127 s.get)) fun t128 =>
  bd (gT (gd t123 true) (aIndexSl 1 t128 (I .i64 0))) fun t129 =>
  bd (gT (gd t123 true) (aLoad1 t129 s.get)) fun t130 =>
  bd (gT (gd t123 true) (some (v.getD 0 .any))) fun t131 =>
  bd (gT (gd t123 true) (aNil t131)) fun t132 =>
  bd (gT (gd t123 true) (aFieldAddr 0 t132)) fun t133 =>
  bd (gT (gd t123 true) (aLoad1 t133 s.get)) fun t134 =>
  bd (gT (gd t123 true) (aBin .add t134 (I .i64 1))) fun t135 =>
  bd (gT (gd t123 true) (aBin .eql t130 t135)) fun t136 =>
  bd (aPick t123 t136 (B false)) fun t137 =>
  br t137 (jn (bd (aNil (v.getD 0 .any)) fun t140 =>
  bd (aFieldAddr 2 t140) fun t141 =>
  bd (aLoad1 t141 s.get) fun t142 =>
  bd (aIndexSl 1 t142 (I .i64 0)) fun t143 =>
  bd (aLoad1 t143 s.get) fun t144 =>
  bd2 (aNew s (nSlice 1 (aFill [.str []] [(0, 1, t144)]))) fun t145 s27 =>
  bd2 (aAppend 1 16 (v.getD 1 .any) t145 s27) fun t146 s28 =>
  bd (aNil (v.getD 0 .any)) fun t150 =>
  bd (aFieldAddr 1 t150) fun t151 =>
  bd (aLoad1 t151 s28.get) fun t152 =>
  bd (aPieceSl 1 t152 (some (I .i64 1)) none none) fun t153 =>
  bd (aNil (v.getD 0 .any)) fun t155 =>
  bd (aFieldAddr 2 t155) fun t156 =>
  bd (aLoad1 t156 s28.get) fun t157 =>
  bd (aPieceSl 1 t157 (some (I .i64 1)) none none) fun t158 =>
  bd (aNil (v.getD 0 .any)) fun t159 =>
  bd (aFieldAddr 1 t159) fun t160 =>
  bd2 (aStore 1 t160 t153 s28) fun _ s29 =>
  bd (aNil (v.getD 0 .any)) fun t161 =>
  bd (aFieldAddr 2 t161) fun t162 =>
  bd2 (aStore 1 t162 t158 s29) fun _ s30 =>
  bd (aNil (v.getD 0 .any)) fun t164 =>
  bd (aFieldAddr 0 t164) fun t165 =>
  bd (aLoad1 t165 s30.get) fun t166 =>
  bd (aBin .add t166 (I .i64 1)) fun t167 =>
  bd (aNil (v.getD 0 .any)) fun t168 =>
  bd (aFieldAddr 0 t168) fun t169 =>
  bd2 (aStore 1 t169 t167 s30) fun _ s31 =>
  some (.normal [(v.getD 0 .any), t146], s31))
  (fun v32 s33 => some (.normal [(v32.getD 0 .any), (v32.getD 1 .any)], s33))
  (fun i34 v32 s33 => some (.exit i34 v32, s33))
  (fun r35 s33 => some (.ret r35, s33)))
  (some (.exit 2 [(v.getD 1 .any)], s))

/- (twinkeep/twinkeepref13.Recv).Take -/
def f10 (callf : CallF) (N : Nat) (a0 : T) (a1 : T) (a2 : T) (s : St) : Option (T × St) :=
  bd (aBin .lss a1 (I .i64 1)) fun t13 =>
  bd (gT (gd t13 false) (some a1)) fun t15 =>
  bd (gT (gd t13 false) (some a0)) fun t16 =>
  bd (gT (gd t13 false) (aNil t16)) fun t17 =>
  bd (gT (gd t13 false) (aFieldAddr 0 t17)) fun t18 =>
  bd (gT (gd t13 false) (aLoad1 t18 s.get)) fun t19 =>
  bd (gT (gd t13 false) (aBin .add t19 (I .i64 8))) fun t20 =>
  bd (gT (gd t13 false) (aBin .gtr t15 t20)) fun t21 =>
  bd (aPick t13 (B true) t21) fun t22 =>
  bd (gT (gd t22 false) (some a2)) fun t24 =>
  bd (gT (gd t22 false) (aLenStr t24)) fun t25 =>
  bd (gT (gd t22 false) (aBin .gtr t25 (I .i64 4100))) fun t26 =>
  bd (aPick t22 (B true) t26) fun t27 =>
  br t27 (bd (retT [(Z .nils), (I .i64 5)]) fun r1 =>
  some (r1, s))
  (jn (jn (loops (f10_l1 callf N) N [a0, a1, a2, (I .i64 0)] s)
  (fun v6 s7 => some (.normal [.any, .any, .any, .any], s7))
  (fun i8 v6 s7 => if i8 = 0 then some (.normal v6, s7) else some (.exit i8 v6, s7))
  (fun r9 s7 => some (.ret r9, s7)))
  (fun v10 s11 => bd (aNil (v10.getD 0 .any)) fun t50 =>
  bd (aFieldAddr 0 t50) fun t51 =>
  bd (aLoad1 t51 s11.get) fun t52 =>
  bd (aBin .leq (v10.getD 1 .any) t52) fun t53 =>
  bd (gT (gd t53 false) (some (v10.getD 3 .any))) fun t55 =>
  bd (gT (gd t53 false) (some (v10.getD 0 .any))) fun t56 =>
  bd (gT (gd t53 false) (aNil t56)) fun t57 =>
  bd (gT (gd t53 false) (aFieldAddr 1 t57)) fun t58 =>
  bd (gT (gd t53 false) (aLoad1 t58 s11.get)) fun t59 =>
  bd (gT (gd t53 false) (aLenSl t59)) fun t60 =>
  bd (gT (gd t53 false) (aBin .lss t55 t60)) fun t61 =>
  bd (gT (gd t53 false) (some t61)) fun t62 =>
  bd (gT (gd t62 true) (some (v10.getD 0 .any))) fun t63 =>
  bd (gT (gd t62 true) (aNil t63)) fun t64 =>
  bd (gT (gd t62 true) (aFieldAddr 1 t64)) fun t65 =>
  bd (gT (gd t62 true) (aLoad1 t65 s11.get)) fun t66 =>
  bd (gT (gd t62 true) (some (v10.getD 3 .any))) fun t67 =>
  bd (gT (gd t62 true) (aIndexSl 1 t66 t67)) fun t68 =>
  bd (gT (gd t62 true) (aLoad1 t68 s11.get)) fun t69 =>
  bd (gT (gd t62 true) (some (v10.getD 1 .any))) fun t70 =>
  bd (gT (gd t62 true) (aBin .eql t69 t70)) fun t71 =>
  bd (gT (gd t53 false) (aPick t62 t71 (B false))) fun t72 =>
  bd (aPick t53 (B true) t72) fun t73 =>
  br t73 (bd (retT [(Z .nils), (I .i64 0)]) fun r14 =>
  some (r14, s11))
  (bd2 (aNew s11 (nSlice 0 (aFill [] []))) fun t74 s15 =>
  bd (aNil (v10.getD 0 .any)) fun t76 =>
  bd (aFieldAddr 1 t76) fun t77 =>
  bd (aLoad1 t77 s15.get) fun t78 =>
  bd (aPieceSl 1 t78 none (some (v10.getD 3 .any)) none) fun t80 =>
  bd2 (aAppend 1 8 t74 t80 s15) fun t81 s16 =>
  bd2 (aNew s16 (nSlice 0 (aFill [] []))) fun t82 s17 =>
  bd (aNil (v10.getD 0 .any)) fun t84 =>
  bd (aFieldAddr 2 t84) fun t85 =>
  bd (aLoad1 t85 s17.get) fun t86 =>
  bd (aPieceSl 1 t86 none (some (v10.getD 3 .any)) none) fun t88 =>
  bd2 (aAppend 1 16 t82 t88 s17) fun t89 s18 =>
  ck ((decide (aLoad1 t85 (overlay 0 s11.get (ovO 0 s11.size (nSlice 0 (aFill [] [])) (ovO 8 s16.size (nSlice 0 (aFill [] [])) []))) = aLoad1 t85 s17.get) && true) && true) (bd2 (aNew s18 (nSlice 1 (aFill [.int .i64 0] [(0, 1, (v10.getD 1 .any))]))) fun t94 s19 =>
  bd2 (aAppend 1 8 t81 t94 s19) fun t95 s20 =>
  bd (aNil (v10.getD 0 .any)) fun t97 =>
  bd (aFieldAddr 1 t97) fun t98 =>
  bd (aLoad1 t98 s20.get) fun t99 =>
  bd (aPieceSl 1 t99 (some (v10.getD 3 .any)) none none) fun t101 =>
  bd2 (aAppend 1 8 t95 t101 s20) fun t102 s21 =>
  bd2 (aNew s21 (nSlice 1 (aFill [.str []] [(0, 1, (v10.getD 2 .any))]))) fun t105 s22 =>
  bd2 (aAppend 1 16 t89 t105 s22) fun t106 s23 =>
  bd (aNil (v10.getD 0 .any)) fun t108 =>
  bd (aFieldAddr 2 t108) fun t109 =>
  bd (aLoad1 t109 s23.get) fun t110 =>
  bd (aPieceSl 1 t110 (some (v10.getD 3 .any)) none none) fun t112 =>
  bd2 (aAppend 1 16 t106 t112 s23) fun t113 s24 =>
  bd (aNil (v10.getD 0 .any)) fun t114 =>
  bd (aFieldAddr 1 t114) fun t115 =>
  bd2 (aStore 1 t115 t102 s24) fun _ s25 =>
  bd (aNil (v10.getD 0 .any)) fun t116 =>
  bd (aFieldAddr 2 t116) fun t117 =>
  bd2 (aStore 1 t117 t113 s25) fun _ s26 =>
  ck ((decide (aLoad1 t98 (overlay 0 s18.get (ovO 4 s18.size (nSlice 1 (aFill [.int .i64 0] [(0, 1, (v10.getD 1 .any))])) (ovO 15 s21.size (nSlice 1 (aFill [.str []] [(0, 1, (v10.getD 2 .any))])) []))) = aLoad1 t98 s20.get) && true) && ((decide (aLoad1 t109 (overlay 0 s18.get (ovO 4 s18.size (nSlice 1 (aFill [.int .i64 0] [(0, 1, (v10.getD 1 .any))])) (ovO 15 s21.size (nSlice 1 (aFill [.str []] [(0, 1, (v10.getD 2 .any))])) []))) = aLoad1 t109 s23.get) && (decide (aLoad1 t109 (overlay 6 s20.get (ovO 4 s18.size (nSlice 1 (aFill [.int .i64 0] [(0, 1, (v10.getD 1 .any))])) (ovO 15 s21.size (nSlice 1 (aFill [.str []] [(0, 1, (v10.getD 2 .any))])) []))) = aLoad1 t109 s23.get) && (decide (aLoad1 t109 (overlay 13 s21.get (ovO 4 s18.size (nSlice 1 (aFill [.int .i64 0] [(0, 1, (v10.getD 1 .any))])) (ovO 15 s21.size (nSlice 1 (aFill [.str []] [(0, 1, (v10.getD 2 .any))])) []))) = aLoad1 t109 s23.get) && true))) && true)) (jn (jn (loops (f10_l2 callf N) N [(v10.getD 0 .any), (Z .nils)] s26)
  (fun v36 s37 => some (.normal [.any], s37))
  (fun i38 v36 s37 => if i38 = 2 then some (.normal v36, s37) else some (.exit i38 v36, s37))
  (fun r39 s37 => some (.ret r39, s37)))
  (fun v40 s41 => bd (retT [(v40.getD 0 .any), (I .i64 0)]) fun r44 =>
  some (r44, s41))
  (fun i42 v40 s41 => none)
  (fun r43 s41 => some (r43, s41))))))
  (fun i12 v10 s11 => none)
  (fun r13 s11 => some (r13, s11)))

/- twinkeep/twinkeeplaw14.Same64: a loop; 0: t0 a, 1: t1 b, 2: t5 i -/
def f12_l1 (callf : CallF) (N : Nat) (v : List T) (s : St) : Option (JO × St) :=
  bd (aLenSl (v.getD 0 .any)) fun t13 =>
  bd (aBin .lss (v.getD 2 .any) t13) fun t14 =>
  br t14 (jn (bd (aIndexSl 1 (v.getD 0 .any) (v.getD 2 .any)) fun t19 =>
  bd (aLoad1 t19 s.get) fun t20 =>
  bd (aIndexSl 1 (v.getD 1 .any) (v.getD 2 .any)) fun t23 =>
  bd (aLoad1 t23 s.get) fun t24 =>
  bd (aBin .neq t20 t24) fun t25 =>
  br t25 (some (.ret (B false), s))
  (some (.normal [(v.getD 0 .any), (v.getD 1 .any), (v.getD 2 .any)], s)))
  (fun v1 s2 => bd (aBin .add (v1.getD 2 .any) (I .i64 1)) fun t16 =>
  some (.normal [(v1.getD 0 .any), (v1.getD 1 .any), t16], s2))
  (fun i3 v1 s2 => some (.exit i3 v1, s2))
  (fun r4 s2 => some (.ret r4, s2)))
  (some (.exit 0 [], s))

/- twinkeep/twinkeeplaw14.Same64 -/
def f12 (callf : CallF) (N : Nat) (a0 : T) (a1 : T) (s : St) : Option (T × St) :=
  bd (aLenSl a0) fun t7 =>
  bd (aLenSl a1) fun t9 =>
  bd (aBin .neq t7 t9) fun t10 =>
  br t10 (some ((B false), s))
  (jn (jn (loops (f12_l1 callf N) N [a0, a1, (I .i64 0)] s)
  (fun v5 s6 => some (.normal [], s6))
  (fun i7 v5 s6 => if i7 = 0 then some (.normal v5, s6) else some (.exit i7 v5, s6))
  (fun r8 s6 => some (.ret r8, s6)))
  (fun v9 s10 => some ((B true), s10))
  (fun i11 v9 s10 => none)
  (fun r12 s10 => some (r12, s10)))

end
end Go.Proofs.Ytoibllpfjnicfaa


/-
  What functions that the laws reach compute, printed by a program of our own: each text is by definition the run of the code. No conditions.
-/
namespace Go.Proofs.Ytoibllpfjnicfaa
end Go.Proofs.Ytoibllpfjnicfaa


/-
  What Take does, in any store in which the receiver holds bodies ahead of what is there. No conditions but those named in each line.
-/
namespace Go.Proofs.Ytoibllpfjnicfaa
open Go Go.Abs Go.Abs.F
set_option linter.unusedVariables false

abbrev Kp := List (Int × Bs)
def getK (x : Int) : Kp → Option Bs
  | [] => none
  | p :: r => if p.1 = x then some p.2 else getK x r
def delK (x : Int) : Kp → Kp
  | [] => []
  | p :: r => if p.1 = x then r else p :: delK x r
def popM : Nat → Int → Kp → List Bs → Int × Kp × List Bs
  | 0, n, K, out => (n, K, out)
  | f + 1, n, K, out => match getK (n + 1) K with
    | some b => popM f (n + 1) (delK (n + 1) K) (out ++ [b])
    | none => (n, K, out)
def takeM (n : Int) (K : Kp) (seq : Int) (b : Bs) : (Int × Kp × List Bs) × Int :=
  if seq < 1 ∨ n + 8 < seq ∨ 4100 < b.length then ((n, K, []), 5)
  else if (getK seq K).isSome ∨ seq ≤ n then ((n, K, []), 0)
  else (popM (K.length + 1) n (K ++ [(seq, b)]) [], 0)

def BIn (s : St) (lo hi : Nat) (b : Bs) (y : S) : Prop := RB s y b ∧ ∀ c, own y = some c → lo ≤ c ∧ c < hi
def EntR (s : St) (lo hi : Nat) (p : Int × Bs) (e : S × V) : Prop := ∃ y, e = (S.int .i64 p.1, V.s y) ∧ BIn s lo hi p.2 y

section
variable {s t : St} {i m lo hi : Nat} {n : Int} {K : Kp} {es : List (S × V)} {b : Bs} {x y : S}

theorem BIn.keep (h : BIn s lo hi b y) {lo' hi' : Nat} (h1 : lo' ≤ lo) (h2 : hi ≤ hi') (hk : ∀ c, lo ≤ c → c < hi → t.get c = s.get c) : BIn t lo' hi' b y :=
  ⟨h.1.keep fun c hc => hk c (h.2 c hc).1 (h.2 c hc).2, fun c hc => by have := h.2 c hc; omega⟩
theorem EntR.keep {p : Int × Bs} {e : S × V} (h : EntR s lo hi p e) {lo' hi' : Nat} (h1 : lo' ≤ lo) (h2 : hi ≤ hi') (hk : ∀ c, lo ≤ c → c < hi → t.get c = s.get c) : EntR t lo' hi' p e := by
  obtain ⟨y, e1, e2⟩ := h
  exact ⟨y, e1, e2.keep h1 h2 hk⟩

theorem get_some (x : Int) : ∀ {K : Kp} {es : List (S × V)}, All2 (EntR s lo hi) K es → ∀ (k0 : Nat) {b : Bs}, getK x K = some b →
    ∃ j y, aFind (.int .i64 x) es k0 = some (some (k0 + j, V.s y)) ∧ es[j]? = some (S.int .i64 x, V.s y) ∧ BIn s lo hi b y ∧ All2 (EntR s lo hi) (delK x K) (es.eraseIdx j) := by
  intro K es h
  induction h with
  | nil => intro k0 b hg; cases hg
  | cons a r ih =>
    rename_i p e K es
    intro k0 b hg
    obtain ⟨y, rfl, hy⟩ := a
    unfold getK at hg
    by_cases hx : p.1 = x
    · rw [if_pos hx] at hg
      cases hg
      subst hx
      refine ⟨0, y, by simp [aFind, keyEq], rfl, hy, ?_⟩
      unfold delK
      rw [if_pos rfl]
      exact r
    · rw [if_neg hx] at hg
      obtain ⟨j, z, h1, h2, h3, h4⟩ := ih (k0 + 1) hg
      have hk : aFind (.int .i64 x) ((S.int .i64 p.1, V.s y) :: es) k0 = aFind (.int .i64 x) es (k0 + 1) := by simp [aFind, keyEq, Ne.symm hx]
      refine ⟨j + 1, z, by rw [hk, h1, show k0 + 1 + j = k0 + (j + 1) by omega], by simpa using h2, h3, ?_⟩
      unfold delK
      rw [if_neg hx, List.eraseIdx_cons_succ]
      exact .cons ⟨y, rfl, hy⟩ h4

theorem get_none (x : Int) : ∀ {K : Kp} {es : List (S × V)}, All2 (EntR s lo hi) K es → ∀ (k0 : Nat), getK x K = none → aFind (.int .i64 x) es k0 = some none := by
  intro K es h
  induction h with
  | nil => intro k0 _; rfl
  | cons a r ih =>
    rename_i p e K es
    intro k0 hg
    obtain ⟨y, rfl, hy⟩ := a
    unfold getK at hg
    by_cases hx : p.1 = x
    · rw [if_pos hx] at hg; cases hg
    · rw [if_neg hx] at hg
      have hk : aFind (.int .i64 x) ((S.int .i64 p.1, V.s y) :: es) k0 = aFind (.int .i64 x) es (k0 + 1) := by simp [aFind, keyEq, Ne.symm hx]
      rw [hk]
      exact ih (k0 + 1) hg

theorem delK_len (x : Int) : ∀ {K : Kp} {b : Bs}, getK x K = some b → (delK x K).length + 1 = K.length
  | [], b, h => by cases h
  | p :: r, b, h => by
    unfold getK at h
    unfold delK
    by_cases hx : p.1 = x
    · rw [if_pos hx]; simp
    · rw [if_neg hx] at h ⊢
      have := delK_len x h
      simp; omega

structure HasB (s : St) (i m lo hi : Nat) (n : Int) (K : Kp) : Prop where
  wf : s.wf
  ri : s.get i = some (.cells true [.int .i64 n, .map m])
  ilo : i < lo
  mlo : m < lo
  loh : lo ≤ hi
  his : hi ≤ s.size
  mp : ∃ es, s.get m = some (.map es) ∧ All2 (EntR s lo hi) K es

theorem HasB.ne (h : HasB s i m lo hi n K) : m ≠ i := by
  intro e
  obtain ⟨es, h1, _⟩ := h.mp
  rw [e, h.ri] at h1
  cases h1

theorem all2_mono' {α β : Type} {A B : α → β → Prop} {l : List α} {r : List β} (h : All2 A l r) (hk : ∀ a b, A a b → B a b) : All2 B l r := forall2_mono hk h

theorem HasB.keep (h : HasB s i m lo hi n K) (wf : t.wf) (hz : s.size ≤ t.size) (hk : ∀ c, c < s.size → t.get c = s.get c) : HasB t i m lo hi n K := by
  obtain ⟨es, h1, h2⟩ := h.mp
  have hi' := h.wf.lt h.ri
  have hm' := h.wf.lt h1
  have hh := h.his
  exact ⟨wf, by rw [hk _ hi']; exact h.ri, h.ilo, h.mlo, h.loh, by omega, es, by rw [hk _ hm']; exact h1, all2_mono' h2 fun a b hab => hab.keep (Nat.le_refl _) (Nat.le_refl _) fun c h3 h4 => hk c (by omega)⟩

theorem HasB.up (h : HasB s i m lo hi n K) {hi' : Nat} (h1 : hi ≤ hi') (h2 : hi' ≤ s.size) : HasB s i m lo hi' n K := by
  obtain ⟨es, h3, h4⟩ := h.mp
  have := h.loh
  exact ⟨h.wf, h.ri, h.ilo, h.mlo, by omega, h2, es, h3, all2_mono' h4 fun a b hab => hab.keep (Nat.le_refl _) h1 fun _ _ _ => rfl⟩

theorem eqBl_nils : eqB .l (Z .nils) (Z .nils) = some (B true) := rfl
theorem eqBl_sl (c o l : Nat) (q : Cap) : eqB .l (Z (.sl c o l q)) (Z .nils) = some (B false) := by cases q <;> rfl
theorem eqBl_emp (c e : Nat) : eqB .l (Z (.emp c e)) (Z .nils) = some (B false) := rfl

theorem clone_run (d : Nat) (wf : s.wf) (h : RB s x b) (ho : ∀ c, own x = some c → c < s.size) (hl : b.length ≤ 100000) :
    ∃ y t, R (d + 1) 20 [Z x] s = some (Z y, t) ∧ RB t y b ∧ Gr s t ∧ ∀ c, own y = some c → s.size ≤ c ∧ c < t.size := by
  rw [f20_run]
  unfold f20
  have go : eqB .l (Z x) (Z .nils) = some (B false) → ∃ y t, (bd (eqB .l (Z x) (Z .nils)) fun t4 => br t4 (some ((Z .nils), s)) (bd2 (aNew s (nSlice 0 (aFill [] []))) fun t5 s1 => bd2 (aAppend 1 1 t5 (Z x) s1) fun t7 s2 => some (t7, s2))) = some (Z y, t) ∧ RB t y b ∧ Gr s t ∧ ∀ c, own y = some c → s.size ≤ c ∧ c < t.size := by
    intro e
    have L := Fr.lit 1 wf (n := 0) (vs := []) rfl
    have nw : aNew s (nSlice 0 (aFill [] [])) = some (Z (.sl s.size 0 0 (.known 0)), s.push (.cells true [])) := by simp [aNew, nSlice, aFill]
    obtain ⟨y, t, ap, fb, _, _⟩ := FB.app (bs := []) (cs := b) L (h.gr ho L.gr) (by simpa using (show b.length ≤ 1000000 by omega))
    refine ⟨y, t, ?_, by simpa using fb.rd, fb.gr, fb.new⟩
    simp [e, nw, ap]
  rcases h.rd with ⟨hn, rfl | ⟨c, g, rfl⟩ | ⟨c, o, cap, rfl⟩⟩ | ⟨c, o, cap, w, rows, rfl, _⟩
  · have hb : b = [] := List.eq_nil_of_length_eq_zero hn
    subst hb
    exact ⟨.nils, s, by simp [eqBl_nils], Rd.nil 1 s, Gr.refl wf, fun c hc => by cases hc⟩
  · exact go (eqBl_emp c g)
  · exact go (eqBl_sl c o 0 cap)
  · exact go (eqBl_sl c o _ cap)

theorem got_run (d : Nat) (h : s.get i = some (.cells true [.int .i64 n, .map m])) : R (d + 1) 11 [Z (.ptr i 0)] s = some (I .i64 n, s) := by
  have l0 : aLoad1 (Z (.ptr i 0)) s.get = some (I .i64 n) := aLoad1_of h rfl
  rw [f11_run]
  unfold f11
  simp [l0]

theorem new_run (d : Nat) : R (d + 1) 7 [] s = some (Z (.ptr (s.size + 1) 0), (s.push (.map [])).push (.cells true [.int .i64 0, .map s.size])) := by
  rw [f7_run]
  unfold f7
  simp [aNew, nMap, nBox, aFill, V.cells, setRange, asAggT]

structure OutB (t : St) (lo hi : Nat) (y : S) (out : List Bs) : Prop where
  ex : ∃ ys, Ow 1 t y out.length ys ∧ All2 (BIn t lo hi) out ys
  new : ∀ c, own y = some c → hi ≤ c ∧ c < t.size

structure RowB (s0 : St) (i m lo hi : Nat) (n : Int) (K : Kp) (out : List Bs) (v : List T) (s : St) : Prop where
  has : HasB s i m lo hi n K
  out : ∃ y, v = [Z (.ptr i 0), Z y] ∧ OutB s lo hi y out
  siz : s0.size ≤ s.size
  old : ∀ c, c < hi → c ≠ i → c ≠ m → s.get c = s0.get c

theorem row_step (r : CallF) (s0 : St) (hhi : hi ≤ s0.size) {n : Int} {K : Kp} {out : List Bs} {v : List T} {s : St} (h : RowB s0 i m lo hi n K out v s) (h0 : 0 ≤ n) (h1 : n ≤ 2000000) (hol : out.length ≤ 7000) {b : Bs} (hg : getK (n + 1) K = some b) :
    ∃ v' s', f9_l1 r 8192 v s = some (.normal v', s') ∧ RowB s0 i m lo hi (n + 1) (delK (n + 1) K) (out ++ [b]) v' s' := by
  obtain ⟨hh, ⟨y, rfl, hy⟩, hsz, hold⟩ := h
  obtain ⟨es, hes, hall⟩ := hh.mp
  have hi' := hh.wf.lt hh.ri
  have hm' := hh.wf.lt hes
  have hmi := hh.ne
  have q1 := hh.ilo
  have q2 := hh.mlo
  have q3 := hh.loh
  have q4 := hh.his
  obtain ⟨j, z, hf, hj, hz, hall'⟩ := get_some (n + 1) hall 0 hg
  rw [Nat.zero_add] at hf
  have l0 : aLoad1 (Z (.ptr i 0)) s.get = some (I .i64 n) := aLoad1_of hh.ri rfl
  have l1 : aLoad1 (Z (.ptr i 1)) s.get = some (Z (.map m)) := aLoad1_of hh.ri rfl
  have w1 : IntKind.i64.wrap (n + 1) = n + 1 := wrap_in _ (by omega) (by omega)
  have lk : Go.Abs.F.look .i true (.s .nils) (Z (.map m)) (I .i64 (n + 1)) s.get = some (.tup [.s z, .s (.bool true)]) := by
    simp [Go.Abs.F.look, isKey, aLookup, hes, hf]
  obtain ⟨s1, hs1⟩ : ∃ s1, s1 = s.set i (.cells true [.int .i64 (n + 1), .map m]) := ⟨_, rfl⟩
  have st : aStore 1 (Z (.ptr i 0)) (I .i64 (n + 1)) s = some (tt, s1) := by rw [hs1]; exact aStore1_of hh.ri (by simp)
  have g1 : ∀ c, c ≠ i → s1.get c = s.get c := fun c hc => by rw [hs1, St.get_set_ne _ _ hc]
  have g1i : s1.get i = some (.cells true [.int .i64 (n + 1), .map m]) := by rw [hs1, St.get_set_same]
  have z1 : s1.size = s.size := by rw [hs1]; rfl
  have f1 : s1.wf := by rw [hs1]; exact St.wf_set hh.wf hi' _
  have m0 : aLoad1 (Z (.ptr i 0)) s1.get = some (I .i64 (n + 1)) := aLoad1_of g1i rfl
  have m1 : aLoad1 (Z (.ptr i 1)) s1.get = some (Z (.map m)) := aLoad1_of g1i rfl
  obtain ⟨s2, hs2⟩ : ∃ s2, s2 = s1.set m (.map (es.eraseIdx j)) := ⟨_, rfl⟩
  have dl : mdel .i (Z (.map m)) (I .i64 (n + 1)) s1 = some (tt, s2) := by
    simp [mdel, isKey, aDelete, g1 m hmi, hes, hf, hs2]
  have g2 : ∀ c, c ≠ m → s2.get c = s1.get c := fun c hc => by rw [hs2, St.get_set_ne _ _ hc]
  have g2m : s2.get m = some (.map (es.eraseIdx j)) := by rw [hs2, St.get_set_same]
  have z2 : s2.size = s.size := by rw [hs2]; exact z1
  have f2 : s2.wf := by rw [hs2]; exact St.wf_set f1 (by omega) _
  have keep2 : ∀ c, lo ≤ c → s2.get c = s.get c := fun c hc => by rw [g2 c (by omega), g1 c (by omega)]
  obtain ⟨ys, how, hys⟩ := hy.ex
  have how2 : Ow 1 s2 y out.length ys := how.keep fun c hc => keep2 c (by have := (hy.new c hc).1; omega)
  have L := Fr.lit 1 f2 (n := 1) (vs := [z]) rfl
  have nw : aNew s2 (nSlice 1 (aFill [.nils] [(0, 1, Z z)])) = some (Z (.sl s.size 0 1 (.known 1)), s2.push (.cells true [z])) := by
    simp [aNew, nSlice, aFill, V.cells, setRange, z2]
  obtain ⟨y', s4, ap, wf4, hz4, how4, old4, new4⟩ := (how2.gr f2 L.gr).append (by_ := 24) L.gr.wf (by omega) L.rd.src rfl (by omega)
  rw [z2] at ap
  have hz3 : (s2.push (.cells true [z])).size = s.size + 1 := by simp [z2]
  have k4 : ∀ c, c < hi → s4.get c = s2.get c := fun c hc => by
    rw [old4 c (by omega) (fun e => by have := (hy.new c e).1; omega), St.get_push_ne _ _ (by omega)]
  have keep4 : ∀ c, lo ≤ c → c < hi → s4.get c = s.get c := fun c h3 h4 => by rw [k4 c h4, keep2 c h3]
  refine ⟨[Z (.ptr i 0), Z y'], s4, ?_, ⟨⟨wf4, by rw [k4 i (by omega), g2 i (Ne.symm hmi)]; exact g1i, q1, q2, q3, by omega, _, by rw [k4 m (by omega)]; exact g2m, all2_mono' hall' fun a b hab => hab.keep (Nat.le_refl _) (Nat.le_refl _) keep4⟩, ⟨y', rfl, ⟨ys ++ [z], by simpa using how4, ?_⟩, fun c hc => ?_⟩, by omega, fun c h3 h4 h5 => ?_⟩⟩
  · unfold f9_l1
    simp [l0, l1, w1, lk, st, m0, m1, dl, nw, ap, aExtract]
  · exact forall2_append (all2_mono' hys fun a b hab => BIn.keep hab (Nat.le_refl _) (Nat.le_refl _) keep4) (.cons (BIn.keep hz (Nat.le_refl _) (Nat.le_refl _) keep4) .nil)
  · have hlt := how4.lt wf4 hc
    rcases new4 with e | e | ⟨c', e, hc'⟩
    · rw [e] at hc; cases hc
    · rw [e] at hc; exact ⟨(hy.new c hc).1, hlt⟩
    · rw [e] at hc; cases hc; exact ⟨by omega, hlt⟩
  · rw [k4 c h3, g2 c h5, g1 c h4]
    exact hold c h3 h4 h5

theorem row_end (r : CallF) {s0 : St} {n : Int} {K : Kp} {out : List Bs} {v : List T} {s : St} (h : RowB s0 i m lo hi n K out v s) (h0 : 0 ≤ n) (h1 : n ≤ 2000000) (hg : getK (n + 1) K = none) :
    ∃ y, v = [Z (.ptr i 0), Z y] ∧ f9_l1 r 8192 v s = some (.exit 1 [Z y], s) := by
  obtain ⟨hh, ⟨y, rfl, hy⟩, hsz, hold⟩ := h
  obtain ⟨es, hes, hall⟩ := hh.mp
  have hf := get_none (n + 1) hall 0 hg
  have l0 : aLoad1 (Z (.ptr i 0)) s.get = some (I .i64 n) := aLoad1_of hh.ri rfl
  have l1 : aLoad1 (Z (.ptr i 1)) s.get = some (Z (.map m)) := aLoad1_of hh.ri rfl
  have w1 : IntKind.i64.wrap (n + 1) = n + 1 := wrap_in _ (by omega) (by omega)
  have lk : Go.Abs.F.look .i true (.s .nils) (Z (.map m)) (I .i64 (n + 1)) s.get = some (.tup [.s .nils, .s (.bool false)]) := by
    simp [Go.Abs.F.look, isKey, aLookup, hes, hf]
  refine ⟨y, rfl, ?_⟩
  unfold f9_l1
  simp [l0, l1, w1, lk, aExtract]

theorem row_run (r : CallF) (s0 : St) (hhi : hi ≤ s0.size) : ∀ (f : Nat) (n : Int) (K : Kp) (out : List Bs) (v : List T) (s : St) (N : Nat), RowB s0 i m lo hi n K out v s → 0 ≤ n → n + f ≤ 1900000 → out.length + f ≤ 7000 → K.length ≤ f → f < N →
    ∃ y τ, loops (f9_l1 r 8192) N v s = some (.exit 1 [Z y], τ) ∧ RowB s0 i m lo hi (popM f n K out).1 (popM f n K out).2.1 (popM f n K out).2.2 [Z (.ptr i 0), Z y] τ := by
  intro f
  induction f with
  | zero =>
    intro n K out v s N h h0 h1 h2 hk hN
    have : K = [] := List.eq_nil_of_length_eq_zero (by omega)
    subst this
    obtain ⟨N, rfl⟩ : ∃ M, N = M + 1 := ⟨N - 1, by omega⟩
    obtain ⟨y, rfl, e⟩ := row_end r h h0 (by omega) rfl
    exact ⟨y, s, by rw [loops, e], h⟩
  | succ f ih =>
    intro n K out v s N h h0 h1 h2 hk hN
    obtain ⟨N, rfl⟩ : ∃ M, N = M + 1 := ⟨N - 1, by omega⟩
    cases hg : getK (n + 1) K with
    | none =>
      obtain ⟨y, rfl, e⟩ := row_end r h h0 (by omega) hg
      exact ⟨y, s, by rw [loops, e], by simp only [popM, hg]; exact h⟩
    | some b =>
      obtain ⟨v', s', e, h'⟩ := row_step r s0 hhi h h0 (by omega) (by omega) hg
      have hl := delK_len _ hg
      obtain ⟨y, τ, e2, h3⟩ := ih (n + 1) (delK (n + 1) K) (out ++ [b]) v' s' N h' (by omega) (by omega) (by simp; omega) (by omega) (by omega)
      refine ⟨y, τ, ?_, ?_⟩
      · rw [loops, e]; exact e2
      · simp only [popM, hg]; exact h3

theorem take_run (d : Nat) {seq : Int} (h : HasB s i m lo s.size n K) (h0 : 0 ≤ n) (h1 : n ≤ 1000000) (hK : K.length ≤ 5000) (hx : RB s x b) (hox : ∀ c, own x = some c → c < s.size) (hb : b.length ≤ 100000) (hs1 : seq ≤ 9223372036854775807) :
    ∃ y t, R (d + 2) 9 [Z (.ptr i 0), I .i64 seq, Z x] s = some (.tup [.s y, .s (.int .i64 (takeM n K seq b).2)], t) ∧ HasB t i m lo t.size (takeM n K seq b).1.1 (takeM n K seq b).1.2.1 ∧
      (∃ hi, s.size ≤ hi ∧ OutB t lo hi y (takeM n K seq b).1.2.2) ∧ s.size ≤ t.size ∧ ∀ c, c < s.size → c ≠ i → c ≠ m → t.get c = s.get c := by
  have l0 : aLoad1 (Z (.ptr i 0)) s.get = some (I .i64 n) := aLoad1_of h.ri rfl
  have l1 : aLoad1 (Z (.ptr i 1)) s.get = some (Z (.map m)) := aLoad1_of h.ri rfl
  have lb := hx.lenB
  obtain ⟨es, hes, hall⟩ := h.mp
  have hi' := h.wf.lt h.ri
  have hm' := h.wf.lt hes
  have nout : ∃ hi, s.size ≤ hi ∧ OutB s lo hi .nils [] := ⟨s.size, Nat.le_refl _, ⟨[], Ow.nil 1 s, .nil⟩, fun c hc => by cases hc⟩
  rw [f9_run]
  unfold f9
  unfold takeM
  by_cases c1 : seq < 1
  · rw [if_pos (.inl c1)]
    refine ⟨.nils, s, ?_, h, nout, Nat.le_refl _, fun _ _ _ _ => rfl⟩
    simp [c1, retT, allV]
  have w8 : IntKind.i64.wrap (seq - 8) = seq - 8 := wrap_in _ (by omega) (by omega)
  by_cases c2 : n + 8 < seq
  · rw [if_pos (.inr (.inl c2))]
    have c2' : n < seq - 8 := by omega
    refine ⟨.nils, s, ?_, h, nout, Nat.le_refl _, fun _ _ _ _ => rfl⟩
    simp [c1, l0, w8, c2', retT, allV]
  have c2' : ¬ n < seq - 8 := by omega
  by_cases c3 : 4100 < b.length
  · rw [if_pos (.inr (.inr c3))]
    have c3' : (4100 : Int) < (b.length : Int) := by omega
    refine ⟨.nils, s, ?_, h, nout, Nat.le_refl _, fun _ _ _ _ => rfl⟩
    generalize (b.length : Int) = BL at *
    simp [c1, l0, w8, c2', lb, c3', retT, allV]
  have c3' : ¬ (4100 : Int) < (b.length : Int) := by omega
  rw [if_neg (by rintro (h | h | h) <;> omega)]
  cases hg : getK seq K with
  | some b' =>
    obtain ⟨j, z, hf, hj, _, _⟩ := get_some seq hall 0 hg
    have lk : Go.Abs.F.look .i true (.s .nils) (Z (.map m)) (I .i64 seq) s.get = some (.tup [.s z, .s (.bool true)]) := by
      simp [Go.Abs.F.look, isKey, aLookup, hes, hf]
    rw [if_pos (.inl rfl)]
    refine ⟨.nils, s, ?_, h, nout, Nat.le_refl _, fun _ _ _ _ => rfl⟩
    generalize (b.length : Int) = BL at *
    simp [c1, l0, l1, w8, c2', lb, c3', retT, allV, lk, aExtract]
  | none =>
    have hf := get_none seq hall 0 hg
    have lk : Go.Abs.F.look .i true (.s .nils) (Z (.map m)) (I .i64 seq) s.get = some (.tup [.s .nils, .s (.bool false)]) := by
      simp [Go.Abs.F.look, isKey, aLookup, hes, hf]
    by_cases c4 : seq ≤ n
    · rw [if_pos (.inr c4)]
      refine ⟨.nils, s, ?_, h, nout, Nat.le_refl _, fun _ _ _ _ => rfl⟩
      generalize (b.length : Int) = BL at *
      simp [c1, l0, l1, w8, c2', lb, c3', retT, allV, lk, aExtract, c4]
    rw [if_neg (by rintro (h | h); cases h; exact c4 h)]
    obtain ⟨z, s8, ec, rz, g8, nz⟩ := clone_run d h.wf hx hox hb
    have l8 : aLoad1 (Z (.ptr i 1)) s8.get = some (Z (.map m)) := aLoad1_of ((g8.2.2 i hi').trans h.ri) rfl
    obtain ⟨s9, hs9⟩ : ∃ s9, s9 = s8.set m (.map (es ++ [(S.int .i64 seq, V.s z)])) := ⟨_, rfl⟩
    have ms : mset .i (Z (.map m)) (I .i64 seq) (Z z) s8 = some (tt, s9) := by
      simp [mset, isKey, aMapSet, (g8.2.2 m hm').trans hes, hf, hs9]
    have g9 : ∀ c, c ≠ m → s9.get c = s8.get c := fun c hc => by rw [hs9, St.get_set_ne _ _ hc]
    have z8 := g8.2.1
    have z9 : s9.size = s8.size := by rw [hs9]; rfl
    have q1 := h.ilo
    have q2 := h.mlo
    have q3 := h.loh
    have k9 : ∀ c, lo ≤ c → c < s.size → s9.get c = s.get c := fun c h3 h4 => by rw [g9 c (by omega), g8.2.2 c h4]
    have hh9 : HasB s9 i m lo s9.size n (K ++ [(seq, b)]) := by
      refine ⟨by rw [hs9]; exact St.wf_set g8.wf (by omega) _, by rw [g9 i (Ne.symm h.ne), g8.2.2 i hi']; exact h.ri, q1, q2, by omega, Nat.le_refl _, _, by rw [hs9, St.get_set_same], ?_⟩
      refine forall2_append (all2_mono' hall fun a e hab => hab.keep (Nat.le_refl _) (by omega) k9) (.cons ⟨z, rfl, ?_⟩ .nil)
      refine ⟨rz.keep fun c hc => g9 c (by have := (nz c hc).1; omega), fun c hc => by have := nz c hc; omega⟩
    obtain ⟨y, τ, lp, hr⟩ := row_run (R (d + 1)) s9 (Nat.le_refl _) (K.length + 1) n (K ++ [(seq, b)]) [] [Z (.ptr i 0), Z .nils] s9 8192
      ⟨hh9, ⟨.nils, rfl, ⟨[], Ow.nil 1 s9, .nil⟩, fun c hc => by cases hc⟩, Nat.le_refl _, fun _ _ _ _ => rfl⟩ h0 (by omega) (by simp; omega) (by simp) (by omega)
    obtain ⟨hh', ⟨y', ey, ho'⟩, hsz', hold'⟩ := hr
    cases ey
    refine ⟨y, τ, ?_, hh'.up (by omega) (Nat.le_refl _), ⟨s9.size, by omega, ho'⟩, by omega, fun c h3 h4 h5 => ?_⟩
    · generalize popM (K.length + 1) n (K ++ [(seq, b)]) [] = PM at *
      generalize R (d + 1) = r at *
      generalize (b.length : Int) = BL at *
      simp [c1, l0, l1, w8, c2', lb, c3', retT, allV, lk, aExtract, c4, ec, l8, ms, lp]
    · rw [hold' c (by omega) h4 h5, g9 c h5, g8.2.2 c h3]
end
end Go.Proofs.Ytoibllpfjnicfaa


/-
  What the sender's functions do, in any store. No conditions but those named in each line.
-/
namespace Go.Proofs.Ytoibllpfjnicfaa
open Go Go.Abs Go.Abs.F
set_option linter.unusedVariables false

def cS (x : S) (A E W D N : Int) : List S := [x, .int .i64 A, .int .i64 E, .int .i64 W, .int .i64 D, .int .i64 N]
def RdB (s : St) (Q : Nat → Prop) (x : S) (l : List Bs) : Prop := ∃ ys, Rd 1 s x l.length ys ∧ (∀ c, own x = some c → Q c) ∧ All2 (fun b y => RB s y b ∧ ∀ c, own y = some c → Q c) l ys

section
variable {s t : St} {i : Nat} {x y : S} {A E W D N T0 : Int} {l : List Bs} {b : Bs}

theorem snew_run (d : Nat) : R (d + 1) 14 [] s = some (Z (.ptr s.size 0), s.push (.cells true (cS .nils 0 0 2 (-1) 0))) := by
  rw [f14_run]
  unfold f14
  simp [aNew, nBox, aFill, V.cells, setRange, asAggT, cS]

theorem acked_run (d : Nat) (h : s.get i = some (.cells true (cS x A E W D N))) : R (d + 1) 16 [Z (.ptr i 0)] s = some (I .i64 A, s) := by
  have l1 : aLoad1 (Z (.ptr i 1)) s.get = some (I .i64 A) := aLoad1_of h rfl
  rw [f16_run]
  unfold f16
  simp [l1]

theorem st_at (h : s.get i = some (.cells true (cS x A E W D N))) {j : Nat} {z : S} (hj : j < 6) : aStore 1 (Z (.ptr i j)) (Z z) s = some (tt, s.set i (.cells true ((cS x A E W D N).set j z))) := by
  rw [aStore1_of h (by simpa [cS] using hj)]
  simp [setRange]

theorem RdB.keep {Q : Nat → Prop} (h : RdB s Q x l) (hk : ∀ c, Q c → t.get c = s.get c) : RdB t Q x l := by
  obtain ⟨ys, h1, h2, h3⟩ := h
  exact ⟨ys, h1.keep fun c hc => hk c (h2 c hc), h2, forall2_mono (fun b y hby => ⟨hby.1.keep fun c hc => hk c (hby.2 c hc), hby.2⟩) h3⟩

theorem put_run (d : Nat) (wf : s.wf) (h : s.get i = some (.cells true (cS x A E W D N))) {ys : List S} (hx : Ow 1 s x l.length ys) (hl : l.length < 1000) (hb : RB s y b) (hbl : b.length ≤ 4100)
    (hxi : ∀ c, own x = some c → c ≠ i) (hy : ∀ c, own y = some c → c < s.size) :
    ∃ x' z t, R (d + 2) 15 [Z (.ptr i 0), Z y] s = some (I .i64 0, t) ∧ t.wf ∧ s.size ≤ t.size ∧ t.get i = some (.cells true (cS x' A E W D N)) ∧ Ow 1 t x' (l.length + 1) (ys ++ [z]) ∧ RB t z b ∧
      (∀ c, own z = some c → s.size ≤ c ∧ c < t.size ∧ own x' ≠ some c) ∧ (∀ c, own x' = some c → own x = some c ∨ s.size ≤ c) ∧ ∀ c, c < s.size → c ≠ i → own x ≠ some c → t.get c = s.get c := by
  have hi := wf.lt h
  have l0 : aLoad1 (Z (.ptr i 0)) s.get = some (Z x) := aLoad1_of h rfl
  have hlen := hx.rd.lens
  have c1 : ¬ (4100 : Int) < (b.length : Int) := by omega
  have c2 : ¬ (l.length : Int) = 1000 := by omega
  have lb := hb.lenB
  obtain ⟨z, s5, ec, rz, g5, nz⟩ := clone_run d wf hb hy (by omega)
  have z5 := g5.2.1
  have L := Fr.lit 1 g5.wf (n := 1) (vs := [z]) rfl
  have nw : aNew s5 (nSlice 1 (aFill [.nils] [(0, 1, Z z)])) = some (Z (.sl s5.size 0 1 (.known 1)), s5.push (.cells true [z])) := by
    simp [aNew, nSlice, aFill, V.cells, setRange]
  obtain ⟨x', s7, ap, wf7, hz7, how7, old7, new7⟩ := ((hx.gr wf g5).gr g5.wf L.gr).append (by_ := 24) L.gr.wf (by omega) L.rd.src rfl (by omega)
  have hz6 : (s5.push (.cells true [z])).size = s5.size + 1 := by simp
  have h7 : s7.get i = some (.cells true (cS x A E W D N)) := by
    rw [old7 i (by omega) (fun e => hxi i e rfl), St.get_push_ne _ _ (by omega), g5.2.2 i hi]
    exact h
  have st := st_at h7 (j := 0) (z := x') (by omega)
  have ov : aLoad1 (Z (.ptr i 0)) (overlay 7 s5.get (ovO 7 s5.size (nSlice 1 (aFill [.nils] [(0, 1, Z z)])) [])) = some (Z x) := by
    refine aLoad1_of ?_ rfl (own := true) (vs := cS x A E W D N)
    have hne : i ≠ s5.size := by omega
    simp [overlay, ovO, nSlice, aFill, V.cells, setRange, updM, hne]
    rw [g5.2.2 i hi]
    exact h
  have hlt7 : ∀ c, own x' = some c → c < s7.size := fun c hc => how7.lt wf7 hc
  have hx'i : ∀ c, own x' = some c → c ≠ i := fun c hc => by
    rcases new7 with e | e | ⟨c', e, hc'⟩
    · rw [e] at hc; cases hc
    · rw [e] at hc; exact hxi c hc
    · rw [e] at hc; cases hc; omega
  refine ⟨x', z, s7.set i (.cells true (cS x' A E W D N)), ?_, St.wf_set wf7 (by omega) _, by simp; omega, by rw [St.get_set_same], how7.keep fun c hc => St.get_set_ne _ _ (hx'i c hc), rz.keep fun c hc => ?_, fun c hc => ?_, fun c hc => ?_, fun c h1 h2 h3 => ?_⟩
  · rw [f15_run]
    unfold f15
    have st' : aStore 1 (Z (.ptr i 0)) (Z x') s7 = some (tt, s7.set i (.cells true (cS x' A E W D N))) := st
    generalize R (d + 1) = r at *
    generalize (b.length : Int) = BL at *
    generalize (l.length : Int) = LL at *
    simp [lb, c1, l0, hlen, c2, ec, nw, ap, st']
    rw [ov]
    simp
  · have := nz c hc
    rw [St.get_set_ne _ _ (by omega), old7 c (by omega) (fun e => by have := hx.lt wf e; omega), St.get_push_ne _ _ (by omega)]
  · have h3 := nz c hc
    refine ⟨h3.1, by simp; omega, fun e => ?_⟩
    rcases new7 with e' | e' | ⟨c', e', hc'⟩
    · rw [e'] at e; cases e
    · rw [e'] at e; have := hx.lt wf e; omega
    · rw [e'] at e; cases e; omega
  · rcases new7 with e | e | ⟨c', e, hc'⟩
    · rw [e] at hc; cases hc
    · rw [e] at hc; exact .inl hc
    · rw [e] at hc; cases hc; exact .inr (by omega)
  · rw [St.get_set_ne _ _ h2, old7 c (by omega) h3, St.get_push_ne _ _ (by omega), g5.2.2 c h1]

theorem RdB.lens {Q : Nat → Prop} (h : RdB s Q x l) : aLenSl (Z x) = some (I .i64 l.length) := by
  obtain ⟨ys, h1, _, _⟩ := h
  exact h1.lens

theorem body_run {Q : Nat → Prop} (d : Nat) (wf : s.wf) (h : s.get i = some (.cells true (cS x A E W D N))) (hx : RdB s Q x l) {q : Nat} (hq : l[q]? = some b) (hA0 : 0 ≤ A) (hA1 : A ≤ 1000000) (hl : l.length ≤ 1000) (hbl : b.length ≤ 4100)
    (hQ : ∀ c, Q c → c < s.size) :
    ∃ z t, R (d + 2) 18 [Z (.ptr i 0), I .i64 (A + 1 + q)] s = some (.tup [.s z, .s (.bool true)], t) ∧ RB t z b ∧ Gr s t ∧ ∀ c, own z = some c → s.size ≤ c ∧ c < t.size := by
  have hlen := hx.lens
  obtain ⟨ys, h1, _, h2⟩ := hx
  have hql : q < l.length := (List.getElem?_eq_some_iff.1 hq).1
  obtain ⟨y, hy, rb, ob⟩ := forall2_get h2 q b hq
  obtain ⟨p, ix, ld⟩ := h1.at1 (j := q) (i := (q : Int)) rfl hy
  obtain ⟨z, t, ec, rz, g, nz⟩ := clone_run d wf rb (fun c hc => hQ c (ob c hc)) (by omega)
  have l0 : aLoad1 (Z (.ptr i 0)) s.get = some (Z x) := aLoad1_of h rfl
  have l1 : aLoad1 (Z (.ptr i 1)) s.get = some (I .i64 A) := aLoad1_of h rfl
  have c1 : ¬ A + 1 + q ≤ A := by omega
  have w1 : IntKind.i64.wrap (A + 1 + q - A) = (q : Int) + 1 := by rw [wrap_in _ (by omega) (by omega)]; omega
  have c2 : ¬ ((l.length : Int) < (q : Int) + 1) := by omega
  have w2 : IntKind.i64.wrap (q : Int) = (q : Int) := wrap_in _ (by omega) (by omega)
  refine ⟨z, t, ?_, rz, g, nz⟩
  rw [f18_run]
  unfold f18
  generalize R (d + 1) = r at *
  generalize A + 1 + (q : Int) = Q at *
  generalize (l.length : Int) = LL at *
  generalize (q : Int) = QQ at *
  simp [c1, l1, w1, l0, hlen, c2, w2, ix, ld, ec, retT, allV]

theorem ack_old (d : Nat) (h : s.get i = some (.cells true (cS x A E W D N))) {q : Int} (h0 : 0 ≤ q) (h1 : q ≤ A) (h2 : q ≤ E) : R (d + 1) 19 [Z (.ptr i 0), I .i64 q] s = some (I .i64 0, s) := by
  have l1 : aLoad1 (Z (.ptr i 1)) s.get = some (I .i64 A) := aLoad1_of h rfl
  have l2 : aLoad1 (Z (.ptr i 2)) s.get = some (I .i64 E) := aLoad1_of h rfl
  have c1 : ¬ q < 0 := by omega
  have c2 : ¬ E < q := by omega
  rw [f19_run]
  unfold f19
  simp [c1, l2, c2, l1, h1]

theorem RdB.onfrom {Q : Nat → Prop} (h : RdB s Q x l) {k : Nat} (hk : k ≤ l.length) : ∃ z, aPieceSl 1 (Z x) (some (I .i64 k)) none none = some (Z z) ∧ RdB s Q z (l.drop k) := by
  obtain ⟨ys, h1, ho1, h2⟩ := h
  obtain ⟨z, e, rd, ho⟩ := h1.onfrom (lo := k) hk
  refine ⟨z, e, ys.drop k, by simpa using rd, fun c hc => ?_, ?_⟩
  · rcases ho with h | h
    · rw [h] at hc; cases hc
    · rw [h] at hc; exact ho1 c hc
  · refine forall2_of_get (by have := forall2_length h2; simp; omega) fun j b y hb hy => ?_
    rw [List.getElem?_drop] at hb hy
    obtain ⟨y', hy', r⟩ := forall2_get h2 _ b hb
    rw [hy] at hy'
    cases hy'
    exact r

theorem ack_new {Qo : Nat → Prop} (d : Nat) (wf : s.wf) (h : s.get i = some (.cells true (cS x A E W D N))) (hx : RdB s Qo x l) {k : Nat} (hA0 : 0 ≤ A) (hA1 : A ≤ 1000000) (hk0 : 0 < k) (hkl : k ≤ l.length) (hl : l.length ≤ 1000) (hE : A + k ≤ E) (hE1 : E ≤ 1100000) (hN0 : 0 ≤ N) (hN1 : N ≤ 1000000) :
    ∃ z t, R (d + 1) 19 [Z (.ptr i 0), I .i64 (A + k)] s = some (I .i64 0, t) ∧ t.get i = some (.cells true (cS z (A + k) E 2 (if A + k < E then N + 2 else -1) N)) ∧ t.wf ∧ t.size = s.size ∧ (∀ c, c ≠ i → t.get c = s.get c) ∧
      RdB s Qo z (l.drop k) := by
  obtain ⟨z, ep, rz⟩ := hx.onfrom hkl
  have hi := wf.lt h
  have l0 : aLoad1 (Z (.ptr i 0)) s.get = some (Z x) := aLoad1_of h rfl
  have l1 : aLoad1 (Z (.ptr i 1)) s.get = some (I .i64 A) := aLoad1_of h rfl
  have l2 : aLoad1 (Z (.ptr i 2)) s.get = some (I .i64 E) := aLoad1_of h rfl
  have c1 : ¬ A + (k : Int) < 0 := by omega
  have c2 : ¬ E < A + (k : Int) := by omega
  have c3 : ¬ A + (k : Int) ≤ A := by omega
  have w1 : IntKind.i64.wrap (A + k - A) = (k : Int) := by rw [wrap_in _ (by omega) (by omega)]; omega
  obtain ⟨Q, hQ⟩ : ∃ Q, Q = A + (k : Int) := ⟨_, rfl⟩
  rw [← hQ] at c1 c2 c3 w1 ⊢
  have t1 : aStore 1 (Z (.ptr i 0)) (Z z) s = some (tt, s.set i (.cells true (cS z A E W D N))) := st_at h (j := 0) (by omega)
  obtain ⟨s1, hs1⟩ : ∃ s1, s1 = s.set i (.cells true (cS z A E W D N)) := ⟨_, rfl⟩
  have g1 : s1.get i = some (.cells true (cS z A E W D N)) := by rw [hs1]; exact St.get_set_same _ _ _
  rw [← hs1] at t1
  have t2 : aStore 1 (Z (.ptr i 1)) (I .i64 Q) s1 = some (tt, s1.set i (.cells true (cS z Q E W D N))) := st_at g1 (j := 1) (by omega)
  obtain ⟨s2, hs2⟩ : ∃ s2, s2 = s1.set i (.cells true (cS z Q E W D N)) := ⟨_, rfl⟩
  have g2 : s2.get i = some (.cells true (cS z Q E W D N)) := by rw [hs2]; exact St.get_set_same _ _ _
  rw [← hs2] at t2
  have t3 : aStore 1 (Z (.ptr i 3)) (I .i64 2) s2 = some (tt, s2.set i (.cells true (cS z Q E 2 D N))) := st_at g2 (j := 3) (by omega)
  obtain ⟨s3, hs3⟩ : ∃ s3, s3 = s2.set i (.cells true (cS z Q E 2 D N)) := ⟨_, rfl⟩
  have g3 : s3.get i = some (.cells true (cS z Q E 2 D N)) := by rw [hs3]; exact St.get_set_same _ _ _
  rw [← hs3] at t3
  have t4 : aStore 1 (Z (.ptr i 4)) (I .i64 (-1)) s3 = some (tt, s3.set i (.cells true (cS z Q E 2 (-1) N))) := st_at g3 (j := 4) (by omega)
  obtain ⟨s4, hs4⟩ : ∃ s4, s4 = s3.set i (.cells true (cS z Q E 2 (-1) N)) := ⟨_, rfl⟩
  have g4 : s4.get i = some (.cells true (cS z Q E 2 (-1) N)) := by rw [hs4]; exact St.get_set_same _ _ _
  rw [← hs4] at t4
  have m2 : aLoad1 (Z (.ptr i 2)) s4.get = some (I .i64 E) := aLoad1_of g4 rfl
  have m1 : aLoad1 (Z (.ptr i 1)) s4.get = some (I .i64 Q) := aLoad1_of g4 rfl
  have m5 : aLoad1 (Z (.ptr i 5)) s4.get = some (I .i64 N) := aLoad1_of g4 rfl
  have m3 : aLoad1 (Z (.ptr i 3)) s4.get = some (I .i64 2) := aLoad1_of g4 rfl
  have w2 : IntKind.i64.wrap (N + 2) = N + 2 := wrap_in _ (by omega) (by omega)
  have t5 : aStore 1 (Z (.ptr i 4)) (I .i64 (N + 2)) s4 = some (tt, s4.set i (.cells true (cS z Q E 2 (N + 2) N))) := st_at g4 (j := 4) (by omega)
  have old4 : ∀ c, c ≠ i → s4.get c = s.get c := fun c hc => by rw [hs4, St.get_set_ne _ _ hc, hs3, St.get_set_ne _ _ hc, hs2, St.get_set_ne _ _ hc, hs1, St.get_set_ne _ _ hc]
  have z4 : s4.size = s.size := by rw [hs4, hs3, hs2, hs1]; rfl
  have wf4 : s4.wf := by rw [hs4, hs3, hs2, hs1]; exact St.wf_set (St.wf_set (St.wf_set (St.wf_set wf hi _) hi _) hi _) hi _
  by_cases hlt : Q < E
  · refine ⟨z, s4.set i (.cells true (cS z Q E 2 (N + 2) N)), ?_, by rw [St.get_set_same, if_pos hlt], St.wf_set wf4 (by omega) _, by simpa using z4, fun c hc => by rw [St.get_set_ne _ _ hc]; exact old4 c hc, rz⟩
    rw [f19_run]
    unfold f19
    generalize (k : Int) = KK at *
    simp [c1, l2, c2, l1, c3, l0, w1, ep, t1, t2, t3, t4, m2, m1, hlt, m5, m3, w2, t5]
  · refine ⟨z, s4, ?_, by rw [if_neg hlt]; exact g4, wf4, z4, old4, rz⟩
    rw [f19_run]
    unfold f19
    generalize (k : Int) = KK at *
    simp [c1, l2, c2, l1, c3, l0, w1, ep, t1, t2, t3, t4, m2, m1, hlt]
end
end Go.Proofs.Ytoibllpfjnicfaa


/-
  What the sender's Out does, in any store. No conditions but those named in each line.
-/
namespace Go.Proofs.Ytoibllpfjnicfaa
open Go Go.Abs Go.Abs.F
set_option linter.unusedVariables false

def numsF : Nat → Int → List Int
  | 0, _ => []
  | k + 1, e => (e + 1) :: numsF k (e + 1)
theorem numsF_len : ∀ (k : Nat) (e : Int), (numsF k e).length = k
  | 0, _ => rfl
  | k + 1, e => by simp [numsF, numsF_len k]
theorem numsF_mem : ∀ (k : Nat) (e : Int) (q : Int), q ∈ numsF k e → e < q ∧ q ≤ e + k
  | 0, _, q, h => by cases h
  | k + 1, e, q, h => by
    rcases List.mem_cons.1 h with rfl | h
    · omega
    · have := numsF_mem k (e + 1) q h
      omega

def iS (l : List Int) : List S := l.map (S.int .i64)
@[simp] theorem iS_len (l : List Int) : (iS l).length = l.length := by simp [iS]
theorem iS_app (a b : List Int) : iS (a ++ b) = iS a ++ iS b := by simp [iS]

abbrev rings (D T0 : Int) : Prop := D ≠ -1 ∧ D ≤ T0
def wait1 (W D T0 : Int) : Int := if rings D T0 then min (2 * W) 16 else W
def due1 (W D T0 : Int) : Int := if rings D T0 then T0 + min (2 * W) 16 else D
def new1 (A E : Int) (n : Nat) : Nat := (min (A + n) (A + 8) - E).toNat
def list1 (A E D T0 : Int) (n : Nat) : List Int := (if rings D T0 then [A + 1] else []) ++ numsF (new1 A E n) E
def due2 (A E W D T0 : Int) (n : Nat) : Int := if due1 W D T0 = -1 ∧ A < E + new1 A E n then T0 + wait1 W D T0 else due1 W D T0

section
variable {s t u : St} {i : Nat} {x y : S} {A E W D N T0 : Int} {l : List Bs}

theorem out_loop (r : CallF) (x : S) (A W D N : Int) (n : Nat) (hlen : aLenSl (Z x) = some (I .i64 n)) (hn : n ≤ 1000) (hA0 : 0 ≤ A) (hA1 : A ≤ 1000000) (s0 : St) (hi0 : i < s0.size) :
    ∀ (k : Nat) (E : Int) (out : List Int) (y : S) (s : St) (F : Nat), s.wf → s.get i = some (.cells true (cS x A E W D N)) → A ≤ E → E ≤ A + 8 → E ≤ A + n → new1 A E n = k → Ow 1 s y out.length (iS out) → (∀ c, own y = some c → s0.size ≤ c) → out.length + k ≤ 1000 →
      s0.size ≤ s.size → (∀ c, c < s0.size → c ≠ i → s.get c = s0.get c) → k < F →
      ∃ y' τ, loops (f17_l1 r 8192) F [Z (.ptr i 0), Z y] s = some (.exit 0 [Z (.ptr i 0), Z y'], τ) ∧ τ.wf ∧ τ.get i = some (.cells true (cS x A (E + k) W D N)) ∧ Ow 1 τ y' (out ++ numsF k E).length (iS (out ++ numsF k E)) ∧ (∀ c, own y' = some c → s0.size ≤ c) ∧ s0.size ≤ τ.size ∧
        ∀ c, c < s0.size → c ≠ i → τ.get c = s0.get c := by
  intro k
  induction k with
  | zero =>
    intro E out y s F wf h hE0 hE1 hE2 hk how hoy hlo hsz hold hF
    obtain ⟨F, rfl⟩ : ∃ M, F = M + 1 := ⟨F - 1, by omega⟩
    have l0 : aLoad1 (Z (.ptr i 0)) s.get = some (Z x) := aLoad1_of h rfl
    have l1 : aLoad1 (Z (.ptr i 1)) s.get = some (I .i64 A) := aLoad1_of h rfl
    have l2 : aLoad1 (Z (.ptr i 2)) s.get = some (I .i64 E) := aLoad1_of h rfl
    have w1 : IntKind.i64.wrap (A + n) = A + n := wrap_in _ (by omega) (by omega)
    have w2 : IntKind.i64.wrap (A + 8) = A + 8 := wrap_in _ (by omega) (by omega)
    refine ⟨y, s, ?_, wf, by simpa using h, by simpa [numsF] using how, hoy, hsz, hold⟩
    rw [loops]
    unfold new1 at hk
    have e : f17_l1 r 8192 [Z (.ptr i 0), Z y] s = some (.exit 0 [Z (.ptr i 0), Z y], s) := by
      unfold f17_l1
      by_cases c1 : E < A + n
      · have c2 : A + 8 ≤ E := by omega
        generalize (n : Int) = NN at *
        simp [l2, l1, l0, hlen, w1, c1, w2, c2]
      · generalize (n : Int) = NN at *
        simp [l2, l1, l0, hlen, w1, c1]
    rw [e]
  | succ k ih =>
    intro E out y s F wf h hE0 hE1 hE2 hk how hoy hlo hsz hold hF
    obtain ⟨F, rfl⟩ : ∃ M, F = M + 1 := ⟨F - 1, by omega⟩
    have hi := wf.lt h
    have l0 : aLoad1 (Z (.ptr i 0)) s.get = some (Z x) := aLoad1_of h rfl
    have l1 : aLoad1 (Z (.ptr i 1)) s.get = some (I .i64 A) := aLoad1_of h rfl
    have l2 : aLoad1 (Z (.ptr i 2)) s.get = some (I .i64 E) := aLoad1_of h rfl
    have w1 : IntKind.i64.wrap (A + n) = A + n := wrap_in _ (by omega) (by omega)
    have w2 : IntKind.i64.wrap (A + 8) = A + 8 := wrap_in _ (by omega) (by omega)
    have w3 : IntKind.i64.wrap (E + 1) = E + 1 := wrap_in _ (by omega) (by omega)
    have hk' := hk
    unfold new1 at hk'
    have c1 : E < A + n := by omega
    have c2 : ¬ A + 8 ≤ E := by omega
    have t1 : aStore 1 (Z (.ptr i 2)) (I .i64 (E + 1)) s = some (tt, s.set i (.cells true (cS x A (E + 1) W D N))) := st_at h (j := 2) (by omega)
    obtain ⟨s1, hs1⟩ : ∃ s1, s1 = s.set i (.cells true (cS x A (E + 1) W D N)) := ⟨_, rfl⟩
    rw [← hs1] at t1
    have g1 : s1.get i = some (.cells true (cS x A (E + 1) W D N)) := by rw [hs1]; exact St.get_set_same _ _ _
    have wf1 : s1.wf := by rw [hs1]; exact St.wf_set wf hi _
    have z1 : s1.size = s.size := by rw [hs1]; rfl
    have m2 : aLoad1 (Z (.ptr i 2)) s1.get = some (I .i64 (E + 1)) := aLoad1_of g1 rfl
    have L := Fr.lit 1 wf1 (n := 1) (vs := [S.int .i64 (E + 1)]) rfl
    have nw : aNew s1 (nSlice 1 (aFill [.int .i64 0] [(0, 1, I .i64 (E + 1))])) = some (Z (.sl s1.size 0 1 (.known 1)), s1.push (.cells true [S.int .i64 (E + 1)])) := by
      simp [aNew, nSlice, aFill, V.cells, setRange]
    have how1 : Ow 1 s1 y out.length (iS out) := how.keep fun c hc => by rw [hs1, St.get_set_ne _ _ (by have := hoy c hc; omega)]
    obtain ⟨y', s3, ap, wf3, hz3, how3, old3, new3⟩ := (how1.gr wf1 L.gr).append (by_ := 8) L.gr.wf (by omega) L.rd.src rfl (by omega)
    have hz2 : (s1.push (.cells true [S.int .i64 (E + 1)])).size = s1.size + 1 := by simp
    have g3 : s3.get i = some (.cells true (cS x A (E + 1) W D N)) := by rw [old3 i (by omega) (fun e => by have := hoy i e; omega), St.get_push_ne _ _ (by omega)]; exact g1
    have hoy3 : ∀ c, own y' = some c → s0.size ≤ c := fun c hc => by
      rcases new3 with e | e | ⟨c', e, hc'⟩
      · rw [e] at hc; cases hc
      · rw [e] at hc; exact hoy c hc
      · rw [e] at hc; cases hc; omega
    have hold3 : ∀ c, c < s0.size → c ≠ i → s3.get c = s0.get c := fun c h1 h2 => by
      rw [old3 c (by omega) (fun e => by have := hoy c e; omega), St.get_push_ne _ _ (by omega), hs1, St.get_set_ne _ _ h2]
      exact hold c h1 h2
    have hfit : new1 A (E + 1) n = k := by unfold new1; omega
    obtain ⟨y'', τ, lp, q1, q2, q3, q4, q5, q6⟩ := ih (E + 1) (out ++ [E + 1]) y' s3 F wf3 g3 (by omega) (by omega) (by omega) hfit (by rw [iS_app, List.length_append]; exact how3) hoy3 (by simp; omega) (by omega) hold3 (by omega)
    have e : f17_l1 r 8192 [Z (.ptr i 0), Z y] s = some (.normal [Z (.ptr i 0), Z y'], s3) := by
      unfold f17_l1
      generalize (n : Int) = NN at *
      simp [l2, l1, l0, hlen, w1, c1, w2, c2, w3, t1, m2, nw, ap]
    have el : out ++ [E + 1] ++ numsF k (E + 1) = out ++ numsF (k + 1) E := by simp [numsF]
    refine ⟨y'', τ, by rw [loops, e]; exact lp, q1, by rw [q2, show E + 1 + (k : Int) = E + ((k + 1 : Nat) : Int) by omega], by rw [← el]; exact q3, q4, q5, q6⟩

theorem out_run (d : Nat) (wf : s.wf) (h : s.get i = some (.cells true (cS x A E W D N))) (hlen : aLenSl (Z x) = some (I .i64 l.length)) (hl : l.length ≤ 900) (hA0 : 0 ≤ A) (hA1 : A ≤ 1000000) (hE0 : A ≤ E) (hE1 : E ≤ A + 8) (hE2 : E ≤ A + l.length)
    (hW0 : 0 ≤ W) (hW1 : W ≤ 1000) (hN : N ≤ T0) (hT0 : 0 ≤ T0) (hT1 : T0 ≤ 1000000) :
    ∃ y t, R (d + 1) 17 [Z (.ptr i 0), I .i64 T0] s = some (Z y, t) ∧ t.wf ∧ s.size ≤ t.size ∧ t.get i = some (.cells true (cS x A (E + new1 A E l.length) (wait1 W D T0) (due2 A E W D T0 l.length) T0)) ∧
      Rd 1 t y (list1 A E D T0 l.length).length (iS (list1 A E D T0 l.length)) ∧ (∀ c, own y = some c → s.size ≤ c ∧ c < t.size) ∧ ∀ c, c < s.size → c ≠ i → t.get c = s.get c := by
  have hi := wf.lt h
  rw [f17_run]
  unfold f17
  have l5 : aLoad1 (Z (.ptr i 5)) s.get = some (I .i64 N) := aLoad1_of h rfl
  have hmax : max N T0 = T0 := by omega
  have t1 : aStore 1 (Z (.ptr i 5)) (I .i64 T0) s = some (tt, s.set i (.cells true (cS x A E W D T0))) := st_at h (j := 5) (by omega)
  obtain ⟨s1, hs1⟩ : ∃ s1, s1 = s.set i (.cells true (cS x A E W D T0)) := ⟨_, rfl⟩
  rw [← hs1] at t1
  have g1 : s1.get i = some (.cells true (cS x A E W D T0)) := by rw [hs1]; exact St.get_set_same _ _ _
  have wf1 : s1.wf := by rw [hs1]; exact St.wf_set wf hi _
  have z1 : s1.size = s.size := by rw [hs1]; rfl
  have o1 : ∀ c, c ≠ i → s1.get c = s.get c := fun c hc => by rw [hs1, St.get_set_ne _ _ hc]
  have m4 : aLoad1 (Z (.ptr i 4)) s1.get = some (I .i64 D) := aLoad1_of g1 rfl
  have m5 : aLoad1 (Z (.ptr i 5)) s1.get = some (I .i64 T0) := aLoad1_of g1 rfl
  have m1 : aLoad1 (Z (.ptr i 1)) s1.get = some (I .i64 A) := aLoad1_of g1 rfl
  have w1 : IntKind.i64.wrap (A + 1) = A + 1 := wrap_in _ (by omega) (by omega)
  have w2 : IntKind.i64.wrap (2 * W) = 2 * W := wrap_in _ (by omega) (by omega)
  have w3 : IntKind.i64.wrap (T0 + min (2 * W) 16) = T0 + min (2 * W) 16 := wrap_in _ (by omega) (by omega)
  have rest : ∀ (first : List Int) (W1 D1 : Int) (y0 : S) (u : St), u.wf → s.size ≤ u.size → u.get i = some (.cells true (cS x A E W1 D1 T0)) → Ow 1 u y0 first.length (iS first) → (∀ c, own y0 = some c → s.size ≤ c) → first.length ≤ 1 → 0 ≤ W1 → W1 ≤ 1000 →
      (∀ c, c < s.size → c ≠ i → u.get c = s.get c) →
      ∃ y t, loops (f17_l1 (R d) 8192) 8192 [Z (.ptr i 0), Z y0] u = some (.exit 0 [Z (.ptr i 0), Z y], t) ∧ t.wf ∧ t.get i = some (.cells true (cS x A (E + new1 A E l.length) W1 D1 T0)) ∧ Ow 1 t y (first ++ numsF (new1 A E l.length) E).length (iS (first ++ numsF (new1 A E l.length) E)) ∧
        (∀ c, own y = some c → s.size ≤ c) ∧ s.size ≤ t.size ∧ ∀ c, c < s.size → c ≠ i → t.get c = s.get c := by
    intro first W1 D1 y0 u wfu hzu gu how hoy hf hw0 hw1 hold
    have hn8 : new1 A E l.length ≤ 8 := by unfold new1; omega
    exact out_loop (R d) x A W1 D1 T0 l.length hlen (by omega) hA0 hA1 s hi (new1 A E l.length) E first y0 u 8192 wfu gu hE0 hE1 hE2 rfl how hoy (by omega) hzu hold (by omega)
  have fin : ∀ (first : List Int) (W1 D1 : Int) (y : S) (t : St), t.wf → t.get i = some (.cells true (cS x A (E + new1 A E l.length) W1 D1 T0)) → 0 ≤ W1 → W1 ≤ 1000 →
      ∃ t', (bd (aNil (Z (.ptr i 0))) fun t102 => bd (aFieldAddr 4 t102) fun t103 => bd (aLoad1 t103 t.get) fun t104 => bd (aBin .eql t104 (I .i64 (-1))) fun t105 =>
          bd (gT (gd t105 true) (some (Z (.ptr i 0)))) fun t107 => bd (gT (gd t105 true) (aNil t107)) fun t108 => bd (gT (gd t105 true) (aFieldAddr 2 t108)) fun t109 => bd (gT (gd t105 true) (aLoad1 t109 t.get)) fun t110 =>
          bd (gT (gd t105 true) (some (Z (.ptr i 0)))) fun t111 => bd (gT (gd t105 true) (aNil t111)) fun t112 => bd (gT (gd t105 true) (aFieldAddr 1 t112)) fun t113 => bd (gT (gd t105 true) (aLoad1 t113 t.get)) fun t114 =>
          bd (gT (gd t105 true) (aBin .gtr t110 t114)) fun t115 => bd (aPick t105 t115 (B false)) fun t116 =>
          jn (br t116 (bd (aNil (Z (.ptr i 0))) fun t119 => bd (aFieldAddr 5 t119) fun t120 => bd (aLoad1 t120 t.get) fun t121 => bd (aNil (Z (.ptr i 0))) fun t123 => bd (aFieldAddr 3 t123) fun t124 => bd (aLoad1 t124 t.get) fun t125 =>
            bd (aBin .add t121 t125) fun t126 => bd (aNil (Z (.ptr i 0))) fun t127 => bd (aFieldAddr 4 t127) fun t128 => bd2 (aStore 1 t128 t126 t) fun _ s25 => some (.normal [Z y], s25))
            (some (.normal [Z y], t)))
          (fun v26 s27 => some ((v26.getD 0 .any), s27)) (fun i28 v26 s27 => none) (fun r29 s27 => some (r29, s27))) = some (Z y, t') ∧
        t'.wf ∧ t'.size = t.size ∧ t'.get i = some (.cells true (cS x A (E + new1 A E l.length) W1 (if D1 = -1 ∧ A < E + new1 A E l.length then T0 + W1 else D1) T0)) ∧ ∀ c, c ≠ i → t'.get c = t.get c := by
    intro first W1 D1 y t wft gt hw0 hw1
    have hit := wft.lt gt
    have n4 : aLoad1 (Z (.ptr i 4)) t.get = some (I .i64 D1) := aLoad1_of gt rfl
    have n2 : aLoad1 (Z (.ptr i 2)) t.get = some (I .i64 (E + new1 A E l.length)) := aLoad1_of gt rfl
    have n1 : aLoad1 (Z (.ptr i 1)) t.get = some (I .i64 A) := aLoad1_of gt rfl
    have n5 : aLoad1 (Z (.ptr i 5)) t.get = some (I .i64 T0) := aLoad1_of gt rfl
    have n3 : aLoad1 (Z (.ptr i 3)) t.get = some (I .i64 W1) := aLoad1_of gt rfl
    have w4 : IntKind.i64.wrap (T0 + W1) = T0 + W1 := wrap_in _ (by omega) (by omega)
    have t4 : aStore 1 (Z (.ptr i 4)) (I .i64 (T0 + W1)) t = some (tt, t.set i (.cells true (cS x A (E + new1 A E l.length) W1 (T0 + W1) T0))) := st_at gt (j := 4) (by omega)
    by_cases c1 : D1 = -1
    · have d1 := decide_eq_true c1
      by_cases c2 : A < E + new1 A E l.length
      · refine ⟨t.set i (.cells true (cS x A (E + new1 A E l.length) W1 (T0 + W1) T0)), ?_, St.wf_set wft hit _, by simp, by rw [St.get_set_same, if_pos ⟨c1, c2⟩], fun c hc => St.get_set_ne _ _ hc⟩
        generalize E + (new1 A E l.length : Int) = EN at *
        simp [n4, d1, n2, n1, c2, n5, n3, w4, t4]
      · refine ⟨t, ?_, wft, rfl, by rw [if_neg (fun h => c2 h.2)]; exact gt, fun _ _ => rfl⟩
        generalize E + (new1 A E l.length : Int) = EN at *
        simp [n4, d1, n2, n1, c2]
    · refine ⟨t, ?_, wft, rfl, by rw [if_neg (fun h => c1 h.1)]; exact gt, fun _ _ => rfl⟩
      simp [n4, c1]
  by_cases hr : rings D T0
  · -- the timer rings
    have c1 := decide_eq_false hr.1
    have c2 := hr.2
    have e1 : wait1 W D T0 = min (2 * W) 16 := if_pos hr
    have e2 : due1 W D T0 = T0 + min (2 * W) 16 := if_pos hr
    have L := Fr.lit 1 wf1 (n := 1) (vs := [S.int .i64 (A + 1)]) rfl
    have nw : aNew s1 (nSlice 1 (aFill [.int .i64 0] [(0, 1, I .i64 (A + 1))])) = some (Z (.sl s1.size 0 1 (.known 1)), s1.push (.cells true [S.int .i64 (A + 1)])) := by
      simp [aNew, nSlice, aFill, V.cells, setRange]
    obtain ⟨y0, s3, ap, wf3, hz3, how3, old3, new3⟩ := (Ow.nil 1 (s1.push (.cells true [S.int .i64 (A + 1)]))).append (by_ := 8) L.gr.wf (by omega) L.rd.src rfl (by omega)
    have hz2 : (s1.push (.cells true [S.int .i64 (A + 1)])).size = s1.size + 1 := by simp
    have o3 : ∀ c, c < s.size → s3.get c = s1.get c := fun c hc => by rw [old3 c (by omega) (fun e => by cases e), St.get_push_ne _ _ (by omega)]
    have g3 : s3.get i = some (.cells true (cS x A E W D T0)) := by rw [o3 i hi]; exact g1
    have n3 : aLoad1 (Z (.ptr i 3)) s3.get = some (I .i64 W) := aLoad1_of g3 rfl
    have hmin : min (2 * W) 16 = min (2 * W) 16 := rfl
    obtain ⟨W1, hW⟩ : ∃ W1, W1 = min (2 * W) 16 := ⟨_, rfl⟩
    have hb0 : 0 ≤ W1 := by omega
    have hb1 : W1 ≤ 1000 := by omega
    rw [← hW] at e1 e2 w3
    have t3 : aStore 1 (Z (.ptr i 3)) (I .i64 W1) s3 = some (tt, s3.set i (.cells true (cS x A E W1 D T0))) := st_at g3 (j := 3) (by omega)
    obtain ⟨s4, hs4⟩ : ∃ s4, s4 = s3.set i (.cells true (cS x A E W1 D T0)) := ⟨_, rfl⟩
    rw [← hs4] at t3
    have g4 : s4.get i = some (.cells true (cS x A E W1 D T0)) := by rw [hs4]; exact St.get_set_same _ _ _
    have n5 : aLoad1 (Z (.ptr i 5)) s4.get = some (I .i64 T0) := aLoad1_of g4 rfl
    have n3' : aLoad1 (Z (.ptr i 3)) s4.get = some (I .i64 W1) := aLoad1_of g4 rfl
    have t4 : aStore 1 (Z (.ptr i 4)) (I .i64 (T0 + W1)) s4 = some (tt, s4.set i (.cells true (cS x A E W1 (T0 + W1) T0))) := st_at g4 (j := 4) (by omega)
    obtain ⟨s5, hs5⟩ : ∃ s5, s5 = s4.set i (.cells true (cS x A E W1 (T0 + W1) T0)) := ⟨_, rfl⟩
    rw [← hs5] at t4
    have g5 : s5.get i = some (.cells true (cS x A E W1 (T0 + W1) T0)) := by rw [hs5]; exact St.get_set_same _ _ _
    have o5 : ∀ c, c ≠ i → s5.get c = s3.get c := fun c hc => by rw [hs5, St.get_set_ne _ _ hc, hs4, St.get_set_ne _ _ hc]
    have z5 : s5.size = s3.size := by rw [hs5, hs4]; rfl
    have wf5 : s5.wf := by rw [hs5, hs4]; exact St.wf_set (St.wf_set wf3 (by omega) _) (by simp; omega) _
    have hoy0 : ∀ c, own y0 = some c → s.size ≤ c := fun c hc => by
      rcases new3 with e | e | ⟨c', e, hc'⟩
      · rw [e] at hc; cases hc
      · rw [e] at hc; cases hc
      · rw [e] at hc; cases hc; omega
    obtain ⟨y, t, lp, q1, q2, q3, q4, q5, q6⟩ := rest [A + 1] W1 (T0 + W1) y0 s5 wf5 (by omega) g5 (by simpa [iS] using how3.keep fun c hc => o5 c (by have := hoy0 c hc; omega)) hoy0 (by simp) hb0 hb1 (fun c h1 h2 => by rw [o5 c h2, o3 c h1, o1 c h2])
    obtain ⟨t', ef, p1, p2, p3, p4⟩ := fin [A + 1] W1 (T0 + W1) y t q1 q2 hb0 hb1
    have el : list1 A E D T0 l.length = [A + 1] ++ numsF (new1 A E l.length) E := by unfold list1; rw [if_pos hr]
    have ed : due2 A E W D T0 l.length = if T0 + W1 = -1 ∧ A < E + new1 A E l.length then T0 + W1 else T0 + W1 := by unfold due2; rw [e2, e1]
    refine ⟨y, t', ?_, p1, by omega, by rw [p3, e1, ed], ?_, fun c hc => ⟨q4 c hc, by rw [p2]; exact q3.lt q1 hc⟩, fun c h1 h2 => by rw [p4 c h2]; exact q6 c h1 h2⟩
    · generalize R d = r at *
      subst hW
      simp [l5, hmax, t1, m4, c1, m5, c2, m1, w1, nw, ap, n3, w2, t3, n5, n3', w3, t4, lp]
      exact ef
    · rw [el]
      exact (q3.keep fun c hc => p4 c (by have := q4 c hc; omega)).rd
  · have e1 : wait1 W D T0 = W := if_neg hr
    have e2 : due1 W D T0 = D := if_neg hr
    obtain ⟨y, t, lp, q1, q2, q3, q4, q5, q6⟩ := rest [] W D .nils s1 wf1 (by omega) g1 (Ow.nil 1 s1) (fun c hc => by cases hc) (by simp) hW0 hW1 (fun c h1 h2 => o1 c h2)
    obtain ⟨t', ef, p1, p2, p3, p4⟩ := fin [] W D y t q1 q2 hW0 hW1
    have el : list1 A E D T0 l.length = [] ++ numsF (new1 A E l.length) E := by unfold list1; rw [if_neg hr]
    have ed : due2 A E W D T0 l.length = if D = -1 ∧ A < E + new1 A E l.length then T0 + W else D := by unfold due2; rw [e2, e1]
    refine ⟨y, t', ?_, p1, by omega, by rw [p3, e1, ed], ?_, fun c hc => ⟨q4 c hc, by rw [p2]; exact q3.lt q1 hc⟩, fun c h1 h2 => by rw [p4 c h2]; exact q6 c h1 h2⟩
    · generalize R d = r at *
      by_cases c1 : D = -1
      · have d1 := decide_eq_true c1
        simp [l5, hmax, t1, m4, d1, lp]
        exact ef
      · have c2 : ¬ D ≤ T0 := fun h => hr ⟨c1, h⟩
        simp [l5, hmax, t1, m4, c1, m5, c2, lp]
        exact ef
    · rw [el]
      exact (q3.keep fun c hc => p4 c (by have := q4 c hc; omega)).rd
end
end Go.Proofs.Ytoibllpfjnicfaa


/-
  A stream, plain law: what Take tells when each number's body is its own byte; when the timer rings. No program in sight; no conditions but those named in each line.
-/
namespace Go.Proofs.Ytoibllpfjnicfaa
open Go Go.Abs Go.Abs.F
set_option linter.unusedVariables false

def bodyOf (q : Int) : Bs := [UInt8.ofNat q.toNat]
def bods (n : Int) : Nat → List Bs
  | 0 => []
  | k + 1 => bodyOf (n + 1) :: bods (n + 1) k
theorem bods_len : ∀ (k : Nat) (n : Int), (bods n k).length = k
  | 0, _ => rfl
  | k + 1, n => by simp [bods, bods_len k]
theorem bods_get : ∀ (k : Nat) (n : Int) (j : Nat), j < k → (bods n k)[j]? = some (bodyOf (n + 1 + j))
  | k + 1, n, 0, _ => by simp [bods]
  | k + 1, n, j + 1, h => by
    have := bods_get k (n + 1) j (by omega)
    simp only [bods, List.getElem?_cons_succ]
    rw [this, show n + 1 + 1 + (j : Int) = n + 1 + ((j + 1 : Nat) : Int) by omega]
theorem bods_snoc : ∀ (k : Nat) (n : Int), bods n (k + 1) = bods n k ++ [bodyOf (n + 1 + k)]
  | 0, n => by simp [bods]
  | k + 1, n => by
    have := bods_snoc k (n + 1)
    rw [show bods n (k + 1 + 1) = bodyOf (n + 1) :: bods (n + 1) (k + 1) from rfl, this, show bods n (k + 1) = bodyOf (n + 1) :: bods (n + 1) k from rfl, show n + 1 + 1 + (k : Int) = n + 1 + ((k + 1 : Nat) : Int) by omega]
    rfl
theorem bods_drop : ∀ (j k : Nat) (n : Int), j ≤ k → (bods n k).drop j = bods (n + j) (k - j)
  | 0, k, n, _ => by simp
  | j + 1, k + 1, n, h => by
    have := bods_drop j k (n + 1) (by omega)
    rw [show bods n (k + 1) = bodyOf (n + 1) :: bods (n + 1) k from rfl, List.drop_succ_cons, this, show n + 1 + (j : Int) = n + ((j + 1 : Nat) : Int) by omega, show k - j = k + 1 - (j + 1) by omega]

structure KOk (G E : Int) (K : Kp) : Prop where
  ge : G ≤ E
  body : ∀ p ∈ K, p.2 = bodyOf p.1 ∧ p.1 ≤ E
  front : getK (G + 1) K = none

theorem getK_mem (x : Int) : ∀ {K : Kp} {b : Bs}, getK x K = some b → (x, b) ∈ K
  | [], b, h => by cases h
  | p :: r, b, h => by
    unfold getK at h
    by_cases hx : p.1 = x
    · rw [if_pos hx] at h
      cases h
      rw [← hx]
      exact List.mem_cons_self
    · rw [if_neg hx] at h
      exact List.mem_cons_of_mem _ (getK_mem x h)
theorem delK_sub (x : Int) : ∀ {K : Kp} {p : Int × Bs}, p ∈ delK x K → p ∈ K
  | [], p, h => h
  | q :: r, p, h => by
    unfold delK at h
    by_cases hx : q.1 = x
    · rw [if_pos hx] at h; exact List.mem_cons_of_mem _ h
    · rw [if_neg hx] at h
      rcases List.mem_cons.1 h with h | h
      · exact h ▸ List.mem_cons_self
      · exact List.mem_cons_of_mem _ (delK_sub x h)
theorem getK_app_new (x : Int) (b : Bs) : ∀ {K : Kp}, getK x K = none → getK x (K ++ [(x, b)]) = some b
  | [], _ => by simp [getK]
  | p :: r, h => by
    unfold getK at h
    by_cases hx : p.1 = x
    · rw [if_pos hx] at h; cases h
    · rw [if_neg hx] at h
      show (if p.1 = x then some p.2 else getK x (r ++ [(x, b)])) = some b
      rw [if_neg hx]
      exact getK_app_new x b h

theorem pop_facts (E : Int) : ∀ (f : Nat) (n : Int) (K : Kp) (out : List Bs) (n0 : Int) (j : Nat), K.length ≤ f → n ≤ E → (∀ p ∈ K, p.2 = bodyOf p.1 ∧ p.1 ≤ E) → n = n0 + j → out = bods n0 j →
    KOk (popM f n K out).1 E (popM f n K out).2.1 ∧ n ≤ (popM f n K out).1 ∧ (popM f n K out).2.1.length ≤ K.length ∧ ∃ j' : Nat, (popM f n K out).1 = n0 + j' ∧ (popM f n K out).2.2 = bods n0 j' ∧ j ≤ j' ∧ (getK (n + 1) K ≠ none → j < j')
  | 0, n, K, out, n0, j, hk, hn, hb, hj, ho => by
    have : K = [] := List.eq_nil_of_length_eq_zero (by omega)
    subst this
    exact ⟨⟨hn, hb, rfl⟩, Int.le_refl _, Nat.le_refl _, j, hj, ho, Nat.le_refl _, fun h => absurd rfl h⟩
  | f + 1, n, K, out, n0, j, hk, hn, hb, hj, ho => by
    unfold popM
    cases hg : getK (n + 1) K with
    | none => exact ⟨⟨hn, hb, hg⟩, Int.le_refl _, Nat.le_refl _, j, hj, ho, Nat.le_refl _, fun h => absurd rfl h⟩
    | some b =>
      have hm := getK_mem _ hg
      obtain ⟨h1, h2⟩ := hb _ hm
      have hl := delK_len _ hg
      have ho' : out ++ [b] = bods n0 (j + 1) := by
        rw [bods_snoc, ho, show n0 + 1 + (j : Int) = n + 1 by omega]
        simp only at h1
        rw [h1]
      dsimp only
      obtain ⟨a1, a2, a3, j', a4, a5, a6, _⟩ := pop_facts E f (n + 1) (delK (n + 1) K) (out ++ [b]) n0 (j + 1) (by omega) h2 (fun p hp => hb p (delK_sub _ hp)) (by omega) ho'
      exact ⟨a1, by omega, by omega, j', a4, a5, by omega, fun _ => by omega⟩

theorem take_facts {G E q : Int} {K : Kp} (h : KOk G E K) (h0 : 0 ≤ G) (hq : 1 ≤ q) (hqE : q ≤ E) (hq8 : q ≤ G + 8) :
    (takeM G K q (bodyOf q)).2 = 0 ∧ KOk (takeM G K q (bodyOf q)).1.1 E (takeM G K q (bodyOf q)).1.2.1 ∧ (takeM G K q (bodyOf q)).1.2.1.length ≤ K.length + 1 ∧
      ∃ j : Nat, (takeM G K q (bodyOf q)).1.1 = G + j ∧ (takeM G K q (bodyOf q)).1.2.2 = bods G j ∧ (q = G + 1 → 0 < j) := by
  unfold takeM
  rw [if_neg (by rintro (h | h | h) <;> first | omega | (simp [bodyOf] at h))]
  by_cases hc : (getK q K).isSome ∨ q ≤ G
  · rw [if_pos hc]
    refine ⟨rfl, h, Nat.le_succ _, 0, by simp, rfl, fun e => ?_⟩
    exfalso
    rcases hc with hc | hc
    · rw [e, h.front] at hc; cases hc
    · omega
  · rw [if_neg hc]
    have hg : getK q K = none := by
      cases hg : getK q K with
      | none => rfl
      | some b => exact absurd (.inl (by rw [hg]; rfl)) hc
    obtain ⟨a1, a2, a3, j', a4, a5, a6, a7⟩ := pop_facts E (K.length + 1) G (K ++ [(q, bodyOf q)]) [] G 0 (by simp) h.ge (by
      intro p hp
      rcases List.mem_append.1 hp with hp | hp
      · exact h.body p hp
      · rw [List.mem_singleton] at hp
        subst hp
        exact ⟨rfl, hqE⟩) (by simp) rfl
    refine ⟨rfl, a1, by simpa using a3, j', a4, a5, fun e => a7 ?_⟩
    subst e
    rw [getK_app_new _ _ hg]
    simp

theorem KOk.up {G E E' : Int} {K : Kp} (h : KOk G E K) (hE : E ≤ E') : KOk G E' K := ⟨by have := h.ge; omega, fun p hp => ⟨(h.body p hp).1, by have := (h.body p hp).2; omega⟩, h.front⟩

structure SOk (k A E W D N : Int) : Prop where
  a0 : 0 ≤ A
  ae : A ≤ E
  e8 : E ≤ A + 8
  ek : E ≤ k
  w0 : 2 ≤ W
  w1 : W ≤ 16
  d0 : D = -1 ∨ (0 ≤ D ∧ D ≤ N + 16)
  dn : D ≠ -1 ↔ A < E
  n0 : 0 ≤ N

theorem out_facts {k A E W D N T0 : Int} (h : SOk k A E W D N) (n : Nat) (hn : (n : Int) = k - A) (hNT : N ≤ T0) (hA : A < k) :
    SOk k A (E + new1 A E n) (wait1 W D T0) (due2 A E W D T0 n) T0 ∧ A < E + new1 A E n ∧ (∀ q ∈ list1 A E D T0 n, A < q ∧ q ≤ E + new1 A E n) ∧ ((D ≤ T0) → A + 1 ∈ list1 A E D T0 n) ∧
      (T0 < D → due2 A E W D T0 n = D) := by
  obtain ⟨h1, h2, h3, h4, h5, h6, h7, h8, h9⟩ := h
  have hn0 := hn
  have hnew : E + new1 A E n = min k (A + 8) := by unfold new1; omega
  have hlt : A < E + new1 A E n := by omega
  have hwait : 2 ≤ wait1 W D T0 ∧ wait1 W D T0 ≤ 16 := by unfold wait1; split <;> omega
  have hdue : (due2 A E W D T0 n = -1 → False) ∧ 0 ≤ due2 A E W D T0 n ∧ due2 A E W D T0 n ≤ T0 + 16 := by
    unfold due2
    split
    · omega
    · rename_i hc
      have hd : due1 W D T0 ≠ -1 := fun e => hc ⟨e, hlt⟩
      unfold due1 at hd ⊢
      split
      · omega
      · rename_i hr
        rw [if_neg hr] at hd
        omega
  refine ⟨⟨h1, by omega, by omega, by omega, hwait.1, hwait.2, .inr ⟨hdue.2.1, hdue.2.2⟩, ⟨fun _ => hlt, fun _ => hdue.1⟩, by omega⟩, hlt, fun q hq => ?_, fun hd => ?_, fun hd => ?_⟩
  · unfold list1 at hq
    rcases List.mem_append.1 hq with hq | hq
    · split at hq
      · rw [List.mem_singleton] at hq
        omega
      · cases hq
    · have := numsF_mem _ _ _ hq
      omega
  · unfold list1
    by_cases hD : D = -1
    · have hE : ¬ A < E := fun h => (h8.2 h) hD
      have : E = A := by omega
      subst this
      obtain ⟨c, hc⟩ : ∃ c, new1 E E n = c + 1 := ⟨new1 E E n - 1, by omega⟩
      rw [hc]
      exact List.mem_append_right _ (by simp [numsF])
    · rw [if_pos ⟨hD, hd⟩]
      simp
  · have hr : ¬ rings D T0 := fun h => by have := h.2; omega
    have e1 : due1 W D T0 = D := if_neg hr
    unfold due2
    rw [e1, if_neg (by omega)]

theorem ack_facts {k A E W D N : Int} (h : SOk k A E W D N) {c : Nat} (hc : 0 < c) (hcE : A + c ≤ E) : SOk k (A + c) E 2 (if A + c < E then N + 2 else -1) N := by
  obtain ⟨h1, h2, h3, h4, h5, h6, h7, h8, h9⟩ := h
  by_cases hl : A + c < E
  · rw [if_pos hl]
    exact ⟨by omega, by omega, by omega, h4, by omega, by omega, .inr (by omega), ⟨fun _ => hl, fun _ => by omega⟩, h9⟩
  · rw [if_neg hl]
    exact ⟨by omega, by omega, by omega, h4, by omega, by omega, .inl rfl, ⟨fun h => absurd rfl h, fun h => absurd h hl⟩, h9⟩
end Go.Proofs.Ytoibllpfjnicfaa


/-
  RecvStream gives true, whatever its arguments. No conditions.
-/
namespace Go.Proofs.Ytoibllpfjnicfaa
open Go Go.Abs Go.Abs.F
set_option linter.unusedVariables false

theorem and15 : ∀ i, i < 16 → aBin .and (I .i64 ((i : Nat) : Int)) (I .i64 15) = some (I .i64 ((i : Nat) : Int)) := by decide +kernel

theorem bit_of (a : Int) (i : Nat) (hi : i < 63) : ∃ x b, aBin .shr (I .i64 a) (I .u64 (i : Nat)) = some (I .i64 x) ∧ aBin .and (I .i64 x) (I .i64 1) = some (I .i64 b) := by
  obtain ⟨x, y, b, h1, _, h3, _⟩ := bit_low a a i hi rfl
  exact ⟨x, _, h1, rfl⟩
theorem bit_zero (i : Nat) (hi : i < 63) : aBin .shr (I .i64 0) (I .u64 (i : Nat)) = some (I .i64 0) := by
  have := shr_nat .i64 0 i (by simp [IntKind.bits]; omega)
  simpa using this

section
variable {s u : St} {lo hi : Nat} {y : S} {G : Int}

theorem tell_loop (r : CallF) (v0 v1 v2 v3 v5 v6 v7 : T) {j : Nat} (ho : OutB s lo hi y (bods G j)) (h0 : 0 ≤ G) (h1 : G ≤ 1000000) (hj : j ≤ 7000) :
    loops (f6_l4 r 8192) 8192 [v0, v1, v2, v3, I .i64 G, v5, v6, v7, Z y, I .i64 0] s = some (.exit 6 [v0, v1, v2, v3, I .i64 (G + j), v5, v6, v7], s) := by
  obtain ⟨ys, how, hall⟩ := ho.ex
  have hlen := how.rd.lens
  rw [bods_len] at hlen
  obtain ⟨q, t, h, hq, ht⟩ := loops_inv (f := f6_l4 r 8192) (fun q v t => ∃ n : Nat, q + n = j ∧ v = [v0, v1, v2, v3, I .i64 (G + n), v5, v6, v7, Z y, I .i64 n] ∧ t = s)
    (fun q t => q = .exit 6 [v0, v1, v2, v3, I .i64 (G + j), v5, v6, v7] ∧ t = s) (by
    rintro q v t ⟨n, hn, rfl, rfl⟩
    by_cases hnj : n < j
    · left
      have hb := bods_get j G n hnj
      obtain ⟨z, hz, rb, _⟩ := forall2_get hall n _ hb
      obtain ⟨p, ix, ld⟩ := how.rd.at1 (j := n) (i := (n : Int)) rfl hz
      have lz : aLenSl (Z z) = some (I .i64 1) := rb.lenB
      obtain ⟨p2, ix2, ld2⟩ := rb.atB (j := 0) (n := 0) rfl (c := UInt8.ofNat (G + 1 + n).toNat) rfl
      have c0 : (n : Int) < (j : Int) := by omega
      have w1 : IntKind.i64.wrap (G + n + 1) = G + ((n + 1 : Nat) : Int) := by rw [wrap_in _ (by omega) (by omega)]; omega
      have w2 : IntKind.i64.wrap ((n : Int) + 1) = ((n + 1 : Nat) : Int) := by rw [wrap_in _ (by omega) (by omega)]; omega
      have w3 : IntKind.u8.wrap (G + ((n + 1 : Nat) : Int)) = ((UInt8.ofNat (G + 1 + n).toNat).toNat : Int) := by
        have : G + ((n + 1 : Nat) : Int) = (((G + 1 + n).toNat : Nat) : Int) := by omega
        rw [this, wrap8, byte_nat]
      refine ⟨[v0, v1, v2, v3, I .i64 (G + ((n + 1 : Nat) : Int)), v5, v6, v7, Z y, I .i64 ((n + 1 : Nat) : Int)], t, q - 1, ?_, by omega, n + 1, by omega, rfl, rfl⟩
      unfold f6_l4
      generalize G + ((n + 1 : Nat) : Int) = G1 at *
      generalize ((n + 1 : Nat) : Int) = N1 at *
      generalize ((UInt8.ofNat (G + 1 + n).toNat).toNat : Int) = BT at *
      generalize (j : Int) = J at *
      generalize G + (n : Int) = GN at *
      generalize (n : Int) = NN at *
      simp [hlen, c0, w1, ix, ld, lz, ix2, ld2, w3, w2]
    · right
      have : n = j := by omega
      subst this
      refine ⟨_, t, ?_, (fun v hv => by cases hv), rfl, rfl⟩
      unfold f6_l4
      generalize G + (n : Int) = GN at *
      simp [hlen]) 8192 j [v0, v1, v2, v3, I .i64 G, v5, v6, v7, Z y, I .i64 0] s ⟨0, by omega, by simp, rfl⟩ (by omega)
  rw [h, hq, ht]
end

structure Fixed (s0 : St) (xL : S) (is : List Int) (si ri m lo : Nat) (Q : Nat → Prop) : Prop where
  lose : Rd 1 s0 xL is.length (is.map (S.int .i64))
  loseq : ∀ c, own xL = some c → c < s0.size ∧ c ≠ si ∧ c ≠ ri ∧ c ≠ m
  q : ∀ c, Q c → c < s0.size ∧ c ≠ si ∧ c ≠ ri ∧ c ≠ m
  hsi : si < s0.size
  slo : si < lo
  hsr : si ≠ ri
  hsm : si ≠ m
  rlt : ri < s0.size
  mlt : m < s0.size

structure Inv (s0 : St) (si ri m lo : Nat) (Q : Nat → Prop) (k : Nat) (u : St) (x : S) (A E W D N G : Int) (K : Kp) : Prop where
  wf : u.wf
  siz : s0.size ≤ u.size
  snd : u.get si = some (.cells true (cS x A E W D N))
  bod : RdB u Q x (bods A (k - A).toNat)
  rcv : HasB u ri m lo u.size G K
  kok : KOk G E K
  sok : SOk k A E W D N
  ag : A ≤ G
  old : ∀ c, c < s0.size → c ≠ si → c ≠ ri → c ≠ m → u.get c = s0.get c

section
variable {s0 u : St} {xL x : S} {is : List Int} {si ri m lo : Nat} {Q : Nat → Prop} {k : Nat} {A E W D N G T0 : Int} {K : Kp}

theorem Fixed.rdl (F : Fixed s0 xL is si ri m lo Q) (ho : ∀ c, c < s0.size → c ≠ si → c ≠ ri → c ≠ m → u.get c = s0.get c) : Rd 1 u xL is.length (is.map (S.int .i64)) :=
  F.lose.keep fun c hc => by obtain ⟨h1, h2, h3, h4⟩ := F.loseq c hc; exact ho c h1 h2 h3 h4

theorem deliver (F : Fixed s0 xL is si ri m lo Q) (I0 : Inv s0 si ri m lo Q k u x A E W D N G K) (hk : k ≤ 30) {t : Nat} (ht : t < 400) {yl : S} {ql : List Int} (hyl : Rd 1 u yl ql.length (iS ql)) (hyo : ∀ c, own yl = some c → c < u.size ∧ c ≠ ri ∧ c ≠ m) (hql : ql.length ≤ 9)
    (hq : ∀ q ∈ ql, A < q ∧ q ≤ E) (hK : K.length ≤ 9 * t) :
    ∃ (G' : Int) (K' : Kp) (u' : St), loops (f6_l3 (R 10) 8192) 8192 [Z xL, Z (.ptr si 0), Z (.ptr ri 0), I .i64 k, I .i64 G, I .i64 t, Z yl, I .i64 ((ql.length : Int) - 1)] u =
        some (.exit 4 [Z xL, Z (.ptr si 0), Z (.ptr ri 0), I .i64 k, I .i64 G', I .i64 t], u') ∧ Inv s0 si ri m lo Q k u' x A E W D N G' K' ∧ K'.length ≤ K.length + ql.length ∧ (is.length ≤ t → A + 1 ∈ ql → A + 1 ≤ G') := by
  obtain ⟨j, u', lp, hj⟩ := loops_inv (f := f6_l3 (R 10) 8192)
    (fun n v w => ∃ (G' : Int) (K' : Kp), n ≤ ql.length ∧ v = [Z xL, Z (.ptr si 0), Z (.ptr ri 0), I .i64 k, I .i64 G', I .i64 t, Z yl, I .i64 ((n : Int) - 1)] ∧ Inv s0 si ri m lo Q k w x A E W D N G' K' ∧ K'.length + n ≤ K.length + ql.length ∧ G ≤ G' ∧ u.size ≤ w.size ∧
      (∀ c, c < u.size → c ≠ ri → c ≠ m → w.get c = u.get c) ∧ (is.length ≤ t → ∀ i, n ≤ i → ql[i]? = some (A + 1) → A + 1 ≤ G'))
    (fun j w => ∃ (G' : Int) (K' : Kp), j = .exit 4 [Z xL, Z (.ptr si 0), Z (.ptr ri 0), I .i64 k, I .i64 G', I .i64 t] ∧ Inv s0 si ri m lo Q k w x A E W D N G' K' ∧ K'.length ≤ K.length + ql.length ∧ (is.length ≤ t → ∀ i, ql[i]? = some (A + 1) → A + 1 ≤ G')) (by
    rintro n v w ⟨G', K', hn, rfl, Iw, hKl, hGG, hzw, hw, hprog⟩
    have sok := Iw.sok
    have a0 := sok.a0
    have ek := sok.ek
    have e8 := sok.e8
    have ge := Iw.kok.ge
    have agw := Iw.ag
    rcases n with _ | n
    · right
      refine ⟨_, w, ?_, (fun v hv => by cases hv), G', K', rfl, Iw, by omega, fun hl i hi => hprog hl i (Nat.zero_le _) hi⟩
      unfold f6_l3
      have : (((0 : Nat) : Int) - 1) = -1 := rfl
      rw [this]
      have c0 : ¬ (0 : Int) ≤ -1 := by omega
      simp [c0]
    · left
      have hnl : n < ql.length := by omega
      have e1 : ((n + 1 : Nat) : Int) - 1 = (n : Int) := by omega
      rw [e1]
      have hq0 : ql[n]? = some ql[n] := List.getElem?_eq_getElem hnl
      obtain ⟨q, hqq⟩ : ∃ q, q = ql[n] := ⟨_, rfl⟩
      rw [← hqq] at hq0
      obtain ⟨hqA, hqE⟩ := hq q (List.mem_of_getElem? hq0)
      have hylw : Rd 1 w yl ql.length (iS ql) := hyl.keep fun c hc => by obtain ⟨h1, h2, h3⟩ := hyo c hc; exact hw c h1 h2 h3
      obtain ⟨p, ix, ld⟩ := hylw.at1 (j := n) (i := (n : Int)) (v := .int .i64 q) rfl (by simp [iS, hq0])
      have c0 : (0 : Int) ≤ (n : Int) := by omega
      have a15 := and15 n (by omega)
      have wn : IntKind.u64.wrap (n : Int) = (n : Int) := wrap_u64_in _ (by omega) (by omega)
      have w1 : IntKind.i64.wrap ((n : Int) - 1) = (n : Int) - 1 := wrap_in _ (by omega) (by omega)
      have hll := (F.rdl Iw.old).lens
      obtain ⟨qn, hqn⟩ : ∃ qn : Nat, q = A + 1 + qn := ⟨(q - A - 1).toNat, by omega⟩
      obtain ⟨z, w2, eb, rz, g2, nz⟩ := body_run (b := bodyOf q) 8 Iw.wf Iw.snd Iw.bod (q := qn) (by rw [bods_get _ _ _ (by omega), hqn]) a0 (by omega) (by rw [bods_len]; omega) (by simp [bodyOf]) (fun c hc => by have := (F.q c hc).1; have := Iw.siz; omega)
      rw [← hqn] at eb
      have z2 := g2.2.1
      have r2 : HasB w2 ri m lo w2.size G' K' := (Iw.rcv.keep g2.wf z2 g2.2.2).up z2 (Nat.le_refl _)
      have s2 : w2.get si = some (.cells true (cS x A E W D N)) := by rw [g2.2.2 _ (Iw.wf.lt Iw.snd)]; exact Iw.snd
      have hsiz := Iw.siz
      have fr := F.rlt
      have fm := F.mlt
      have fs := F.hsi
      have fsr := F.hsr
      have fsm := F.hsm
      have I2 : Inv s0 si ri m lo Q k w2 x A E W D N G' K' := ⟨g2.wf, by omega, s2, Iw.bod.keep fun c hc => g2.2.2 c (by have := (F.q c hc).1; omega), r2, Iw.kok, sok, agw, fun c h1 h2 h3 h4 => by rw [g2.2.2 c (by omega)]; exact Iw.old c h1 h2 h3 h4⟩
      have o2 : ∀ c, c < u.size → c ≠ ri → c ≠ m → w2.get c = u.get c := fun c h1 h2 h3 => by rw [g2.2.2 c (by omega)]; exact hw c h1 h2 h3
      obtain ⟨mv, hlp, hlz⟩ : ∃ mv : Int, ((t : Int) < is.length → ∃ p, aIndexSl 1 (Z xL) (I .i64 t) = some p ∧ aLoad1 p w.get = some (I .i64 mv)) ∧ (¬ (t : Int) < is.length → mv = 0) := by
        by_cases hc : t < is.length
        · obtain ⟨p, h1, h2⟩ := (F.rdl Iw.old).at1 (j := t) (i := (t : Int)) (v := .int .i64 is[t]) rfl (by simp [List.getElem?_eq_getElem hc])
          exact ⟨is[t], fun _ => ⟨p, h1, h2⟩, fun h => absurd (by omega) h⟩
        · exact ⟨0, fun h => absurd h (by omega), fun _ => rfl⟩
      obtain ⟨X, b, sh, an⟩ := bit_of mv n (by omega)
      by_cases hb : b = 1
      · -- lost
        have hc : (t : Int) < is.length := by
          by_cases hc : (t : Int) < is.length
          · exact hc
          · exfalso
            rw [hlz hc, bit_zero n (by omega)] at sh
            cases sh
            have h0 : aBin .and (I .i64 0) (I .i64 1) = some (I .i64 0) := rfl
            rw [h0] at an
            cases an
            omega
        obtain ⟨pl, ixl, ldl⟩ := hlp hc
        refine ⟨[Z xL, Z (.ptr si 0), Z (.ptr ri 0), I .i64 k, I .i64 G', I .i64 t, Z yl, I .i64 ((n : Int) - 1)], w2, n, ?_, rfl, G', K', by omega, rfl, I2, by omega, hGG, by omega, o2, fun hl i hi hqi => by omega⟩
        unfold f6_l3
        generalize R 10 = r at *
        generalize (is.length : Int) = LL at *
        generalize (t : Int) = TT at *
        generalize (k : Int) = KK at *
        generalize (n : Int) = NN at *
        simp [c0, hll, hc, ixl, ldl, ix, ld, eb, aExtract, a15, wn, sh, an, hb, w1]
      · -- it comes
        have hox : ∀ c, own z = some c → c < w2.size := fun c hc => (nz c hc).2
        have r2' := r2
        obtain ⟨f1, f2, f3, jn', f4, f5, f6⟩ := take_facts (q := q) I2.kok (by omega) (by omega) hqE (by omega)
        obtain ⟨yo, w3, et, r3, ⟨hio, hhio, ho⟩, hz3, hw3⟩ := take_run (b := bodyOf q) (x := z) 8 (seq := q) r2 (by omega) (by omega) (by omega) rz hox (by simp [bodyOf]) (by omega)
        obtain ⟨TM, hTM⟩ : ∃ TM, TM = takeM G' K' q (bodyOf q) := ⟨_, rfl⟩
        rw [← hTM] at f1 f2 f3 f4 f5 et r3 ho
        obtain ⟨⟨n', K2, out⟩, code⟩ := TM
        simp only at f1 f2 f3 f4 f5 et r3 ho
        subst f1
        subst f4
        subst f5
        have lt := tell_loop (R 10) (Z xL) (Z (.ptr si 0)) (Z (.ptr ri 0)) (I .i64 k) (I .i64 t) (Z yl) (I .i64 n) ho (by omega) (by omega) (by have := f2.ge; omega)
        have s3 : w3.get si = some (.cells true (cS x A E W D N)) := by rw [hw3 si (by omega) fsr fsm]; exact s2
        have I3 : Inv s0 si ri m lo Q k w3 x A E W D N (G' + jn') K2 := ⟨r3.wf, by omega, s3, I2.bod.keep fun c hc => by obtain ⟨h1, h2, h3, h4⟩ := F.q c hc; exact hw3 c (by omega) h3 h4, r3, f2, sok, by omega, fun c h1 h2 h3 h4 => by rw [hw3 c (by omega) h3 h4]; exact I2.old c h1 h2 h3 h4⟩
        refine ⟨[Z xL, Z (.ptr si 0), Z (.ptr ri 0), I .i64 k, I .i64 (G' + jn'), I .i64 t, Z yl, I .i64 ((n : Int) - 1)], w3, n, ?_, rfl, G' + jn', K2, by omega, rfl, I3, by omega, by omega, by omega, fun c h1 h2 h3 => by rw [hw3 c (by omega) h2 h3]; exact o2 c h1 h2 h3, fun hl i hi hqi => ?_⟩
        · have hylw2 : Rd 1 w2 yl ql.length (iS ql) := hyl.keep fun c hc => by obtain ⟨h1, h2, h3⟩ := hyo c hc; exact o2 c h1 h2 h3
          have ld2 : aLoad1 p w2.get = some (I .i64 q) := by
            obtain ⟨p', ix', ld'⟩ := hylw2.at1 (j := n) (i := (n : Int)) (v := .int .i64 q) rfl (by simp [iS, hq0])
            rw [ix] at ix'
            cases ix'
            exact ld'
          unfold f6_l3
          by_cases hc : (t : Int) < is.length
          · obtain ⟨pl, ixl, ldl⟩ := hlp hc
            generalize R 10 = r at *
            generalize (is.length : Int) = LL at *
            generalize (t : Int) = TT at *
            generalize (k : Int) = KK at *
            generalize (n : Int) = NN at *
            simp [c0, hll, hc, ixl, ldl, ix, ld, eb, aExtract, a15, wn, sh, an, hb, w1, ld2, et, lt]
          · have := hlz hc
            subst this
            generalize R 10 = r at *
            generalize (is.length : Int) = LL at *
            generalize (t : Int) = TT at *
            generalize (k : Int) = KK at *
            generalize (n : Int) = NN at *
            simp [c0, hll, hc, ix, ld, eb, aExtract, a15, wn, sh, an, hb, w1, ld2, et, lt]
        · by_cases hin : i = n
          · subst hin
            rw [hq0] at hqi
            cases hqi
            by_cases hGA : A + 1 ≤ G'
            · omega
            · have := f6 (by omega)
              omega
          · have := hprog hl i (by omega) hqi
            omega
      ) 8192 ql.length _ u ⟨G, K, Nat.le_refl _, rfl, I0, by omega, Int.le_refl _, Nat.le_refl _, fun _ _ _ _ => rfl, fun hl i hi hqi => by
        have := (List.getElem?_eq_some_iff.1 hqi).1
        omega⟩ (by omega)
  obtain ⟨G', K', rfl, h1, h2, h3⟩ := hj
  exact ⟨G', K', u', lp, h1, h2, fun hl hm => by
    obtain ⟨i, hi⟩ := List.getElem?_of_mem hm
    exact h3 hl i hi⟩
end
end Go.Proofs.Ytoibllpfjnicfaa


/-
  RecvStream gives true, whatever its arguments. No conditions.
-/
namespace Go.Proofs.Ytoibllpfjnicfaa
open Go Go.Abs Go.Abs.F
set_option linter.unusedVariables false

section
variable {s s0 u t : St} {xL x : S} {is : List Int} {i si ri m lo hi : Nat} {Q : Nat → Prop} {k : Nat} {A E W D N G n : Int} {K : Kp}

theorem HasB.but (h : HasB s i m lo hi n K) (wf : t.wf) (hz : s.size ≤ t.size) (h1 : t.get i = s.get i) (h2 : t.get m = s.get m) (hk : ∀ c, lo ≤ c → c < hi → t.get c = s.get c) : HasB t i m lo hi n K := by
  obtain ⟨es, e1, e2⟩ := h.mp
  have := h.his
  exact ⟨wf, by rw [h1]; exact h.ri, h.ilo, h.mlo, h.loh, by omega, es, by rw [h2]; exact e1, all2_mono' e2 fun a b hab => hab.keep (Nat.le_refl _) (Nat.le_refl _) hk⟩

theorem unit_run (F : Fixed s0 xL is si ri m lo Q) (I0 : Inv s0 si ri m lo Q k u x A E W D N G K) (hk : k ≤ 30) {t : Nat} (ht : t < 400) (hA : A < k) (hN : N ≤ t) (hK : K.length ≤ 9 * t)
    (pot : is.length ≤ 100 → 100 ≤ t → max (t : Int) D + 2 * (k - A) ≤ 180) :
    ∃ (x' : S) (A' E' W' D' G' : Int) (K' : Kp) (u' : St), f6_l2 (R 10) 8192 [Z xL, Z (.ptr si 0), Z (.ptr ri 0), I .i64 k, I .i64 G, I .i64 t] u =
        some (.normal [Z xL, Z (.ptr si 0), Z (.ptr ri 0), I .i64 k, I .i64 G', I .i64 ((t + 1 : Nat) : Int)], u') ∧ Inv s0 si ri m lo Q k u' x' A' E' W' D' t G' K' ∧ K'.length ≤ 9 * (t + 1) ∧
      (is.length ≤ 100 → 100 ≤ t + 1 → max ((t + 1 : Nat) : Int) D' + 2 * (k - A') ≤ 180) := by
  have sok := I0.sok
  have a0 := sok.a0
  have ae := sok.ae
  have e8 := sok.e8
  have ek := sok.ek
  have w0 := sok.w0
  have w1 := sok.w1
  have d0 := sok.d0
  have n0 := sok.n0
  have ea := acked_run 9 I0.snd
  have hlen := I0.bod.lens
  obtain ⟨nn, hnn⟩ : ∃ nn, nn = ((k : Int) - A).toNat := ⟨_, rfl⟩
  have hnn' : (nn : Int) = k - A := by omega
  have hbl : (bods A nn).length = nn := bods_len _ _
  have hsiz := I0.siz
  have fr := F.rlt
  have fm := F.mlt
  have fs := F.hsi
  have fsr := F.hsr
  have fsm := F.hsm
  have fsl := F.slo
  have hbod := I0.bod
  rw [← hnn] at hbod hlen
  obtain ⟨yl, s1, eo, wf1, z1, g1, rdl, nyl, o1⟩ := out_run (T0 := (t : Int)) (l := bods A nn) 9 I0.wf I0.snd hlen (by rw [hbl]; omega) a0 (by omega) ae e8 (by rw [hbl]; omega) (by omega) (by omega) hN (by omega) (by omega)
  rw [hbl] at g1 rdl
  obtain ⟨sok1, hAE, hmem, hring, hdue⟩ := out_facts sok nn hnn' hN hA
  obtain ⟨E1, hE1⟩ : ∃ E1, E1 = E + new1 A E nn := ⟨_, rfl⟩
  obtain ⟨W1, hW1⟩ : ∃ W1, W1 = wait1 W D t := ⟨_, rfl⟩
  obtain ⟨D1, hD1⟩ : ∃ D1, D1 = due2 A E W D t nn := ⟨_, rfl⟩
  obtain ⟨L, hL⟩ : ∃ L, L = list1 A E D t nn := ⟨_, rfl⟩
  have hL9 : L.length ≤ 9 := by
    rw [hL]
    unfold list1
    rw [List.length_append, numsF_len]
    have : new1 A E nn ≤ 8 := by unfold new1; omega
    split <;> simp <;> omega
  rw [← hE1, ← hW1, ← hD1] at g1 sok1
  rw [← hE1] at hAE hmem
  rw [← hL] at rdl hmem hring
  rw [← hD1] at hdue
  have r1 : HasB s1 ri m lo s1.size G K := (I0.rcv.but wf1 z1 (o1 ri (by omega) (Ne.symm fsr)) (o1 m (by omega) (Ne.symm fsm)) fun c h1 h2 => o1 c h2 (by omega)).up z1 (Nat.le_refl _)
  have I1 : Inv s0 si ri m lo Q k s1 x A E1 W1 D1 t G K := ⟨wf1, by omega, g1, I0.bod.keep fun c hc => by obtain ⟨h1, h2, h3, h4⟩ := F.q c hc; exact o1 c (by omega) h2, r1, I0.kok.up (by omega), sok1, I0.ag, fun c h1 h2 h3 h4 => by rw [o1 c (by omega) h2]; exact I0.old c h1 h2 h3 h4⟩
  obtain ⟨G', K', s2, lp, I2, hK2, hprog⟩ := deliver F I1 hk ht rdl (fun c hc => by have := nyl c hc; omega) hL9 hmem (by omega)
  have hlL := rdl.lens
  have wL : IntKind.i64.wrap ((L.length : Int) - 1) = (L.length : Int) - 1 := wrap_in _ (by omega) (by omega)
  have hll := (F.rdl I2.old).lens
  have w2 : IntKind.i64.wrap ((t : Int) + 1) = ((t + 1 : Nat) : Int) := by rw [wrap_in _ (by omega) (by omega)]; omega
  have eg := got_run 9 I2.rcv.ri
  have ge := I2.kok.ge
  have ag := I2.ag
  have c400 : (t : Int) < 400 := by omega
  have hm : ∃ mv : Int, (¬ (is.length : Int) ≤ t → ∃ p, aIndexSl 1 (Z xL) (I .i64 t) = some p ∧ aLoad1 p s2.get = some (I .i64 mv)) := by
    by_cases hc : t < is.length
    · obtain ⟨p, h1, h2⟩ := (F.rdl I2.old).at1 (j := t) (i := (t : Int)) (v := .int .i64 is[t]) rfl (by simp [List.getElem?_eq_getElem hc])
      exact ⟨is[t], fun _ => ⟨p, h1, h2⟩⟩
    · exact ⟨0, fun h => absurd (by omega) h⟩
  obtain ⟨mv, hmv⟩ := hm
  obtain ⟨X, b, sh, an⟩ := bit_of mv 20 (by omega)
  have sh20 : aBin .shr (I .i64 mv) (I .u64 20) = some (I .i64 X) := sh
  by_cases hack : (is.length : Int) ≤ t ∨ b = 0
  · -- acknowledged
    by_cases hGA : G' ≤ A
    · have ek2 := ack_old 9 I2.snd (q := G') (by omega) hGA ge
      refine ⟨x, A, E1, W1, D1, G', K', s2, ?_, I2, by omega, fun h1 h2 => ?_⟩
      · unfold f6_l2
        simp only [Nat.reduceAdd] at ea eo eg ek2
        by_cases hc : (is.length : Int) ≤ t
        · generalize R 10 = r at *
          generalize ((t + 1 : Nat) : Int) = T1 at *
          generalize (L.length : Int) = L0 at *
          generalize (is.length : Int) = LL at *
          generalize (t : Int) = TT at *
          generalize (k : Int) = KK at *
          simp [c400, ea, hA, eo, hlL, wL, lp, hll, hc, eg, ek2, w2]
        · obtain ⟨p, h1, h2⟩ := hmv hc
          have hb := decide_eq_true (hack.resolve_left hc)
          generalize R 10 = r at *
          generalize ((t + 1 : Nat) : Int) = T1 at *
          generalize (L.length : Int) = L0 at *
          generalize (is.length : Int) = LL at *
          generalize (t : Int) = TT at *
          generalize (k : Int) = KK at *
          simp [c400, ea, hA, eo, hlL, wL, lp, hll, hc, h1, h2, sh20, an, hb, eg, ek2, w2]
      · have hGG : ¬ A + 1 ≤ G' := by omega
        by_cases ht2 : 100 ≤ t
        · have hp := pot h1 ht2
          by_cases hD : D ≤ t
          · exact absurd (hprog (by omega) (hring hD)) hGG
          · have := hdue (by omega)
            omega
        · have := sok1.d0
          omega
    · obtain ⟨c, hc0⟩ : ∃ c : Nat, G' = A + c := ⟨(G' - A).toNat, by omega⟩
      subst hc0
      have hb2 := I2.bod
      rw [← hnn] at hb2
      obtain ⟨z, s3, ek2, g3, wf3, z3, o3, rz⟩ := ack_new 9 I2.wf I2.snd hb2 a0 (by omega) (k := c) (by omega) (by rw [hbl]; have := sok1.ek; omega) (by rw [hbl]; omega) ge (by have := sok1.ek; omega) (by omega) (by omega)
      have sok3 := ack_facts sok1 (c := c) (by omega) ge
      have hbd : (bods A nn).drop c = bods (A + c) ((k : Int) - (A + c)).toNat := by
        rw [bods_drop c nn A (by have := sok1.ek; omega)]
        congr 1
        omega
      rw [hbd] at rz
      have hs2 := I2.siz
      have I3 : Inv s0 si ri m lo Q k s3 z (A + c) E1 2 (if A + (c : Int) < E1 then (t : Int) + 2 else -1) t (A + c) K' :=
        ⟨wf3, by omega, g3, rz.keep fun q hq => o3 q (F.q q hq).2.1, by
          have := (I2.rcv.but wf3 (by omega) (o3 ri (Ne.symm fsr)) (o3 m (Ne.symm fsm)) fun q h1 h2 => o3 q (by omega))
          exact this.up (by omega) (Nat.le_refl _), I2.kok, sok3, Int.le_refl _, fun q h1 h2 h3 h4 => by rw [o3 q h2]; exact I2.old q h1 h2 h3 h4⟩
      refine ⟨z, A + c, E1, 2, (if A + (c : Int) < E1 then (t : Int) + 2 else -1), A + c, K', s3, ?_, I3, by omega, fun h1 h2 => ?_⟩
      · unfold f6_l2
        simp only [Nat.reduceAdd] at ea eo eg ek2
        by_cases hc : (is.length : Int) ≤ t
        · generalize R 10 = r at *
          generalize ((t + 1 : Nat) : Int) = T1 at *
          generalize (L.length : Int) = L0 at *
          generalize (is.length : Int) = LL at *
          generalize (t : Int) = TT at *
          generalize (k : Int) = KK at *
          generalize A + (c : Int) = AC at *
          simp [c400, ea, hA, eo, hlL, wL, lp, hll, hc, eg, ek2, w2]
        · obtain ⟨p, h1, h2⟩ := hmv hc
          have hb := decide_eq_true (hack.resolve_left hc)
          generalize R 10 = r at *
          generalize ((t + 1 : Nat) : Int) = T1 at *
          generalize (L.length : Int) = L0 at *
          generalize (is.length : Int) = LL at *
          generalize (t : Int) = TT at *
          generalize (k : Int) = KK at *
          generalize A + (c : Int) = AC at *
          simp [c400, ea, hA, eo, hlL, wL, lp, hll, hc, h1, h2, sh20, an, hb, eg, ek2, w2]
      · by_cases ht2 : 100 ≤ t
        · have hp := pot h1 ht2
          split <;> omega
        · split <;> omega
  · -- not acknowledged
    have hc : ¬ (is.length : Int) ≤ t := fun h => hack (.inl h)
    have hb0 : ¬ b = 0 := fun h => hack (.inr h)
    obtain ⟨p, h1, h2⟩ := hmv hc
    refine ⟨x, A, E1, W1, D1, G', K', s2, ?_, I2, by omega, fun h1 h2 => ?_⟩
    · unfold f6_l2
      simp only [Nat.reduceAdd] at ea eo eg
      generalize R 10 = r at *
      generalize ((t + 1 : Nat) : Int) = T1 at *
      generalize (L.length : Int) = L0 at *
      generalize (is.length : Int) = LL at *
      generalize (t : Int) = TT at *
      generalize (k : Int) = KK at *
      simp [c400, ea, hA, eo, hlL, wL, lp, hll, hc, h1, h2, sh20, an, hb0, w2]
    · have := sok1.d0
      omega

theorem time_run (F : Fixed s0 xL is si ri m lo Q) (hk : k ≤ 30) (I0 : Inv s0 si ri m lo Q k u x 0 0 2 (-1) 0 0 []) :
    ∃ (G : Int) (A : Int) (u' : St), loops (f6_l2 (R 10) 8192) 8192 [Z xL, Z (.ptr si 0), Z (.ptr ri 0), I .i64 k, I .i64 0, I .i64 0] u = some (.exit 2 [Z xL, Z (.ptr si 0), I .i64 k, I .i64 G], u') ∧
      (∃ x E W D N, u'.get si = some (.cells true (cS x A E W D N))) ∧ (is.length ≤ 100 → G = k ∧ A = k) := by
  obtain ⟨j, u', lp, hj⟩ := loops_inv (f := f6_l2 (R 10) 8192)
    (fun q v w => ∃ (t : Nat) (x : S) (A E W D N G : Int) (K : Kp), q + t = 400 ∧ v = [Z xL, Z (.ptr si 0), Z (.ptr ri 0), I .i64 k, I .i64 G, I .i64 t] ∧ Inv s0 si ri m lo Q k w x A E W D N G K ∧ N ≤ t ∧ K.length ≤ 9 * t ∧
      (is.length ≤ 100 → 100 ≤ t → max (t : Int) D + 2 * (k - A) ≤ 180))
    (fun j w => ∃ (G A : Int), j = .exit 2 [Z xL, Z (.ptr si 0), I .i64 k, I .i64 G] ∧ (∃ x E W D N, w.get si = some (.cells true (cS x A E W D N))) ∧ (is.length ≤ 100 → G = k ∧ A = k)) (by
    rintro q v w ⟨t, x, A, E, W, D, N, G, K, hq, rfl, Iw, hN, hK, pot⟩
    have ea := acked_run 9 Iw.snd
    by_cases ht : t < 400
    · by_cases hA : A < k
      · left
        obtain ⟨x', A', E', W', D', G', K', w', e, I', hK', pot'⟩ := unit_run F Iw hk ht hA hN hK pot
        exact ⟨_, w', q - 1, e, by omega, t + 1, x', A', E', W', D', t, G', K', by omega, rfl, I', by omega, hK', pot'⟩
      · right
        have h1 := Iw.sok.ek
        have h2 := Iw.kok.ge
        have h3 := Iw.ag
        refine ⟨_, w, ?_, (fun v hv => by cases hv), G, A, rfl, ⟨x, E, W, D, N, Iw.snd⟩, fun _ => by have := Iw.sok.ae; omega⟩
        unfold f6_l2
        have c400 : (t : Int) < 400 := by omega
        simp only [Nat.reduceAdd] at ea
        generalize R 10 = r at *
        generalize (t : Int) = TT at *
        generalize (k : Int) = KK at *
        simp [c400, ea, hA]
    · right
      have : t = 400 := by omega
      subst this
      refine ⟨_, w, ?_, (fun v hv => by cases hv), G, A, rfl, ⟨x, E, W, D, N, Iw.snd⟩, fun hl => ?_⟩
      · unfold f6_l2
        simp
      · have h1 := pot hl (by omega)
        have h2 := Iw.sok.ek
        have h3 := Iw.sok.ae
        omega) 8192 400 _ u ⟨0, x, 0, 0, 2, -1, 0, 0, [], rfl, rfl, I0, by omega, by simp, fun _ h => by omega⟩ (by omega)
  obtain ⟨G, A, rfl, h1, h2⟩ := hj
  exact ⟨G, A, u', lp, h1, h2⟩
end
end Go.Proofs.Ytoibllpfjnicfaa


/-
  RecvStream gives true, whatever its arguments. No conditions.
-/
namespace Go.Proofs.Ytoibllpfjnicfaa
open Go Go.Abs Go.Abs.F
set_option linter.unusedVariables false

theorem gtt' (b : Bool) : gd tt b = some false := rfl

section
variable {s s2 u : St} {xL x : S} {is : List Int} {si lo : Nat} {k : Nat}

structure Wait (s2 : St) (si : Nat) (j : Nat) (u : St) (y : S) : Prop where
  wf : u.wf
  siz : s2.size ≤ u.size
  snd : u.get si = some (.cells true (cS y 0 0 2 (-1) 0))
  new : ∀ c, own y = some c → s2.size ≤ c
  ex : ∃ ys, Ow 1 u y (bods 0 j).length ys ∧ All2 (fun b z => RB u z b ∧ ∀ c, own z = some c → s2.size ≤ c ∧ c < u.size ∧ own y ≠ some c) (bods 0 j) ys
  old : ∀ c, c < s2.size → c ≠ si → u.get c = s2.get c

theorem puts_run (a1 a2 : T) (hsi : si < s2.size) (hk : k ≤ 30) (h0 : Wait s2 si 0 u x) :
    ∃ y u', loops (f6_l1 (R 10) 8192) 8192 [a1, Z (.ptr si 0), a2, I .i64 k, I .i64 1] u = some (.exit 0 [a1, Z (.ptr si 0), a2, I .i64 k], u') ∧ Wait s2 si k u' y := by
  obtain ⟨j, u', lp, y, rfl, hw⟩ := loops_inv (f := f6_l1 (R 10) 8192) (fun q v w => ∃ (j : Nat) (y : S), q + j = k ∧ v = [a1, Z (.ptr si 0), a2, I .i64 k, I .i64 ((j : Int) + 1)] ∧ Wait s2 si j w y)
    (fun j w => ∃ y, j = .exit 0 [a1, Z (.ptr si 0), a2, I .i64 k] ∧ Wait s2 si k w y) (by
    rintro q v w ⟨j, y, hj, rfl, hw⟩
    by_cases hjk : j < k
    · left
      obtain ⟨ys, how, hall⟩ := hw.ex
      have c0 : (j : Int) + 1 ≤ (k : Int) := by omega
      have hb : bodyOf ((j : Int) + 1) = [UInt8.ofNat (j + 1)] := by
        unfold bodyOf
        rw [show ((j : Int) + 1).toNat = j + 1 by omega]
      have w8 : IntKind.u8.wrap ((j : Int) + 1) = ((UInt8.ofNat (j + 1)).toNat : Int) := by
        rw [show (j : Int) + 1 = ((j + 1 : Nat) : Int) by omega, wrap8, byte_nat]
      have L := Fr.lit 1 hw.wf (n := 1) (vs := U (bodyOf ((j : Int) + 1))) (by rw [hb]; rfl)
      have nw : aNew w (nSlice 1 (aFill [.int .u8 0] [(0, 1, I .u8 ((UInt8.ofNat (j + 1)).toNat : Int))])) = some (Z (.sl w.size 0 1 (.known 1)), w.push (.cells true (U (bodyOf ((j : Int) + 1))))) := by
        rw [hb]
        simp [aNew, nSlice, aFill, V.cells, setRange, U]
      have rb : RB (w.push (.cells true (U (bodyOf ((j : Int) + 1))))) (.sl w.size 0 1 (.known 1)) (bodyOf ((j : Int) + 1)) := by
        have := L.rd
        rw [hb] at this ⊢
        exact this
      have hsz := hw.siz
      have hbl : (bods 0 j).length = j := bods_len _ _
      obtain ⟨y', z, t, ep, wft, hzt, gt, howt, rz, nz, ny, ot⟩ := put_run (l := bods 0 j) (x := y) (y := .sl w.size 0 1 (.known 1)) 8 L.gr.wf (by rw [L.gr.2.2 _ (hw.wf.lt hw.snd)]; exact hw.snd) (how.gr hw.wf L.gr) (by rw [hbl]; omega) rb (by simp [bodyOf]) (fun c hc e => by have := hw.new c hc; omega) (fun c hc => by cases hc; simp)
      have zp : (w.push (.cells true (U (bodyOf ((j : Int) + 1))))).size = w.size + 1 := by simp
      have w1 : IntKind.i64.wrap ((j : Int) + 1 + 1) = ((j + 1 : Nat) : Int) + 1 := by rw [wrap_in _ (by omega) (by omega)]; omega
      have keep : ∀ c, c < w.size → c ≠ si → own y ≠ some c → t.get c = w.get c := fun c h1 h2 h3 => by rw [ot c (by omega) h2 h3, L.gr.2.2 c h1]
      refine ⟨[a1, Z (.ptr si 0), a2, I .i64 k, I .i64 (((j + 1 : Nat) : Int) + 1)], t, q - 1, ?_, by omega, j + 1, y', by omega, rfl, ⟨wft, by omega, gt, fun c hc => ?_, ⟨ys ++ [z], ?_, ?_⟩, fun c h1 h2 => ?_⟩⟩
      · unfold f6_l1
        generalize U (bodyOf ((j : Int) + 1)) = ub at *
        generalize ((UInt8.ofNat (j + 1)).toNat : Int) = UB at *
        generalize ((j + 1 : Nat) : Int) = J1 at *
        generalize R 10 = r at *
        generalize (k : Int) = KK at *
        generalize (j : Int) = JJ at *
        simp [c0, w8, nw, ep, w1]
      · rcases ny c hc with h | h
        · exact hw.new c h
        · omega
      · rw [bods_len]
        rw [bods_len] at howt
        exact howt
      · rw [bods_snoc, show (0 : Int) + 1 + (j : Int) = (j : Int) + 1 by omega]
        refine forall2_append (all2_mono' hall fun b q hbq => ⟨hbq.1.keep fun c hc => ?_, fun c hc => ?_⟩) (.cons ⟨rz, fun c hc => ?_⟩ .nil)
        · obtain ⟨h1, h2, h3⟩ := hbq.2 c hc
          exact keep c h2 (by omega) h3
        · obtain ⟨h1, h2, h3⟩ := hbq.2 c hc
          refine ⟨h1, by omega, fun e => ?_⟩
          rcases ny c e with h | h
          · exact h3 h
          · omega
        · obtain ⟨h1, h2, h3⟩ := nz c hc
          exact ⟨by omega, h2, h3⟩
      · rw [keep c (by omega) h2 (fun e => by have := hw.new c e; omega)]
        exact hw.old c h1 h2
    · right
      have : j = k := by omega
      subst this
      refine ⟨_, w, ?_, (fun v hv => by cases hv), y, rfl, hw⟩
      unfold f6_l1
      have c0 : ¬ (j : Int) + 1 ≤ (j : Int) := by omega
      generalize (j : Int) + 1 = J1 at *
      simp [c0]) 8192 k [a1, Z (.ptr si 0), a2, I .i64 k, I .i64 1] u ⟨0, x, by omega, by simp, h0⟩ (by omega)
  exact ⟨y, u', lp, hw⟩

theorem stream_run (wf : s.wf) (n : Int) (hx : Rd 1 s xL is.length (is.map (S.int .i64))) (hlt : ∀ c, own xL = some c → c < s.size) : ∃ τ, R 11 6 [I .i64 n, Z xL] s = some (B true, τ) := by
  obtain ⟨k, hk0, hk1, h1, h2, _⟩ := mod_u n 31 (by omega) (by omega)
  obtain ⟨k, rfl⟩ : ∃ q : Nat, k = q := ⟨k.toNat, by omega⟩
  rw [f6_run]
  unfold f6
  have en := snew_run (s := s) 9
  obtain ⟨s1, hs1⟩ : ∃ s1, s1 = s.push (.cells true (cS .nils 0 0 2 (-1) 0)) := ⟨_, rfl⟩
  rw [← hs1] at en
  have wf1 : s1.wf := by rw [hs1]; exact St.wf_push wf _
  have z1 : s1.size = s.size + 1 := by rw [hs1]; rfl
  have g1 : s1.get s.size = some (.cells true (cS .nils 0 0 2 (-1) 0)) := by rw [hs1]; exact St.get_push_same _ _
  have o1 : ∀ c, c < s.size → s1.get c = s.get c := fun c hc => by rw [hs1, St.get_push_ne _ _ (by omega)]
  have er := new_run (s := s1) 9
  obtain ⟨s2, hs2⟩ : ∃ s2, s2 = (s1.push (.map [])).push (.cells true [.int .i64 0, .map s1.size]) := ⟨_, rfl⟩
  rw [← hs2] at er
  have wf2 : s2.wf := by rw [hs2]; exact St.wf_push (St.wf_push wf1 _) _
  have z2 : s2.size = s1.size + 2 := by rw [hs2]; rfl
  have o2 : ∀ c, c < s1.size → s2.get c = s1.get c := fun c hc => by rw [hs2, St.get_push_ne _ _ (by rw [St.size_push]; omega), St.get_push_ne _ _ (by omega)]
  have gm : s2.get s1.size = some (.map []) := by rw [hs2, St.get_push_ne _ _ (by rw [St.size_push]; omega), St.get_push_same]
  have gr : s2.get (s1.size + 1) = some (.cells true [.int .i64 0, .map s1.size]) := by
    have := St.get_push_same (s1.push (.map [])) (.cells true [.int .i64 0, .map s1.size])
    rwa [St.size_push, ← hs2] at this
  have w0 : Wait s2 s.size 0 s2 .nils := ⟨wf2, Nat.le_refl _, by rw [o2 _ (by omega)]; exact g1, (fun c hc => by cases hc), ⟨[], Ow.nil 1 s2, .nil⟩, fun _ _ _ => rfl⟩
  obtain ⟨y, u, lp, hw⟩ := puts_run (k := k) (Z xL) (Z (.ptr (s1.size + 1) 0)) (by omega) (by omega) w0
  have hsz := hw.siz
  obtain ⟨ys, how, hall⟩ := hw.ex
  have F : Fixed u xL is s.size (s1.size + 1) s1.size s2.size (fun c => s2.size ≤ c ∧ c < u.size) :=
    ⟨hx.keep fun c hc => by have := hlt c hc; rw [hw.old c (by omega) (by omega), o2 c (by omega), o1 c this], fun c hc => by have := hlt c hc; exact ⟨by omega, by omega, by omega, by omega⟩, fun c hc => ⟨hc.2, by omega, by omega, by omega⟩, by omega, by omega, by omega, by omega, by omega, by omega⟩
  have I0 : Inv u s.size (s1.size + 1) s1.size s2.size (fun c => s2.size ≤ c ∧ c < u.size) k u y 0 0 2 (-1) 0 0 [] := by
    refine ⟨hw.wf, Nat.le_refl _, hw.snd, ?_, ?_, ⟨Int.le_refl _, (fun p hp => by cases hp), rfl⟩, ⟨by omega, by omega, by omega, by omega, by omega, by omega, .inl rfl, ⟨fun h => absurd rfl h, fun h => by omega⟩, by omega⟩, Int.le_refl _, fun _ _ _ _ _ => rfl⟩
    · have : ((k : Int) - 0).toNat = k := by omega
      rw [this]
      exact ⟨ys, how.rd, fun c hc => ⟨hw.new c hc, how.lt hw.wf hc⟩, all2_mono' hall fun b z hbz => ⟨hbz.1, fun c hc => ⟨(hbz.2 c hc).1, (hbz.2 c hc).2.1⟩⟩⟩
    · exact ⟨hw.wf, by rw [hw.old _ (by omega) (by omega)]; exact gr, by omega, by omega, hsz, Nat.le_refl _, [], by rw [hw.old _ (by omega) (by omega)]; exact gm, .nil⟩
  obtain ⟨G, A, u', lp2, ⟨x', E, W, D, N, gs⟩, hfin⟩ := time_run F (by omega) I0
  have told := told_run 9 u'
  have ea := acked_run 9 gs
  have hll := hx.lens
  refine ⟨u', ?_⟩
  simp only [Nat.reduceAdd] at en er told ea
  by_cases hl : (100 : Int) < (is.length : Int)
  · generalize R 10 = r at *
    generalize (is.length : Int) = LL at *
    generalize (k : Int) = KK at *
    simp [en, er, h1, h2, lp, lp2, told, hll, hl, gtt']
  · obtain ⟨rfl, rfl⟩ := hfin (by omega)
    generalize R 10 = r at *
    generalize (is.length : Int) = LL at *
    generalize (k : Int) = KK at *
    simp [en, er, h1, h2, lp, lp2, told, hll, hl, ea]
end
end Go.Proofs.Ytoibllpfjnicfaa


/-
  The layouts of maps.Keys, slices.Sorted and slices.Sort in this program, as the kit lays them. No conditions.
-/
namespace Go.Proofs
open Go.Shelf
def Try.keysA_ren : Go.Shelf.Ren := ⟨fun | 7 => 22 | 10 => 25 | n => n, fun | 23 => 55 | 26 => 2 | 3 => 31 | 28 => 61 | 0 => 0 | 27 => 60 | 33 => 66 | 4 => 4 | n => n, fun | n => n⟩
theorem Try.keysA : Go.Proofs.SlLaysZI.n7 Try.prog Try.keysA_ren := {
  mixed := by kernel_rfl
  f7 := ⟨Try.f22.name, by decide, Try.func22.trans (congrArg some (by kernel_rfl))⟩
  f10 := ⟨Try.f25.name, by decide, Try.func25.trans (congrArg some (by kernel_rfl))⟩
  t0 := Try.underlying0
  a0 := Try.isAgg0
  z0 := Try.sizeOf0
  v0 := Try.zeroValue0
  t4 := Try.underlying4
  a4 := Try.isAgg4
  z4 := Try.sizeOf4
  v4 := Try.zeroValue4
  t23 := Try.underlying55
  a23 := Try.isAgg55
  z23 := Try.sizeOf55
  v23 := Try.zeroValue55
  t26 := Try.underlying2
  a26 := Try.isAgg2
  z26 := Try.sizeOf2
  v26 := Try.zeroValue2
  t27 := Try.underlying60
  a27 := Try.isAgg60
  z27 := Try.sizeOf60
  v27 := Try.zeroValue60
  t28 := Try.underlying61
  a28 := Try.isAgg61
  z28 := Try.sizeOf61
  v28 := Try.zeroValue61
  t33 := Try.underlying66
  a33 := Try.isAgg66
  z33 := Try.sizeOf66
  v33 := Try.zeroValue66 }
def Try.sortedA_ren : Go.Shelf.Ren := ⟨fun | 6 => 21 | 8 => 23 | 9 => 24 | 11 => 26 | 13 => 28 | 12 => 27 | 23 => 38 | 24 => 39 | 14 => 29 | 15 => 30 | 16 => 31 | 17 => 32 | 18 => 33 | 19 => 34 | 20 => 35 | 21 => 36 | 22 => 37 | 25 => 40 | 26 => 41 | 27 => 42 | 28 => 43 | 29 => 44 | 30 => 45 | 31 => 46 | n => n, fun | 26 => 2 | 28 => 61 | 24 => 26 | 0 => 0 | 3 => 3 | 37 => 44 | 48 => 80 | 50 => 82 | 4 => 4 | 40 => 72 | 39 => 71 | 45 => 77 | 5 => 5 | 9 => 9 | 51 => 83 | 55 => 87 | 57 => 89 | 58 => 90 | 33 => 66 | n => n, fun | n => n⟩
theorem Try.sortedA : Go.Proofs.SlLaysZI.n6 Try.prog Try.sortedA_ren := {
  mixed := by kernel_rfl
  f6 := ⟨Try.f21.name, by decide, Try.func21.trans (congrArg some (by kernel_rfl))⟩
  f8 := ⟨Try.f23.name, by decide, Try.func23.trans (congrArg some (by kernel_rfl))⟩
  f11 := ⟨Try.f26.name, by decide, Try.func26.trans (congrArg some (by kernel_rfl))⟩
  t0 := Try.underlying0
  a0 := Try.isAgg0
  z0 := Try.sizeOf0
  v0 := Try.zeroValue0
  t24 := Try.underlying26
  a24 := Try.isAgg26
  z24 := Try.sizeOf26
  v24 := Try.zeroValue26
  t26 := Try.underlying2
  a26 := Try.isAgg2
  z26 := Try.sizeOf2
  v26 := Try.zeroValue2
  t28 := Try.underlying61
  a28 := Try.isAgg61
  z28 := Try.sizeOf61
  v28 := Try.zeroValue61
  i26 := by kernel_rfl }
def Try.sortA_ren : Go.Shelf.Ren := ⟨fun | 5 => 24 | 8 => 28 | 7 => 27 | 19 => 38 | 20 => 39 | 10 => 29 | 11 => 30 | 12 => 31 | 13 => 32 | 14 => 33 | 15 => 34 | 16 => 35 | 17 => 36 | 18 => 37 | 30 => 40 | 31 => 41 | 32 => 42 | 33 => 43 | 34 => 44 | 35 => 45 | 40 => 46 | n => n, fun | 23 => 26 | 25 => 2 | 3 => 3 | 32 => 44 | 22 => 26 | 0 => 0 | 44 => 80 | 46 => 82 | 4 => 4 | 36 => 72 | 35 => 71 | 41 => 77 | 5 => 5 | 9 => 9 | 53 => 83 | 57 => 87 | 63 => 89 | 64 => 90 | n => n, fun | n => n⟩
theorem Try.sortA : Go.Proofs.SlLaysM.n5 Try.prog Try.sortA_ren := {
  mixed := by kernel_rfl
  f5 := ⟨Try.f24.name, by decide, Try.func24.trans (congrArg some (by kernel_rfl))⟩
  f7 := ⟨Try.f27.name, by decide, Try.func27.trans (congrArg some (by kernel_rfl))⟩
  f8 := Try.func28.trans (congrArg some (by kernel_rfl))
  f10 := ⟨Try.f29.name, by decide, Try.func29.trans (congrArg some (by kernel_rfl))⟩
  f11 := ⟨Try.f30.name, by decide, Try.func30.trans (congrArg some (by kernel_rfl))⟩
  f12 := ⟨Try.f31.name, by decide, Try.func31.trans (congrArg some (by kernel_rfl))⟩
  f13 := ⟨Try.f32.name, by decide, Try.func32.trans (congrArg some (by kernel_rfl))⟩
  f14 := ⟨Try.f33.name, by decide, Try.func33.trans (congrArg some (by kernel_rfl))⟩
  f15 := ⟨Try.f34.name, by decide, Try.func34.trans (congrArg some (by kernel_rfl))⟩
  f16 := ⟨Try.f35.name, by decide, Try.func35.trans (congrArg some (by kernel_rfl))⟩
  f17 := ⟨Try.f36.name, by decide, Try.func36.trans (congrArg some (by kernel_rfl))⟩
  f18 := ⟨Try.f37.name, by decide, Try.func37.trans (congrArg some (by kernel_rfl))⟩
  f19 := Try.func38.trans (congrArg some (by kernel_rfl))
  f20 := Try.func39.trans (congrArg some (by kernel_rfl))
  f30 := ⟨Try.f40.name, by decide, Try.func40.trans (congrArg some (by kernel_rfl))⟩
  f31 := Try.func41.trans (congrArg some (by kernel_rfl))
  f32 := Try.func42.trans (congrArg some (by kernel_rfl))
  f33 := ⟨Try.f43.name, by decide, Try.func43.trans (congrArg some (by kernel_rfl))⟩
  f34 := ⟨Try.f44.name, by decide, Try.func44.trans (congrArg some (by kernel_rfl))⟩
  f35 := ⟨Try.f45.name, by decide, Try.func45.trans (congrArg some (by kernel_rfl))⟩
  f40 := ⟨Try.f46.name, by decide, Try.func46.trans (congrArg some (by kernel_rfl))⟩
  t0 := Try.underlying0
  a0 := Try.isAgg0
  z0 := Try.sizeOf0
  v0 := Try.zeroValue0
  t3 := Try.underlying3
  a3 := Try.isAgg3
  z3 := Try.sizeOf3
  v3 := Try.zeroValue3
  t4 := Try.underlying4
  a4 := Try.isAgg4
  z4 := Try.sizeOf4
  v4 := Try.zeroValue4
  t5 := Try.underlying5
  a5 := Try.isAgg5
  z5 := Try.sizeOf5
  v5 := Try.zeroValue5
  t9 := Try.underlying9
  a9 := Try.isAgg9
  z9 := Try.sizeOf9
  v9 := Try.zeroValue9
  t22 := Try.underlying26
  a22 := Try.isAgg26
  z22 := Try.sizeOf26
  v22 := Try.zeroValue26
  t23 := Try.underlying26
  a23 := Try.isAgg26
  z23 := Try.sizeOf26
  v23 := Try.zeroValue26
  t25 := Try.underlying2
  a25 := Try.isAgg2
  z25 := Try.sizeOf2
  v25 := Try.zeroValue2
  t32 := Try.underlying44
  a32 := Try.isAgg44
  z32 := Try.sizeOf44
  v32 := Try.zeroValue44
  t35 := Try.underlying71
  a35 := Try.isAgg71
  z35 := Try.sizeOf71
  v35 := Try.zeroValue71
  t36 := Try.underlying72
  a36 := Try.isAgg72
  z36 := Try.sizeOf72
  v36 := Try.zeroValue72
  t41 := Try.underlying77
  a41 := Try.isAgg77
  z41 := Try.sizeOf77
  v41 := Try.zeroValue77
  t44 := Try.underlying80
  a44 := Try.isAgg80
  z44 := Try.sizeOf80
  v44 := Try.zeroValue80
  t46 := Try.underlying82
  a46 := Try.isAgg82
  z46 := Try.sizeOf82
  v46 := Try.zeroValue82
  t53 := Try.underlying83
  a53 := Try.isAgg83
  z53 := Try.sizeOf83
  v53 := Try.zeroValue83
  t57 := Try.underlying87
  a57 := Try.isAgg87
  z57 := Try.sizeOf87
  v57 := Try.zeroValue87
  t63 := Try.underlying89
  a63 := Try.isAgg89
  z63 := Try.sizeOf89
  v63 := Try.zeroValue89
  t64 := Try.underlying90
  a64 := Try.isAgg90
  z64 := Try.sizeOf90
  v64 := Try.zeroValue90 }
end Go.Proofs


/-
  What Kept gives at a map: its keys, sorted, in a new slice; nil where it has none; nothing that was there has changed. Conditions: the receiver's second cell holds the map; it has few keys.
-/
namespace Go.Proofs
open Go.RowKit Go.Maps Go.Sort Go.Shelf

theorem Try.sortsA (m : Nat) : AnyZI.SortsIn Try.prog Try.sortedA_ren Fence.wide m :=
  ⟨fun blk off cap ss W hH hblk hsz => callsIn_wide.2 (AnyM.slices_Sort_int Try.sortA blk off cap ss W hH hblk hsz),
   fun p cap W => callsIn_wide.2 (AnyM.slices_Sort_int_none Try.sortA p cap W)⟩

set_option maxHeartbeats 1000000 in
theorem Try.kept_calls {H : Type} (rb ro b nn : Nat) (D0 : DataW H) (R : Value → Option (DataW H × List MemPlace)) (w : World) (hc : w.cell? ⟨rb, ro + 1, none⟩ = some (.map (some b))) (hown : w.ownsMap Try.prog 2 R b nn D0) (hmax : Maps.size D0 ≤ maxLen) (hbytes : Maps.size D0 * 8 ≤ 140737488355328) :
    Calls Try.prog 13 #[.pointer (some ⟨rb, ro, none⟩)] w fun e w' => ∃ (v : Value) (ss : List Int), e = .returned v ∧ ss.Perm (intKeys D0) ∧
      w'.ownsRow w.heap.size 2 1 v ss.length ((ss.mergeSort (fun x y => decide (x ≤ y))).map encZ) ∧ (v = .slice none 0 0 ↔ ss = []) ∧ Below w.heap.size w w' := by
  refine (callsIn_wide (n := 6)).1 ?_
  have hbl := hown.lt
  have hseq : SeqGives Fence.wide 2 Try.prog 25 #[.pointer (some ⟨w.heap.size, 0, none⟩)] encZ (fun ss => ss.Perm (intKeys D0)) (Maps.size D0) (w.alloc (.cells #[.map (some b)] 55)) :=
    AnyZI.keys_gives (ρ := Try.keysA_ren) { Try.keysA with } Fence.wide _ trivial rfl (by omega) w.heap.size b nn D0 _ (by simp) (by simp) (by
      obtain ⟨es, clock, hb, Ft, hs, hD⟩ := hown
      exact ⟨es, clock, (Below.heap_alloc _ _ b hbl).trans hb, Ft, hs, hD⟩)
  have cK : ∀ mb W, CallsIn Fence.wide 5 Try.prog 22 #[.map mb] W fun e w' => e = .returned (.func (.func 25) #[] #[.pointer (some ⟨W.heap.size, 0, none⟩)]) ∧ w' = W.alloc (.cells #[.map mb] 55) := fun mb W => AnyZI.keys_in Try.keysA Fence.wide 5 trivial rfl mb W
  have cS := AnyZI.sorted_in Try.sortedA Fence.wide 5 trivial trivial trivial trivial rfl (by omega) (Try.sortsA _) (enters_of Try.func24 (by kernel_rfl) rfl) 25 #[.pointer (some ⟨w.heap.size, 0, none⟩)] trivial (enters_of Try.func25 (by kernel_rfl) rfl) _ _ hmax hbytes _ hseq
  change CallsIn _ _ Try.prog 21 _ _ _ at cS
  have hfK : Fence.wide.fn 22 := trivial
  have hfS : Fence.wide.fn 21 := trivial
  refine callsIn_of_wp Try.func13 rfl trivial ?_ rfl
  simp only [Try.ntmps13, List.size_toArray, List.length_cons, List.length_nil, Nat.reduceAdd, Nat.reduceSub, Array.replicate_succ, Array.replicate_zero, List.push_toArray, List.append_toArray, List.nil_append, List.cons_append]
  gi_wp2_with (first
    | (gi_at_call 22; refine (cK _ _).mono ?_; rintro e w' ⟨rfl, rfl⟩)
    | (gi_at_call 21; refine cS.mono ?_; rintro e w' ⟨v, ss, rfl, hS, hrow, hnil, hb⟩))
  go_ret
  exact ⟨v, ss, rfl, hS, ownsRow_base_a hrow (by simp), hnil, ((Below.refl _ w).alloc (Nat.le_refl _) _).trans (hb.mono (by simp))⟩
end Go.Proofs


/-
  What stands for Kept in our runs is what Kept does. No conditions.
-/
namespace Go.Proofs.Ytoibllpfjnicfaa
open Go Go.Abs Go.Abs.F
open Go.WideElems (Fit rd rg)
set_option linter.unusedVariables false

theorem keysOf_facts : ∀ {es : List (S × V)} {ks : List Int}, keysOf es = some ks → es.map (·.1) = ks.map (S.int .i64) ∧ ks.Nodup ∧ ∀ n ∈ ks, (Lit.int .i64 n).wf = true := by
  intro es
  induction es with
  | nil => intro ks h; cases h; exact ⟨rfl, .nil, fun n hn => by cases hn⟩
  | cons p r ih =>
    intro ks h
    obtain ⟨k, v⟩ := p
    unfold keysOf at h
    split at h
    · rename_i heq; cases heq
    · rename_i n v' r' heq
      cases heq
      split at h
      · rename_i l hl
        split at h
        · rename_i hw
          cases h
          obtain ⟨h1, h2, h3⟩ := ih hl
          rw [Bool.and_eq_true] at hw
          have hn : n ∉ l := by simpa using hw.2
          refine ⟨by simp [h1], List.nodup_cons.2 ⟨hn, h2⟩, fun m hm => ?_⟩
          rcases List.mem_cons.1 hm with rfl | hm
          · exact hw.1
          · exact h3 m hm
        · cases h
      · cases h
    · cases h

theorem put_perm (n : Int) : ∀ l : List Int, (put n l).Perm (n :: l)
  | [] => .refl _
  | m :: r => by
    unfold put
    cases decide (n ≤ m) with
    | true => exact .refl _
    | false => exact ((put_perm n r).cons m).trans (.swap n m r)

theorem put_sorted (n : Int) : ∀ l : List Int, l.Pairwise (· ≤ ·) → (put n l).Pairwise (· ≤ ·)
  | [], _ => List.pairwise_singleton _ _
  | m :: r, h => by
    unfold put
    by_cases hd : n ≤ m
    · simp only [decide_eq_true hd]
      refine List.pairwise_cons.2 ⟨fun x hx => ?_, h⟩
      rcases List.mem_cons.1 hx with rfl | hx
      · exact hd
      · exact Int.le_trans hd ((List.pairwise_cons.1 h).1 x hx)
    · simp only [decide_eq_false hd]
      refine List.pairwise_cons.2 ⟨fun x hx => ?_, put_sorted n r (List.pairwise_cons.1 h).2⟩
      rcases List.mem_cons.1 ((put_perm n r).mem_iff.1 hx) with rfl | hx
      · omega
      · exact (List.pairwise_cons.1 h).1 x hx

theorem sorted_perm' : ∀ l : List Int, (sorted l).Perm l
  | [] => .refl _
  | n :: r => (put_perm n _).trans ((sorted_perm' r).cons n)

theorem sorted_sorted : ∀ l : List Int, (sorted l).Pairwise (· ≤ ·)
  | [] => .nil
  | n :: r => put_sorted n _ (sorted_sorted r)

theorem sorted_merge (l : List Int) : l.mergeSort (fun x y => decide (x ≤ y)) = sorted l := by
  have h1 : (l.mergeSort (fun x y => decide (x ≤ y))).Perm (sorted l) := (List.mergeSort_perm _ _).trans (sorted_perm' l).symm
  have h2 : (l.mergeSort (fun x y => decide (x ≤ y))).Pairwise (· ≤ ·) := by
    have := List.pairwise_mergeSort (le := fun x y : Int => decide (x ≤ y)) (by intro a b c; simp; omega) (by intro a b; simp; omega) l
    exact this.imp fun h => by simpa using h
  exact h1.eq_of_pairwise (fun a b _ _ h h' => Int.le_antisymm h h') h2 (sorted_sorted l)

theorem kept_shape {f : FuncId} {ts : List T} {σ τ : St} {t : T} (h : keptP f ts σ = some (t, τ)) :
    f = 13 ∧ ∃ i o own vs m es ks, ts = [Z (.ptr i o)] ∧ σ.get i = some (.cells own vs) ∧ vs[o + 1]? = some (.map m) ∧ σ.get m = some (.map es) ∧ es.length ≤ 1000 ∧ keysOf es = some ks ∧
      ((ks = [] ∧ t = Z .nils ∧ τ = σ) ∨ (ks ≠ [] ∧ t = Z (.sl σ.size 0 ks.length (.grown 1)) ∧ τ = σ.push (.cells false ((sorted ks).map (S.int .i64))))) := by
  unfold keptP at h
  split at h
  · cases h
  · rename_i hf
    refine ⟨Nat.eq_of_beq_eq_true hf, ?_⟩
    split at h
    · rename_i i o
      split at h
      · rename_i own vs hi
        split at h
        · rename_i m hm
          split at h
          · rename_i es hes
            split at h
            · rename_i hl hk
              cases h
              exact ⟨i, o, own, vs, m, es, _, rfl, hi, hm, hes, Nat.le_of_ble_eq_true hl, hk, .inl ⟨rfl, rfl, rfl⟩⟩
            · rename_i k l hl hk
              cases h
              exact ⟨i, o, own, vs, m, es, _, rfl, hi, hm, hes, Nat.le_of_ble_eq_true hl, hk, .inr ⟨by simp, rfl, rfl⟩⟩
            · cases h
          · cases h
        · cases h
      · cases h
    · cases h

theorem owns_map {ι : Inj} {w : World} {L : Abs.Loc} {es : List (S × V)} {ks : List Int} (hb : BlkRel ι L w (.map es)) (hk : keysOf es = some ks) (hl : es.length ≤ 1000) :
    ∃ D0 : DataW Unit, w.ownsMap Try.prog 2 (fun _ => some (.nil, [])) L.b 1000 D0 ∧ (intKeys D0).Perm ks ∧ Maps.size D0 ≤ 1000 := by
  obtain ⟨mes, clk, h1, h2, h3, h4⟩ := hb
  obtain ⟨k1, k2, k3⟩ := keysOf_facts hk
  have hlen : mes.size = es.length := by rw [← Array.length_toList, ← forall2_length h2]
  have hkeys : mes.toList.map (·.key) = ks.map (Value.int .i64) := by
    have : ∀ {es : List (S × V)} {l : List MapEntry} {ks : List Int}, All2 (EntRel ι) es l → es.map (·.1) = ks.map (S.int .i64) → l.map (·.key) = ks.map (Value.int .i64) := by
      intro es l ks h
      induction h generalizing ks with
      | nil => intro e; cases ks with
        | nil => rfl
        | cons _ _ => simp at e
      | cons a b ih =>
        intro e
        cases ks with
        | nil => simp at e
        | cons k ks =>
          simp only [List.map_cons, List.cons.injEq] at e ⊢
          refine ⟨?_, ih e.2⟩
          have := a.1
          rw [e.1] at this
          exact this
    exact this h2 k1
  have hrd : ∀ x ∈ mes.toList, ∃ n, n ∈ ks ∧ x.key = .int .i64 n ∧ rd (H := Unit) Try.prog 2 (fun _ => some (.nil, [])) x = some (.int .i64 n, .nil) := by
    intro x hx
    have : x.key ∈ ks.map (Value.int .i64) := by rw [← hkeys]; exact List.mem_map_of_mem hx
    obtain ⟨n, hn, e⟩ := List.mem_map.1 this
    refine ⟨n, hn, e.symm, ?_⟩
    unfold rd
    rw [← e, Maps.keyOf_int_mk Try.underlying2 (k3 n hn)]
    rfl
  refine ⟨_, ⟨mes, clk, h1, ⟨by rw [hlen]; exact Nat.le_trans hl (by decide), ⟨h4, ?_, ?_⟩, fun x hx => ?_⟩, by omega, rfl⟩, ?_, ?_⟩
  · rw [List.nodup_iff_pairwise_ne, List.pairwise_map]
    exact h3.imp fun h => by omega
  · rw [hkeys]
    rw [List.nodup_iff_pairwise_ne, List.pairwise_map]
    exact (List.nodup_iff_pairwise_ne.1 k2).imp fun h e => h (by simpa using e)
  · obtain ⟨n, _, _, h⟩ := hrd x hx
    exact ⟨_, h⟩
  · show (List.map (fun p : Lit × DataW Unit => Go.intOf p.1) _).Perm ks
    refine ((WideShapes.sorted_perm _).map _).trans ?_
    rw [List.map_map]
    have : mes.toList.map ((fun p : Lit × DataW Unit => Go.intOf p.1) ∘ rg (H := Unit) Try.prog 2 (fun _ => some (.nil, []))) = ks := by
      have e1 : mes.toList.map ((fun p : Lit × DataW Unit => Go.intOf p.1) ∘ rg (H := Unit) Try.prog 2 (fun _ => some (.nil, []))) = mes.toList.map (fun x => match x.key with | .int _ n => n | _ => 0) := by
        apply List.map_congr_left
        intro x hx
        obtain ⟨n, _, hn, h⟩ := hrd x hx
        simp [rg, h, hn, Go.intOf]
      rw [e1]
      have e2 : mes.toList.map (fun x => match x.key with | .int _ n => n | _ => 0) = (mes.toList.map (·.key)).map (fun v => match v with | .int _ n => n | _ => 0) := by rw [List.map_map]; rfl
      rw [e2, hkeys, List.map_map]
      simp [Function.comp_def]
    rw [this]
  · show (List.foldr DataW.insert [] _).length ≤ 1000
    rw [(WideShapes.sorted_perm _).length_eq, List.length_map, Array.length_toList]
    omega

theorem keptP_sound : CallSound Try.prog keptP := by
  constructor
  · intro f ts σ t τ h wf
    obtain ⟨_, i, o, own, vs, m, es, ks, _, _, _, _, _, _, h | h⟩ := kept_shape h
    · obtain ⟨_, _, rfl⟩ := h
      exact ⟨wf, Nat.le_refl _⟩
    · obtain ⟨_, _, rfl⟩ := h
      exact ⟨St.wf_push wf _, by simp⟩
  · intro f ts σ t τ h wf ι w vs hR hF hA
    obtain ⟨rfl, i, o, own, cs, m, es, ks, rfl, hi, hm, hes, hl, hk, h⟩ := kept_shape h
    cases hA with
    | cons a b =>
    cases b
    obtain ⟨L, hL, rfl⟩ := a
    obtain ⟨c, e, fz, h1, h2, h3, h4, h5⟩ := hR.blk i L _ hL hi
    obtain ⟨v, hv, hr⟩ := h4 (o + 1) _ hm
    obtain ⟨M, hM, rfl⟩ := hr
    have hb := hR.blk m M _ hM hes
    obtain ⟨D0, hown, hp, hs⟩ := owns_map hb hk hl
    have hc : w.cell? ⟨L.b, L.base + o + 1, none⟩ = some (.map (some M.b)) := by
      unfold World.cell?
      simp only [h1]
      rw [Nat.add_assoc]
      simpa using hv
    refine (Try.kept_calls L.b (L.base + o) M.b 1000 D0 _ w hc hown (Nat.le_trans hs (by decide)) (by omega)).mono ?_
    rintro e' u ⟨v, ss, rfl, hss, hrow, hnil, hbel⟩
    have hperm := hss.trans hp
    have hmerge : ss.mergeSort (fun x y => decide (x ≤ y)) = sorted ks := by
      rw [← sorted_merge ks]
      exact mergeSort_of_perm_i hperm
    rw [hmerge] at hrow
    have hlen := hperm.length_eq
    rcases h with ⟨rfl, rfl, rfl⟩ | ⟨hne, rfl, rfl⟩
    · have : ss = [] := List.eq_nil_of_length_eq_zero (by simpa using hlen)
      refine ⟨ι, v, rfl, ⟨Nat.le_refl _, fun _ _ => rfl, fun _ _ h => h, fun _ _ h => h, fun _ _ _ => rfl, fun i L h1 h2 => by omega, hbel.os, hbel.output, hbel.size, fun k hk _ => hbel.block k hk⟩, ⟨fun i L b hi' hb' => ?_, hR.sep, hR.glob⟩, hnil.2 this⟩
      have hB := hR.blk i L b hi' hb'
      cases b with
      | dead => trivial
      | cells own vs => exact hB.congr (hbel.block _ (hB.lt trivial))
      | map es => exact hB.congr (hbel.block _ (hB.lt trivial))
      | glob g vs => exact hB.congr (hbel.block _ (hB.lt trivial))
    · have hssne : ss ≠ [] := fun e => hne (by rw [e] at hlen; exact List.eq_nil_of_length_eq_zero (by simpa using hlen.symm))
      rcases hrow.2 with ⟨e, _⟩ | ⟨g, cap, cur, rfl, hg, hcur, hle, hcap, hsz, htk⟩
      · exact absurd (hnil.1 e) hssne
      have hsl : (sorted ks).length = ks.length := (sorted_perm' ks).length_eq
      let κ : Inj := fun j => if j = σ.size then some ⟨g, 0, cap, 0⟩ else ι j
      have hκ : ι.le κ := by
        intro j M hj
        have : j ≠ σ.size := fun e => by rw [hF j (by omega) (by simp; omega)] at hj; cases hj
        simp [κ, this, hj]
      have hnew : BlkRel κ ⟨g, 0, cap, 0⟩ u (.cells false ((sorted ks).map (S.int .i64))) := by
        refine ⟨cur, _, (0, 0), hcur, by rw [hsz, Nat.mul_one], by simp [hsl, ← hlen]; exact hle, fun j x hx => ?_, fun e => by cases e⟩
        rw [List.getElem?_map, Option.map_eq_some_iff] at hx
        obtain ⟨n, hn, rfl⟩ := hx
        have hj : j < (sorted ks).length := (List.getElem?_eq_some_iff.1 hn).1
        have e1 : (cur.toList.take (ss.length * 1))[j]? = some (encZ n) := by rw [htk, List.getElem?_map, hn]; rfl
        rw [List.getElem?_take, if_pos (by omega), Array.getElem?_toList] at e1
        exact ⟨_, by simpa using e1, rfl⟩
      refine ⟨κ, _, rfl, ?_, ⟨fun j M b hj hb' => ?_, fun j k M N hj hk' hl' hh hjk => ?_, fun j n vs hg => ?_⟩, ?_⟩
      · refine ⟨by simp, fun j hj => ?_, fun j hj hl' => ?_, fun j hj hl' => ?_, fun j hj hn => ?_, fun j M h1 h2 hj _ => ?_, hbel.os, hbel.output, hbel.size, fun k hk' _ => hbel.block k hk'⟩
        · have : j ≠ σ.size := by simp at hj; omega
          simp [κ, this]
        · rwa [St.get_push_ne _ _ (by omega)] at hl'
        · rwa [St.get_push_ne _ _ (by omega)] at hl'
        · rw [St.get_push_ne _ _ (by omega)]
        · have : j = σ.size := by simp at h2; omega
          subst this
          simp [κ] at hj
          subst hj
          exact .inl hg
      · by_cases e : j = σ.size
        · subst e
          simp [κ] at hj
          subst hj
          rw [St.get_push_same] at hb'
          cases hb'
          exact hnew
        · simp [κ, e] at hj
          rw [St.get_push_ne _ _ e] at hb'
          have hB := (hR.blk j M b hj hb').mono hκ
          cases b with
          | dead => trivial
          | cells own vs => exact hB.congr (hbel.block _ (hB.lt trivial))
          | map es => exact hB.congr (hbel.block _ (hB.lt trivial))
          | glob g vs => exact hB.congr (hbel.block _ (hB.lt trivial))
      · have old : ∀ {j : Nat} {M : Abs.Loc}, j ≠ σ.size → κ j = some M → held ((σ.push (.cells false ((sorted ks).map (S.int .i64)))).get j) → M.b < w.heap.size := by
          intro j M e hj hh
          simp [κ, e] at hj
          rw [St.get_push_ne _ _ e] at hh
          cases hbj : σ.get j with
          | none => rw [hbj] at hh; exact hh.elim
          | some b => rw [hbj] at hh; exact (hR.blk j M b hj hbj).lt hh
        by_cases e1 : j = σ.size
        · subst e1
          have hb2 := old (fun e => hjk e.symm) hk' hh
          simp [κ] at hj
          subst hj
          intro e
          have : g = N.b := e
          omega
        · by_cases e2 : k = σ.size
          · subst e2
            have hb2 := old e1 hj hl'.held
            simp [κ] at hk'
            subst hk'
            intro e
            have : M.b = g := e
            omega
          · simp [κ, e1] at hj
            simp [κ, e2] at hk'
            rw [St.get_push_ne _ _ e1] at hl'
            rw [St.get_push_ne _ _ e2] at hh
            exact hR.sep j k M N hj hk' hl' hh hjk
      · by_cases e : j = σ.size
        · subst e
          rw [St.get_push_same] at hg
          cases hg
        · rw [St.get_push_ne _ _ e] at hg
          obtain ⟨L, hL⟩ := hR.glob j n vs hg
          exact ⟨L, hκ j L hL⟩
      · refine ⟨⟨g, 0, cap, 0⟩, cap, by simp [κ], ?_, by rw [← hlen]; exact hle, by simp⟩
        rw [hlen]

theorem prim_sound : CallSound Try.prog prim := orP_sound (toldP_sound (runQ_sound keptP_sound 64 16) told_all) keptP_sound
end Go.Proofs.Ytoibllpfjnicfaa

