/-
  What the laws of layer 11 and the functions of package disk compute, printed by a program of our own: each text is by definition the run of the code. No conditions.
-/
import Derived.Test.YtinmpngfehamcaaDoorAbsLoop
import Derived.Test.YtinmpngfehamcaaDoorRows
namespace Go.Proofs.YtinmpngfehamcaaDoor
open Go Go.Abs Go.Abs.F
set_option linter.unusedVariables false
noncomputable section
/-- A map's keys, if all are short texts. -/
def keysOf : List (S × V) → Option (List (List UInt8))
  | [] => some []
  | (.str n, _) :: r => match keysOf r with
    | some l => match Nat.ble n.length 1000 && !l.contains n with
      | true => some (n :: l)
      | false => none
    | none => none
  | _ :: _ => none

/-- Go's order of texts. -/
def lexLe : List UInt8 → List UInt8 → Bool
  | [], _ => true
  | _ :: _, [] => false
  | a :: r, b :: t => match Nat.blt a.toNat b.toNat with
    | true => true
    | false => match Nat.beq a.toNat b.toNat with
      | true => lexLe r t
      | false => false

def put (n : List UInt8) : List (List UInt8) → List (List UInt8)
  | [] => [n]
  | m :: r => match lexLe n m with
    | true => n :: m :: r
    | false => m :: put n r

def sorted : List (List UInt8) → List (List UInt8)
  | [] => []
  | n :: r => put n (sorted r)

/-- What Names gives. -/
def namesP : CallF := fun f ts σ => match Nat.beq f 15 with
  | false => none
  | true => match ts with
    | [.v (.s (.ptr i o))] => match σ.get i with
      | some (.cells _ vs) => match vs[o + 1]? with
        | some (.map m) => match σ.get m with
          | some (.map es) => match Nat.ble es.length 1000, keysOf es with
            | true, some [] => some (Z .nils, σ)
            | true, some (k :: l) => some (Z (.sl σ.size 0 (l.length + 1) (.grown 1)), σ.push (.cells true ((sorted (k :: l)).map S.str)))
            | _, _ => none
          | _ => none
        | _ => none
      | _ => none
    | _ => none

/-- The few checks of told are run once, in an empty store; so is whether a name may be. -/
abbrev prim1 : CallF := orP namesP (pureP (runQ Tryd.prog 64 noPrim 16) [20])
abbrev prim : CallF := orP (toldP 8 true) prim1
abbrev R (d : Nat) : CallF := runQ Tryd.prog 512 prim d
/- twinkeep/twinkeeplaw11.DiskKeeps -/
def f3 (callf : CallF) (N : Nat) (a0 : T) (a1 : T) (a2 : T) (s : St) : Option (T × St) :=
  bd2 (callf 7 [(I .i64 1000)] s) fun t13 s1 =>
  bd (eqB .p t13 (Z .nilp)) fun t15 =>
  bd (gT (gd t15 false) (some a0)) fun t17 =>
  bd (gT (gd t15 false) (aLenSl t17)) fun t18 =>
  bd (gT (gd t15 false) (aBin .gtr t18 (I .i64 60))) fun t19 =>
  bd (aPick t15 (B true) t19) fun t20 =>
  bd (gT (gd t20 false) (some a1)) fun t22 =>
  bd (gT (gd t20 false) (aLenSl t22)) fun t23 =>
  bd (gT (gd t20 false) (aBin .gtr t23 (I .i64 60))) fun t24 =>
  bd (aPick t20 (B true) t24) fun t25 =>
  br t25 (bd2 (callf 8 [] s1) fun t26 s2 =>
  bd (gT (gd t26 true) (some t13)) fun t28 =>
  bd (gT (gd t26 true) (neB .p t28 (Z .nilp))) fun t29 =>
  bd (aPick t26 t29 (B false)) fun t30 =>
  some (t30, s2))
  (bd2 (callf 9 [t13, (Z (.str [102])), a0] s1) fun t33 s3 =>
  bd (aBin .neq t33 (I .i64 0)) fun t34 =>
  bd (gT (gd t34 false) (some t13)) fun t36 =>
  bd2 (gS (gd t34 false) s3 (callf 10 [t36, (Z (.str [102]))] s3)) fun t37 s4 =>
  bd (gT (gd t34 false) (aBin .neq t37 (I .i64 0))) fun t38 =>
  bd (aPick t34 (B true) t38) fun t39 =>
  bd (gT (gd t39 false) (some t13)) fun t41 =>
  bd (gT (gd t39 false) (some a1)) fun t42 =>
  bd2 (gS (gd t39 false) s4 (callf 9 [t41, (Z (.str [102])), t42] s4)) fun t43 s5 =>
  bd (gT (gd t39 false) (aBin .neq t43 (I .i64 0))) fun t44 =>
  bd (aPick t39 (B true) t44) fun t45 =>
  br t45 (some ((B false), s5))
  (bd2 (aNew s5 (nSlice 1 (aFill [.int .i64 0] [(0, 1, a2)]))) fun t48 s6 =>
  bd2 (callf 11 [t13, t48] s6) fun t49 s7 =>
  bd (aFold aMax2 a2 [(I .i64 0)]) fun t51 =>
  bd (aLenSl a1) fun t53 =>
  bd (aFold aMin2 t51 [t53]) fun t54 =>
  bd2 (callf 12 [t13, (Z (.str [102]))] s7) fun t57 s8 =>
  bd (aExtract t57 0) fun t58 =>
  bd (aExtract t57 1) fun t59 =>
  bd2 (callf 11 [t13, (Z .nils)] s8) fun t61 s9 =>
  bd2 (callf 12 [t13, (Z (.str [102]))] s9) fun t64 s10 =>
  bd (aExtract t64 0) fun t65 =>
  bd (aExtract t64 1) fun t66 =>
  bd2 (callf 8 [] s10) fun t67 s11 =>
  bd (gT (gd t67 true) (some t59)) fun t69 =>
  bd (gT (gd t67 true) (aBin .eql t69 (I .i64 0))) fun t70 =>
  bd (aPick t67 t70 (B false)) fun t71 =>
  bd (gT (gd t71 true) (some t66)) fun t73 =>
  bd (gT (gd t71 true) (aBin .eql t73 (I .i64 0))) fun t74 =>
  bd (aPick t71 t74 (B false)) fun t75 =>
  bd (gT (gd t75 true) (some t58)) fun t77 =>
  bd (gT (gd t75 true) (aBytesStr t77 s11.get)) fun t78 =>
  bd (gT (gd t75 true) (some a0)) fun t79 =>
  bd (gT (gd t75 true) (aBytesStr t79 s11.get)) fun t80 =>
  bd (gT (gd t75 true) (some a1)) fun t81 =>
  bd (gT (gd t75 true) (some t54)) fun t82 =>
  bd (gT (gd t75 true) (aPieceSl 1 t81 none (some t82) none)) fun t83 =>
  bd (gT (gd t75 true) (aBytesStr t83 s11.get)) fun t84 =>
  bd (gT (gd t75 true) (aBin .add t80 t84)) fun t85 =>
  bd (gT (gd t75 true) (aBin .eql t78 t85)) fun t86 =>
  bd (aPick t75 t86 (B false)) fun t87 =>
  bd (gT (gd t87 true) (some t58)) fun t89 =>
  bd (gT (gd t87 true) (aBytesStr t89 s11.get)) fun t90 =>
  bd (gT (gd t87 true) (some t65)) fun t91 =>
  bd (gT (gd t87 true) (aBytesStr t91 s11.get)) fun t92 =>
  bd (gT (gd t87 true) (aBin .eql t90 t92)) fun t93 =>
  bd (aPick t87 t93 (B false)) fun t94 =>
  some (t94, s11)))

theorem f3_eq (callf : CallF) (N : Nat) (a0 : T) (a1 : T) (a2 : T) (s : St) : bodyC Tryd.prog callf N Tryd.f3 [a0, a1, a2] s = f3 callf N a0 a1 a2 s := by kernel_rfl

theorem f3_run (d : Nat) (a0 : T) (a1 : T) (a2 : T) (s : St) : R (d + 1) 3 [a0, a1, a2] s = f3 (R d) 512 a0 a1 a2 s := (runQ_body rfl Tryd.func3 (by kernel_rfl)).trans (f3_eq ..)

/- twinkeep/twinkeeplaw11.DiskCuts -/
def f4 (callf : CallF) (N : Nat) (a0 : T) (a1 : T) (a2 : T) (s : St) : Option (T × St) :=
  bd2 (callf 7 [(I .i64 1000)] s) fun t13 s1 =>
  bd (eqB .p t13 (Z .nilp)) fun t15 =>
  bd (gT (gd t15 false) (some a0)) fun t17 =>
  bd (gT (gd t15 false) (aLenSl t17)) fun t18 =>
  bd (gT (gd t15 false) (aBin .lss t18 (I .i64 1))) fun t19 =>
  bd (aPick t15 (B true) t19) fun t20 =>
  bd (gT (gd t20 false) (some a0)) fun t22 =>
  bd (gT (gd t20 false) (aLenSl t22)) fun t23 =>
  bd (gT (gd t20 false) (aBin .gtr t23 (I .i64 60))) fun t24 =>
  bd (aPick t20 (B true) t24) fun t25 =>
  bd (gT (gd t25 false) (some a2)) fun t27 =>
  bd (gT (gd t25 false) (aLenSl t27)) fun t28 =>
  bd (gT (gd t25 false) (aBin .gtr t28 (I .i64 20))) fun t29 =>
  bd (aPick t25 (B true) t29) fun t30 =>
  br t30 (bd2 (callf 8 [] s1) fun t31 s2 =>
  bd (gT (gd t31 true) (some t13)) fun t33 =>
  bd (gT (gd t31 true) (neB .p t33 (Z .nilp))) fun t34 =>
  bd (aPick t31 t34 (B false)) fun t35 =>
  some (t35, s2))
  (bd (aConv .u64 a1) fun t37 =>
  bd (aLenSl a0) fun t39 =>
  bd (aBin .add t39 (I .i64 1)) fun t40 =>
  bd (aConv .u64 t40) fun t41 =>
  bd (aBin .rem t37 t41) fun t42 =>
  bd (aConv .i64 t42) fun t43 =>
  bd2 (callf 9 [t13, (Z (.str [102])), a0] s1) fun t46 s3 =>
  bd (aBin .neq t46 (I .i64 0)) fun t47 =>
  bd (gT (gd t47 false) (some t13)) fun t49 =>
  bd2 (gS (gd t47 false) s3 (callf 10 [t49, (Z (.str [102]))] s3)) fun t50 s4 =>
  bd (gT (gd t47 false) (aBin .neq t50 (I .i64 0))) fun t51 =>
  bd (aPick t47 (B true) t51) fun t52 =>
  bd (gT (gd t52 false) (some t13)) fun t54 =>
  bd (gT (gd t52 false) (some t43)) fun t55 =>
  bd2 (gS (gd t52 false) s4 (callf 13 [t54, (Z (.str [102])), t55] s4)) fun t56 s5 =>
  bd (gT (gd t52 false) (aBin .neq t56 (I .i64 0))) fun t57 =>
  bd (aPick t52 (B true) t57) fun t58 =>
  bd (gT (gd t58 false) (some t13)) fun t60 =>
  bd (gT (gd t58 false) (some a2)) fun t61 =>
  bd2 (gS (gd t58 false) s5 (callf 9 [t60, (Z (.str [102])), t61] s5)) fun t62 s6 =>
  bd (gT (gd t58 false) (aBin .neq t62 (I .i64 0))) fun t63 =>
  bd (aPick t58 (B true) t63) fun t64 =>
  br t64 (some ((B false), s6))
  (bd2 (callf 12 [t13, (Z (.str [102]))] s6) fun t67 s7 =>
  bd (aExtract t67 0) fun t68 =>
  bd (aExtract t67 1) fun t69 =>
  bd2 (callf 11 [t13, (Z .nils)] s7) fun t71 s8 =>
  bd2 (callf 12 [t13, (Z (.str [102]))] s8) fun t74 s9 =>
  bd (aExtract t74 0) fun t75 =>
  bd (aExtract t74 1) fun t76 =>
  bd2 (callf 8 [] s9) fun t77 s10 =>
  bd (gT (gd t77 true) (some t69)) fun t79 =>
  bd (gT (gd t77 true) (aBin .eql t79 (I .i64 0))) fun t80 =>
  bd (aPick t77 t80 (B false)) fun t81 =>
  bd (gT (gd t81 true) (some t76)) fun t83 =>
  bd (gT (gd t81 true) (aBin .eql t83 (I .i64 0))) fun t84 =>
  bd (aPick t81 t84 (B false)) fun t85 =>
  bd (gT (gd t85 true) (some t68)) fun t87 =>
  bd (gT (gd t85 true) (aBytesStr t87 s10.get)) fun t88 =>
  bd (gT (gd t85 true) (some a0)) fun t89 =>
  bd (gT (gd t85 true) (some t43)) fun t90 =>
  bd (gT (gd t85 true) (aPieceSl 1 t89 none (some t90) none)) fun t91 =>
  bd (gT (gd t85 true) (aBytesStr t91 s10.get)) fun t92 =>
  bd (gT (gd t85 true) (some a2)) fun t93 =>
  bd (gT (gd t85 true) (aBytesStr t93 s10.get)) fun t94 =>
  bd (gT (gd t85 true) (aBin .add t92 t94)) fun t95 =>
  bd (gT (gd t85 true) (aBin .eql t88 t95)) fun t96 =>
  bd (aPick t85 t96 (B false)) fun t97 =>
  bd (gT (gd t97 true) (some t75)) fun t99 =>
  bd (gT (gd t97 true) (aBytesStr t99 s10.get)) fun t100 =>
  bd (gT (gd t97 true) (some a0)) fun t101 =>
  bd (gT (gd t97 true) (some t43)) fun t102 =>
  bd (gT (gd t97 true) (aPieceSl 1 t101 none (some t102) none)) fun t103 =>
  bd (gT (gd t97 true) (aBytesStr t103 s10.get)) fun t104 =>
  bd (gT (gd t97 true) (aBin .eql t100 t104)) fun t105 =>
  bd (aPick t97 t105 (B false)) fun t106 =>
  some (t106, s10)))

theorem f4_eq (callf : CallF) (N : Nat) (a0 : T) (a1 : T) (a2 : T) (s : St) : bodyC Tryd.prog callf N Tryd.f4 [a0, a1, a2] s = f4 callf N a0 a1 a2 s := by kernel_rfl

theorem f4_run (d : Nat) (a0 : T) (a1 : T) (a2 : T) (s : St) : R (d + 1) 4 [a0, a1, a2] s = f4 (R d) 512 a0 a1 a2 s := (runQ_body rfl Tryd.func4 (by kernel_rfl)).trans (f4_eq ..)

/- twinkeep/twinkeeplaw11.DiskNames -/
def f5 (callf : CallF) (N : Nat) (a0 : T) (a1 : T) (a2 : T) (s : St) : Option (T × St) :=
  bd2 (callf 7 [(I .i64 1000)] s) fun t15 s1 =>
  bd (eqB .p t15 (Z .nilp)) fun t17 =>
  bd (gT (gd t17 false) (some a0)) fun t19 =>
  bd (gT (gd t17 false) (aLenSl t19)) fun t20 =>
  bd (gT (gd t17 false) (aBin .gtr t20 (I .i64 30))) fun t21 =>
  bd (aPick t17 (B true) t21) fun t22 =>
  bd (gT (gd t22 false) (some a1)) fun t24 =>
  bd (gT (gd t22 false) (aLenSl t24)) fun t25 =>
  bd (gT (gd t22 false) (aBin .gtr t25 (I .i64 30))) fun t26 =>
  bd (aPick t22 (B true) t26) fun t27 =>
  bd (gT (gd t27 false) (some a2)) fun t29 =>
  bd (gT (gd t27 false) (aLenSl t29)) fun t30 =>
  bd (gT (gd t27 false) (aBin .gtr t30 (I .i64 30))) fun t31 =>
  bd (aPick t27 (B true) t31) fun t32 =>
  br t32 (bd2 (callf 8 [] s1) fun t33 s2 =>
  bd (gT (gd t33 true) (some t15)) fun t35 =>
  bd (gT (gd t33 true) (neB .p t35 (Z .nilp))) fun t36 =>
  bd (aPick t33 t36 (B false)) fun t37 =>
  some (t37, s2))
  (bd2 (callf 9 [t15, (Z (.str [120])), a0] s1) fun t40 s3 =>
  bd (aBin .neq t40 (I .i64 0)) fun t41 =>
  bd (gT (gd t41 false) (some t15)) fun t43 =>
  bd2 (gS (gd t41 false) s3 (callf 10 [t43, (Z (.str [120]))] s3)) fun t44 s4 =>
  bd (gT (gd t41 false) (aBin .neq t44 (I .i64 0))) fun t45 =>
  bd (aPick t41 (B true) t45) fun t46 =>
  bd (gT (gd t46 false) (some t15)) fun t48 =>
  bd (gT (gd t46 false) (some a1)) fun t49 =>
  bd2 (gS (gd t46 false) s4 (callf 9 [t48, (Z (.str [120])), t49] s4)) fun t50 s5 =>
  bd (gT (gd t46 false) (aBin .neq t50 (I .i64 0))) fun t51 =>
  bd (aPick t46 (B true) t51) fun t52 =>
  bd (gT (gd t52 false) (some t15)) fun t54 =>
  bd (gT (gd t52 false) (some a2)) fun t55 =>
  bd2 (gS (gd t52 false) s5 (callf 9 [t54, (Z (.str [121])), t55] s5)) fun t56 s6 =>
  bd (gT (gd t52 false) (aBin .neq t56 (I .i64 0))) fun t57 =>
  bd (aPick t52 (B true) t57) fun t58 =>
  bd (gT (gd t58 false) (some t15)) fun t60 =>
  bd2 (gS (gd t58 false) s6 (callf 14 [t60, (Z (.str [120])), (Z (.str [121]))] s6)) fun t61 s7 =>
  bd (gT (gd t58 false) (aBin .neq t61 (I .i64 0))) fun t62 =>
  bd (aPick t58 (B true) t62) fun t63 =>
  br t63 (some ((B false), s7))
  (bd2 (callf 12 [t15, (Z (.str [121]))] s7) fun t66 s8 =>
  bd (aExtract t66 0) fun t67 =>
  bd (aExtract t66 1) fun t68 =>
  bd2 (callf 12 [t15, (Z (.str [120]))] s8) fun t71 s9 =>
  bd (aExtract t71 0) fun t72 =>
  bd (aExtract t71 1) fun t73 =>
  bd2 (callf 15 [t15] s9) fun t75 s10 =>
  bd2 (callf 11 [t15, (Z .nils)] s10) fun t77 s11 =>
  bd2 (callf 12 [t15, (Z (.str [121]))] s11) fun t80 s12 =>
  bd (aExtract t80 0) fun t81 =>
  bd (aExtract t80 1) fun t82 =>
  bd2 (callf 8 [] s12) fun t83 s13 =>
  bd (gT (gd t83 true) (some t68)) fun t85 =>
  bd (gT (gd t83 true) (aBin .eql t85 (I .i64 0))) fun t86 =>
  bd (aPick t83 t86 (B false)) fun t87 =>
  bd (gT (gd t87 true) (some t73)) fun t89 =>
  bd (gT (gd t87 true) (aBin .neq t89 (I .i64 0))) fun t90 =>
  bd (aPick t87 t90 (B false)) fun t91 =>
  bd (gT (gd t91 true) (some t82)) fun t93 =>
  bd (gT (gd t91 true) (aBin .eql t93 (I .i64 0))) fun t94 =>
  bd (aPick t91 t94 (B false)) fun t95 =>
  bd (gT (gd t95 true) (some t75)) fun t97 =>
  bd (gT (gd t95 true) (aLenSl t97)) fun t98 =>
  bd (gT (gd t95 true) (aBin .eql t98 (I .i64 1))) fun t99 =>
  bd (aPick t95 t99 (B false)) fun t100 =>
  bd (gT (gd t100 true) (some t75)) fun t102 =>
  bd (gT (gd t100 true) (aIndexSl 1 t102 (I .i64 0))) fun t103 =>
  bd (gT (gd t100 true) (aLoad1 t103 s13.get)) fun t104 =>
  bd (gT (gd t100 true) (aBin .eql t104 (Z (.str [121])))) fun t105 =>
  bd (aPick t100 t105 (B false)) fun t106 =>
  bd (gT (gd t106 true) (some t67)) fun t108 =>
  bd (gT (gd t106 true) (aBytesStr t108 s13.get)) fun t109 =>
  bd (gT (gd t106 true) (some a0)) fun t110 =>
  bd (gT (gd t106 true) (aBytesStr t110 s13.get)) fun t111 =>
  bd (gT (gd t106 true) (some a1)) fun t112 =>
  bd (gT (gd t106 true) (aBytesStr t112 s13.get)) fun t113 =>
  bd (gT (gd t106 true) (aBin .add t111 t113)) fun t114 =>
  bd (gT (gd t106 true) (aBin .eql t109 t114)) fun t115 =>
  bd (aPick t106 t115 (B false)) fun t116 =>
  bd (gT (gd t116 true) (some t81)) fun t118 =>
  bd (gT (gd t116 true) (aBytesStr t118 s13.get)) fun t119 =>
  bd (gT (gd t116 true) (some a0)) fun t120 =>
  bd (gT (gd t116 true) (aBytesStr t120 s13.get)) fun t121 =>
  bd (gT (gd t116 true) (aBin .eql t119 t121)) fun t122 =>
  bd (aPick t116 t122 (B false)) fun t123 =>
  some (t123, s13)))

theorem f5_eq (callf : CallF) (N : Nat) (a0 : T) (a1 : T) (a2 : T) (s : St) : bodyC Tryd.prog callf N Tryd.f5 [a0, a1, a2] s = f5 callf N a0 a1 a2 s := by kernel_rfl

theorem f5_run (d : Nat) (a0 : T) (a1 : T) (a2 : T) (s : St) : R (d + 1) 5 [a0, a1, a2] s = f5 (R d) 512 a0 a1 a2 s := (runQ_body rfl Tryd.func5 (by kernel_rfl)).trans (f5_eq ..)

/- twinkeep/twinkeeplaw11.DiskRoom: a loop; 0: t1 b, 1: t5 n, 2: t6 d, 3: t7 k -/
def f6_l1 (callf : CallF) (N : Nat) (v : List T) (s : St) : Option (JO × St) :=
  bd2 (callf 9 [(v.getD 2 .any), (Z (.str [102])), (v.getD 0 .any)] s) fun t37 s3 =>
  bd (aBin .eql t37 (I .i64 0)) fun t38 =>
  br t38 (jn (bd (aBin .add (v.getD 3 .any) (I .i64 1)) fun t40 =>
  bd (aBin .gtr t40 (I .i64 400)) fun t42 =>
  br t42 (some (.ret (B false), s3))
  (some (.normal [(v.getD 0 .any), (v.getD 1 .any), (v.getD 2 .any), t40], s3)))
  (fun v4 s5 => some (.normal [(v4.getD 0 .any), (v4.getD 1 .any), (v4.getD 2 .any), (v4.getD 3 .any)], s5))
  (fun i6 v4 s5 => some (.exit i6 v4, s5))
  (fun r7 s5 => some (.ret r7, s5)))
  (some (.exit 0 [(v.getD 0 .any), (v.getD 1 .any), (v.getD 2 .any), (v.getD 3 .any)], s3))

/- twinkeep/twinkeeplaw11.DiskRoom -/
def f6 (callf : CallF) (N : Nat) (a0 : T) (a1 : T) (s : St) : Option (T × St) :=
  bd (aConv .u64 a0) fun t13 =>
  bd (aBin .rem t13 (I .u64 301)) fun t14 =>
  bd (aConv .i64 t14) fun t15 =>
  bd2 (callf 7 [t15] s) fun t17 s1 =>
  bd (eqB .p t17 (Z .nilp)) fun t19 =>
  bd (gT (gd t19 false) (some a1)) fun t21 =>
  bd (gT (gd t19 false) (aLenSl t21)) fun t22 =>
  bd (gT (gd t19 false) (aBin .lss t22 (I .i64 1))) fun t23 =>
  bd (aPick t19 (B true) t23) fun t24 =>
  bd (gT (gd t24 false) (some a1)) fun t26 =>
  bd (gT (gd t24 false) (aLenSl t26)) fun t27 =>
  bd (gT (gd t24 false) (aBin .gtr t27 (I .i64 60))) fun t28 =>
  bd (aPick t24 (B true) t28) fun t29 =>
  br t29 (bd2 (callf 8 [] s1) fun t30 s2 =>
  bd (gT (gd t30 true) (some t17)) fun t32 =>
  bd (gT (gd t30 true) (neB .p t32 (Z .nilp))) fun t33 =>
  bd (aPick t30 t33 (B false)) fun t34 =>
  some (t34, s2))
  (jn (jn (loops (f6_l1 callf N) N [a1, t15, t17, (I .i64 0)] s1)
  (fun v8 s9 => some (.normal [.any, .any, .any, .any], s9))
  (fun i10 v8 s9 => if i10 = 0 then some (.normal v8, s9) else some (.exit i10 v8, s9))
  (fun r11 s9 => some (.ret r11, s9)))
  (fun v12 s13 => bd (aLenSl (v12.getD 0 .any)) fun t47 =>
  bd (aBin .mul (v12.getD 3 .any) t47) fun t48 =>
  bd (aBin .sub (v12.getD 1 .any) t48) fun t49 =>
  bd2 (aNew s13 (nMake 1 1 [.int .u8 0] t49 t49)) fun t50 s16 =>
  bd2 (callf 9 [(v12.getD 2 .any), (Z (.str [103])), t50] s16) fun t51 s17 =>
  bd2 (aNew s17 (nSlice 1 (aFill [.int .u8 0] [(0, 1, (I .u8 1))]))) fun t53 s18 =>
  bd2 (callf 9 [(v12.getD 2 .any), (Z (.str [104])), t53] s18) fun t54 s19 =>
  bd2 (callf 16 [(v12.getD 2 .any), (Z (.str [102]))] s19) fun t56 s20 =>
  bd (aLenSl (v12.getD 0 .any)) fun t60 =>
  bd (aBin .mul (v12.getD 3 .any) t60) fun t61 =>
  bd2 (aNew s20 (nMake 1 1 [.int .u8 0] t61 t61)) fun t62 s21 =>
  bd2 (callf 9 [(v12.getD 2 .any), (Z (.str [104])), t62] s21) fun t63 s22 =>
  bd2 (callf 8 [] s22) fun t64 s23 =>
  bd (gT (gd t64 true) (some (v12.getD 3 .any))) fun t66 =>
  bd (gT (gd t64 true) (some (v12.getD 1 .any))) fun t67 =>
  bd (gT (gd t64 true) (some (v12.getD 0 .any))) fun t68 =>
  bd (gT (gd t64 true) (aLenSl t68)) fun t69 =>
  bd (gT (gd t64 true) (aBin .quo t67 t69)) fun t70 =>
  bd (gT (gd t64 true) (aBin .eql t66 t70)) fun t71 =>
  bd (aPick t64 t71 (B false)) fun t72 =>
  bd (gT (gd t72 true) (some t51)) fun t74 =>
  bd (gT (gd t72 true) (aBin .eql t74 (I .i64 0))) fun t75 =>
  bd (aPick t72 t75 (B false)) fun t76 =>
  bd (gT (gd t76 true) (some t54)) fun t78 =>
  bd (gT (gd t76 true) (aBin .eql t78 (I .i64 8))) fun t79 =>
  bd (aPick t76 t79 (B false)) fun t80 =>
  bd (gT (gd t80 true) (some t56)) fun t82 =>
  bd (gT (gd t80 true) (aBin .eql t82 (I .i64 0))) fun t83 =>
  bd (gT (gd t80 true) (some (v12.getD 3 .any))) fun t84 =>
  bd (gT (gd t80 true) (aBin .gtr t84 (I .i64 0))) fun t85 =>
  bd (gT (gd t80 true) (eqB .b t83 t85)) fun t86 =>
  bd (aPick t80 t86 (B false)) fun t87 =>
  bd (gT (gd t87 true) (some t63)) fun t89 =>
  bd (gT (gd t87 true) (aBin .eql t89 (I .i64 0))) fun t90 =>
  bd (aPick t87 t90 (B false)) fun t91 =>
  bd (gT (gd t91 true) (some (v12.getD 2 .any))) fun t93 =>
  bd2 (gS (gd t91 true) s23 (callf 17 [t93] s23)) fun t94 s24 =>
  bd (gT (gd t91 true) (some (v12.getD 1 .any))) fun t95 =>
  bd (gT (gd t91 true) (aBin .eql t94 t95)) fun t96 =>
  bd (aPick t91 t96 (B false)) fun t97 =>
  some (t97, s24))
  (fun i14 v12 s13 => none)
  (fun r15 s13 => some (r15, s13)))

theorem f6_eq (callf : CallF) (N : Nat) (a0 : T) (a1 : T) (s : St) : bodyC Tryd.prog callf N Tryd.f6 [a0, a1] s = f6 callf N a0 a1 s := by kernel_rfl

theorem f6_run (d : Nat) (a0 : T) (a1 : T) (s : St) : R (d + 1) 6 [a0, a1] s = f6 (R d) 512 a0 a1 s := (runQ_body rfl Tryd.func6 (by kernel_rfl)).trans (f6_eq ..)

/- twinkeep/disk.New -/
def f7 (callf : CallF) (N : Nat) (a0 : T) (s : St) : Option (T × St) :=
  bd (aBin .lss a0 (I .i64 0)) fun t4 =>
  bd (gT (gd t4 false) (some a0)) fun t6 =>
  bd (gT (gd t4 false) (aBin .gtr t6 (I .i64 1048576))) fun t7 =>
  bd (aPick t4 (B true) t7) fun t8 =>
  br t8 (some ((Z .nilp), s))
  (bd2 (aNew s (nMap)) fun t10 s1 =>
  bd (asAggT (aFill [.int .i64 0, .nilm] [(0, 1, a0), (1, 1, t10)])) fun t11 =>
  bd2 (aNew s1 (nBox t11)) fun t12 s2 =>
  some (t12, s2))

theorem f7_eq (callf : CallF) (N : Nat) (a0 : T) (s : St) : bodyC Tryd.prog callf N Tryd.f7 [a0] s = f7 callf N a0 s := by kernel_rfl

theorem f7_run (d : Nat) (a0 : T) (s : St) : R (d + 1) 7 [a0] s = f7 (R d) 512 a0 s := (runQ_body rfl Tryd.func7 (by kernel_rfl)).trans (f7_eq ..)

/- (twinkeep/disk.Disk).Append -/
def f9 (callf : CallF) (N : Nat) (a0 : T) (a1 : T) (a2 : T) (s : St) : Option (T × St) :=
  bd2 (callf 18 [a0, a1] s) fun t12 s1 =>
  bd (aExtract t12 0) fun t13 =>
  bd (aExtract t12 1) fun t14 =>
  bd (aBin .neq t14 (I .i64 0)) fun t16 =>
  bd (gT (gd t16 true) (some t14)) fun t18 =>
  bd (gT (gd t16 true) (aBin .neq t18 (I .i64 9))) fun t19 =>
  bd (aPick t16 t19 (B false)) fun t20 =>
  br t20 (some (t14, s1))
  (bd (eqB .p t13 (Z .nilp)) fun t23 =>
  bd (gT (gd t23 true) (some a0)) fun t25 =>
  bd (gT (gd t23 true) (aNil t25)) fun t26 =>
  bd (gT (gd t23 true) (aFieldAddr 1 t26)) fun t27 =>
  bd (gT (gd t23 true) (aLoad1 t27 s1.get)) fun t28 =>
  bd (gT (gd t23 true) (aLenMap t28 s1.get)) fun t29 =>
  bd (gT (gd t23 true) (aBin .eql t29 (I .i64 200))) fun t30 =>
  bd (aPick t23 t30 (B false)) fun t31 =>
  bd (gT (gd t31 false) (some a0)) fun t33 =>
  bd2 (gS (gd t31 false) s1 (callf 17 [t33] s1)) fun t34 s2 =>
  bd (gT (gd t31 false) (some a2)) fun t35 =>
  bd (gT (gd t31 false) (aLenSl t35)) fun t36 =>
  bd (gT (gd t31 false) (aBin .add t34 t36)) fun t37 =>
  bd (gT (gd t31 false) (some a0)) fun t38 =>
  bd (gT (gd t31 false) (aNil t38)) fun t39 =>
  bd (gT (gd t31 false) (aFieldAddr 0 t39)) fun t40 =>
  bd (gT (gd t31 false) (aLoad1 t40 s2.get)) fun t41 =>
  bd (gT (gd t31 false) (aBin .gtr t37 t41)) fun t42 =>
  bd (aPick t31 (B true) t42) fun t43 =>
  ck ((wq (gd t31 false) (decide (aLoad1 t40 s1.get = aLoad1 t40 s2.get)) && true) && true) (br t43 (some ((I .i64 8), s2))
  (bd (eqB .p t13 (Z .nilp)) fun t45 =>
  jn (br t45 (bd (asAggT (aFill [.nils, .int .i64 0] [])) fun t46 =>
  bd2 (aNew s2 (nBox t46)) fun t47 s3 =>
  bd (aNil a0) fun t49 =>
  bd (aFieldAddr 1 t49) fun t50 =>
  bd (aLoad1 t50 s3.get) fun t51 =>
  bd2 (mset .s t51 a1 t47 s3) fun _ s4 =>
  some (.normal [a2, t47], s4))
  (some (.normal [a2, t13], s2)))
  (fun v5 s6 => bd (aNil (v5.getD 1 .any)) fun t56 =>
  bd (aFieldAddr 0 t56) fun t57 =>
  bd (aLoad1 t57 s6.get) fun t58 =>
  bd2 (aAppend 1 1 t58 (v5.getD 0 .any) s6) fun t60 s9 =>
  bd (aNil (v5.getD 1 .any)) fun t61 =>
  bd (aFieldAddr 0 t61) fun t62 =>
  bd2 (aStore 1 t62 t60 s9) fun _ s10 =>
  some ((I .i64 0), s10))
  (fun i7 v5 s6 => none)
  (fun r8 s6 => some (r8, s6)))))

theorem f9_eq (callf : CallF) (N : Nat) (a0 : T) (a1 : T) (a2 : T) (s : St) : bodyC Tryd.prog callf N Tryd.f9 [a0, a1, a2] s = f9 callf N a0 a1 a2 s := by kernel_rfl

theorem f9_run (d : Nat) (a0 : T) (a1 : T) (a2 : T) (s : St) : R (d + 1) 9 [a0, a1, a2] s = f9 (R d) 512 a0 a1 a2 s := (runQ_body rfl Tryd.func9 (by kernel_rfl)).trans (f9_eq ..)

/- (twinkeep/disk.Disk).Sync -/
def f10 (callf : CallF) (N : Nat) (a0 : T) (a1 : T) (s : St) : Option (T × St) :=
  bd2 (callf 18 [a0, a1] s) fun t10 s1 =>
  bd (aExtract t10 0) fun t11 =>
  bd (aExtract t10 1) fun t12 =>
  bd (aBin .eql t12 (I .i64 0)) fun t14 =>
  jn (br t14 (bd (aNil t11) fun t17 =>
  bd (aFieldAddr 0 t17) fun t18 =>
  bd (aLoad1 t18 s1.get) fun t19 =>
  bd (aLenSl t19) fun t20 =>
  bd (aNil t11) fun t21 =>
  bd (aFieldAddr 1 t21) fun t22 =>
  bd2 (aStore 1 t22 t20 s1) fun _ s2 =>
  some (.normal [t12], s2))
  (some (.normal [t12], s1)))
  (fun v3 s4 => some ((v3.getD 0 .any), s4))
  (fun i5 v3 s4 => none)
  (fun r6 s4 => some (r6, s4))

theorem f10_eq (callf : CallF) (N : Nat) (a0 : T) (a1 : T) (s : St) : bodyC Tryd.prog callf N Tryd.f10 [a0, a1] s = f10 callf N a0 a1 s := by kernel_rfl

theorem f10_run (d : Nat) (a0 : T) (a1 : T) (s : St) : R (d + 1) 10 [a0, a1] s = f10 (R d) 512 a0 a1 s := (runQ_body rfl Tryd.func10 (by kernel_rfl)).trans (f10_eq ..)

/- (twinkeep/disk.Disk).Crash: a loop; 0: t0 d, 1: t1 keep, 2: t9 , 3: t10 , 4: t11  -/
def f11_l1 (callf : CallF) (N : Nat) (v : List T) (s : St) : Option (JO × St) :=
  bd (aBin .lss (v.getD 4 .any) (v.getD 3 .any)) fun t12 =>
  br t12 (jn (bd (aIndexSl 1 (v.getD 2 .any) (v.getD 4 .any)) fun t14 =>
  bd (aLoad1 t14 s.get) fun t15 =>
  bd (aNil (v.getD 0 .any)) fun t17 =>
  bd (aFieldAddr 1 t17) fun t18 =>
  bd (aLoad1 t18 s.get) fun t19 =>
  bd (Go.Abs.F.look .s false (.s (.nilp)) t19 t15 s.get) fun t21 =>
  bd (aLenSl (v.getD 1 .any)) fun t24 =>
  bd (aBin .lss (v.getD 4 .any) t24) fun t25 =>
  jn (br t25 (bd (aIndexSl 1 (v.getD 1 .any) (v.getD 4 .any)) fun t28 =>
  bd (aLoad1 t28 s.get) fun t29 =>
  bd (aFold aMax2 t29 [(I .i64 0)]) fun t30 =>
  bd (aNil t21) fun t32 =>
  bd (aFieldAddr 0 t32) fun t33 =>
  bd (aLoad1 t33 s.get) fun t34 =>
  bd (aLenSl t34) fun t35 =>
  bd (aNil t21) fun t37 =>
  bd (aFieldAddr 1 t37) fun t38 =>
  bd (aLoad1 t38 s.get) fun t39 =>
  bd (aBin .sub t35 t39) fun t40 =>
  bd (aFold aMin2 t30 [t40]) fun t41 =>
  some (.normal [(v.getD 0 .any), (v.getD 1 .any), t21, t41, (v.getD 2 .any), (v.getD 3 .any), (v.getD 4 .any)], s))
  (some (.normal [(v.getD 0 .any), (v.getD 1 .any), t21, (I .i64 0), (v.getD 2 .any), (v.getD 3 .any), (v.getD 4 .any)], s)))
  (fun v2 s3 => bd (aNil (v2.getD 2 .any)) fun t44 =>
  bd (aFieldAddr 0 t44) fun t45 =>
  bd (aLoad1 t45 s3.get) fun t46 =>
  bd (aNil (v2.getD 2 .any)) fun t48 =>
  bd (aFieldAddr 1 t48) fun t49 =>
  bd (aLoad1 t49 s3.get) fun t50 =>
  bd (aBin .add t50 (v2.getD 3 .any)) fun t52 =>
  bd (aPieceSl 1 t46 none (some t52) none) fun t53 =>
  bd (aNil (v2.getD 2 .any)) fun t54 =>
  bd (aFieldAddr 0 t54) fun t55 =>
  bd2 (aStore 1 t55 t53 s3) fun _ s6 =>
  bd (aNil (v2.getD 2 .any)) fun t58 =>
  bd (aFieldAddr 0 t58) fun t59 =>
  bd (aLoad1 t59 s6.get) fun t60 =>
  bd (aLenSl t60) fun t61 =>
  bd (aNil (v2.getD 2 .any)) fun t62 =>
  bd (aFieldAddr 1 t62) fun t63 =>
  bd2 (aStore 1 t63 t61 s6) fun _ s7 =>
  some (.normal [(v2.getD 0 .any), (v2.getD 1 .any), (v2.getD 4 .any), (v2.getD 5 .any), (v2.getD 6 .any)], s7))
  (fun i4 v2 s3 => if i4 = 1 then some (.normal v2, s3) else some (.exit i4 v2, s3))
  (fun r5 s3 => some (.ret r5, s3)))
  (fun v8 s9 => bd (aBin .add (v8.getD 4 .any) (I .i64 1)) fun t64 =>
  some (.normal [(v8.getD 0 .any), (v8.getD 1 .any), (v8.getD 2 .any), (v8.getD 3 .any), t64], s9))
  (fun i10 v8 s9 => some (.exit i10 v8, s9))
  (fun r11 s9 => some (.ret r11, s9)))
  (some (.exit 0 [], s))

/- (twinkeep/disk.Disk).Crash -/
def f11 (callf : CallF) (N : Nat) (a0 : T) (a1 : T) (s : St) : Option (T × St) :=
  bd2 (callf 15 [a0] s) fun t9 s1 =>
  bd (aLenSl t9) fun t10 =>
  jn (jn (loops (f11_l1 callf N) N [a0, a1, t9, t10, (I .i64 0)] s1)
  (fun v12 s13 => some (.normal [], s13))
  (fun i14 v12 s13 => if i14 = 0 then some (.normal v12, s13) else some (.exit i14 v12, s13))
  (fun r15 s13 => some (.ret r15, s13)))
  (fun v16 s17 => bd (retT []) fun r20 =>
  some (r20, s17))
  (fun i18 v16 s17 => none)
  (fun r19 s17 => some (r19, s17))

theorem f11_eq (callf : CallF) (N : Nat) (a0 : T) (a1 : T) (s : St) : bodyC Tryd.prog callf N Tryd.f11 [a0, a1] s = f11 callf N a0 a1 s := by kernel_rfl

theorem f11_run (d : Nat) (a0 : T) (a1 : T) (s : St) : R (d + 1) 11 [a0, a1] s = f11 (R d) 512 a0 a1 s := (runQ_body rfl Tryd.func11 (by kernel_rfl)).trans (f11_eq ..)

/- (twinkeep/disk.Disk).Read -/
def f12 (callf : CallF) (N : Nat) (a0 : T) (a1 : T) (s : St) : Option (T × St) :=
  bd2 (callf 18 [a0, a1] s) fun t11 s1 =>
  bd (aExtract t11 0) fun t12 =>
  bd (aExtract t11 1) fun t13 =>
  bd (aBin .neq t13 (I .i64 0)) fun t15 =>
  br t15 (bd (retT [(Z .nils), t13]) fun r2 =>
  some (r2, s1))
  (bd (aNil t12) fun t18 =>
  bd (aFieldAddr 0 t18) fun t19 =>
  bd (aLoad1 t19 s1.get) fun t20 =>
  bd2 (callf 19 [t20] s1) fun t21 s3 =>
  bd (retT [t21, (I .i64 0)]) fun r4 =>
  some (r4, s3))

theorem f12_eq (callf : CallF) (N : Nat) (a0 : T) (a1 : T) (s : St) : bodyC Tryd.prog callf N Tryd.f12 [a0, a1] s = f12 callf N a0 a1 s := by kernel_rfl

theorem f12_run (d : Nat) (a0 : T) (a1 : T) (s : St) : R (d + 1) 12 [a0, a1] s = f12 (R d) 512 a0 a1 s := (runQ_body rfl Tryd.func12 (by kernel_rfl)).trans (f12_eq ..)

/- (twinkeep/disk.Disk).Cut -/
def f13 (callf : CallF) (N : Nat) (a0 : T) (a1 : T) (a2 : T) (s : St) : Option (T × St) :=
  bd2 (callf 18 [a0, a1] s) fun t12 s1 =>
  bd (aExtract t12 0) fun t13 =>
  bd (aExtract t12 1) fun t14 =>
  jn (bd (aBin .neq t14 (I .i64 0)) fun t17 =>
  br t17 (some (.ret t14, s1))
  (bd (aBin .lss a2 (I .i64 0)) fun t21 =>
  bd (gT (gd t21 false) (some a2)) fun t23 =>
  bd (gT (gd t21 false) (some t13)) fun t24 =>
  bd (gT (gd t21 false) (aNil t24)) fun t25 =>
  bd (gT (gd t21 false) (aFieldAddr 0 t25)) fun t26 =>
  bd (gT (gd t21 false) (aLoad1 t26 s1.get)) fun t27 =>
  bd (gT (gd t21 false) (aLenSl t27)) fun t28 =>
  bd (gT (gd t21 false) (aBin .gtr t23 t28)) fun t29 =>
  bd (aPick t21 (B true) t29) fun t30 =>
  br t30 (some (.ret (I .i64 5), s1))
  (some (.normal [a2, t13], s1))))
  (fun v2 s3 => bd (aNil (v2.getD 1 .any)) fun t34 =>
  bd (aFieldAddr 0 t34) fun t35 =>
  bd (aLoad1 t35 s3.get) fun t36 =>
  bd (aPieceSl 1 t36 none (some (v2.getD 0 .any)) none) fun t38 =>
  bd (aNil (v2.getD 1 .any)) fun t40 =>
  bd (aFieldAddr 1 t40) fun t41 =>
  bd (aLoad1 t41 s3.get) fun t42 =>
  bd (aFold aMin2 t42 [(v2.getD 0 .any)]) fun t44 =>
  bd (aNil (v2.getD 1 .any)) fun t45 =>
  bd (aFieldAddr 0 t45) fun t46 =>
  bd2 (aStore 1 t46 t38 s3) fun _ s6 =>
  bd (aNil (v2.getD 1 .any)) fun t47 =>
  bd (aFieldAddr 1 t47) fun t48 =>
  bd2 (aStore 1 t48 t44 s6) fun _ s7 =>
  some ((I .i64 0), s7))
  (fun i4 v2 s3 => none)
  (fun r5 s3 => some (r5, s3))

theorem f13_eq (callf : CallF) (N : Nat) (a0 : T) (a1 : T) (a2 : T) (s : St) : bodyC Tryd.prog callf N Tryd.f13 [a0, a1, a2] s = f13 callf N a0 a1 a2 s := by kernel_rfl

theorem f13_run (d : Nat) (a0 : T) (a1 : T) (a2 : T) (s : St) : R (d + 1) 13 [a0, a1, a2] s = f13 (R d) 512 a0 a1 a2 s := (runQ_body rfl Tryd.func13 (by kernel_rfl)).trans (f13_eq ..)

/- (twinkeep/disk.Disk).Rename -/
def f14 (callf : CallF) (N : Nat) (a0 : T) (a1 : T) (a2 : T) (s : St) : Option (T × St) :=
  bd2 (callf 18 [a0, a1] s) fun t12 s1 =>
  bd (aExtract t12 0) fun t13 =>
  bd (aExtract t12 1) fun t14 =>
  jn (bd (eqB .p a0 (Z .nilp)) fun t17 =>
  br t17 (some (.ret (I .i64 10), s1))
  (bd (aBin .eql t14 (I .i64 1)) fun t20 =>
  bd (gT (gd t20 false) (some a2)) fun t22 =>
  bd2 (gS (gd t20 false) s1 (callf 20 [t22] s1)) fun t23 s2 =>
  bd (gT (gd t20 false) (aUn .not t23)) fun t24 =>
  bd (aPick t20 (B true) t24) fun t25 =>
  bd (gT (gd t25 false) (some a1)) fun t27 =>
  bd (gT (gd t25 false) (some a2)) fun t28 =>
  bd (gT (gd t25 false) (aBin .eql t27 t28)) fun t29 =>
  bd (aPick t25 (B true) t29) fun t30 =>
  br t30 (some (.ret (I .i64 1), s2))
  (bd (aBin .neq t14 (I .i64 0)) fun t33 =>
  br t33 (some (.ret t14, s2))
  (some (.normal [a0, a1, a2, t13], s2)))))
  (fun v3 s4 => bd (aNil (v3.getD 0 .any)) fun t36 =>
  bd (aFieldAddr 1 t36) fun t37 =>
  bd (aLoad1 t37 s4.get) fun t38 =>
  bd2 (mdel .s t38 (v3.getD 1 .any) s4) fun _ s7 =>
  bd (aNil (v3.getD 0 .any)) fun t41 =>
  bd (aFieldAddr 1 t41) fun t42 =>
  bd (aLoad1 t42 s7.get) fun t43 =>
  bd2 (mset .s t43 (v3.getD 2 .any) (v3.getD 3 .any) s7) fun _ s8 =>
  some ((I .i64 0), s8))
  (fun i5 v3 s4 => none)
  (fun r6 s4 => some (r6, s4))

theorem f14_eq (callf : CallF) (N : Nat) (a0 : T) (a1 : T) (a2 : T) (s : St) : bodyC Tryd.prog callf N Tryd.f14 [a0, a1, a2] s = f14 callf N a0 a1 a2 s := by kernel_rfl

theorem f14_run (d : Nat) (a0 : T) (a1 : T) (a2 : T) (s : St) : R (d + 1) 14 [a0, a1, a2] s = f14 (R d) 512 a0 a1 a2 s := (runQ_body rfl Tryd.func14 (by kernel_rfl)).trans (f14_eq ..)

/- (twinkeep/disk.Disk).Remove -/
def f16 (callf : CallF) (N : Nat) (a0 : T) (a1 : T) (s : St) : Option (T × St) :=
  bd2 (callf 18 [a0, a1] s) fun t10 s1 =>
  bd (aExtract t10 0) fun t11 =>
  bd (aExtract t10 1) fun t12 =>
  bd (aBin .eql t12 (I .i64 0)) fun t14 =>
  jn (br t14 (bd (aNil a0) fun t16 =>
  bd (aFieldAddr 1 t16) fun t17 =>
  bd (aLoad1 t17 s1.get) fun t18 =>
  bd2 (mdel .s t18 a1 s1) fun _ s2 =>
  some (.normal [t12], s2))
  (some (.normal [t12], s1)))
  (fun v3 s4 => some ((v3.getD 0 .any), s4))
  (fun i5 v3 s4 => none)
  (fun r6 s4 => some (r6, s4))

theorem f16_eq (callf : CallF) (N : Nat) (a0 : T) (a1 : T) (s : St) : bodyC Tryd.prog callf N Tryd.f16 [a0, a1] s = f16 callf N a0 a1 s := by kernel_rfl

theorem f16_run (d : Nat) (a0 : T) (a1 : T) (s : St) : R (d + 1) 16 [a0, a1] s = f16 (R d) 512 a0 a1 s := (runQ_body rfl Tryd.func16 (by kernel_rfl)).trans (f16_eq ..)

/- (twinkeep/disk.Disk).Used: a loop; 0: t0 d, 1: t3 n, 2: t7 , 3: t8 , 4: t9  -/
def f17_l1 (callf : CallF) (N : Nat) (v : List T) (s : St) : Option (JO × St) :=
  bd (aBin .lss (v.getD 4 .any) (v.getD 3 .any)) fun t10 =>
  br t10 (jn (bd (aIndexSl 1 (v.getD 2 .any) (v.getD 4 .any)) fun t11 =>
  bd (aLoad1 t11 s.get) fun t12 =>
  bd (aNil (v.getD 0 .any)) fun t15 =>
  bd (aFieldAddr 1 t15) fun t16 =>
  bd (aLoad1 t16 s.get) fun t17 =>
  bd (Go.Abs.F.look .s false (.s (.nilp)) t17 t12 s.get) fun t19 =>
  bd (aNil t19) fun t20 =>
  bd (aFieldAddr 0 t20) fun t21 =>
  bd (aLoad1 t21 s.get) fun t22 =>
  bd (aLenSl t22) fun t23 =>
  bd (aBin .add (v.getD 1 .any) t23) fun t24 =>
  some (.normal [(v.getD 0 .any), t24, (v.getD 2 .any), (v.getD 3 .any), (v.getD 4 .any)], s))
  (fun v2 s3 => bd (aBin .add (v2.getD 4 .any) (I .i64 1)) fun t25 =>
  some (.normal [(v2.getD 0 .any), (v2.getD 1 .any), (v2.getD 2 .any), (v2.getD 3 .any), t25], s3))
  (fun i4 v2 s3 => some (.exit i4 v2, s3))
  (fun r5 s3 => some (.ret r5, s3)))
  (some (.exit 0 [(v.getD 1 .any)], s))

/- (twinkeep/disk.Disk).Used -/
def f17 (callf : CallF) (N : Nat) (a0 : T) (s : St) : Option (T × St) :=
  bd2 (callf 15 [a0] s) fun t7 s1 =>
  bd (aLenSl t7) fun t8 =>
  jn (jn (loops (f17_l1 callf N) N [a0, (I .i64 0), t7, t8, (I .i64 0)] s1)
  (fun v6 s7 => some (.normal [.any], s7))
  (fun i8 v6 s7 => if i8 = 0 then some (.normal v6, s7) else some (.exit i8 v6, s7))
  (fun r9 s7 => some (.ret r9, s7)))
  (fun v10 s11 => some ((v10.getD 0 .any), s11))
  (fun i12 v10 s11 => none)
  (fun r13 s11 => some (r13, s11))

theorem f17_eq (callf : CallF) (N : Nat) (a0 : T) (s : St) : bodyC Tryd.prog callf N Tryd.f17 [a0] s = f17 callf N a0 s := by kernel_rfl

theorem f17_run (d : Nat) (a0 : T) (s : St) : R (d + 1) 17 [a0] s = f17 (R d) 512 a0 s := (runQ_body rfl Tryd.func17 (by kernel_rfl)).trans (f17_eq ..)

/- (twinkeep/disk.Disk).find -/
def f18 (callf : CallF) (N : Nat) (a0 : T) (a1 : T) (s : St) : Option (T × St) :=
  jn (bd (eqB .p a0 (Z .nilp)) fun t8 =>
  br t8 (bd (retT [(Z .nilp), (I .i64 10)]) fun r1 =>
  some (.ret r1, s))
  (bd2 (callf 20 [a1] s) fun t11 s2 =>
  bd (aUn .not t11) fun t12 =>
  br t12 (bd (retT [(Z .nilp), (I .i64 1)]) fun r3 =>
  some (.ret r3, s2))
  (bd (aNil a0) fun t15 =>
  bd (aFieldAddr 1 t15) fun t16 =>
  bd (aLoad1 t16 s2.get) fun t17 =>
  bd (Go.Abs.F.look .s false (.s (.nilp)) t17 a1 s2.get) fun t19 =>
  bd (eqB .p t19 (Z .nilp)) fun t20 =>
  br t20 (bd (retT [(Z .nilp), (I .i64 9)]) fun r4 =>
  some (.ret r4, s2))
  (some (.normal [a0, a1], s2)))))
  (fun v5 s6 => bd (aNil (v5.getD 0 .any)) fun t22 =>
  bd (aFieldAddr 1 t22) fun t23 =>
  bd (aLoad1 t23 s6.get) fun t24 =>
  bd (Go.Abs.F.look .s false (.s (.nilp)) t24 (v5.getD 1 .any) s6.get) fun t26 =>
  bd (retT [t26, (I .i64 0)]) fun r9 =>
  some (r9, s6))
  (fun i7 v5 s6 => none)
  (fun r8 s6 => some (r8, s6))

theorem f18_eq (callf : CallF) (N : Nat) (a0 : T) (a1 : T) (s : St) : bodyC Tryd.prog callf N Tryd.f18 [a0, a1] s = f18 callf N a0 a1 s := by kernel_rfl

theorem f18_run (d : Nat) (a0 : T) (a1 : T) (s : St) : R (d + 1) 18 [a0, a1] s = f18 (R d) 512 a0 a1 s := (runQ_body rfl Tryd.func18 (by kernel_rfl)).trans (f18_eq ..)

/- bytes.Clone -/
def f19 (callf : CallF) (N : Nat) (a0 : T) (s : St) : Option (T × St) :=
  bd (eqB .l a0 (Z .nils)) fun t4 =>
  br t4 (some ((Z .nils), s))
  (bd2 (aNew s (nSlice 0 (aFill [] []))) fun t5 s1 =>
  bd2 (aAppend 1 1 t5 a0 s1) fun t7 s2 =>
  some (t7, s2))

theorem f19_eq (callf : CallF) (N : Nat) (a0 : T) (s : St) : bodyC Tryd.prog callf N Tryd.f19 [a0] s = f19 callf N a0 s := by kernel_rfl

theorem f19_run (d : Nat) (a0 : T) (s : St) : R (d + 1) 19 [a0] s = f19 (R d) 512 a0 s := (runQ_body rfl Tryd.func19 (by kernel_rfl)).trans (f19_eq ..)

set_option maxRecDepth 100000 in
theorem told_all : gave true (runQ Tryd.prog 64 prim1 16 8 [] St.empty) = true := by kernel_rfl

theorem told_run (d : Nat) (s : St) : R (d + 1) 8 [] s = some (B true, s) := runQ_prim rfl
end
end Go.Proofs.YtinmpngfehamcaaDoor
