/-
  What functions that the laws reach compute, printed by a program of our own: each text is by definition the run of the code. No conditions.
-/
import Derived.Test.YtlhbidbdmdcdeaaGreatDoorWalk0
namespace Go.Proofs.YtlhbidbdmdcdeaaGreatDoor
open Go Go.Abs Go.Abs.F
set_option linter.unusedVariables false
noncomputable section
/- twinkeep/twinkeeplaw10.LogMany: a loop; 0: t3 k, 1: t4 e, 2: t5 l, 3: t6 b, 4: t7 f, 5: t8 g, 6: t9 i -/
def f3_l1 (callf : CallF) (N : Nat) (v : List T) (s : St) : Option (JO × St) :=
  bd (aBin .lss (v.getD 6 .any) (v.getD 0 .any)) fun t28 =>
  br t28 (jn (bd (aLoadN 8 (v.getD 1 .any) s.get) fun t32 =>
  bd2 (aNew s (nSlice 1 (aFill [.int .i64 0, .int .i64 0, .int .i64 0, .int .i64 0, .int .i64 0, .int .i64 0, .int .u32 0, .str []] [(0, 8, t32)]))) fun t33 s4 =>
  bd2 (aAppend 8 72 (v.getD 2 .any) t33 s4) fun t34 s5 =>
  bd2 (aAppend 1 1 (v.getD 3 .any) (v.getD 4 .any) s5) fun t37 s6 =>
  some (.normal [(v.getD 0 .any), (v.getD 1 .any), t34, t37, (v.getD 4 .any), (v.getD 5 .any), (v.getD 6 .any)], s6))
  (fun v7 s8 => bd (aBin .add (v7.getD 6 .any) (I .i64 1)) fun t30 =>
  some (.normal [(v7.getD 0 .any), (v7.getD 1 .any), (v7.getD 2 .any), (v7.getD 3 .any), (v7.getD 4 .any), (v7.getD 5 .any), t30], s8))
  (fun i9 v7 s8 => some (.exit i9 v7, s8))
  (fun r10 s8 => some (.ret r10, s8)))
  (some (.exit 0 [(v.getD 0 .any), (v.getD 2 .any), (v.getD 3 .any), (v.getD 4 .any), (v.getD 5 .any)], s))

/- twinkeep/twinkeeplaw10.LogMany -/
def f3 (callf : CallF) (N : Nat) (a0 : T) (s : St) : Option (T × St) :=
  bd (aConv .u64 a0) fun t16 =>
  bd (aBin .rem t16 (I .u64 7)) fun t17 =>
  bd (aConv .i64 t17) fun t18 =>
  bd (aBin .add (I .i64 1997) t18) fun t19 =>
  bd (asAggT (aFill [.int .i64 0, .int .i64 0, .int .i64 0, .int .i64 0, .int .i64 0, .int .i64 0, .int .u32 0, .str []] [(0, 1, (I .i64 3)), (1, 1, (I .i64 1))])) fun t20 =>
  bd2 (aNew s (nCells [.int .i64 0, .int .i64 0, .int .i64 0, .int .i64 0, .int .i64 0, .int .i64 0, .int .u32 0, .str []])) fun t4 s1 =>
  bd2 (aStore 8 t4 t20 s1) fun _ s2 =>
  bd (aLoadN 8 t4 s2.get) fun t22 =>
  bd2 (callf 14 [t22] s2) fun t23 s3 =>
  bd (aExtract t23 0) fun t24 =>
  bd (aExtract t23 1) fun t25 =>
  jn (jn (loops (f3_l1 callf N) N [t19, t4, (Z .nils), (Z .nils), t24, t25, (I .i64 0)] s3)
  (fun v11 s12 => some (.normal [.any, .any, .any, .any, .any], s12))
  (fun i13 v11 s12 => if i13 = 0 then some (.normal v11, s12) else some (.exit i13 v11, s12))
  (fun r14 s12 => some (.ret r14, s12)))
  (fun v15 s16 => bd2 (callf 15 [(v15.getD 1 .any)] s16) fun t40 s19 =>
  bd (aExtract t40 0) fun t41 =>
  bd (aExtract t40 1) fun t42 =>
  bd2 (callf 16 [(v15.getD 2 .any)] s19) fun t45 s20 =>
  bd (aExtract t45 0) fun t46 =>
  bd (aExtract t45 1) fun t47 =>
  bd (aFold aMin2 (v15.getD 0 .any) [(I .i64 2000)]) fun t49 =>
  bd (aBin .neq (v15.getD 4 .any) (I .i64 0)) fun t51 =>
  bd (gT (gd t51 false) (some t46)) fun t53 =>
  bd (gT (gd t51 false) (aLenSl t53)) fun t54 =>
  bd (gT (gd t51 false) (some t49)) fun t55 =>
  bd (gT (gd t51 false) (aBin .neq t54 t55)) fun t56 =>
  bd (aPick t51 (B true) t56) fun t57 =>
  bd (gT (gd t57 false) (some t47)) fun t59 =>
  bd (gT (gd t57 false) (some t49)) fun t60 =>
  bd (gT (gd t57 false) (some (v15.getD 3 .any))) fun t61 =>
  bd (gT (gd t57 false) (aLenSl t61)) fun t62 =>
  bd (gT (gd t57 false) (aBin .mul t60 t62)) fun t63 =>
  bd (gT (gd t57 false) (aBin .neq t59 t63)) fun t64 =>
  bd (aPick t57 (B true) t64) fun t65 =>
  br t65 (some ((B false), s20))
  (bd2 (callf 17 [] s20) fun t66 s21 =>
  bd (gT (gd t66 true) (some t42)) fun t68 =>
  bd (gT (gd t66 true) (aBin .eql t68 (I .i64 0))) fun t69 =>
  bd (gT (gd t66 true) (some (v15.getD 0 .any))) fun t70 =>
  bd (gT (gd t66 true) (aBin .leq t70 (I .i64 2000))) fun t71 =>
  bd (gT (gd t66 true) (eqB .b t69 t71)) fun t72 =>
  bd (aPick t66 t72 (B false)) fun t73 =>
  bd (gT (gd t73 true) (some t42)) fun t75 =>
  bd (gT (gd t73 true) (aBin .eql t75 (I .i64 0))) fun t76 =>
  bd (gT (gd t73 true) (some t76)) fun t77 =>
  bd (gT (gd t77 true) (some t41)) fun t78 =>
  bd (gT (gd t77 true) (aBytesStr t78 s21.get)) fun t79 =>
  bd (gT (gd t77 true) (some (v15.getD 2 .any))) fun t80 =>
  bd (gT (gd t77 true) (aBytesStr t80 s21.get)) fun t81 =>
  bd (gT (gd t77 true) (aBin .eql t79 t81)) fun t82 =>
  bd (gT (gd t73 true) (aPick t77 t82 (B false))) fun t83 =>
  bd (gT (gd t73 true) (some t83)) fun t84 =>
  bd (gT (gd t84 false) (some t42)) fun t85 =>
  bd (gT (gd t84 false) (aBin .eql t85 (I .i64 8))) fun t86 =>
  bd (gT (gd t84 false) (some t86)) fun t87 =>
  bd (gT (gd t87 true) (some t41)) fun t88 =>
  bd (gT (gd t87 true) (aLenSl t88)) fun t89 =>
  bd (gT (gd t87 true) (aBin .eql t89 (I .i64 0))) fun t90 =>
  bd (gT (gd t84 false) (aPick t87 t90 (B false))) fun t91 =>
  bd (gT (gd t73 true) (aPick t84 (B true) t91)) fun t92 =>
  bd (aPick t73 t92 (B false)) fun t93 =>
  some (t93, s21)))
  (fun i17 v15 s16 => none)
  (fun r18 s16 => some (r18, s16))

theorem f3_eq (callf : CallF) (N : Nat) (a0 : T) (s : St) : bodyC Tryz.prog callf N Tryz.f3 [a0] s = f3 callf N a0 s := by kernel_rfl

theorem f3_run (d : Nat) (a0 : T) (s : St) : R (d + 1) 3 [a0] s = f3 (R d) 8192 a0 s := (runQ_body rfl Tryz.func3 (by kernel_rfl)).trans (f3_eq ..)

/- twinkeep/twinkeeplaw10.LogTorn -/
def f5 (callf : CallF) (N : Nat) (a0 : T) (a1 : T) (s : St) : Option (T × St) :=
  bd2 (callf 27 [a0] s) fun t16 s1 =>
  bd2 (callf 15 [t16] s1) fun t19 s2 =>
  bd (aExtract t19 0) fun t20 =>
  bd (aExtract t19 1) fun t21 =>
  bd (aBin .neq t21 (I .i64 0)) fun t23 =>
  br t23 (some ((B false), s2))
  (bd (aConv .u64 a1) fun t25 =>
  bd (aLenSl t20) fun t27 =>
  bd (aBin .add t27 (I .i64 1)) fun t28 =>
  bd (aConv .u64 t28) fun t29 =>
  bd (aBin .rem t25 t29) fun t30 =>
  bd (aConv .i64 t30) fun t31 =>
  bd (aPieceSl 1 t20 none (some t31) none) fun t35 =>
  bd2 (callf 16 [t35] s2) fun t36 s3 =>
  bd (aExtract t36 0) fun t37 =>
  bd (aExtract t36 1) fun t38 =>
  bd (aBin .gtr t38 t31) fun t41 =>
  bd (gT (gd t41 false) (some t37)) fun t43 =>
  bd (gT (gd t41 false) (aLenSl t43)) fun t44 =>
  bd (gT (gd t41 false) (some t16)) fun t45 =>
  bd (gT (gd t41 false) (aLenSl t45)) fun t46 =>
  bd (gT (gd t41 false) (aBin .gtr t44 t46)) fun t47 =>
  bd (aPick t41 (B true) t47) fun t48 =>
  bd (gT (gd t48 false) (some t37)) fun t50 =>
  bd (gT (gd t48 false) (some t16)) fun t51 =>
  bd2 (gS (gd t48 false) s3 (callf 23 [t50, t51] s3)) fun t52 s4 =>
  bd (gT (gd t48 false) (aUn .not t52)) fun t53 =>
  bd (aPick t48 (B true) t53) fun t54 =>
  br t54 (some ((B false), s4))
  (bd (aLenSl t37) fun t58 =>
  bd (aPieceSl 8 t16 none (some t58) none) fun t59 =>
  bd2 (callf 15 [t59] s4) fun t60 s5 =>
  bd (aExtract t60 0) fun t61 =>
  bd (aExtract t60 1) fun t62 =>
  bd (aBin .neq t62 (I .i64 0)) fun t64 =>
  bd (gT (gd t64 false) (some t61)) fun t66 =>
  bd (gT (gd t64 false) (aLenSl t66)) fun t67 =>
  bd (gT (gd t64 false) (some t38)) fun t68 =>
  bd (gT (gd t64 false) (aBin .neq t67 t68)) fun t69 =>
  bd (aPick t64 (B true) t69) fun t70 =>
  br t70 (some ((B false), s5))
  (bd (aLenSl t37) fun t72 =>
  bd (aLenSl t16) fun t74 =>
  bd (aBin .lss t72 t74) fun t75 =>
  br t75 (bd (aLenSl t37) fun t79 =>
  bd (aIndexSl 8 t16 t79) fun t80 =>
  bd (aLoadN 8 t80 s5.get) fun t81 =>
  bd2 (callf 14 [t81] s5) fun t82 s6 =>
  bd (aExtract t82 0) fun t83 =>
  bd (aExtract t82 1) fun t84 =>
  bd2 (callf 17 [] s6) fun t85 s7 =>
  bd (gT (gd t85 true) (some t38)) fun t87 =>
  bd (gT (gd t85 true) (some t83)) fun t88 =>
  bd (gT (gd t85 true) (aLenSl t88)) fun t89 =>
  bd (gT (gd t85 true) (aBin .add t87 t89)) fun t90 =>
  bd (gT (gd t85 true) (some t31)) fun t91 =>
  bd (gT (gd t85 true) (aBin .gtr t90 t91)) fun t92 =>
  bd (aPick t85 t92 (B false)) fun t93 =>
  some (t93, s7))
  (bd2 (callf 17 [] s5) fun t94 s8 =>
  bd (gT (gd t94 true) (some t38)) fun t96 =>
  bd (gT (gd t94 true) (some t20)) fun t97 =>
  bd (gT (gd t94 true) (aLenSl t97)) fun t98 =>
  bd (gT (gd t94 true) (aBin .eql t96 t98)) fun t99 =>
  bd (aPick t94 t99 (B false)) fun t100 =>
  some (t100, s8)))))

theorem f5_eq (callf : CallF) (N : Nat) (a0 : T) (a1 : T) (s : St) : bodyC Tryz.prog callf N Tryz.f5 [a0, a1] s = f5 callf N a0 a1 s := by kernel_rfl

theorem f5_run (d : Nat) (a0 : T) (a1 : T) (s : St) : R (d + 1) 5 [a0, a1] s = f5 (R d) 8192 a0 a1 s := (runQ_body rfl Tryz.func5 (by kernel_rfl)).trans (f5_eq ..)

/- twinkeep/twinkeeplaw10.LogTurned -/
def f6 (callf : CallF) (N : Nat) (a0 : T) (a1 : T) (a2 : T) (a3 : T) (s : St) : Option (T × St) :=
  bd2 (callf 27 [a0] s) fun t22 s1 =>
  bd (aLenSl t22) fun t24 =>
  bd (aBin .eql t24 (I .i64 0)) fun t25 =>
  bd (gT (gd t25 false) (some a3)) fun t27 =>
  bd (gT (gd t25 false) (aBin .eql t27 (I .u8 0))) fun t28 =>
  bd (aPick t25 (B true) t28) fun t29 =>
  br t29 (bd2 (callf 17 [] s1) fun t30 s2 =>
  some (t30, s2))
  (bd (aConv .u64 a1) fun t32 =>
  bd (aLenSl t22) fun t34 =>
  bd (aConv .u64 t34) fun t35 =>
  bd (aBin .rem t32 t35) fun t36 =>
  bd (aConv .i64 t36) fun t37 =>
  bd (aPieceSl 8 t22 none (some t37) none) fun t41 =>
  bd2 (callf 15 [t41] s1) fun t42 s3 =>
  bd (aExtract t42 0) fun t43 =>
  bd (aExtract t42 1) fun t44 =>
  bd (aIndexSl 8 t22 t37) fun t48 =>
  bd (aLoadN 8 t48 s3.get) fun t49 =>
  bd2 (callf 14 [t49] s3) fun t50 s4 =>
  bd (aExtract t50 0) fun t51 =>
  bd (aExtract t50 1) fun t52 =>
  bd2 (callf 15 [t22] s4) fun t55 s5 =>
  bd (aExtract t55 0) fun t56 =>
  bd (aExtract t55 1) fun t57 =>
  bd (aBin .neq t44 (I .i64 0)) fun t59 =>
  bd (gT (gd t59 false) (some t52)) fun t61 =>
  bd (gT (gd t59 false) (aBin .neq t61 (I .i64 0))) fun t62 =>
  bd (aPick t59 (B true) t62) fun t63 =>
  bd (gT (gd t63 false) (some t57)) fun t65 =>
  bd (gT (gd t63 false) (aBin .neq t65 (I .i64 0))) fun t66 =>
  bd (aPick t63 (B true) t66) fun t67 =>
  bd (gT (gd t67 false) (some t51)) fun t69 =>
  bd (gT (gd t67 false) (aLenSl t69)) fun t70 =>
  bd (gT (gd t67 false) (aBin .lss t70 (I .i64 6))) fun t71 =>
  bd (aPick t67 (B true) t71) fun t72 =>
  br t72 (some ((B false), s5))
  (bd (aIndexSl 1 t51 (I .i64 0)) fun t74 =>
  bd (aLoad1 t74 s5.get) fun t75 =>
  bd (aBin .geq t75 (I .u8 128)) fun t76 =>
  jn (br t76 (some (.normal [a2, a3, t22, t37, t43, t51, t56, (I .i64 2)], s5))
  (some (.normal [a2, a3, t22, t37, t43, t51, t56, (I .i64 1)], s5)))
  (fun v6 s7 => bd (aLenSl (v6.getD 4 .any)) fun t78 =>
  bd (aBin .add t78 (v6.getD 7 .any)) fun t80 =>
  bd (aConv .u64 (v6.getD 0 .any)) fun t82 =>
  bd (aLenSl (v6.getD 5 .any)) fun t84 =>
  bd (aBin .sub t84 (v6.getD 7 .any)) fun t86 =>
  bd (aConv .u64 t86) fun t87 =>
  bd (aBin .rem t82 t87) fun t88 =>
  bd (aConv .i64 t88) fun t89 =>
  bd (aBin .add t80 t89) fun t90 =>
  bd (aLenSl (v6.getD 6 .any)) fun t93 =>
  bd (aBin .geq t90 t93) fun t94 =>
  br t94 (some ((B false), s7))
  (bd (aIndexSl 1 (v6.getD 6 .any) t90) fun t99 =>
  bd (aLoad1 t99 s7.get) fun t100 =>
  bd (aBin .xor t100 (v6.getD 1 .any)) fun t102 =>
  bd (aIndexSl 1 (v6.getD 6 .any) t90) fun t103 =>
  bd2 (aStore 1 t103 t102 s7) fun _ s10 =>
  bd2 (callf 16 [(v6.getD 6 .any)] s10) fun t106 s11 =>
  bd (aExtract t106 0) fun t107 =>
  bd (aExtract t106 1) fun t108 =>
  bd2 (callf 17 [] s11) fun t109 s12 =>
  bd (gT (gd t109 true) (some t108)) fun t111 =>
  bd (gT (gd t109 true) (some (v6.getD 4 .any))) fun t112 =>
  bd (gT (gd t109 true) (aLenSl t112)) fun t113 =>
  bd (gT (gd t109 true) (aBin .eql t111 t113)) fun t114 =>
  bd (aPick t109 t114 (B false)) fun t115 =>
  bd (gT (gd t115 true) (some t107)) fun t117 =>
  bd (gT (gd t115 true) (aLenSl t117)) fun t118 =>
  bd (gT (gd t115 true) (some (v6.getD 3 .any))) fun t119 =>
  bd (gT (gd t115 true) (aBin .eql t118 t119)) fun t120 =>
  bd (aPick t115 t120 (B false)) fun t121 =>
  bd (gT (gd t121 true) (some t107)) fun t123 =>
  bd (gT (gd t121 true) (some (v6.getD 2 .any))) fun t124 =>
  bd2 (gS (gd t121 true) s12 (callf 23 [t123, t124] s12)) fun t125 s13 =>
  bd (aPick t121 t125 (B false)) fun t126 =>
  some (t126, s13)))
  (fun i8 v6 s7 => none)
  (fun r9 s7 => some (r9, s7))))

theorem f6_eq (callf : CallF) (N : Nat) (a0 : T) (a1 : T) (a2 : T) (a3 : T) (s : St) : bodyC Tryz.prog callf N Tryz.f6 [a0, a1, a2, a3] s = f6 callf N a0 a1 a2 a3 s := by kernel_rfl

theorem f6_run (d : Nat) (a0 : T) (a1 : T) (a2 : T) (a3 : T) (s : St) : R (d + 1) 6 [a0, a1, a2, a3] s = f6 (R d) 8192 a0 a1 a2 a3 s := (runQ_body rfl Tryz.func6 (by kernel_rfl)).trans (f6_eq ..)

/- twinkeep/twinkeeplaw10.LogMeets -/
def f7 (callf : CallF) (N : Nat) (a0 : T) (a1 : T) (a2 : T) (s : St) : Option (T × St) :=
  bd2 (callf 27 [a0] s) fun t12 s1 =>
  bd2 (callf 27 [a1] s1) fun t14 s2 =>
  bd2 (callf 25 [t12, t14] s2) fun t17 s3 =>
  bd (aLenSl t12) fun t20 =>
  bd (aBin .gtr t17 t20) fun t21 =>
  bd (gT (gd t21 false) (some t17)) fun t23 =>
  bd (gT (gd t21 false) (some t14)) fun t24 =>
  bd (gT (gd t21 false) (aLenSl t24)) fun t25 =>
  bd (gT (gd t21 false) (aBin .gtr t23 t25)) fun t26 =>
  bd (aPick t21 (B true) t26) fun t27 =>
  bd (gT (gd t27 false) (some t12)) fun t29 =>
  bd (gT (gd t27 false) (some t17)) fun t30 =>
  bd (gT (gd t27 false) (aPieceSl 8 t29 none (some t30) none)) fun t31 =>
  bd (gT (gd t27 false) (some t14)) fun t32 =>
  bd2 (gS (gd t27 false) s3 (callf 23 [t31, t32] s3)) fun t33 s4 =>
  bd (gT (gd t27 false) (aUn .not t33)) fun t34 =>
  bd (aPick t27 (B true) t34) fun t35 =>
  bd (gT (gd t35 false) (some t17)) fun t37 =>
  bd (gT (gd t35 false) (some t12)) fun t38 =>
  bd (gT (gd t35 false) (aLenSl t38)) fun t39 =>
  bd (gT (gd t35 false) (aBin .lss t37 t39)) fun t40 =>
  bd (gT (gd t35 false) (some t40)) fun t41 =>
  bd (gT (gd t41 true) (some t17)) fun t42 =>
  bd (gT (gd t41 true) (some t14)) fun t43 =>
  bd (gT (gd t41 true) (aLenSl t43)) fun t44 =>
  bd (gT (gd t41 true) (aBin .lss t42 t44)) fun t45 =>
  bd (gT (gd t35 false) (aPick t41 t45 (B false))) fun t46 =>
  bd (gT (gd t35 false) (some t46)) fun t47 =>
  bd (gT (gd t47 true) (some t12)) fun t48 =>
  bd (gT (gd t47 true) (some t17)) fun t49 =>
  bd (gT (gd t47 true) (aIndexSl 8 t48 t49)) fun t50 =>
  bd (gT (gd t47 true) (aLoadN 8 t50 s4.get)) fun t51 =>
  bd (gT (gd t47 true) (some t14)) fun t52 =>
  bd (gT (gd t47 true) (some t17)) fun t53 =>
  bd (gT (gd t47 true) (aIndexSl 8 t52 t53)) fun t54 =>
  bd (gT (gd t47 true) (aLoadN 8 t54 s4.get)) fun t55 =>
  bd (gT (gd t47 true) (eqB (.a 8 [(0, .i), (1, .i), (2, .i), (3, .i), (4, .i), (5, .i), (6, .i), (7, .s)]) t51 t55)) fun t56 =>
  bd (gT (gd t35 false) (aPick t47 t56 (B false))) fun t57 =>
  bd (aPick t35 (B true) t57) fun t58 =>
  bd (gT (gd t58 false) (some t17)) fun t60 =>
  bd (gT (gd t58 false) (some t14)) fun t61 =>
  bd (gT (gd t58 false) (some t12)) fun t62 =>
  bd2 (gS (gd t58 false) s4 (callf 25 [t61, t62] s4)) fun t63 s5 =>
  bd (gT (gd t58 false) (aBin .neq t60 t63)) fun t64 =>
  bd (aPick t58 (B true) t64) fun t65 =>
  br t65 (some ((B false), s5))
  (bd (aConv .u64 a2) fun t67 =>
  bd (aLenSl t12) fun t69 =>
  bd (aBin .add t69 (I .i64 1)) fun t70 =>
  bd (aConv .u64 t70) fun t71 =>
  bd (aBin .rem t67 t71) fun t72 =>
  bd (aConv .i64 t72) fun t73 =>
  bd2 (callf 17 [] s5) fun t74 s6 =>
  bd (gT (gd t74 true) (some t12)) fun t76 =>
  bd (gT (gd t74 true) (some t73)) fun t77 =>
  bd (gT (gd t74 true) (aPieceSl 8 t76 none (some t77) none)) fun t78 =>
  bd (gT (gd t74 true) (some t12)) fun t79 =>
  bd2 (gS (gd t74 true) s6 (callf 23 [t78, t79] s6)) fun t80 s7 =>
  bd (aPick t74 t80 (B false)) fun t81 =>
  bd (gT (gd t81 true) (some t12)) fun t83 =>
  bd (gT (gd t81 true) (some t73)) fun t84 =>
  bd (gT (gd t81 true) (aPieceSl 8 t83 none (some t84) none)) fun t85 =>
  bd (gT (gd t81 true) (some t12)) fun t86 =>
  bd2 (gS (gd t81 true) s7 (callf 25 [t85, t86] s7)) fun t87 s8 =>
  bd (gT (gd t81 true) (some t73)) fun t88 =>
  bd (gT (gd t81 true) (aBin .eql t87 t88)) fun t89 =>
  bd (aPick t81 t89 (B false)) fun t90 =>
  bd (gT (gd t90 true) (some t12)) fun t92 =>
  bd (gT (gd t90 true) (some t14)) fun t93 =>
  bd2 (gS (gd t90 true) s8 (callf 23 [t92, t93] s8)) fun t94 s9 =>
  bd (gT (gd t90 true) (some t17)) fun t95 =>
  bd (gT (gd t90 true) (some t12)) fun t96 =>
  bd (gT (gd t90 true) (aLenSl t96)) fun t97 =>
  bd (gT (gd t90 true) (aBin .eql t95 t97)) fun t98 =>
  bd (gT (gd t90 true) (eqB .b t94 t98)) fun t99 =>
  bd (aPick t90 t99 (B false)) fun t100 =>
  some (t100, s9))

theorem f7_eq (callf : CallF) (N : Nat) (a0 : T) (a1 : T) (a2 : T) (s : St) : bodyC Tryz.prog callf N Tryz.f7 [a0, a1, a2] s = f7 callf N a0 a1 a2 s := by kernel_rfl

theorem f7_run (d : Nat) (a0 : T) (a1 : T) (a2 : T) (s : St) : R (d + 1) 7 [a0, a1, a2] s = f7 (R d) 8192 a0 a1 a2 s := (runQ_body rfl Tryz.func7 (by kernel_rfl)).trans (f7_eq ..)

/- twinkeep/twinkeeplaw10.LogMore -/
def f8 (callf : CallF) (N : Nat) (a0 : T) (a1 : T) (a2 : T) (s : St) : Option (T × St) :=
  bd (aLenSl a2) fun t20 =>
  bd (aBin .gtr t20 (I .i64 20)) fun t21 =>
  br t21 (bd2 (callf 17 [] s) fun t22 s1 =>
  some (t22, s1))
  (bd2 (callf 27 [a0] s) fun t24 s2 =>
  bd2 (callf 27 [a1] s2) fun t26 s3 =>
  bd2 (callf 15 [t24] s3) fun t29 s4 =>
  bd (aExtract t29 0) fun t30 =>
  bd (aExtract t29 1) fun t31 =>
  bd2 (callf 15 [t26] s4) fun t34 s5 =>
  bd (aExtract t34 0) fun t35 =>
  bd (aExtract t34 1) fun t36 =>
  bd (aBin .neq t31 (I .i64 0)) fun t38 =>
  bd (gT (gd t38 false) (some t36)) fun t40 =>
  bd (gT (gd t38 false) (aBin .neq t40 (I .i64 0))) fun t41 =>
  bd (aPick t38 (B true) t41) fun t42 =>
  br t42 (some ((B false), s5))
  (bd2 (aNew s5 (nSlice 0 (aFill [] []))) fun t44 s6 =>
  bd2 (aAppend 1 1 t44 t30 s6) fun t46 s7 =>
  bd2 (aAppend 1 1 t46 t35 s7) fun t48 s8 =>
  bd2 (callf 16 [t48] s8) fun t49 s9 =>
  bd (aExtract t49 0) fun t50 =>
  bd (aExtract t49 1) fun t51 =>
  bd (aLenSl t30) fun t54 =>
  bd (aLenSl t35) fun t56 =>
  bd (aBin .add t54 t56) fun t57 =>
  bd (aBin .neq t51 t57) fun t58 =>
  bd (gT (gd t58 false) (some t50)) fun t60 =>
  bd (gT (gd t58 false) (aLenSl t60)) fun t61 =>
  bd (gT (gd t58 false) (some t24)) fun t62 =>
  bd (gT (gd t58 false) (aLenSl t62)) fun t63 =>
  bd (gT (gd t58 false) (some t26)) fun t64 =>
  bd (gT (gd t58 false) (aLenSl t64)) fun t65 =>
  bd (gT (gd t58 false) (aBin .add t63 t65)) fun t66 =>
  bd (gT (gd t58 false) (aBin .neq t61 t66)) fun t67 =>
  bd (aPick t58 (B true) t67) fun t68 =>
  bd (gT (gd t68 false) (some t24)) fun t70 =>
  bd (gT (gd t68 false) (some t50)) fun t71 =>
  bd2 (gS (gd t68 false) s9 (callf 23 [t70, t71] s9)) fun t72 s10 =>
  bd (gT (gd t68 false) (aUn .not t72)) fun t73 =>
  bd (aPick t68 (B true) t73) fun t74 =>
  br t74 (some ((B false), s10))
  (bd2 (aNew s10 (nSlice 0 (aFill [] []))) fun t76 s11 =>
  bd2 (aAppend 1 1 t76 t30 s11) fun t78 s12 =>
  bd2 (aNew s12 (nSlice 1 (aFill [.int .u8 0] [(0, 1, (I .u8 0))]))) fun t79 s13 =>
  bd2 (aAppend 1 1 t78 t79 s13) fun t80 s14 =>
  bd2 (aAppend 1 1 t80 t35 s14) fun t82 s15 =>
  bd2 (callf 16 [t82] s15) fun t83 s16 =>
  bd (aExtract t83 0) fun t84 =>
  bd (aExtract t83 1) fun t85 =>
  bd2 (aNew s16 (nSlice 0 (aFill [] []))) fun t87 s17 =>
  bd2 (aAppend 1 1 t87 t30 s17) fun t89 s18 =>
  bd2 (aAppend 1 1 t89 a2 s18) fun t91 s19 =>
  bd2 (callf 16 [t91] s19) fun t92 s20 =>
  bd (aExtract t92 0) fun t93 =>
  bd (aExtract t92 1) fun t94 =>
  bd2 (callf 17 [] s20) fun t95 s21 =>
  bd (gT (gd t95 true) (some t84)) fun t97 =>
  bd (gT (gd t95 true) (aLenSl t97)) fun t98 =>
  bd (gT (gd t95 true) (some t24)) fun t99 =>
  bd (gT (gd t95 true) (aLenSl t99)) fun t100 =>
  bd (gT (gd t95 true) (aBin .eql t98 t100)) fun t101 =>
  bd (aPick t95 t101 (B false)) fun t102 =>
  bd (gT (gd t102 true) (some t85)) fun t104 =>
  bd (gT (gd t102 true) (some t30)) fun t105 =>
  bd (gT (gd t102 true) (aLenSl t105)) fun t106 =>
  bd (gT (gd t102 true) (aBin .eql t104 t106)) fun t107 =>
  bd (aPick t102 t107 (B false)) fun t108 =>
  bd (gT (gd t108 true) (some t93)) fun t110 =>
  bd (gT (gd t108 true) (aLenSl t110)) fun t111 =>
  bd (gT (gd t108 true) (some t24)) fun t112 =>
  bd (gT (gd t108 true) (aLenSl t112)) fun t113 =>
  bd (gT (gd t108 true) (aBin .geq t111 t113)) fun t114 =>
  bd (aPick t108 t114 (B false)) fun t115 =>
  bd (gT (gd t115 true) (some t94)) fun t117 =>
  bd (gT (gd t115 true) (some t30)) fun t118 =>
  bd (gT (gd t115 true) (aLenSl t118)) fun t119 =>
  bd (gT (gd t115 true) (aBin .geq t117 t119)) fun t120 =>
  bd (aPick t115 t120 (B false)) fun t121 =>
  bd (gT (gd t121 true) (some t24)) fun t123 =>
  bd (gT (gd t121 true) (some t93)) fun t124 =>
  bd2 (gS (gd t121 true) s21 (callf 23 [t123, t124] s21)) fun t125 s22 =>
  bd (aPick t121 t125 (B false)) fun t126 =>
  bd (gT (gd t126 true) (some t24)) fun t128 =>
  bd (gT (gd t126 true) (aLenSl t128)) fun t129 =>
  bd (gT (gd t126 true) (aBin .eql t129 (I .i64 0))) fun t130 =>
  bd (gT (gd t126 true) (some t130)) fun t131 =>
  bd (gT (gd t131 false) (some t24)) fun t132 =>
  bd (gT (gd t131 false) (aIndexSl 8 t132 (I .i64 0))) fun t133 =>
  bd (gT (gd t131 false) (aLoadN 8 t133 s22.get)) fun t134 =>
  bd (gT (gd t131 false) (asAggT (aFill [.int .i64 0, .int .i64 0, .int .i64 0, .int .i64 0, .int .i64 0, .int .i64 0, .int .u32 0, .str []] []))) fun t135 =>
  bd (gT (gd t131 false) (neB (.a 8 [(0, .i), (1, .i), (2, .i), (3, .i), (4, .i), (5, .i), (6, .i), (7, .s)]) t134 t135)) fun t136 =>
  bd (gT (gd t126 true) (aPick t131 (B true) t136)) fun t137 =>
  bd (aPick t126 t137 (B false)) fun t138 =>
  some (t138, s22))))

theorem f8_eq (callf : CallF) (N : Nat) (a0 : T) (a1 : T) (a2 : T) (s : St) : bodyC Tryz.prog callf N Tryz.f8 [a0, a1, a2] s = f8 callf N a0 a1 a2 s := by kernel_rfl

theorem f8_run (d : Nat) (a0 : T) (a1 : T) (a2 : T) (s : St) : R (d + 1) 8 [a0, a1, a2] s = f8 (R d) 8192 a0 a1 a2 s := (runQ_body rfl Tryz.func8 (by kernel_rfl)).trans (f8_eq ..)

/- twinkeep/twinkeeplaw10.LogAsks: a loop; 0: t0 l, 1: t1 m, 2: t7 x, 3: t8 e, 4: t9 y, 5: t10 f, 6: t11 u, 7: t12 at, 8: t13 v, 9: t14 to, 10: t15 i -/
def f4_l1 (callf : CallF) (N : Nat) (v : List T) (s : St) : Option (JO × St) :=
  bd (aLenSl (v.getD 0 .any)) fun t57 =>
  bd (aBin .lss (v.getD 10 .any) t57) fun t58 =>
  br t58 (jn (bd (aIndexSl 8 (v.getD 0 .any) (v.getD 10 .any)) fun t64 =>
  bd (aLoadN 8 t64 s.get) fun t65 =>
  bd2 (callf 14 [t65] s) fun t66 s8 =>
  bd (aExtract t66 0) fun t67 =>
  bd (aExtract t66 1) fun t68 =>
  bd (aIndexSl 8 (v.getD 0 .any) (v.getD 10 .any)) fun t72 =>
  bd (aLoadN 8 t72 s8.get) fun t73 =>
  bd2 (callf 21 [t73] s8) fun t74 s9 =>
  bd (aExtract t74 0) fun t75 =>
  bd (aExtract t74 1) fun t76 =>
  bd (aBytesStr t67 s9.get) fun t78 =>
  bd (aBin .neq t78 t75) fun t80 =>
  bd (gT (gd t80 false) (some t68)) fun t82 =>
  bd (gT (gd t80 false) (some t76)) fun t83 =>
  bd (gT (gd t80 false) (aBin .neq t82 t83)) fun t84 =>
  bd (aPick t80 (B true) t84) fun t85 =>
  br t85 (some (.ret (B false), s9))
  (some (.normal [(v.getD 0 .any), (v.getD 1 .any), (v.getD 2 .any), (v.getD 3 .any), (v.getD 4 .any), (v.getD 5 .any), (v.getD 6 .any), (v.getD 7 .any), (v.getD 8 .any), (v.getD 9 .any), (v.getD 10 .any)], s9)))
  (fun v10 s11 => bd (aBin .add (v10.getD 10 .any) (I .i64 1)) fun t60 =>
  some (.normal [(v10.getD 0 .any), (v10.getD 1 .any), (v10.getD 2 .any), (v10.getD 3 .any), (v10.getD 4 .any), (v10.getD 5 .any), (v10.getD 6 .any), (v10.getD 7 .any), (v10.getD 8 .any), (v10.getD 9 .any), t60], s11))
  (fun i12 v10 s11 => some (.exit i12 v10, s11))
  (fun r13 s11 => some (.ret r13, s11)))
  (some (.exit 0 [(v.getD 0 .any), (v.getD 1 .any), (v.getD 2 .any), (v.getD 3 .any), (v.getD 4 .any), (v.getD 5 .any), (v.getD 6 .any), (v.getD 7 .any), (v.getD 8 .any), (v.getD 9 .any)], s))

/- twinkeep/twinkeeplaw10.LogAsks -/
def f4 (callf : CallF) (N : Nat) (a0 : T) (a1 : T) (a2 : T) (s : St) : Option (T × St) :=
  bd2 (callf 18 [a0] s) fun t21 s1 =>
  bd (aUn .not t21) fun t22 =>
  bd (gT (gd t22 false) (some a1)) fun t24 =>
  bd2 (gS (gd t22 false) s1 (callf 18 [t24] s1)) fun t25 s2 =>
  bd (gT (gd t22 false) (aUn .not t25)) fun t26 =>
  bd (aPick t22 (B true) t26) fun t27 =>
  bd (gT (gd t27 false) (some a2)) fun t29 =>
  bd (gT (gd t27 false) (aLenSl t29)) fun t30 =>
  bd (gT (gd t27 false) (aBin .gtr t30 (I .i64 400))) fun t31 =>
  bd (aPick t27 (B true) t31) fun t32 =>
  br t32 (bd2 (callf 17 [] s2) fun t33 s3 =>
  some (t33, s3))
  (bd2 (callf 15 [a0] s2) fun t36 s4 =>
  bd (aExtract t36 0) fun t37 =>
  bd (aExtract t36 1) fun t38 =>
  bd2 (callf 19 [a0] s4) fun t41 s5 =>
  bd (aExtract t41 0) fun t42 =>
  bd (aExtract t41 1) fun t43 =>
  bd2 (callf 16 [a2] s5) fun t46 s6 =>
  bd (aExtract t46 0) fun t47 =>
  bd (aExtract t46 1) fun t48 =>
  bd (aBytesStr a2 s6.get) fun t51 =>
  bd2 (callf 20 [t51] s6) fun t52 s7 =>
  bd (aExtract t52 0) fun t53 =>
  bd (aExtract t52 1) fun t54 =>
  jn (jn (loops (f4_l1 callf N) N [a0, a1, t37, t38, t42, t43, t47, t48, t53, t54, (I .i64 0)] s7)
  (fun v14 s15 => some (.normal [.any, .any, .any, .any, .any, .any, .any, .any, .any, .any], s15))
  (fun i16 v14 s15 => if i16 = 0 then some (.normal v14, s15) else some (.exit i16 v14, s15))
  (fun r17 s15 => some (.ret r17, s15)))
  (fun v18 s19 => bd2 (callf 17 [] s19) fun t86 s22 =>
  bd (gT (gd t86 true) (some (v18.getD 3 .any))) fun t88 =>
  bd (gT (gd t86 true) (some (v18.getD 5 .any))) fun t89 =>
  bd (gT (gd t86 true) (aBin .eql t88 t89)) fun t90 =>
  bd (aPick t86 t90 (B false)) fun t91 =>
  bd (gT (gd t91 true) (some (v18.getD 2 .any))) fun t93 =>
  bd (gT (gd t91 true) (aBytesStr t93 s22.get)) fun t94 =>
  bd (gT (gd t91 true) (some (v18.getD 4 .any))) fun t95 =>
  bd (gT (gd t91 true) (aBin .eql t94 t95)) fun t96 =>
  bd (aPick t91 t96 (B false)) fun t97 =>
  bd (gT (gd t97 true) (some (v18.getD 6 .any))) fun t99 =>
  bd (gT (gd t97 true) (some (v18.getD 8 .any))) fun t100 =>
  bd2 (gS (gd t97 true) s22 (callf 22 [t99, t100] s22)) fun t101 s23 =>
  bd (aPick t97 t101 (B false)) fun t102 =>
  bd (gT (gd t102 true) (some (v18.getD 7 .any))) fun t104 =>
  bd (gT (gd t102 true) (some (v18.getD 9 .any))) fun t105 =>
  bd (gT (gd t102 true) (aBin .eql t104 t105)) fun t106 =>
  bd (aPick t102 t106 (B false)) fun t107 =>
  bd (gT (gd t107 true) (some (v18.getD 0 .any))) fun t109 =>
  bd (gT (gd t107 true) (some (v18.getD 1 .any))) fun t110 =>
  bd2 (gS (gd t107 true) s23 (callf 23 [t109, t110] s23)) fun t111 s24 =>
  bd (gT (gd t107 true) (some (v18.getD 0 .any))) fun t112 =>
  bd (gT (gd t107 true) (some (v18.getD 1 .any))) fun t113 =>
  bd2 (gS (gd t107 true) s24 (callf 24 [t112, t113] s24)) fun t114 s25 =>
  bd (gT (gd t107 true) (eqB .b t111 t114)) fun t115 =>
  bd (aPick t107 t115 (B false)) fun t116 =>
  bd (gT (gd t116 true) (some (v18.getD 0 .any))) fun t118 =>
  bd (gT (gd t116 true) (some (v18.getD 1 .any))) fun t119 =>
  bd2 (gS (gd t116 true) s25 (callf 25 [t118, t119] s25)) fun t120 s26 =>
  bd (gT (gd t116 true) (some (v18.getD 0 .any))) fun t121 =>
  bd (gT (gd t116 true) (some (v18.getD 1 .any))) fun t122 =>
  bd2 (gS (gd t116 true) s26 (callf 26 [t121, t122] s26)) fun t123 s27 =>
  bd (gT (gd t116 true) (aBin .eql t120 t123)) fun t124 =>
  bd (aPick t116 t124 (B false)) fun t125 =>
  some (t125, s27))
  (fun i20 v18 s19 => none)
  (fun r21 s19 => some (r21, s19)))

theorem f4_eq (callf : CallF) (N : Nat) (a0 : T) (a1 : T) (a2 : T) (s : St) : bodyC Tryz.prog callf N Tryz.f4 [a0, a1, a2] s = f4 callf N a0 a1 a2 s := by kernel_rfl

theorem f4_run (d : Nat) (a0 : T) (a1 : T) (a2 : T) (s : St) : R (d + 1) 4 [a0, a1, a2] s = f4 (R d) 8192 a0 a1 a2 s := (runQ_body rfl Tryz.func4 (by kernel_rfl)).trans (f4_eq ..)

end
end Go.Proofs.YtlhbidbdmdcdeaaGreatDoor
