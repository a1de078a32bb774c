/-
  What functions that the laws reach compute, printed by a program of our own: each text is by definition the run of the code. No conditions.
-/
import Derived.Test.YtlhbidbdmdcdeaaGreatDoorWalk0
namespace Go.Proofs.YtlhbidbdmdcdeaaGreatDoor
open Go Go.Abs Go.Abs.F
set_option linter.unusedVariables false
noncomputable section
/- twinkeep/twinkeeplaw9.Rows: a loop; 0: t0 l, 1: t3 out, 2: t4 there, 3: t5 view, 4: t6 id, 5: t7 at, 6: t8 i -/
def f27_l1 (callf : CallF) (N : Nat) (v : List T) (s : St) : Option (JO × St) :=
  bd (aLenSl (v.getD 0 .any)) fun t14 =>
  bd (aBin .lss (v.getD 6 .any) t14) fun t15 =>
  bd (gT (gd t15 true) (some (v.getD 6 .any))) fun t17 =>
  bd (gT (gd t15 true) (aBin .lss t17 (I .i64 40))) fun t18 =>
  bd (aPick t15 t18 (B false)) fun t19 =>
  br t19 (jn (bd (aIndexSl 1 (v.getD 0 .any) (v.getD 6 .any)) fun t24 =>
  bd (aLoad1 t24 s.get) fun t25 =>
  bd (aConv .u64 t25) fun t26 =>
  jn (bd (aBin .rem t26 (I .u64 8)) fun t57 =>
  bd (aBin .eql t57 (I .u64 7)) fun t58 =>
  jn (br t58 (bd (aBin .add (v.getD 3 .any) (I .i64 1)) fun t60 =>
  bd (asAggT (aFill [.int .i64 0, .int .i64 0, .int .i64 0, .int .i64 0, .int .i64 0, .int .i64 0, .int .u32 0, .str []] [(0, 1, (I .i64 3)), (1, 1, t60)])) fun t63 =>
  bd2 (aNew s (nSlice 1 (aFill [.int .i64 0, .int .i64 0, .int .i64 0, .int .i64 0, .int .i64 0, .int .i64 0, .int .u32 0, .str []] [(0, 8, t63)]))) fun t64 s1 =>
  bd2 (aAppend 8 72 (v.getD 1 .any) t64 s1) fun t65 s2 =>
  some (.normal [(v.getD 0 .any), t65, (v.getD 2 .any), t60, (v.getD 4 .any), (v.getD 5 .any), (v.getD 6 .any)], s2))
  (bd (aBin .rem t26 (I .u64 8)) fun t68 =>
  bd (aBin .eql t68 (I .u64 6)) fun t69 =>
  jn (br t69 (bd2 (aNew s (nSlice 3 (aFill [.str [], .str [], .str []] [(0, 1, (Z (.str [49]))), (1, 1, (Z (.str [57]))), (2, 1, (Z (.str [51, 51])))]))) fun t72 s3 =>
  bd (aBin .quo t26 (I .u64 8)) fun t74 =>
  bd (aBin .rem t74 (I .u64 3)) fun t75 =>
  bd (aIndexSl 1 t72 t75) fun t76 =>
  bd (aLoad1 t76 s3.get) fun t77 =>
  bd (aBin .add (Z (.str [115, 101, 97, 108, 32])) t77) fun t78 =>
  bd (asAggT (aFill [.int .i64 0, .int .i64 0, .int .i64 0, .int .i64 0, .int .i64 0, .int .i64 0, .int .u32 0, .str []] [(0, 1, (I .i64 4)), (1, 1, (v.getD 3 .any)), (7, 1, t78)])) fun t79 =>
  bd2 (aNew s3 (nSlice 1 (aFill [.int .i64 0, .int .i64 0, .int .i64 0, .int .i64 0, .int .i64 0, .int .i64 0, .int .u32 0, .str []] [(0, 8, t79)]))) fun t80 s4 =>
  bd2 (aAppend 8 72 (v.getD 1 .any) t80 s4) fun t81 s5 =>
  some (.normal [(v.getD 0 .any), t81, (v.getD 2 .any), (v.getD 3 .any), (v.getD 4 .any), (v.getD 5 .any), (v.getD 6 .any)], s5))
  (bd (aBin .rem t26 (I .u64 8)) fun t84 =>
  bd (aBin .gtr t84 (I .u64 3)) fun t85 =>
  bd (gT (gd t85 true) (some (v.getD 2 .any))) fun t87 =>
  bd (gT (gd t85 true) (aLenSl t87)) fun t88 =>
  bd (gT (gd t85 true) (aBin .gtr t88 (I .i64 0))) fun t89 =>
  bd (aPick t85 t89 (B false)) fun t90 =>
  jn (br t90 (bd (aBin .quo t26 (I .u64 8)) fun t92 =>
  bd (aLenSl (v.getD 2 .any)) fun t94 =>
  bd (aConv .u64 t94) fun t95 =>
  bd (aBin .rem t92 t95) fun t96 =>
  bd (aConv .i64 t96) fun t97 =>
  bd (aIndexSl 1 (v.getD 2 .any) t97) fun t102 =>
  bd (aLoad1 t102 s.get) fun t103 =>
  bd (asAggT (aFill [.int .i64 0, .int .i64 0, .int .i64 0, .int .i64 0, .int .i64 0, .int .i64 0, .int .u32 0, .str []] [(0, 1, (I .i64 2)), (1, 1, (v.getD 3 .any)), (2, 1, t103)])) fun t104 =>
  bd2 (aNew s (nSlice 1 (aFill [.int .i64 0, .int .i64 0, .int .i64 0, .int .i64 0, .int .i64 0, .int .i64 0, .int .u32 0, .str []] [(0, 8, t104)]))) fun t105 s6 =>
  bd2 (aAppend 8 72 (v.getD 1 .any) t105 s6) fun t106 s7 =>
  bd (aPieceSl 1 (v.getD 2 .any) none (some t97) (some t97)) fun t110 =>
  bd (aBin .add t97 (I .i64 1)) fun t113 =>
  bd (aPieceSl 1 (v.getD 2 .any) (some t113) none none) fun t114 =>
  bd2 (aAppend 1 8 t110 t114 s7) fun t115 s8 =>
  some (.normal [(v.getD 0 .any), t106, t115, (v.getD 3 .any), (v.getD 4 .any), (v.getD 5 .any), (v.getD 6 .any)], s8))
  (bd (aBin .add (v.getD 4 .any) (I .i64 1)) fun t28 =>
  bd (aBin .add (v.getD 5 .any) (I .i64 1)) fun t30 =>
  bd (aBin .quo t26 (I .u64 8)) fun t32 =>
  bd (aBin .rem t32 (I .u64 30)) fun t33 =>
  bd (aConv .i64 t33) fun t34 =>
  bd (aBin .add t30 t34) fun t35 =>
  bd (aBin .quo t26 (I .u64 8)) fun t40 =>
  bd (aBin .rem t40 (I .u64 4)) fun t41 =>
  bd (aConv .i64 t41) fun t42 =>
  bd (aConv .u32 t26) fun t46 =>
  bd (asAggT (aFill [.int .i64 0, .int .i64 0, .int .i64 0, .int .i64 0, .int .i64 0, .int .i64 0, .int .u32 0, .str []] [(0, 1, (I .i64 1)), (1, 1, (v.getD 3 .any)), (2, 1, t28), (3, 1, t42), (4, 1, (v.getD 5 .any)), (5, 1, t35), (6, 1, t46)])) fun t47 =>
  bd2 (aNew s (nSlice 1 (aFill [.int .i64 0, .int .i64 0, .int .i64 0, .int .i64 0, .int .i64 0, .int .i64 0, .int .u32 0, .str []] [(0, 8, t47)]))) fun t48 s9 =>
  bd2 (aAppend 8 72 (v.getD 1 .any) t48 s9) fun t49 s10 =>
  bd2 (aNew s10 (nSlice 1 (aFill [.int .i64 0] [(0, 1, t28)]))) fun t52 s11 =>
  bd2 (aAppend 1 8 (v.getD 2 .any) t52 s11) fun t53 s12 =>
  some (.normal [(v.getD 0 .any), t49, t53, (v.getD 3 .any), t28, t35, (v.getD 6 .any)], s12)))
  (fun v13 s14 => some (.normal [(v13.getD 0 .any), (v13.getD 1 .any), (v13.getD 2 .any), (v13.getD 3 .any), (v13.getD 4 .any), (v13.getD 5 .any), (v13.getD 6 .any)], s14))
  (fun i15 v13 s14 => some (.exit i15 v13, s14))
  (fun r16 s14 => some (.ret r16, s14))))
  (fun v17 s18 => some (.normal [(v17.getD 0 .any), (v17.getD 1 .any), (v17.getD 2 .any), (v17.getD 3 .any), (v17.getD 4 .any), (v17.getD 5 .any), (v17.getD 6 .any)], s18))
  (fun i19 v17 s18 => some (.exit i19 v17, s18))
  (fun r20 s18 => some (.ret r20, s18))))
  (fun v21 s22 => some (.normal [(v21.getD 0 .any), (v21.getD 1 .any), (v21.getD 2 .any), (v21.getD 3 .any), (v21.getD 4 .any), (v21.getD 5 .any), (v21.getD 6 .any)], s22))
  (fun i23 v21 s22 => if i23 = 2 then some (.normal v21, s22) else some (.exit i23 v21, s22))
  (fun r24 s22 => some (.ret r24, s22)))
  (fun v25 s26 => some (.normal [(v25.getD 0 .any), (v25.getD 1 .any), (v25.getD 2 .any), (v25.getD 3 .any), (v25.getD 4 .any), (v25.getD 5 .any), (v25.getD 6 .any)], s26))
  (fun i27 v25 s26 => if i27 = 1 then some (.normal v25, s26) else some (.exit i27 v25, s26))
  (fun r28 s26 => some (.ret r28, s26)))
  (fun v29 s30 => bd (aBin .add (v29.getD 6 .any) (I .i64 1)) fun t21 =>
  some (.normal [(v29.getD 0 .any), (v29.getD 1 .any), (v29.getD 2 .any), (v29.getD 3 .any), (v29.getD 4 .any), (v29.getD 5 .any), t21], s30))
  (fun i31 v29 s30 => some (.exit i31 v29, s30))
  (fun r32 s30 => some (.ret r32, s30)))
  (some (.exit 0 [(v.getD 1 .any)], s))

/- twinkeep/twinkeeplaw9.Rows -/
def f27 (callf : CallF) (N : Nat) (a0 : T) (s : St) : Option (T × St) :=
  jn (jn (loops (f27_l1 callf N) N [a0, (Z .nils), (Z .nils), (I .i64 0), (I .i64 0), (I .i64 0), (I .i64 0)] s)
  (fun v33 s34 => some (.normal [.any], s34))
  (fun i35 v33 s34 => if i35 = 0 then some (.normal v33, s34) else some (.exit i35 v33, s34))
  (fun r36 s34 => some (.ret r36, s34)))
  (fun v37 s38 => some ((v37.getD 0 .any), s38))
  (fun i39 v37 s38 => none)
  (fun r40 s38 => some (r40, s38))

theorem f27_eq (callf : CallF) (N : Nat) (a0 : T) (s : St) : bodyC Tryz.prog callf N Tryz.f27 [a0] s = f27 callf N a0 s := by kernel_rfl

theorem f27_run (d : Nat) (a0 : T) (s : St) : R (d + 1) 27 [a0] s = f27 (R d) 8192 a0 s := (runQ_body rfl Tryz.func27 (by kernel_rfl)).trans (f27_eq ..)

/- twinkeep/twinkeeplaw9.Few: a loop; 0: t0 l, 1: t3 i -/
def f18_l1 (callf : CallF) (N : Nat) (v : List T) (s : St) : Option (JO × St) :=
  bd (aLenSl (v.getD 0 .any)) fun t6 =>
  bd (aBin .lss (v.getD 1 .any) t6) fun t7 =>
  br t7 (jn (bd (aIndexSl 8 (v.getD 0 .any) (v.getD 1 .any)) fun t12 =>
  bd (aFieldAddr 7 t12) fun t13 =>
  bd (aLoad1 t13 s.get) fun t14 =>
  bd (aLenStr t14) fun t15 =>
  bd (aBin .gtr t15 (I .i64 400)) fun t16 =>
  br t16 (some (.ret (B false), s))
  (some (.normal [(v.getD 0 .any), (v.getD 1 .any)], s)))
  (fun v1 s2 => bd (aBin .add (v1.getD 1 .any) (I .i64 1)) fun t9 =>
  some (.normal [(v1.getD 0 .any), t9], s2))
  (fun i3 v1 s2 => some (.exit i3 v1, s2))
  (fun r4 s2 => some (.ret r4, s2)))
  (some (.exit 0 [(v.getD 0 .any)], s))

/- twinkeep/twinkeeplaw9.Few -/
def f18 (callf : CallF) (N : Nat) (a0 : T) (s : St) : Option (T × St) :=
  jn (jn (loops (f18_l1 callf N) N [a0, (I .i64 0)] s)
  (fun v5 s6 => some (.normal [.any], s6))
  (fun i7 v5 s6 => if i7 = 0 then some (.normal v5, s6) else some (.exit i7 v5, s6))
  (fun r8 s6 => some (.ret r8, s6)))
  (fun v9 s10 => bd (aLenSl (v9.getD 0 .any)) fun t18 =>
  bd (aBin .leq t18 (I .i64 60)) fun t19 =>
  some (t19, s10))
  (fun i11 v9 s10 => none)
  (fun r12 s10 => some (r12, s10))

theorem f18_eq (callf : CallF) (N : Nat) (a0 : T) (s : St) : bodyC Tryz.prog callf N Tryz.f18 [a0] s = f18 callf N a0 s := by kernel_rfl

theorem f18_run (d : Nat) (a0 : T) (s : St) : R (d + 1) 18 [a0] s = f18 (R d) 8192 a0 s := (runQ_body rfl Tryz.func18 (by kernel_rfl)).trans (f18_eq ..)

/- twinkeep/twinkeeplaw9.EntryRules -/
def f9 (callf : CallF) (N : Nat) (a0 : T) (a1 : T) (s : St) : Option (T × St) :=
  bd (aConv .u64 a0) fun t14 =>
  bd (aBin .rem t14 (I .u64 70)) fun t15 =>
  bd (aConv .i64 t15) fun t16 =>
  bd (aBin .quo t16 (I .i64 10)) fun t18 =>
  bd (aBin .quo t16 (I .i64 10)) fun t20 =>
  bd (aBin .add t20 (I .i64 1)) fun t21 =>
  bd (aPieceStr (Z (.str [48, 49, 50, 51, 52, 53, 54, 55, 56, 57])) (some t18) (some t21) none) fun t22 =>
  bd (aBin .add (Z (.str [115, 101, 97, 108, 32])) t22) fun t23 =>
  bd (aBin .rem t16 (I .i64 10)) fun t25 =>
  bd (aBin .rem t16 (I .i64 10)) fun t27 =>
  bd (aBin .add t27 (I .i64 1)) fun t28 =>
  bd (aPieceStr (Z (.str [48, 49, 50, 51, 52, 53, 54, 55, 56, 57])) (some t25) (some t28) none) fun t29 =>
  bd (aBin .add t23 t29) fun t30 =>
  bd2 (aNew s (nSlice 4 (aFill [.str [], .str [], .str [], .str []] [(0, 1, (Z (.str []))), (1, 1, (Z (.str [32, 120]))), (2, 1, (Z (.str [10, 115, 112, 97, 110, 32, 57]))), (3, 1, (Z (.str [10, 115, 101, 97, 108, 32, 51])))]))) fun t31 s1 =>
  bd (aConv .u64 a1) fun t33 =>
  bd (aBin .rem t33 (I .u64 4)) fun t34 =>
  bd (aIndexSl 1 t31 t34) fun t35 =>
  bd (aLoad1 t35 s1.get) fun t36 =>
  bd (aBin .add t30 t36) fun t37 =>
  bd (asAggT (aFill [.int .i64 0, .int .i64 0, .int .i64 0, .int .i64 0, .int .i64 0, .int .i64 0, .int .u32 0, .str []] [(0, 1, (I .i64 4)), (7, 1, t37)])) fun t39 =>
  bd2 (aNew s1 (nCells [.int .i64 0, .int .i64 0, .int .i64 0, .int .i64 0, .int .i64 0, .int .i64 0, .int .u32 0, .str []])) fun t7 s2 =>
  bd2 (aStore 8 t7 t39 s2) fun _ s3 =>
  bd (aBin .geq t16 (I .i64 1)) fun t41 =>
  bd (gT (gd t41 true) (some t16)) fun t43 =>
  bd (gT (gd t41 true) (aBin .leq t43 (I .i64 64))) fun t44 =>
  bd (aPick t41 t44 (B false)) fun t45 =>
  bd (gT (gd t45 true) (some a1)) fun t47 =>
  bd (gT (gd t45 true) (aConv .u64 t47)) fun t48 =>
  bd (gT (gd t45 true) (aBin .rem t48 (I .u64 2))) fun t49 =>
  bd (gT (gd t45 true) (aBin .eql t49 (I .u64 0))) fun t50 =>
  bd (aPick t45 t50 (B false)) fun t51 =>
  bd (aLoadN 8 t7 s3.get) fun t53 =>
  bd2 (aNew s3 (nSlice 1 (aFill [.int .i64 0, .int .i64 0, .int .i64 0, .int .i64 0, .int .i64 0, .int .i64 0, .int .u32 0, .str []] [(0, 8, t53)]))) fun t54 s4 =>
  bd2 (callf 28 [t54] s4) fun t55 s5 =>
  bd (aExtract t55 0) fun t56 =>
  bd (aExtract t55 1) fun t57 =>
  bd (aExtract t55 2) fun t58 =>
  bd (aExtract t55 3) fun t59 =>
  bd2 (aNew s5 (nCells [.int .i64 0, .int .i64 0, .int .i64 0, .int .i64 0, .int .i64 0, .int .i64 0])) fun t10 s6 =>
  bd2 (aStore 6 t10 t57 s6) fun _ s7 =>
  bd2 (callf 29 [] s7) fun t60 s8 =>
  bd (gT (gd t60 true) (aLoadN 8 t7 s8.get)) fun t62 =>
  bd2 (gS (gd t60 true) s8 (callf 30 [t62] s8)) fun t63 s9 =>
  bd (gT (gd t60 true) (some t51)) fun t64 =>
  bd (gT (gd t60 true) (eqB .b t63 t64)) fun t65 =>
  bd (aPick t60 t65 (B false)) fun t66 =>
  bd (gT (gd t66 true) (some t59)) fun t68 =>
  bd (gT (gd t66 true) (aBin .eql t68 (I .i64 0))) fun t69 =>
  bd (gT (gd t66 true) (some t51)) fun t70 =>
  bd (gT (gd t66 true) (eqB .b t69 t70)) fun t71 =>
  bd (aPick t66 t71 (B false)) fun t72 =>
  bd (gT (gd t72 true) (some t51)) fun t74 =>
  bd (gT (gd t72 true) (aUn .not t74)) fun t75 =>
  bd (gT (gd t72 true) (some t75)) fun t76 =>
  bd (gT (gd t76 false) (aFieldAddr 4 t10)) fun t77 =>
  bd (gT (gd t76 false) (aLoad1 t77 s9.get)) fun t78 =>
  bd (gT (gd t76 false) (some t16)) fun t79 =>
  bd (gT (gd t76 false) (aBin .eql t78 t79)) fun t80 =>
  bd (gT (gd t72 true) (aPick t76 (B true) t80)) fun t81 =>
  bd (aPick t72 t81 (B false)) fun t82 =>
  some (t82, s9)

theorem f9_eq (callf : CallF) (N : Nat) (a0 : T) (a1 : T) (s : St) : bodyC Tryz.prog callf N Tryz.f9 [a0, a1] s = f9 callf N a0 a1 s := by kernel_rfl

theorem f9_run (d : Nat) (a0 : T) (a1 : T) (s : St) : R (d + 1) 9 [a0, a1] s = f9 (R d) 8192 a0 a1 s := (runQ_body rfl Tryz.func9 (by kernel_rfl)).trans (f9_eq ..)

/- twinkeep/twinkeeplaw9.EntryBack -/
def f11 (callf : CallF) (N : Nat) (a0 : T) (a1 : T) (a2 : T) (s : St) : Option (T × St) :=
  bd2 (aNew s (nBox a0)) fun t3 s1 =>
  bd (aLoadN 8 t3 s1.get) fun t19 =>
  bd2 (aNew s1 (nSlice 1 (aFill [.int .i64 0, .int .i64 0, .int .i64 0, .int .i64 0, .int .i64 0, .int .i64 0, .int .u32 0, .str []] [(0, 8, t19)]))) fun t20 s2 =>
  bd2 (callf 18 [t20] s2) fun t21 s3 =>
  bd (aUn .not t21) fun t22 =>
  bd (gT (gd t22 false) (aLoadN 8 t3 s3.get)) fun t24 =>
  bd2 (gS (gd t22 false) s3 (callf 30 [t24] s3)) fun t25 s4 =>
  bd (gT (gd t22 false) (aUn .not t25)) fun t26 =>
  bd (aPick t22 (B true) t26) fun t27 =>
  br t27 (bd2 (callf 29 [] s4) fun t28 s5 =>
  some (t28, s5))
  (bd (aLoadN 8 t3 s4.get) fun t30 =>
  bd2 (callf 31 [t30] s4) fun t31 s6 =>
  bd (aExtract t31 0) fun t32 =>
  bd (aExtract t31 1) fun t33 =>
  bd2 (callf 33 [t32] s6) fun t36 s7 =>
  bd (aExtract t36 0) fun t37 =>
  bd (aExtract t36 1) fun t38 =>
  bd2 (aNew s7 (nCells [.int .i64 0, .int .i64 0, .int .i64 0, .int .i64 0, .int .i64 0, .int .i64 0, .int .u32 0, .str []])) fun t9 s8 =>
  bd2 (aStore 8 t9 t37 s8) fun _ s9 =>
  bd (aBin .neq t33 (I .i64 0)) fun t40 =>
  bd (gT (gd t40 false) (some t38)) fun t42 =>
  bd (gT (gd t40 false) (aBin .neq t42 (I .i64 0))) fun t43 =>
  bd (aPick t40 (B true) t43) fun t44 =>
  bd (gT (gd t44 false) (aLoadN 8 t9 s9.get)) fun t46 =>
  bd (gT (gd t44 false) (aLoadN 8 t3 s9.get)) fun t47 =>
  bd (gT (gd t44 false) (neB (.a 8 [(0, .i), (1, .i), (2, .i), (3, .i), (4, .i), (5, .i), (6, .i), (7, .s)]) t46 t47)) fun t48 =>
  bd (aPick t44 (B true) t48) fun t49 =>
  bd (gT (gd t49 false) (some t32)) fun t51 =>
  bd (gT (gd t49 false) (aLenSl t51)) fun t52 =>
  bd (gT (gd t49 false) (aBin .eql t52 (I .i64 0))) fun t53 =>
  bd (aPick t49 (B true) t53) fun t54 =>
  br t54 (some ((B false), s9))
  (bd (aConv .u64 a1) fun t56 =>
  bd (aLenSl t32) fun t58 =>
  bd (aConv .u64 t58) fun t59 =>
  bd (aBin .rem t56 t59) fun t60 =>
  bd (aConv .i64 t60) fun t61 =>
  bd (aPieceSl 1 t32 none (some t61) none) fun t65 =>
  bd2 (callf 33 [t65] s9) fun t66 s10 =>
  bd (aExtract t66 0) fun t67 =>
  bd (aExtract t66 1) fun t68 =>
  bd2 (aNew s10 (nCells [.int .i64 0, .int .i64 0, .int .i64 0, .int .i64 0, .int .i64 0, .int .i64 0, .int .u32 0, .str []])) fun t12 s11 =>
  bd2 (aStore 8 t12 t67 s11) fun _ s12 =>
  bd2 (aNew s12 (nSlice 0 (aFill [] []))) fun t70 s13 =>
  bd2 (aAppend 1 1 t70 t32 s13) fun t72 s14 =>
  bd2 (aNew s14 (nSlice 1 (aFill [.int .u8 0] [(0, 1, a2)]))) fun t74 s15 =>
  bd2 (aAppend 1 1 t72 t74 s15) fun t75 s16 =>
  bd2 (callf 33 [t75] s16) fun t76 s17 =>
  bd (aExtract t76 0) fun t77 =>
  bd (aExtract t76 1) fun t78 =>
  bd2 (aNew s17 (nCells [.int .i64 0, .int .i64 0, .int .i64 0, .int .i64 0, .int .i64 0, .int .i64 0, .int .u32 0, .str []])) fun t14 s18 =>
  bd2 (aStore 8 t14 t77 s18) fun _ s19 =>
  bd2 (aNew s19 (nSlice 0 (aFill [] []))) fun t79 s20 =>
  bd2 (aAppend 1 1 t79 t32 s20) fun t81 s21 =>
  bd (aIndexSl 1 t81 t61) fun t85 =>
  bd2 (aStore 1 t85 a2 s21) fun _ s22 =>
  bd2 (callf 33 [t81] s22) fun t88 s23 =>
  bd (aExtract t88 0) fun t89 =>
  bd (aExtract t88 1) fun t90 =>
  bd2 (aNew s23 (nCells [.int .i64 0, .int .i64 0, .int .i64 0, .int .i64 0, .int .i64 0, .int .i64 0, .int .u32 0, .str []])) fun t17 s24 =>
  bd2 (aStore 8 t17 t89 s24) fun _ s25 =>
  bd2 (callf 29 [] s25) fun t91 s26 =>
  bd (gT (gd t91 true) (some t68)) fun t93 =>
  bd (gT (gd t91 true) (aBin .eql t93 (I .i64 2))) fun t94 =>
  bd (aPick t91 t94 (B false)) fun t95 =>
  bd (gT (gd t95 true) (some t78)) fun t97 =>
  bd (gT (gd t95 true) (aBin .eql t97 (I .i64 2))) fun t98 =>
  bd (aPick t95 t98 (B false)) fun t99 =>
  bd (gT (gd t99 true) (some t90)) fun t101 =>
  bd (gT (gd t99 true) (aBin .neq t101 (I .i64 0))) fun t102 =>
  bd (gT (gd t99 true) (some t102)) fun t103 =>
  bd (gT (gd t103 false) (aLoadN 8 t17 s26.get)) fun t104 =>
  bd (gT (gd t103 false) (aLoadN 8 t3 s26.get)) fun t105 =>
  bd (gT (gd t103 false) (eqB (.a 8 [(0, .i), (1, .i), (2, .i), (3, .i), (4, .i), (5, .i), (6, .i), (7, .s)]) t104 t105)) fun t106 =>
  bd (gT (gd t103 false) (some a2)) fun t107 =>
  bd (gT (gd t103 false) (some t32)) fun t108 =>
  bd (gT (gd t103 false) (some t61)) fun t109 =>
  bd (gT (gd t103 false) (aIndexSl 1 t108 t109)) fun t110 =>
  bd (gT (gd t103 false) (aLoad1 t110 s26.get)) fun t111 =>
  bd (gT (gd t103 false) (aBin .eql t107 t111)) fun t112 =>
  bd (gT (gd t103 false) (eqB .b t106 t112)) fun t113 =>
  bd (gT (gd t99 true) (aPick t103 (B true) t113)) fun t114 =>
  bd (aPick t99 t114 (B false)) fun t115 =>
  some (t115, s26)))

theorem f11_eq (callf : CallF) (N : Nat) (a0 : T) (a1 : T) (a2 : T) (s : St) : bodyC Tryz.prog callf N Tryz.f11 [a0, a1, a2] s = f11 callf N a0 a1 a2 s := by kernel_rfl

theorem f11_run (d : Nat) (a0 : T) (a1 : T) (a2 : T) (s : St) : R (d + 1) 11 [a0, a1, a2] s = f11 (R d) 8192 a0 a1 a2 s := (runQ_body rfl Tryz.func11 (by kernel_rfl)).trans (f11_eq ..)

/- twinkeep/twinkeeplaw9.EntryFolds: a loop; 0: t7 i, 1: t19 k -/
def f12_l1 (callf : CallF) (N : Nat) (v : List T) (s : St) : Option (JO × St) :=
  bd (aLenSl (v.getD 0 .any)) fun t81 =>
  bd (aBin .lss (v.getD 1 .any) t81) fun t82 =>
  br t82 (jn (bd (aIndexSl 5 (v.getD 0 .any) (v.getD 1 .any)) fun t87 =>
  bd (aFieldAddr 0 t87) fun t88 =>
  bd (aLoad1 t88 s.get) fun t89 =>
  bd (aBin .sub (v.getD 1 .any) (I .i64 1)) fun t92 =>
  bd (aIndexSl 5 (v.getD 0 .any) t92) fun t93 =>
  bd (aFieldAddr 0 t93) fun t94 =>
  bd (aLoad1 t94 s.get) fun t95 =>
  bd (aBin .leq t89 t95) fun t96 =>
  br t96 (some (.ret (B false), s))
  (some (.normal [(v.getD 0 .any), (v.getD 1 .any)], s)))
  (fun v12 s13 => bd (aBin .add (v12.getD 1 .any) (I .i64 1)) fun t84 =>
  some (.normal [(v12.getD 0 .any), t84], s13))
  (fun i14 v12 s13 => some (.exit i14 v12, s13))
  (fun r15 s13 => some (.ret r15, s13)))
  (some (.exit 0 [], s))

/- twinkeep/twinkeeplaw9.EntryFolds -/
def f12 (callf : CallF) (N : Nat) (a0 : T) (a1 : T) (s : St) : Option (T × St) :=
  bd2 (callf 27 [a0] s) fun t21 s1 =>
  bd (aConv .u64 a1) fun t23 =>
  bd (aLenSl t21) fun t25 =>
  bd (aBin .add t25 (I .i64 1)) fun t26 =>
  bd (aConv .u64 t26) fun t27 =>
  bd (aBin .rem t23 t27) fun t28 =>
  bd (aConv .i64 t28) fun t29 =>
  bd2 (callf 28 [t21] s1) fun t32 s2 =>
  bd (aExtract t32 0) fun t33 =>
  bd (aExtract t32 1) fun t34 =>
  bd (aExtract t32 2) fun t35 =>
  bd (aExtract t32 3) fun t36 =>
  bd2 (aNew s2 (nCells [.int .i64 0, .int .i64 0, .int .i64 0, .int .i64 0, .int .i64 0, .int .i64 0])) fun t8 s3 =>
  bd2 (aStore 6 t8 t34 s3) fun _ s4 =>
  bd2 (callf 35 [t21] s4) fun t39 s5 =>
  bd (aExtract t39 0) fun t40 =>
  bd (aExtract t39 1) fun t41 =>
  bd (aExtract t39 2) fun t42 =>
  bd (aExtract t39 3) fun t43 =>
  bd2 (aNew s5 (nCells [.int .i64 0, .int .i64 0, .int .i64 0, .int .i64 0, .int .i64 0, .int .i64 0])) fun t12 s6 =>
  bd2 (aStore 6 t12 t41 s6) fun _ s7 =>
  bd (aPieceSl 8 t21 none (some t29) none) fun t47 =>
  bd2 (callf 28 [t47] s7) fun t48 s8 =>
  bd (aExtract t48 0) fun t49 =>
  bd (aExtract t48 1) fun t50 =>
  bd (aExtract t48 2) fun t51 =>
  bd (aExtract t48 3) fun t52 =>
  bd2 (aNew s8 (nCells [.int .i64 0, .int .i64 0, .int .i64 0, .int .i64 0, .int .i64 0, .int .i64 0])) fun t16 s9 =>
  bd2 (aStore 6 t16 t50 s9) fun _ s10 =>
  bd (aBin .neq t36 (I .i64 0)) fun t54 =>
  bd (gT (gd t54 false) (some t43)) fun t56 =>
  bd (gT (gd t54 false) (aBin .neq t56 (I .i64 0))) fun t57 =>
  bd (aPick t54 (B true) t57) fun t58 =>
  bd (gT (gd t58 false) (some t52)) fun t60 =>
  bd (gT (gd t58 false) (aBin .neq t60 (I .i64 0))) fun t61 =>
  bd (aPick t58 (B true) t61) fun t62 =>
  bd (gT (gd t62 false) (aLoadN 6 t8 s10.get)) fun t64 =>
  bd (gT (gd t62 false) (aLoadN 6 t12 s10.get)) fun t65 =>
  bd (gT (gd t62 false) (neB (.a 6 [(0, .i), (1, .i), (2, .i), (3, .i), (4, .i), (5, .i)]) t64 t65)) fun t66 =>
  bd (aPick t62 (B true) t66) fun t67 =>
  bd (gT (gd t67 false) (some t35)) fun t69 =>
  bd (gT (gd t67 false) (some t42)) fun t70 =>
  bd (gT (gd t67 false) (aBin .neq t69 t70)) fun t71 =>
  bd (aPick t67 (B true) t71) fun t72 =>
  bd (gT (gd t72 false) (some t33)) fun t74 =>
  bd (gT (gd t72 false) (some t40)) fun t75 =>
  bd2 (gS (gd t72 false) s10 (callf 36 [t74, t75] s10)) fun t76 s11 =>
  bd (gT (gd t72 false) (aUn .not t76)) fun t77 =>
  bd (aPick t72 (B true) t77) fun t78 =>
  br t78 (some ((B false), s11))
  (jn (jn (loops (f12_l1 callf N) N [t33, (I .i64 1)] s11)
  (fun v16 s17 => some (.normal [], s17))
  (fun i18 v16 s17 => if i18 = 0 then some (.normal v16, s17) else some (.exit i18 v16, s17))
  (fun r19 s17 => some (.ret r19, s17)))
  (fun v20 s21 => bd2 (callf 29 [] s21) fun t97 s24 =>
  some (t97, s24))
  (fun i22 v20 s21 => none)
  (fun r23 s21 => some (r23, s21)))

theorem f12_eq (callf : CallF) (N : Nat) (a0 : T) (a1 : T) (s : St) : bodyC Tryz.prog callf N Tryz.f12 [a0, a1] s = f12 callf N a0 a1 s := by kernel_rfl

theorem f12_run (d : Nat) (a0 : T) (a1 : T) (s : St) : R (d + 1) 12 [a0, a1] s = f12 (R d) 8192 a0 a1 s := (runQ_body rfl Tryz.func12 (by kernel_rfl)).trans (f12_eq ..)

/- twinkeep/twinkeeplaw9.EntryTwice: a loop; 0: t5 e, 1: t6 k, 2: t7 ever, 3: t8 there, 4: t9 view, 5: t10 i -/
def f13_l1 (callf : CallF) (N : Nat) (v : List T) (s : St) : Option (JO × St) :=
  bd (aLenSl (v.getD 0 .any)) fun t28 =>
  bd (aBin .lss (v.getD 5 .any) t28) fun t29 =>
  br t29 (jn (bd (aIndexSl 8 (v.getD 0 .any) (v.getD 5 .any)) fun t34 =>
  bd (aFieldAddr 1 t34) fun t35 =>
  bd (aLoad1 t35 s.get) fun t36 =>
  bd (aIndexSl 8 (v.getD 0 .any) (v.getD 5 .any)) fun t39 =>
  bd (aFieldAddr 0 t39) fun t40 =>
  bd (aLoad1 t40 s.get) fun t41 =>
  bd (aBin .eql t41 (I .i64 1)) fun t42 =>
  bd (gT (gd t42 true) (some (v.getD 0 .any))) fun t44 =>
  bd (gT (gd t42 true) (some (v.getD 5 .any))) fun t45 =>
  bd (gT (gd t42 true) (aIndexSl 8 t44 t45)) fun t46 =>
  bd (gT (gd t42 true) (aFieldAddr 2 t46)) fun t47 =>
  bd (gT (gd t42 true) (aLoad1 t47 s.get)) fun t48 =>
  bd (gT (gd t42 true) (some (v.getD 1 .any))) fun t49 =>
  bd (gT (gd t42 true) (aBin .eql t48 t49)) fun t50 =>
  bd (aPick t42 t50 (B false)) fun t51 =>
  jn (br t51 (some (.normal [(v.getD 0 .any), (v.getD 1 .any), (B true), (B true), t36, (v.getD 5 .any)], s))
  (some (.normal [(v.getD 0 .any), (v.getD 1 .any), (v.getD 2 .any), (v.getD 3 .any), t36, (v.getD 5 .any)], s)))
  (fun v2 s3 => bd (aIndexSl 8 (v2.getD 0 .any) (v2.getD 5 .any)) fun t54 =>
  bd (aFieldAddr 0 t54) fun t55 =>
  bd (aLoad1 t55 s3.get) fun t56 =>
  bd (aBin .eql t56 (I .i64 2)) fun t57 =>
  bd (gT (gd t57 true) (some (v2.getD 0 .any))) fun t59 =>
  bd (gT (gd t57 true) (some (v2.getD 5 .any))) fun t60 =>
  bd (gT (gd t57 true) (aIndexSl 8 t59 t60)) fun t61 =>
  bd (gT (gd t57 true) (aFieldAddr 2 t61)) fun t62 =>
  bd (gT (gd t57 true) (aLoad1 t62 s3.get)) fun t63 =>
  bd (gT (gd t57 true) (some (v2.getD 1 .any))) fun t64 =>
  bd (gT (gd t57 true) (aBin .eql t63 t64)) fun t65 =>
  bd (aPick t57 t65 (B false)) fun t66 =>
  jn (br t66 (some (.normal [(v2.getD 0 .any), (v2.getD 1 .any), (v2.getD 2 .any), (B false), (v2.getD 4 .any), (v2.getD 5 .any)], s3))
  (some (.normal [(v2.getD 0 .any), (v2.getD 1 .any), (v2.getD 2 .any), (v2.getD 3 .any), (v2.getD 4 .any), (v2.getD 5 .any)], s3)))
  (fun v6 s7 => some (.normal [(v6.getD 0 .any), (v6.getD 1 .any), (v6.getD 2 .any), (v6.getD 3 .any), (v6.getD 4 .any), (v6.getD 5 .any)], s7))
  (fun i8 v6 s7 => if i8 = 1 then some (.normal v6, s7) else some (.exit i8 v6, s7))
  (fun r9 s7 => some (.ret r9, s7)))
  (fun i4 v2 s3 => if i4 = 1 then some (.normal v2, s3) else some (.exit i4 v2, s3))
  (fun r5 s3 => some (.ret r5, s3)))
  (fun v10 s11 => bd (aBin .add (v10.getD 5 .any) (I .i64 1)) fun t31 =>
  some (.normal [(v10.getD 0 .any), (v10.getD 1 .any), (v10.getD 2 .any), (v10.getD 3 .any), (v10.getD 4 .any), t31], s11))
  (fun i12 v10 s11 => some (.exit i12 v10, s11))
  (fun r13 s11 => some (.ret r13, s11)))
  (some (.exit 0 [(v.getD 0 .any), (v.getD 1 .any), (v.getD 2 .any), (v.getD 3 .any), (v.getD 4 .any)], s))

/- twinkeep/twinkeeplaw9.EntryTwice -/
def f13 (callf : CallF) (N : Nat) (a0 : T) (a1 : T) (s : St) : Option (T × St) :=
  bd2 (callf 27 [a0] s) fun t20 s1 =>
  bd (aConv .u64 a1) fun t22 =>
  bd (aBin .rem t22 (I .u64 40)) fun t23 =>
  bd (aConv .i64 t23) fun t24 =>
  bd (aBin .add (I .i64 1) t24) fun t25 =>
  jn (jn (loops (f13_l1 callf N) N [t20, t25, (B false), (B false), (I .i64 0), (I .i64 0)] s1)
  (fun v14 s15 => some (.normal [.any, .any, .any, .any, .any], s15))
  (fun i16 v14 s15 => if i16 = 0 then some (.normal v14, s15) else some (.exit i16 v14, s15))
  (fun r17 s15 => some (.ret r17, s15)))
  (fun v18 s19 => bd2 (aNew s19 (nSlice 0 (aFill [] []))) fun t68 s22 =>
  bd2 (aAppend 8 72 t68 (v18.getD 0 .any) s22) fun t70 s23 =>
  bd (asAggT (aFill [.int .i64 0, .int .i64 0, .int .i64 0, .int .i64 0, .int .i64 0, .int .i64 0, .int .u32 0, .str []] [(0, 1, (I .i64 1)), (1, 1, (v18.getD 4 .any)), (2, 1, (v18.getD 1 .any)), (5, 1, (I .i64 1))])) fun t73 =>
  bd2 (aNew s23 (nSlice 1 (aFill [.int .i64 0, .int .i64 0, .int .i64 0, .int .i64 0, .int .i64 0, .int .i64 0, .int .u32 0, .str []] [(0, 8, t73)]))) fun t74 s24 =>
  bd2 (aAppend 8 72 t70 t74 s24) fun t75 s25 =>
  bd2 (callf 28 [t75] s25) fun t76 s26 =>
  bd (aExtract t76 0) fun t77 =>
  bd (aExtract t76 1) fun t78 =>
  bd (aExtract t76 2) fun t79 =>
  bd (aExtract t76 3) fun t80 =>
  bd2 (aNew s26 (nCells [.int .i64 0, .int .i64 0, .int .i64 0, .int .i64 0, .int .i64 0, .int .i64 0])) fun t12 s27 =>
  bd2 (aStore 6 t12 t78 s27) fun _ s28 =>
  bd2 (aNew s28 (nSlice 0 (aFill [] []))) fun t82 s29 =>
  bd2 (aAppend 8 72 t82 (v18.getD 0 .any) s29) fun t84 s30 =>
  bd (asAggT (aFill [.int .i64 0, .int .i64 0, .int .i64 0, .int .i64 0, .int .i64 0, .int .i64 0, .int .u32 0, .str []] [(0, 1, (I .i64 2)), (1, 1, (v18.getD 4 .any)), (2, 1, (v18.getD 1 .any))])) fun t87 =>
  bd2 (aNew s30 (nSlice 1 (aFill [.int .i64 0, .int .i64 0, .int .i64 0, .int .i64 0, .int .i64 0, .int .i64 0, .int .u32 0, .str []] [(0, 8, t87)]))) fun t88 s31 =>
  bd2 (aAppend 8 72 t84 t88 s31) fun t89 s32 =>
  bd2 (callf 28 [t89] s32) fun t90 s33 =>
  bd (aExtract t90 0) fun t91 =>
  bd (aExtract t90 1) fun t92 =>
  bd (aExtract t90 2) fun t93 =>
  bd (aExtract t90 3) fun t94 =>
  bd2 (aNew s33 (nCells [.int .i64 0, .int .i64 0, .int .i64 0, .int .i64 0, .int .i64 0, .int .i64 0])) fun t16 s34 =>
  bd2 (aStore 6 t16 t92 s34) fun _ s35 =>
  bd2 (callf 29 [] s35) fun t95 s36 =>
  bd (gT (gd t95 true) (some t80)) fun t97 =>
  bd (gT (gd t95 true) (aBin .eql t97 (I .i64 0))) fun t98 =>
  bd (gT (gd t95 true) (some (v18.getD 2 .any))) fun t99 =>
  bd (gT (gd t95 true) (aUn .not t99)) fun t100 =>
  bd (gT (gd t95 true) (eqB .b t98 t100)) fun t101 =>
  bd (aPick t95 t101 (B false)) fun t102 =>
  bd (gT (gd t102 true) (some t80)) fun t104 =>
  bd (gT (gd t102 true) (aBin .eql t104 (I .i64 0))) fun t105 =>
  bd (gT (gd t102 true) (some t105)) fun t106 =>
  bd (gT (gd t106 false) (some t80)) fun t107 =>
  bd (gT (gd t106 false) (aBin .eql t107 (I .i64 7))) fun t108 =>
  bd (gT (gd t102 true) (aPick t106 (B true) t108)) fun t109 =>
  bd (aPick t102 t109 (B false)) fun t110 =>
  bd (gT (gd t110 true) (some t94)) fun t112 =>
  bd (gT (gd t110 true) (aBin .eql t112 (I .i64 0))) fun t113 =>
  bd (gT (gd t110 true) (some (v18.getD 3 .any))) fun t114 =>
  bd (gT (gd t110 true) (eqB .b t113 t114)) fun t115 =>
  bd (aPick t110 t115 (B false)) fun t116 =>
  bd (gT (gd t116 true) (some t94)) fun t118 =>
  bd (gT (gd t116 true) (aBin .eql t118 (I .i64 0))) fun t119 =>
  bd (gT (gd t116 true) (some t119)) fun t120 =>
  bd (gT (gd t120 false) (some t94)) fun t121 =>
  bd (gT (gd t120 false) (aBin .eql t121 (I .i64 9))) fun t122 =>
  bd (gT (gd t116 true) (aPick t120 (B true) t122)) fun t123 =>
  bd (aPick t116 t123 (B false)) fun t124 =>
  some (t124, s36))
  (fun i20 v18 s19 => none)
  (fun r21 s19 => some (r21, s19))

theorem f13_eq (callf : CallF) (N : Nat) (a0 : T) (a1 : T) (s : St) : bodyC Tryz.prog callf N Tryz.f13 [a0, a1] s = f13 callf N a0 a1 s := by kernel_rfl

theorem f13_run (d : Nat) (a0 : T) (a1 : T) (s : St) : R (d + 1) 13 [a0, a1] s = f13 (R d) 8192 a0 a1 s := (runQ_body rfl Tryz.func13 (by kernel_rfl)).trans (f13_eq ..)

/- twinkeep/twinkeeplaw9.EntryAsks -/
def f10 (callf : CallF) (N : Nat) (a0 : T) (a1 : T) (a2 : T) (a3 : T) (s : St) : Option (T × St) :=
  bd2 (aNew s (nBox a1)) fun t5 s1 =>
  bd2 (aNew s1 (nBox a2)) fun t6 s2 =>
  bd2 (callf 18 [a0] s2) fun t26 s3 =>
  bd (aUn .not t26) fun t27 =>
  bd (gT (gd t27 false) (aLoadN 8 t5 s3.get)) fun t29 =>
  bd (gT (gd t27 false) (aLoadN 8 t6 s3.get)) fun t30 =>
  bd2 (gS (gd t27 false) s3 (aNew s3 (nSlice 2 (aFill [.int .i64 0, .int .i64 0, .int .i64 0, .int .i64 0, .int .i64 0, .int .i64 0, .int .u32 0, .str [], .int .i64 0, .int .i64 0, .int .i64 0, .int .i64 0, .int .i64 0, .int .i64 0, .int .u32 0, .str []] [(0, 8, t29), (8, 8, t30)])))) fun t31 s4 =>
  bd2 (gS (gd t27 false) s4 (callf 18 [t31] s4)) fun t32 s5 =>
  bd (gT (gd t27 false) (aUn .not t32)) fun t33 =>
  bd (aPick t27 (B true) t33) fun t34 =>
  bd (gT (gd t34 false) (some a3)) fun t36 =>
  bd (gT (gd t34 false) (aLenSl t36)) fun t37 =>
  bd (gT (gd t34 false) (aBin .gtr t37 (I .i64 400))) fun t38 =>
  bd (aPick t34 (B true) t38) fun t39 =>
  br t39 (bd2 (callf 29 [] s5) fun t40 s6 =>
  some (t40, s6))
  (bd (aLoadN 8 t5 s5.get) fun t42 =>
  bd2 (callf 31 [t42] s5) fun t43 s7 =>
  bd (aExtract t43 0) fun t44 =>
  bd (aExtract t43 1) fun t45 =>
  bd (aLoadN 8 t5 s7.get) fun t47 =>
  bd2 (callf 32 [t47] s7) fun t48 s8 =>
  bd (aExtract t48 0) fun t49 =>
  bd (aExtract t48 1) fun t50 =>
  bd2 (callf 33 [a3] s8) fun t53 s9 =>
  bd (aExtract t53 0) fun t54 =>
  bd (aExtract t53 1) fun t55 =>
  bd2 (aNew s9 (nCells [.int .i64 0, .int .i64 0, .int .i64 0, .int .i64 0, .int .i64 0, .int .i64 0, .int .u32 0, .str []])) fun t13 s10 =>
  bd2 (aStore 8 t13 t54 s10) fun _ s11 =>
  bd (aBytesStr a3 s11.get) fun t58 =>
  bd2 (callf 34 [t58] s11) fun t59 s12 =>
  bd (aExtract t59 0) fun t60 =>
  bd (aExtract t59 1) fun t61 =>
  bd2 (aNew s12 (nCells [.int .i64 0, .int .i64 0, .int .i64 0, .int .i64 0, .int .i64 0, .int .i64 0, .int .u32 0, .str []])) fun t15 s13 =>
  bd2 (aStore 8 t15 t60 s13) fun _ s14 =>
  bd2 (callf 28 [a0] s14) fun t64 s15 =>
  bd (aExtract t64 0) fun t65 =>
  bd (aExtract t64 1) fun t66 =>
  bd (aExtract t64 2) fun t67 =>
  bd (aExtract t64 3) fun t68 =>
  bd2 (aNew s15 (nCells [.int .i64 0, .int .i64 0, .int .i64 0, .int .i64 0, .int .i64 0, .int .i64 0])) fun t18 s16 =>
  bd2 (aStore 6 t18 t66 s16) fun _ s17 =>
  bd2 (callf 35 [a0] s17) fun t71 s18 =>
  bd (aExtract t71 0) fun t72 =>
  bd (aExtract t71 1) fun t73 =>
  bd (aExtract t71 2) fun t74 =>
  bd (aExtract t71 3) fun t75 =>
  bd2 (aNew s18 (nCells [.int .i64 0, .int .i64 0, .int .i64 0, .int .i64 0, .int .i64 0, .int .i64 0])) fun t22 s19 =>
  bd2 (aStore 6 t22 t73 s19) fun _ s20 =>
  bd2 (callf 29 [] s20) fun t76 s21 =>
  bd (gT (gd t76 true) (some t45)) fun t78 =>
  bd (gT (gd t76 true) (some t50)) fun t79 =>
  bd (gT (gd t76 true) (aBin .eql t78 t79)) fun t80 =>
  bd (aPick t76 t80 (B false)) fun t81 =>
  bd (gT (gd t81 true) (some t44)) fun t83 =>
  bd (gT (gd t81 true) (aBytesStr t83 s21.get)) fun t84 =>
  bd (gT (gd t81 true) (some t49)) fun t85 =>
  bd (gT (gd t81 true) (aBin .eql t84 t85)) fun t86 =>
  bd (aPick t81 t86 (B false)) fun t87 =>
  bd (gT (gd t87 true) (some t55)) fun t89 =>
  bd (gT (gd t87 true) (some t61)) fun t90 =>
  bd (gT (gd t87 true) (aBin .eql t89 t90)) fun t91 =>
  bd (aPick t87 t91 (B false)) fun t92 =>
  bd (gT (gd t92 true) (aLoadN 8 t13 s21.get)) fun t94 =>
  bd (gT (gd t92 true) (aLoadN 8 t15 s21.get)) fun t95 =>
  bd (gT (gd t92 true) (eqB (.a 8 [(0, .i), (1, .i), (2, .i), (3, .i), (4, .i), (5, .i), (6, .i), (7, .s)]) t94 t95)) fun t96 =>
  bd (aPick t92 t96 (B false)) fun t97 =>
  bd (gT (gd t97 true) (some t68)) fun t99 =>
  bd (gT (gd t97 true) (some t75)) fun t100 =>
  bd (gT (gd t97 true) (aBin .eql t99 t100)) fun t101 =>
  bd (aPick t97 t101 (B false)) fun t102 =>
  bd (gT (gd t102 true) (aLoadN 6 t18 s21.get)) fun t104 =>
  bd (gT (gd t102 true) (aLoadN 6 t22 s21.get)) fun t105 =>
  bd (gT (gd t102 true) (eqB (.a 6 [(0, .i), (1, .i), (2, .i), (3, .i), (4, .i), (5, .i)]) t104 t105)) fun t106 =>
  bd (aPick t102 t106 (B false)) fun t107 =>
  bd (gT (gd t107 true) (some t67)) fun t109 =>
  bd (gT (gd t107 true) (some t74)) fun t110 =>
  bd (gT (gd t107 true) (aBin .eql t109 t110)) fun t111 =>
  bd (aPick t107 t111 (B false)) fun t112 =>
  bd (gT (gd t112 true) (some t65)) fun t114 =>
  bd (gT (gd t112 true) (some t72)) fun t115 =>
  bd2 (gS (gd t112 true) s21 (callf 36 [t114, t115] s21)) fun t116 s22 =>
  bd (aPick t112 t116 (B false)) fun t117 =>
  bd (gT (gd t117 true) (some t65)) fun t119 =>
  bd (gT (gd t117 true) (some t72)) fun t120 =>
  bd2 (gS (gd t117 true) s22 (callf 37 [t119, t120] s22)) fun t121 s23 =>
  bd (aPick t117 t121 (B false)) fun t122 =>
  bd (gT (gd t122 true) (aLoadN 8 t5 s23.get)) fun t124 =>
  bd2 (gS (gd t122 true) s23 (callf 30 [t124] s23)) fun t125 s24 =>
  bd (gT (gd t122 true) (aLoadN 8 t5 s24.get)) fun t126 =>
  bd2 (gS (gd t122 true) s24 (callf 38 [t126] s24)) fun t127 s25 =>
  bd (gT (gd t122 true) (eqB .b t125 t127)) fun t128 =>
  bd (aPick t122 t128 (B false)) fun t129 =>
  bd (gT (gd t129 true) (aLoadN 8 t5 s25.get)) fun t131 =>
  bd (gT (gd t129 true) (aLoadN 8 t6 s25.get)) fun t132 =>
  bd2 (gS (gd t129 true) s25 (callf 39 [t131, t132] s25)) fun t133 s26 =>
  bd (gT (gd t129 true) (aLoadN 8 t5 s26.get)) fun t134 =>
  bd (gT (gd t129 true) (aLoadN 8 t6 s26.get)) fun t135 =>
  bd (gT (gd t129 true) (eqB (.a 8 [(0, .i), (1, .i), (2, .i), (3, .i), (4, .i), (5, .i), (6, .i), (7, .s)]) t134 t135)) fun t136 =>
  bd (gT (gd t129 true) (eqB .b t133 t136)) fun t137 =>
  bd (aPick t129 t137 (B false)) fun t138 =>
  bd (gT (gd t138 true) (some t65)) fun t140 =>
  bd2 (gS (gd t138 true) s26 (callf 36 [t140, (Z .nils)] s26)) fun t141 s27 =>
  bd (gT (gd t138 true) (some t65)) fun t142 =>
  bd (gT (gd t138 true) (aLenSl t142)) fun t143 =>
  bd (gT (gd t138 true) (aBin .eql t143 (I .i64 0))) fun t144 =>
  bd (gT (gd t138 true) (eqB .b t141 t144)) fun t145 =>
  bd (aPick t138 t145 (B false)) fun t146 =>
  ck ((wq (gd t122 true) (decide (aLoadN 8 t5 s23.get = aLoadN 8 t5 s24.get)) && true) && ((wq (gd t129 true) (decide (aLoadN 8 t5 s25.get = aLoadN 8 t5 s26.get)) && true) && ((wq (gd t129 true) (decide (aLoadN 8 t6 s25.get = aLoadN 8 t6 s26.get)) && true) && true))) (some (t146, s27)))

theorem f10_eq (callf : CallF) (N : Nat) (a0 : T) (a1 : T) (a2 : T) (a3 : T) (s : St) : bodyC Tryz.prog callf N Tryz.f10 [a0, a1, a2, a3] s = f10 callf N a0 a1 a2 a3 s := by kernel_rfl

theorem f10_run (d : Nat) (a0 : T) (a1 : T) (a2 : T) (a3 : T) (s : St) : R (d + 1) 10 [a0, a1, a2, a3] s = f10 (R d) 8192 a0 a1 a2 a3 s := (runQ_body rfl Tryz.func10 (by kernel_rfl)).trans (f10_eq ..)

end
end Go.Proofs.YtlhbidbdmdcdeaaGreatDoor
