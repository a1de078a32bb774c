/-
  What the functions of package mark and the three laws compute, printed by a program of our own: each text is by definition the run of the code. No conditions.
-/
import Derived.Test.YtgbgebbepcophaaAbsLoop
import Derived.Test.YtgbgebbepcophaaRows
namespace Go.Proofs.Ytgbgebbepcophaa
open Go Go.Abs Go.Abs.F
set_option linter.unusedVariables false
noncomputable section
/-- The few checks of told are run once, in an empty store. -/
abbrev prim : CallF := pureP (runQ Try.prog 0 noPrim 6) [10]
abbrev R (d : Nat) : CallF := runQ Try.prog 128 prim d
/- twinkeep/twinkeeplaw18.MarkBounds -/
def f3 (callf : CallF) (N : Nat) (a0 : T) (a1 : T) (a2 : T) (s : St) : Option (T × St) :=
  bd (aConv .u64 a0) fun t18 =>
  bd (aBin .rem t18 (I .u64 1000)) fun t19 =>
  bd (aConv .i64 t19) fun t20 =>
  bd (aConv .u64 a1) fun t22 =>
  bd (aBin .rem t22 (I .u64 2001)) fun t23 =>
  bd (aConv .i64 t23) fun t24 =>
  bd2 (callf 6 [t20, t24] s) fun t27 s1 =>
  bd (eqB .p t27 (Z .nilp)) fun t29 =>
  br t29 (some ((B false), s1))
  (bd2 (callf 7 [t27, t20, a2] s1) fun t33 s2 =>
  bd2 (callf 8 [t27, a2] s2) fun t36 s3 =>
  bd2 (callf 9 [t27] s3) fun t39 s4 =>
  bd (aExtract t39 0) fun t40 =>
  bd (aExtract t39 1) fun t41 =>
  bd (aExtract t39 2) fun t42 =>
  bd (aBin .lss a2 (I .i64 0)) fun t44 =>
  bd (gT (gd t44 false) (some a2)) fun t46 =>
  bd (gT (gd t44 false) (aBin .gtr t46 (I .i64 2000))) fun t47 =>
  bd (aPick t44 (B true) t47) fun t48 =>
  br t48 (bd2 (callf 10 [] s4) fun t50 s5 =>
  bd (gT (gd t50 true) (some t33)) fun t52 =>
  bd (gT (gd t50 true) (aBin .eql t52 (I .i64 5))) fun t53 =>
  bd (aPick t50 t53 (B false)) fun t54 =>
  bd (gT (gd t54 true) (some t36)) fun t56 =>
  bd (gT (gd t54 true) (aBin .eql t56 (I .i64 5))) fun t57 =>
  bd (aPick t54 t57 (B false)) fun t58 =>
  bd (gT (gd t58 true) (some t40)) fun t60 =>
  bd (gT (gd t58 true) (some t20)) fun t61 =>
  bd (gT (gd t58 true) (aBin .eql t60 t61)) fun t62 =>
  bd (aPick t58 t62 (B false)) fun t63 =>
  bd (gT (gd t63 true) (some t41)) fun t65 =>
  bd (gT (gd t63 true) (some t24)) fun t66 =>
  bd (gT (gd t63 true) (aBin .eql t65 t66)) fun t67 =>
  bd (aPick t63 t67 (B false)) fun t68 =>
  bd (gT (gd t68 true) (some t42)) fun t70 =>
  bd (gT (gd t68 true) (aBin .eql t70 (I .i64 0))) fun t71 =>
  bd (aPick t68 t71 (B false)) fun t72 =>
  bd (gT (gd t72 true) (some t27)) fun t74 =>
  bd2 (gS (gd t72 true) s5 (callf 11 [t74] s5)) fun t75 s6 =>
  bd (gT (gd t72 true) (aBin .eql t75 (I .i64 0))) fun t76 =>
  bd (aPick t72 t76 (B false)) fun t77 =>
  bd (gT (gd t77 true) (some t20)) fun t79 =>
  bd (gT (gd t77 true) (some a2)) fun t80 =>
  bd2 (gS (gd t77 true) s6 (callf 6 [t79, t80] s6)) fun t81 s7 =>
  bd (gT (gd t77 true) (eqB .p t81 (Z .nilp))) fun t82 =>
  bd (aPick t77 t82 (B false)) fun t83 =>
  some (t83, s7))
  (bd (aFold aMin2 t24 [a2]) fun t87 =>
  bd (aBin .lss a2 t87) fun t88 =>
  bd2 (callf 10 [] s4) fun t89 s8 =>
  bd (gT (gd t89 true) (some t33)) fun t91 =>
  bd (gT (gd t89 true) (aBin .eql t91 (I .i64 0))) fun t92 =>
  bd (aPick t89 t92 (B false)) fun t93 =>
  bd (gT (gd t93 true) (some t42)) fun t95 =>
  bd (gT (gd t93 true) (some a2)) fun t96 =>
  bd (gT (gd t93 true) (aBin .eql t95 t96)) fun t97 =>
  bd (aPick t93 t97 (B false)) fun t98 =>
  bd (gT (gd t98 true) (some t36)) fun t100 =>
  bd (gT (gd t98 true) (aBin .eql t100 (I .i64 0))) fun t101 =>
  bd (gT (gd t98 true) (some t88)) fun t102 =>
  bd (gT (gd t98 true) (aUn .not t102)) fun t103 =>
  bd (gT (gd t98 true) (eqB .b t101 t103)) fun t104 =>
  bd (aPick t98 t104 (B false)) fun t105 =>
  bd (gT (gd t105 true) (some t40)) fun t107 =>
  bd (gT (gd t105 true) (some t20)) fun t108 =>
  bd (gT (gd t105 true) (aBin .eql t107 t108)) fun t109 =>
  bd (aPick t105 t109 (B false)) fun t110 =>
  bd (gT (gd t110 true) (some t27)) fun t112 =>
  bd2 (gS (gd t110 true) s8 (callf 11 [t112] s8)) fun t113 s9 =>
  bd (gT (gd t110 true) (some t24)) fun t114 =>
  bd (gT (gd t110 true) (some a2)) fun t115 =>
  bd (gT (gd t110 true) (aFold aMax2 t114 [t115])) fun t116 =>
  bd (gT (gd t110 true) (some a2)) fun t117 =>
  bd (gT (gd t110 true) (aFold aMin2 t116 [t117])) fun t118 =>
  bd (gT (gd t110 true) (aBin .leq t113 t118)) fun t119 =>
  bd (aPick t110 t119 (B false)) fun t120 =>
  some (t120, s9)))

theorem f3_eq (callf : CallF) (N : Nat) (a0 : T) (a1 : T) (a2 : T) (s : St) : bodyC Try.prog callf N Try.f3 [a0, a1, a2] s = f3 callf N a0 a1 a2 s := by kernel_rfl

theorem f3_run (d : Nat) (a0 : T) (a1 : T) (a2 : T) (s : St) : R (d + 1) 3 [a0, a1, a2] s = f3 (R d) 128 a0 a1 a2 s := (runQ_body rfl Try.func3 (by kernel_rfl)).trans (f3_eq ..)

/- twinkeep/twinkeeplaw18.MarkRises: a loop; 0: t0 l, 1: t3 m, 2: t4 safe, 3: t5 i -/
def f4_l1 (callf : CallF) (N : Nat) (v : List T) (s : St) : Option (JO × St) :=
  bd (aLenSl (v.getD 0 .any)) fun t19 =>
  bd (aBin .lss (v.getD 3 .any) t19) fun t20 =>
  bd (gT (gd t20 true) (some (v.getD 3 .any))) fun t22 =>
  bd (gT (gd t20 true) (aBin .lss t22 (I .i64 100))) fun t23 =>
  bd (aPick t20 t23 (B false)) fun t24 =>
  br t24 (jn (bd (aIndexSl 3 (v.getD 0 .any) (v.getD 3 .any)) fun t29 =>
  bd (aFieldAddr 2 t29) fun t30 =>
  bd (aLoad1 t30 s.get) fun t31 =>
  bd (aConv .u64 t31) fun t32 =>
  bd (aBin .rem t32 (I .u64 51)) fun t33 =>
  bd (aConv .i64 t33) fun t34 =>
  bd2 (callf 9 [(v.getD 1 .any)] s) fun t37 s2 =>
  bd (aExtract t37 0) fun t38 =>
  bd (aExtract t37 1) fun t39 =>
  bd (aExtract t37 2) fun t40 =>
  bd (aIndexSl 3 (v.getD 0 .any) (v.getD 3 .any)) fun t43 =>
  bd (aFieldAddr 0 t43) fun t44 =>
  bd (aLoad1 t44 s2.get) fun t45 =>
  bd (aConv .u64 t45) fun t46 =>
  bd (aBin .rem t46 (I .u64 4)) fun t47 =>
  jn (bd (aBin .eql t47 (I .u64 0)) fun t55 =>
  jn (br t55 (some (.normal [(v.getD 0 .any), (v.getD 1 .any), (v.getD 2 .any), (v.getD 3 .any), t34, t38, t47, t55], s2))
  (bd (aBin .eql t47 (I .u64 1)) fun t56 =>
  some (.normal [(v.getD 0 .any), (v.getD 1 .any), (v.getD 2 .any), (v.getD 3 .any), t34, t38, t47, t56], s2)))
  (fun v3 s4 => jn (br (v3.getD 7 .any) (bd2 (callf 8 [(v3.getD 1 .any), (v3.getD 4 .any)] s4) fun t59 s7 =>
  some (.normal [(v3.getD 0 .any), (v3.getD 1 .any), (v3.getD 2 .any), (v3.getD 3 .any)], s7))
  (bd (aBin .eql (v3.getD 6 .any) (I .u64 2)) fun t61 =>
  jn (br t61 (bd2 (callf 7 [(v3.getD 1 .any), (v3.getD 5 .any), (v3.getD 4 .any)] s4) fun t65 s8 =>
  some (.normal [(v3.getD 0 .any), (v3.getD 1 .any), (v3.getD 2 .any), (v3.getD 3 .any)], s8))
  (bd (aBin .rem (v3.getD 4 .any) (I .i64 2)) fun t51 =>
  bd (aBin .add (v3.getD 5 .any) t51) fun t52 =>
  bd2 (callf 12 [(v3.getD 1 .any), t52] s4) fun t53 s9 =>
  some (.normal [(v3.getD 0 .any), (v3.getD 1 .any), (v3.getD 2 .any), (v3.getD 3 .any)], s9)))
  (fun v10 s11 => some (.normal [(v10.getD 0 .any), (v10.getD 1 .any), (v10.getD 2 .any), (v10.getD 3 .any)], s11))
  (fun i12 v10 s11 => some (.exit i12 v10, s11))
  (fun r13 s11 => some (.ret r13, s11))))
  (fun v14 s15 => some (.normal [(v14.getD 0 .any), (v14.getD 1 .any), (v14.getD 2 .any), (v14.getD 3 .any)], s15))
  (fun i16 v14 s15 => if i16 = 2 then some (.normal v14, s15) else some (.exit i16 v14, s15))
  (fun r17 s15 => some (.ret r17, s15)))
  (fun i5 v3 s4 => if i5 = 2 then some (.normal v3, s4) else some (.exit i5 v3, s4))
  (fun r6 s4 => some (.ret r6, s4)))
  (fun v18 s19 => bd2 (callf 9 [(v18.getD 1 .any)] s19) fun t68 s22 =>
  bd (aExtract t68 0) fun t69 =>
  bd (aExtract t68 1) fun t70 =>
  bd (aExtract t68 2) fun t71 =>
  bd2 (callf 11 [(v18.getD 1 .any)] s22) fun t73 s23 =>
  bd (aBin .lss t73 (v18.getD 2 .any)) fun t76 =>
  bd (gT (gd t76 false) (some t73)) fun t78 =>
  bd (gT (gd t76 false) (some (v18.getD 2 .any))) fun t79 =>
  bd (gT (gd t76 false) (some t70)) fun t80 =>
  bd (gT (gd t76 false) (some t71)) fun t81 =>
  bd (gT (gd t76 false) (aFold aMin2 t80 [t81])) fun t82 =>
  bd (gT (gd t76 false) (aFold aMax2 t79 [t82])) fun t83 =>
  bd (gT (gd t76 false) (aBin .neq t78 t83)) fun t84 =>
  bd (aPick t76 (B true) t84) fun t85 =>
  bd (gT (gd t85 false) (some t70)) fun t87 =>
  bd (gT (gd t85 false) (some t73)) fun t88 =>
  bd (gT (gd t85 false) (aBin .lss t87 t88)) fun t89 =>
  bd (aPick t85 (B true) t89) fun t90 =>
  br t90 (some (.ret (B false), s23))
  (some (.normal [(v18.getD 0 .any), (v18.getD 1 .any), t73, (v18.getD 3 .any)], s23)))
  (fun i20 v18 s19 => if i20 = 1 then some (.normal v18, s19) else some (.exit i20 v18, s19))
  (fun r21 s19 => some (.ret r21, s19)))
  (fun v24 s25 => bd (aBin .add (v24.getD 3 .any) (I .i64 1)) fun t26 =>
  some (.normal [(v24.getD 0 .any), (v24.getD 1 .any), (v24.getD 2 .any), t26], s25))
  (fun i26 v24 s25 => some (.exit i26 v24, s25))
  (fun r27 s25 => some (.ret r27, s25)))
  (some (.exit 0 [], s))

/- twinkeep/twinkeeplaw18.MarkRises -/
def f4 (callf : CallF) (N : Nat) (a0 : T) (s : St) : Option (T × St) :=
  bd2 (callf 6 [(I .i64 1), (I .i64 0)] s) fun t14 s1 =>
  bd (eqB .p t14 (Z .nilp)) fun t16 =>
  br t16 (some ((B false), s1))
  (jn (jn (loops (f4_l1 callf N) N [a0, t14, (I .i64 0), (I .i64 0)] s1)
  (fun v28 s29 => some (.normal [], s29))
  (fun i30 v28 s29 => if i30 = 0 then some (.normal v28, s29) else some (.exit i30 v28, s29))
  (fun r31 s29 => some (.ret r31, s29)))
  (fun v32 s33 => bd2 (callf 10 [] s33) fun t92 s36 =>
  some (t92, s36))
  (fun i34 v32 s33 => none)
  (fun r35 s33 => some (r35, s33)))

theorem f4_eq (callf : CallF) (N : Nat) (a0 : T) (s : St) : bodyC Try.prog callf N Try.f4 [a0] s = f4 callf N a0 s := by kernel_rfl

theorem f4_run (d : Nat) (a0 : T) (s : St) : R (d + 1) 4 [a0] s = f4 (R d) 128 a0 s := (runQ_body rfl Try.func4 (by kernel_rfl)).trans (f4_eq ..)

/- twinkeep/twinkeeplaw18.MarkViews -/
def f5 (callf : CallF) (N : Nat) (a0 : T) (a1 : T) (a2 : T) (s : St) : Option (T × St) :=
  bd (aConv .u64 a0) fun t16 =>
  bd (aBin .rem t16 (I .u64 101)) fun t17 =>
  bd (aConv .i64 t17) fun t18 =>
  bd (aConv .u64 a1) fun t20 =>
  bd (aBin .rem t20 (I .u64 101)) fun t21 =>
  bd (aConv .i64 t21) fun t22 =>
  bd (aConv .u64 a2) fun t24 =>
  bd (aBin .rem t24 (I .u64 1000)) fun t25 =>
  bd (aConv .i64 t25) fun t26 =>
  bd2 (callf 6 [t26, (I .i64 100)] s) fun t28 s1 =>
  bd (eqB .p t28 (Z .nilp)) fun t30 =>
  bd (gT (gd t30 false) (some t28)) fun t32 =>
  bd (gT (gd t30 false) (some t26)) fun t33 =>
  bd (gT (gd t30 false) (some t18)) fun t34 =>
  bd2 (gS (gd t30 false) s1 (callf 7 [t32, t33, t34] s1)) fun t35 s2 =>
  bd (gT (gd t30 false) (aBin .neq t35 (I .i64 0))) fun t36 =>
  bd (aPick t30 (B true) t36) fun t37 =>
  br t37 (some ((B false), s2))
  (bd2 (callf 11 [t28] s2) fun t39 s3 =>
  bd (aBin .add t26 (I .i64 1)) fun t42 =>
  bd2 (callf 12 [t28, t42] s3) fun t43 s4 =>
  bd (aBin .neq t43 (I .i64 0)) fun t44 =>
  br t44 (some ((B false), s4))
  (bd2 (callf 7 [t28, t26, (I .i64 100)] s4) fun t47 s5 =>
  bd2 (callf 11 [t28] s5) fun t49 s6 =>
  bd (aBin .add t26 (I .i64 1)) fun t52 =>
  bd2 (callf 7 [t28, t52, t22] s6) fun t54 s7 =>
  bd2 (callf 10 [] s7) fun t55 s8 =>
  bd (gT (gd t55 true) (some t39)) fun t57 =>
  bd (gT (gd t55 true) (some t18)) fun t58 =>
  bd (gT (gd t55 true) (aBin .eql t57 t58)) fun t59 =>
  bd (aPick t55 t59 (B false)) fun t60 =>
  bd (gT (gd t60 true) (some t47)) fun t62 =>
  bd (gT (gd t60 true) (aBin .neq t62 (I .i64 0))) fun t63 =>
  bd (aPick t60 t63 (B false)) fun t64 =>
  bd (gT (gd t64 true) (some t49)) fun t66 =>
  bd (gT (gd t64 true) (some t18)) fun t67 =>
  bd (gT (gd t64 true) (aBin .eql t66 t67)) fun t68 =>
  bd (aPick t64 t68 (B false)) fun t69 =>
  bd (gT (gd t69 true) (some t54)) fun t71 =>
  bd (gT (gd t69 true) (aBin .eql t71 (I .i64 0))) fun t72 =>
  bd (aPick t69 t72 (B false)) fun t73 =>
  bd (gT (gd t73 true) (some t28)) fun t75 =>
  bd2 (gS (gd t73 true) s8 (callf 11 [t75] s8)) fun t76 s9 =>
  bd (gT (gd t73 true) (some t18)) fun t77 =>
  bd (gT (gd t73 true) (some t22)) fun t78 =>
  bd (gT (gd t73 true) (aFold aMax2 t77 [t78])) fun t79 =>
  bd (gT (gd t73 true) (aBin .eql t76 t79)) fun t80 =>
  bd (aPick t73 t80 (B false)) fun t81 =>
  some (t81, s9)))

theorem f5_eq (callf : CallF) (N : Nat) (a0 : T) (a1 : T) (a2 : T) (s : St) : bodyC Try.prog callf N Try.f5 [a0, a1, a2] s = f5 callf N a0 a1 a2 s := by kernel_rfl

theorem f5_run (d : Nat) (a0 : T) (a1 : T) (a2 : T) (s : St) : R (d + 1) 5 [a0, a1, a2] s = f5 (R d) 128 a0 a1 a2 s := (runQ_body rfl Try.func5 (by kernel_rfl)).trans (f5_eq ..)

/- twinkeep/mark.New -/
def f6 (callf : CallF) (N : Nat) (a0 : T) (a1 : T) (s : St) : Option (T × St) :=
  bd (aBin .lss a0 (I .i64 0)) fun t6 =>
  bd (gT (gd t6 false) (some a0)) fun t8 =>
  bd (gT (gd t6 false) (aBin .gtr t8 (I .i64 1073741824))) fun t9 =>
  bd (aPick t6 (B true) t9) fun t10 =>
  bd (gT (gd t10 false) (some a1)) fun t12 =>
  bd2 (gS (gd t10 false) s (callf 13 [t12] s)) fun t13 s1 =>
  bd (gT (gd t10 false) (aUn .not t13)) fun t14 =>
  bd (aPick t10 (B true) t14) fun t15 =>
  br t15 (some ((Z .nilp), s1))
  (bd (asAggT (aFill [.int .i64 0, .int .i64 0, .int .i64 0, .int .i64 0] [(0, 1, a0), (1, 1, a1)])) fun t18 =>
  bd2 (aNew s1 (nBox t18)) fun t19 s2 =>
  some (t19, s2))

theorem f6_eq (callf : CallF) (N : Nat) (a0 : T) (a1 : T) (s : St) : bodyC Try.prog callf N Try.f6 [a0, a1] s = f6 callf N a0 a1 s := by kernel_rfl

theorem f6_run (d : Nat) (a0 : T) (a1 : T) (s : St) : R (d + 1) 6 [a0, a1] s = f6 (R d) 128 a0 a1 s := (runQ_body rfl Try.func6 (by kernel_rfl)).trans (f6_eq ..)

/- (twinkeep/mark.Mark).Peer -/
def f7 (callf : CallF) (N : Nat) (a0 : T) (a1 : T) (a2 : T) (s : St) : Option (T × St) :=
  jn (bd (eqB .p a0 (Z .nilp)) fun t9 =>
  br t9 (some (.ret (I .i64 10), s))
  (bd (aNil a0) fun t13 =>
  bd (aFieldAddr 0 t13) fun t14 =>
  bd (aLoad1 t14 s.get) fun t15 =>
  bd (aBin .neq a1 t15) fun t16 =>
  br t16 (some (.ret (I .i64 12), s))
  (bd2 (callf 13 [a2] s) fun t19 s1 =>
  bd (aUn .not t19) fun t20 =>
  br t20 (some (.ret (I .i64 5), s1))
  (some (.normal [a0, a2], s1)))))
  (fun v2 s3 => bd (aNil (v2.getD 0 .any)) fun t23 =>
  bd (aFieldAddr 2 t23) fun t24 =>
  bd (aLoad1 t24 s3.get) fun t25 =>
  bd (aFold aMax2 t25 [(v2.getD 1 .any)]) fun t27 =>
  bd (aNil (v2.getD 0 .any)) fun t28 =>
  bd (aFieldAddr 2 t28) fun t29 =>
  bd2 (aStore 1 t29 t27 s3) fun _ s6 =>
  bd2 (callf 14 [(v2.getD 0 .any)] s6) fun t31 s7 =>
  some (t31, s7))
  (fun i4 v2 s3 => none)
  (fun r5 s3 => some (r5, s3))

theorem f7_eq (callf : CallF) (N : Nat) (a0 : T) (a1 : T) (a2 : T) (s : St) : bodyC Try.prog callf N Try.f7 [a0, a1, a2] s = f7 callf N a0 a1 a2 s := by kernel_rfl

theorem f7_run (d : Nat) (a0 : T) (a1 : T) (a2 : T) (s : St) : R (d + 1) 7 [a0, a1, a2] s = f7 (R d) 128 a0 a1 a2 s := (runQ_body rfl Try.func7 (by kernel_rfl)).trans (f7_eq ..)

/- (twinkeep/mark.Mark).Own -/
def f8 (callf : CallF) (N : Nat) (a0 : T) (a1 : T) (s : St) : Option (T × St) :=
  jn (bd (eqB .p a0 (Z .nilp)) fun t7 =>
  br t7 (some (.ret (I .i64 10), s))
  (bd (aNil a0) fun t11 =>
  bd (aFieldAddr 3 t11) fun t12 =>
  bd (aLoad1 t12 s.get) fun t13 =>
  bd (aBin .lss a1 t13) fun t14 =>
  bd (gT (gd t14 false) (some a1)) fun t16 =>
  bd2 (gS (gd t14 false) s (callf 13 [t16] s)) fun t17 s1 =>
  bd (gT (gd t14 false) (aUn .not t17)) fun t18 =>
  bd (aPick t14 (B true) t18) fun t19 =>
  br t19 (some (.ret (I .i64 5), s1))
  (some (.normal [a0, a1], s1))))
  (fun v2 s3 => bd (aNil (v2.getD 0 .any)) fun t22 =>
  bd (aFieldAddr 1 t22) fun t23 =>
  bd2 (aStore 1 t23 (v2.getD 1 .any) s3) fun _ s6 =>
  bd2 (callf 14 [(v2.getD 0 .any)] s6) fun t25 s7 =>
  some (t25, s7))
  (fun i4 v2 s3 => none)
  (fun r5 s3 => some (r5, s3))

theorem f8_eq (callf : CallF) (N : Nat) (a0 : T) (a1 : T) (s : St) : bodyC Try.prog callf N Try.f8 [a0, a1] s = f8 callf N a0 a1 s := by kernel_rfl

theorem f8_run (d : Nat) (a0 : T) (a1 : T) (s : St) : R (d + 1) 8 [a0, a1] s = f8 (R d) 128 a0 a1 s := (runQ_body rfl Try.func8 (by kernel_rfl)).trans (f8_eq ..)

/- (twinkeep/mark.Mark).State -/
def f9 (callf : CallF) (N : Nat) (a0 : T) (s : St) : Option (T × St) :=
  bd (eqB .p a0 (Z .nilp)) fun t6 =>
  br t6 (bd (retT [(I .i64 0), (I .i64 0), (I .i64 0)]) fun r1 =>
  some (r1, s))
  (bd (aNil a0) fun t8 =>
  bd (aFieldAddr 0 t8) fun t9 =>
  bd (aLoad1 t9 s.get) fun t10 =>
  bd (aNil a0) fun t12 =>
  bd (aFieldAddr 1 t12) fun t13 =>
  bd (aLoad1 t13 s.get) fun t14 =>
  bd (aNil a0) fun t16 =>
  bd (aFieldAddr 2 t16) fun t17 =>
  bd (aLoad1 t17 s.get) fun t18 =>
  bd (retT [t10, t14, t18]) fun r2 =>
  some (r2, s))

theorem f9_eq (callf : CallF) (N : Nat) (a0 : T) (s : St) : bodyC Try.prog callf N Try.f9 [a0] s = f9 callf N a0 s := by kernel_rfl

theorem f9_run (d : Nat) (a0 : T) (s : St) : R (d + 1) 9 [a0] s = f9 (R d) 128 a0 s := (runQ_body rfl Try.func9 (by kernel_rfl)).trans (f9_eq ..)

/- (twinkeep/mark.Mark).Commit -/
def f11 (callf : CallF) (N : Nat) (a0 : T) (s : St) : Option (T × St) :=
  bd (eqB .p a0 (Z .nilp)) fun t4 =>
  br t4 (some ((I .i64 0), s))
  (bd (aNil a0) fun t6 =>
  bd (aFieldAddr 3 t6) fun t7 =>
  bd (aLoad1 t7 s.get) fun t8 =>
  some (t8, s))

theorem f11_eq (callf : CallF) (N : Nat) (a0 : T) (s : St) : bodyC Try.prog callf N Try.f11 [a0] s = f11 callf N a0 s := by kernel_rfl

theorem f11_run (d : Nat) (a0 : T) (s : St) : R (d + 1) 11 [a0] s = f11 (R d) 128 a0 s := (runQ_body rfl Try.func11 (by kernel_rfl)).trans (f11_eq ..)

/- (twinkeep/mark.Mark).View -/
def f12 (callf : CallF) (N : Nat) (a0 : T) (a1 : T) (s : St) : Option (T × St) :=
  jn (bd (eqB .p a0 (Z .nilp)) fun t7 =>
  br t7 (some (.ret (I .i64 10), s))
  (bd (aNil a0) fun t11 =>
  bd (aFieldAddr 0 t11) fun t12 =>
  bd (aLoad1 t12 s.get) fun t13 =>
  bd (aBin .leq a1 t13) fun t14 =>
  bd (gT (gd t14 false) (some a1)) fun t16 =>
  bd (gT (gd t14 false) (aBin .gtr t16 (I .i64 1073741824))) fun t17 =>
  bd (aPick t14 (B true) t17) fun t18 =>
  br t18 (some (.ret (I .i64 12), s))
  (some (.normal [a0, a1], s))))
  (fun v1 s2 => bd (aNil (v1.getD 0 .any)) fun t22 =>
  bd (aFieldAddr 0 t22) fun t23 =>
  bd2 (aStore 1 t23 (v1.getD 1 .any) s2) fun _ s5 =>
  bd (aNil (v1.getD 0 .any)) fun t24 =>
  bd (aFieldAddr 2 t24) fun t25 =>
  bd2 (aStore 1 t25 (I .i64 0) s5) fun _ s6 =>
  some ((I .i64 0), s6))
  (fun i3 v1 s2 => none)
  (fun r4 s2 => some (r4, s2))

theorem f12_eq (callf : CallF) (N : Nat) (a0 : T) (a1 : T) (s : St) : bodyC Try.prog callf N Try.f12 [a0, a1] s = f12 callf N a0 a1 s := by kernel_rfl

theorem f12_run (d : Nat) (a0 : T) (a1 : T) (s : St) : R (d + 1) 12 [a0, a1] s = f12 (R d) 128 a0 a1 s := (runQ_body rfl Try.func12 (by kernel_rfl)).trans (f12_eq ..)

/- twinkeep/mark.count -/
def f13 (callf : CallF) (N : Nat) (a0 : T) (s : St) : Option (T × St) :=
  bd (aBin .geq a0 (I .i64 0)) fun t4 =>
  bd (gT (gd t4 true) (some a0)) fun t6 =>
  bd (gT (gd t4 true) (aBin .leq t6 (I .i64 2000))) fun t7 =>
  bd (aPick t4 t7 (B false)) fun t8 =>
  some (t8, s)

theorem f13_eq (callf : CallF) (N : Nat) (a0 : T) (s : St) : bodyC Try.prog callf N Try.f13 [a0] s = f13 callf N a0 s := by kernel_rfl

theorem f13_run (d : Nat) (a0 : T) (s : St) : R (d + 1) 13 [a0] s = f13 (R d) 128 a0 s := (runQ_body rfl Try.func13 (by kernel_rfl)).trans (f13_eq ..)

/- (twinkeep/mark.Mark).note -/
def f14 (callf : CallF) (N : Nat) (a0 : T) (s : St) : Option (T × St) :=
  bd (aNil a0) fun t5 =>
  bd (aFieldAddr 3 t5) fun t6 =>
  bd (aLoad1 t6 s.get) fun t7 =>
  bd (aNil a0) fun t9 =>
  bd (aFieldAddr 1 t9) fun t10 =>
  bd (aLoad1 t10 s.get) fun t11 =>
  bd (aNil a0) fun t13 =>
  bd (aFieldAddr 2 t13) fun t14 =>
  bd (aLoad1 t14 s.get) fun t15 =>
  bd (aFold aMin2 t11 [t15]) fun t16 =>
  bd (aFold aMax2 t7 [t16]) fun t17 =>
  bd (aNil a0) fun t18 =>
  bd (aFieldAddr 3 t18) fun t19 =>
  bd2 (aStore 1 t19 t17 s) fun _ s1 =>
  some ((I .i64 0), s1)

theorem f14_eq (callf : CallF) (N : Nat) (a0 : T) (s : St) : bodyC Try.prog callf N Try.f14 [a0] s = f14 callf N a0 s := by kernel_rfl

theorem f14_run (d : Nat) (a0 : T) (s : St) : R (d + 1) 14 [a0] s = f14 (R d) 128 a0 s := (runQ_body rfl Try.func14 (by kernel_rfl)).trans (f14_eq ..)

set_option maxRecDepth 100000 in
theorem told_run (d : Nat) (s : St) : R (d + 1) 10 [] s = some (B true, s) := runQ_prim (pureP_gave rfl (by kernel_rfl))
end
end Go.Proofs.Ytgbgebbepcophaa
