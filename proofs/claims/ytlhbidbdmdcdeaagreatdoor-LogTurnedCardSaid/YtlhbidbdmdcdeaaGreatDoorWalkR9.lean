/-
  What functions that the laws reach compute, printed by a program of our own: each text is by definition the run of the code. No conditions.
-/
import Derived.Test.YtlhbidbdmdcdeaaGreatDoorWalk0
namespace Go.Proofs.YtlhbidbdmdcdeaaGreatDoor
open Go Go.Abs Go.Abs.F
set_option linter.unusedVariables false
noncomputable section
/- twinkeep/twinkeepref9.Frame -/
def f21 (callf : CallF) (N : Nat) (a0 : T) (s : St) : Option (T × St) :=
  bd2 (aNew s (nBox a0)) fun t1 s1 =>
  bd (aLoadN 8 t1 s1.get) fun t8 =>
  bd2 (callf 32 [t8] s1) fun t9 s2 =>
  bd (aExtract t9 0) fun t10 =>
  bd (aExtract t9 1) fun t11 =>
  bd (aBin .neq t11 (I .i64 0)) fun t13 =>
  br t13 (bd (retT [(Z (.str [])), t11]) fun r3 =>
  some (r3, s2))
  (bd (aLenStr t10) fun t16 =>
  bd (aConv .u64 t16) fun t17 =>
  bd2 (callf 43 [t17] s2) fun t18 s4 =>
  bd (aBin .add t18 t10) fun t22 =>
  bd2 (callf 45 [t22] s4) fun t23 s5 =>
  bd2 (callf 44 [t23] s5) fun t24 s6 =>
  bd (aBin .add t18 t24) fun t25 =>
  bd (aBin .add t25 t10) fun t27 =>
  bd (retT [t27, (I .i64 0)]) fun r7 =>
  some (r7, s6))

theorem f21_eq (callf : CallF) (N : Nat) (a0 : T) (s : St) : bodyC Tryz.prog callf N Tryz.f21 [a0] s = f21 callf N a0 s := by kernel_rfl

theorem f21_run (d : Nat) (a0 : T) (s : St) : R (d + 1) 21 [a0] s = f21 (R d) 8192 a0 s := (runQ_body rfl Tryz.func21 (by kernel_rfl)).trans (f21_eq ..)

/- twinkeep/twinkeepref9.All: a loop; 0: t0 l, 1: t4 s, 2: t5 i -/
def f19_l1 (callf : CallF) (N : Nat) (v : List T) (s : St) : Option (JO × St) :=
  bd (aLenSl (v.getD 0 .any)) fun t10 =>
  bd (aBin .lss (v.getD 2 .any) t10) fun t11 =>
  br t11 (jn (bd (aIndexSl 8 (v.getD 0 .any) (v.getD 2 .any)) fun t17 =>
  bd (aLoadN 8 t17 s.get) fun t18 =>
  bd2 (callf 21 [t18] s) fun t19 s1 =>
  bd (aExtract t19 0) fun t20 =>
  bd (aExtract t19 1) fun t21 =>
  bd (aBin .neq t21 (I .i64 0)) fun t23 =>
  br t23 (bd (retT [(Z (.str [])), t21]) fun r2 =>
  some (.ret r2, s1))
  (bd (aBin .add (v.getD 1 .any) t20) fun t27 =>
  some (.normal [(v.getD 0 .any), t27, (v.getD 2 .any)], s1)))
  (fun v3 s4 => bd (aBin .add (v3.getD 2 .any) (I .i64 1)) fun t13 =>
  some (.normal [(v3.getD 0 .any), (v3.getD 1 .any), t13], s4))
  (fun i5 v3 s4 => some (.exit i5 v3, s4))
  (fun r6 s4 => some (.ret r6, s4)))
  (some (.exit 0 [(v.getD 0 .any), (v.getD 1 .any)], s))

/- twinkeep/twinkeepref9.All -/
def f19 (callf : CallF) (N : Nat) (a0 : T) (s : St) : Option (T × St) :=
  jn (jn (loops (f19_l1 callf N) N [a0, (Z (.str [])), (I .i64 0)] s)
  (fun v7 s8 => some (.normal [.any, .any], s8))
  (fun i9 v7 s8 => if i9 = 0 then some (.normal v7, s8) else some (.exit i9 v7, s8))
  (fun r10 s8 => some (.ret r10, s8)))
  (fun v11 s12 => bd (aLenSl (v11.getD 0 .any)) fun t29 =>
  bd (aBin .gtr t29 (I .i64 2000)) fun t30 =>
  br t30 (bd (retT [(Z (.str [])), (I .i64 8)]) fun r15 =>
  some (r15, s12))
  (bd (retT [(v11.getD 1 .any), (I .i64 0)]) fun r16 =>
  some (r16, s12)))
  (fun i13 v11 s12 => none)
  (fun r14 s12 => some (r14, s12))

theorem f19_eq (callf : CallF) (N : Nat) (a0 : T) (s : St) : bodyC Tryz.prog callf N Tryz.f19 [a0] s = f19 callf N a0 s := by kernel_rfl

theorem f19_run (d : Nat) (a0 : T) (s : St) : R (d + 1) 19 [a0] s = f19 (R d) 8192 a0 s := (runQ_body rfl Tryz.func19 (by kernel_rfl)).trans (f19_eq ..)

/- twinkeep/twinkeepref9.Read: a loop; 0: t0 b, 1: t4 l, 2: t5 at -/
def f20_l1 (callf : CallF) (N : Nat) (v : List T) (s : St) : Option (JO × St) :=
  bd (aLenStr (v.getD 0 .any)) fun t15 =>
  bd (aBin .lss (v.getD 2 .any) t15) fun t16 =>
  bd (gT (gd t16 true) (some (v.getD 1 .any))) fun t18 =>
  bd (gT (gd t16 true) (aLenSl t18)) fun t19 =>
  bd (gT (gd t16 true) (aBin .lss t19 (I .i64 2000))) fun t20 =>
  bd (aPick t16 t20 (B false)) fun t21 =>
  br t21 (jn (bd2 (callf 42 [(v.getD 0 .any), (v.getD 2 .any)] s) fun t25 s1 =>
  bd (aExtract t25 0) fun t26 =>
  bd (aExtract t25 1) fun t27 =>
  bd (aExtract t25 2) fun t28 =>
  bd (aBin .neq t28 (I .i64 0)) fun t30 =>
  bd (gT (gd t30 false) (some t26)) fun t32 =>
  bd (gT (gd t30 false) (some (v.getD 0 .any))) fun t33 =>
  bd (gT (gd t30 false) (aLenStr t33)) fun t34 =>
  bd (gT (gd t30 false) (aConv .u64 t34)) fun t35 =>
  bd (gT (gd t30 false) (aBin .gtr t32 t35)) fun t36 =>
  bd (aPick t30 (B true) t36) fun t37 =>
  bd (gT (gd t37 false) (some t27)) fun t39 =>
  bd (gT (gd t37 false) (aBin .add t39 (I .i64 4))) fun t40 =>
  bd (gT (gd t37 false) (some t26)) fun t41 =>
  bd (gT (gd t37 false) (aConv .i64 t41)) fun t42 =>
  bd (gT (gd t37 false) (aBin .add t40 t42)) fun t43 =>
  bd (gT (gd t37 false) (some (v.getD 0 .any))) fun t44 =>
  bd (gT (gd t37 false) (aLenStr t44)) fun t45 =>
  bd (gT (gd t37 false) (aBin .gtr t43 t45)) fun t46 =>
  bd (aPick t37 (B true) t46) fun t47 =>
  br t47 (some (.exit 0 [(v.getD 1 .any), (v.getD 2 .any)], s1))
  (bd (aBin .add t27 (I .i64 4)) fun t51 =>
  bd (aBin .add t27 (I .i64 4)) fun t53 =>
  bd (aConv .i64 t26) fun t55 =>
  bd (aBin .add t53 t55) fun t56 =>
  bd (aPieceStr (v.getD 0 .any) (some t51) (some t56) none) fun t57 =>
  bd2 (callf 34 [t57] s1) fun t58 s2 =>
  bd (aExtract t58 0) fun t59 =>
  bd (aExtract t58 1) fun t60 =>
  bd2 (aNew s2 (nCells [.int .i64 0, .int .i64 0, .int .i64 0, .int .i64 0, .int .i64 0, .int .i64 0, .int .u32 0, .str []])) fun t9 s3 =>
  bd2 (aStore 8 t9 t59 s3) fun _ s4 =>
  bd (aBin .neq t60 (I .i64 0)) fun t62 =>
  br t62 (some (.exit 0 [(v.getD 1 .any), (v.getD 2 .any)], s4))
  (bd (aLoadN 8 t9 s4.get) fun t64 =>
  bd2 (callf 21 [t64] s4) fun t65 s5 =>
  bd (aExtract t65 0) fun t66 =>
  bd (aExtract t65 1) fun t67 =>
  bd (aBin .add t27 (I .i64 4)) fun t72 =>
  bd (aConv .i64 t26) fun t74 =>
  bd (aBin .add t72 t74) fun t75 =>
  bd (aPieceStr (v.getD 0 .any) (some (v.getD 2 .any)) (some t75) none) fun t76 =>
  bd (aBin .neq t66 t76) fun t77 =>
  br t77 (some (.exit 0 [(v.getD 1 .any), (v.getD 2 .any)], s5))
  (bd (aLoadN 8 t9 s5.get) fun t79 =>
  bd2 (aNew s5 (nSlice 1 (aFill [.int .i64 0, .int .i64 0, .int .i64 0, .int .i64 0, .int .i64 0, .int .i64 0, .int .u32 0, .str []] [(0, 8, t79)]))) fun t80 s6 =>
  bd2 (aAppend 8 72 (v.getD 1 .any) t80 s6) fun t81 s7 =>
  bd (aBin .add t27 (I .i64 4)) fun t83 =>
  bd (aConv .i64 t26) fun t85 =>
  bd (aBin .add t83 t85) fun t86 =>
  some (.normal [(v.getD 0 .any), t81, t86], s7)))))
  (fun v8 s9 => some (.normal [(v8.getD 0 .any), (v8.getD 1 .any), (v8.getD 2 .any)], s9))
  (fun i10 v8 s9 => some (.exit i10 v8, s9))
  (fun r11 s9 => some (.ret r11, s9)))
  (some (.exit 0 [(v.getD 1 .any), (v.getD 2 .any)], s))

/- twinkeep/twinkeepref9.Read -/
def f20 (callf : CallF) (N : Nat) (a0 : T) (s : St) : Option (T × St) :=
  jn (jn (loops (f20_l1 callf N) N [a0, (Z .nils), (I .i64 0)] s)
  (fun v12 s13 => some (.normal [.any, .any], s13))
  (fun i14 v12 s13 => if i14 = 0 then some (.normal v12, s13) else some (.exit i14 v12, s13))
  (fun r15 s13 => some (.ret r15, s13)))
  (fun v16 s17 => bd (retT [(v16.getD 0 .any), (v16.getD 1 .any)]) fun r20 =>
  some (r20, s17))
  (fun i18 v16 s17 => none)
  (fun r19 s17 => some (r19, s17))

theorem f20_eq (callf : CallF) (N : Nat) (a0 : T) (s : St) : bodyC Tryz.prog callf N Tryz.f20 [a0] s = f20 callf N a0 s := by kernel_rfl

theorem f20_run (d : Nat) (a0 : T) (s : St) : R (d + 1) 20 [a0] s = f20 (R d) 8192 a0 s := (runQ_body rfl Tryz.func20 (by kernel_rfl)).trans (f20_eq ..)

/- twinkeep/twinkeepref9.SameEntries -/
def f22 (callf : CallF) (N : Nat) (a0 : T) (a1 : T) (s : St) : Option (T × St) :=
  bd (aLenSl a0) fun t6 =>
  bd (aLenSl a1) fun t8 =>
  bd (aBin .eql t6 t8) fun t9 =>
  bd (gT (gd t9 true) (some a0)) fun t11 =>
  bd (gT (gd t9 true) (some a1)) fun t12 =>
  bd2 (gS (gd t9 true) s (callf 24 [t11, t12] s)) fun t13 s1 =>
  bd (aPick t9 t13 (B false)) fun t14 =>
  some (t14, s1)

theorem f22_eq (callf : CallF) (N : Nat) (a0 : T) (a1 : T) (s : St) : bodyC Tryz.prog callf N Tryz.f22 [a0, a1] s = f22 callf N a0 a1 s := by kernel_rfl

theorem f22_run (d : Nat) (a0 : T) (a1 : T) (s : St) : R (d + 1) 22 [a0, a1] s = f22 (R d) 8192 a0 a1 s := (runQ_body rfl Tryz.func22 (by kernel_rfl)).trans (f22_eq ..)

/- twinkeep/twinkeepref9.Front -/
def f24 (callf : CallF) (N : Nat) (a0 : T) (a1 : T) (s : St) : Option (T × St) :=
  bd2 (callf 26 [a0, a1] s) fun t7 s1 =>
  bd (aLenSl a0) fun t9 =>
  bd (aBin .eql t7 t9) fun t10 =>
  some (t10, s1)

theorem f24_eq (callf : CallF) (N : Nat) (a0 : T) (a1 : T) (s : St) : bodyC Tryz.prog callf N Tryz.f24 [a0, a1] s = f24 callf N a0 a1 s := by kernel_rfl

theorem f24_run (d : Nat) (a0 : T) (a1 : T) (s : St) : R (d + 1) 24 [a0, a1] s = f24 (R d) 8192 a0 a1 s := (runQ_body rfl Tryz.func24 (by kernel_rfl)).trans (f24_eq ..)

/- twinkeep/twinkeepref9.Meet: a loop; 0: t0 a, 1: t1 b, 2: t5 n -/
def f26_l1 (callf : CallF) (N : Nat) (v : List T) (s : St) : Option (JO × St) :=
  bd (aLenSl (v.getD 0 .any)) fun t8 =>
  bd (aBin .lss (v.getD 2 .any) t8) fun t9 =>
  bd (gT (gd t9 true) (some (v.getD 2 .any))) fun t11 =>
  bd (gT (gd t9 true) (some (v.getD 1 .any))) fun t12 =>
  bd (gT (gd t9 true) (aLenSl t12)) fun t13 =>
  bd (gT (gd t9 true) (aBin .lss t11 t13)) fun t14 =>
  bd (aPick t9 t14 (B false)) fun t15 =>
  bd (gT (gd t15 true) (some (v.getD 0 .any))) fun t17 =>
  bd (gT (gd t15 true) (some (v.getD 2 .any))) fun t18 =>
  bd (gT (gd t15 true) (aIndexSl 8 t17 t18)) fun t19 =>
  bd (gT (gd t15 true) (aLoadN 8 t19 s.get)) fun t20 =>
  bd (gT (gd t15 true) (some (v.getD 1 .any))) fun t21 =>
  bd (gT (gd t15 true) (some (v.getD 2 .any))) fun t22 =>
  bd (gT (gd t15 true) (aIndexSl 8 t21 t22)) fun t23 =>
  bd (gT (gd t15 true) (aLoadN 8 t23 s.get)) fun t24 =>
  bd (gT (gd t15 true) (eqB (.a 8 [(0, .i), (1, .i), (2, .i), (3, .i), (4, .i), (5, .i), (6, .i), (7, .s)]) t20 t24)) fun t25 =>
  bd (aPick t15 t25 (B false)) fun t26 =>
  br t26 (jn (bd (aBin .add (v.getD 2 .any) (I .i64 1)) fun t28 =>
  some (.normal [(v.getD 0 .any), (v.getD 1 .any), t28], s))
  (fun v1 s2 => some (.normal [(v1.getD 0 .any), (v1.getD 1 .any), (v1.getD 2 .any)], s2))
  (fun i3 v1 s2 => some (.exit i3 v1, s2))
  (fun r4 s2 => some (.ret r4, s2)))
  (some (.exit 0 [(v.getD 2 .any)], s))

/- twinkeep/twinkeepref9.Meet -/
def f26 (callf : CallF) (N : Nat) (a0 : T) (a1 : T) (s : St) : Option (T × St) :=
  jn (jn (loops (f26_l1 callf N) N [a0, a1, (I .i64 0)] s)
  (fun v5 s6 => some (.normal [.any], s6))
  (fun i7 v5 s6 => if i7 = 0 then some (.normal v5, s6) else some (.exit i7 v5, s6))
  (fun r8 s6 => some (.ret r8, s6)))
  (fun v9 s10 => some ((v9.getD 0 .any), s10))
  (fun i11 v9 s10 => none)
  (fun r12 s10 => some (r12, s10))

theorem f26_eq (callf : CallF) (N : Nat) (a0 : T) (a1 : T) (s : St) : bodyC Tryz.prog callf N Tryz.f26 [a0, a1] s = f26 callf N a0 a1 s := by kernel_rfl

theorem f26_run (d : Nat) (a0 : T) (a1 : T) (s : St) : R (d + 1) 26 [a0, a1] s = f26 (R d) 8192 a0 a1 s := (runQ_body rfl Tryz.func26 (by kernel_rfl)).trans (f26_eq ..)

/- twinkeep/twinkeepref9.PutEntry -/
def f32 (callf : CallF) (N : Nat) (a0 : T) (s : St) : Option (T × St) :=
  bd2 (aNew s (nBox a0)) fun t1 s1 =>
  bd (aLoadN 8 t1 s1.get) fun t5 =>
  bd2 (callf 38 [t5] s1) fun t6 s2 =>
  bd (aUn .not t6) fun t7 =>
  br t7 (bd (retT [(Z (.str [])), (I .i64 1)]) fun r3 =>
  some (r3, s2))
  (bd (aFieldAddr 0 t1) fun t8 =>
  bd (aLoad1 t8 s2.get) fun t9 =>
  bd (aConv .u8 t9) fun t10 =>
  bd2 (aNew s2 (nSlice 1 (aFill [.int .u8 0] [(0, 1, t10)]))) fun t11 s4 =>
  bd (aBytesStr t11 s4.get) fun t12 =>
  bd (aFieldAddr 1 t1) fun t13 =>
  bd (aLoad1 t13 s4.get) fun t14 =>
  bd (aConv .u64 t14) fun t15 =>
  bd2 (callf 43 [t15] s4) fun t16 s5 =>
  bd (aBin .add t12 t16) fun t17 =>
  ck ((decide (aLoad1 t8 (overlay 9 s5.get (ovO 3 s2.size (nSlice 1 (aFill [.int .u8 0] [(0, 1, t10)])) [])) = aLoad1 t8 s2.get) && true) && ((decide (aBytesStr t11 (overlay 9 s5.get (ovO 3 s2.size (nSlice 1 (aFill [.int .u8 0] [(0, 1, t10)])) [])) = aBytesStr t11 s4.get) && true) && true)) (bd (aFieldAddr 0 t1) fun t18 =>
  bd (aLoad1 t18 s5.get) fun t19 =>
  jn (bd (aBin .eql t19 (I .i64 1)) fun t21 =>
  jn (br t21 (bd (aFieldAddr 2 t1) fun t23 =>
  bd (aLoad1 t23 s5.get) fun t24 =>
  bd (aConv .u64 t24) fun t25 =>
  bd2 (callf 43 [t25] s5) fun t26 s6 =>
  bd (aBin .add t17 t26) fun t27 =>
  bd (aFieldAddr 3 t1) fun t28 =>
  bd (aLoad1 t28 s6.get) fun t29 =>
  bd (aConv .u64 t29) fun t30 =>
  bd2 (callf 43 [t30] s6) fun t31 s7 =>
  bd (aBin .add t27 t31) fun t32 =>
  bd (aFieldAddr 4 t1) fun t33 =>
  bd (aLoad1 t33 s7.get) fun t34 =>
  bd (aConv .u64 t34) fun t35 =>
  bd2 (callf 43 [t35] s7) fun t36 s8 =>
  bd (aBin .add t32 t36) fun t37 =>
  bd (aFieldAddr 5 t1) fun t38 =>
  bd (aLoad1 t38 s8.get) fun t39 =>
  bd (aConv .u64 t39) fun t40 =>
  bd2 (callf 43 [t40] s8) fun t41 s9 =>
  bd (aBin .add t37 t41) fun t42 =>
  bd (aFieldAddr 6 t1) fun t43 =>
  bd (aLoad1 t43 s9.get) fun t44 =>
  bd (aConv .u64 t44) fun t45 =>
  bd2 (callf 43 [t45] s9) fun t46 s10 =>
  bd (aBin .add t42 t46) fun t47 =>
  ck ((decide (aLoad1 t28 s5.get = aLoad1 t28 s6.get) && true) && ((decide (aLoad1 t33 s5.get = aLoad1 t33 s7.get) && (decide (aLoad1 t33 s6.get = aLoad1 t33 s7.get) && true)) && ((decide (aLoad1 t38 s5.get = aLoad1 t38 s8.get) && (decide (aLoad1 t38 s6.get = aLoad1 t38 s8.get) && (decide (aLoad1 t38 s7.get = aLoad1 t38 s8.get) && true))) && ((decide (aLoad1 t43 s5.get = aLoad1 t43 s9.get) && (decide (aLoad1 t43 s6.get = aLoad1 t43 s9.get) && (decide (aLoad1 t43 s7.get = aLoad1 t43 s9.get) && (decide (aLoad1 t43 s8.get = aLoad1 t43 s9.get) && true)))) && true)))) (some (.normal [t47], s10)))
  (bd (aBin .eql t19 (I .i64 2)) fun t49 =>
  jn (br t49 (bd (aFieldAddr 2 t1) fun t51 =>
  bd (aLoad1 t51 s5.get) fun t52 =>
  bd (aConv .u64 t52) fun t53 =>
  bd2 (callf 43 [t53] s5) fun t54 s11 =>
  bd (aBin .add t17 t54) fun t55 =>
  some (.normal [t55], s11))
  (bd (aBin .eql t19 (I .i64 4)) fun t57 =>
  jn (br t57 (bd (aFieldAddr 7 t1) fun t59 =>
  bd (aLoad1 t59 s5.get) fun t60 =>
  bd (aLenStr t60) fun t61 =>
  bd (aConv .u64 t61) fun t62 =>
  bd2 (callf 43 [t62] s5) fun t63 s12 =>
  bd (aBin .add t17 t63) fun t64 =>
  bd (aFieldAddr 7 t1) fun t65 =>
  bd (aLoad1 t65 s12.get) fun t66 =>
  bd (aBin .add t64 t66) fun t67 =>
  ck ((decide (aLoad1 t65 s5.get = aLoad1 t65 s12.get) && true) && true) (some (.normal [t67], s12)))
  (some (.normal [t17], s5)))
  (fun v13 s14 => some (.normal [(v13.getD 0 .any)], s14))
  (fun i15 v13 s14 => some (.exit i15 v13, s14))
  (fun r16 s14 => some (.ret r16, s14))))
  (fun v17 s18 => some (.normal [(v17.getD 0 .any)], s18))
  (fun i19 v17 s18 => some (.exit i19 v17, s18))
  (fun r20 s18 => some (.ret r20, s18))))
  (fun v21 s22 => some (.normal [(v21.getD 0 .any)], s22))
  (fun i23 v21 s22 => if i23 = 0 then some (.normal v21, s22) else some (.exit i23 v21, s22))
  (fun r24 s22 => some (.ret r24, s22)))
  (fun v25 s26 => bd (retT [(v25.getD 0 .any), (I .i64 0)]) fun r29 =>
  some (r29, s26))
  (fun i27 v25 s26 => none)
  (fun r28 s26 => some (r28, s26))))

theorem f32_eq (callf : CallF) (N : Nat) (a0 : T) (s : St) : bodyC Tryz.prog callf N Tryz.f32 [a0] s = f32 callf N a0 s := by kernel_rfl

theorem f32_run (d : Nat) (a0 : T) (s : St) : R (d + 1) 32 [a0] s = f32 (R d) 8192 a0 s := (runQ_body rfl Tryz.func32 (by kernel_rfl)).trans (f32_eq ..)

/- twinkeep/twinkeepref9.GetEntry -/
def f34 (callf : CallF) (N : Nat) (a0 : T) (s : St) : Option (T × St) :=
  bd2 (aNew s (nCells [.int .i64 0, .int .i64 0, .int .i64 0, .int .i64 0, .int .i64 0, .int .i64 0, .int .u32 0, .str []])) fun t2 s1 =>
  bd (asAggT (aFill [.str [], .int .i64 0, .bool false] [(0, 1, a0)])) fun t10 =>
  bd2 (aNew s1 (nBox t10)) fun t11 s2 =>
  bd2 (callf 56 [t11] s2) fun t13 s3 =>
  bd (aConv .i64 t13) fun t14 =>
  bd (asAggT (aFill [.int .i64 0, .int .i64 0, .int .i64 0, .int .i64 0, .int .i64 0, .int .i64 0, .int .u32 0, .str []] [(0, 1, t14)])) fun t15 =>
  bd2 (aNew s3 (nCells [.int .i64 0, .int .i64 0, .int .i64 0, .int .i64 0, .int .i64 0, .int .i64 0, .int .u32 0, .str []])) fun t5 s4 =>
  bd2 (aStore 8 t5 t15 s4) fun _ s5 =>
  bd2 (callf 58 [t11] s5) fun t17 s6 =>
  bd2 (callf 57 [t17, (I .u64 1073741824)] s6) fun t18 s7 =>
  bd (aFieldAddr 1 t5) fun t19 =>
  bd2 (aStore 1 t19 t18 s7) fun _ s8 =>
  bd (aFieldAddr 0 t5) fun t20 =>
  bd (aLoad1 t20 s8.get) fun t21 =>
  jn (bd (aBin .eql t21 (I .i64 1)) fun t23 =>
  jn (br t23 (bd2 (callf 58 [t11] s8) fun t25 s9 =>
  bd2 (callf 57 [t25, (I .u64 1073741824)] s9) fun t26 s10 =>
  bd2 (callf 58 [t11] s10) fun t28 s11 =>
  bd2 (callf 57 [t28, (I .u64 4)] s11) fun t29 s12 =>
  bd (aFieldAddr 2 t5) fun t30 =>
  bd2 (aStore 1 t30 t26 s12) fun _ s13 =>
  bd (aFieldAddr 3 t5) fun t31 =>
  bd2 (aStore 1 t31 t29 s13) fun _ s14 =>
  bd2 (callf 58 [t11] s14) fun t33 s15 =>
  bd2 (callf 57 [t33, (I .u64 1099511627776)] s15) fun t34 s16 =>
  bd2 (callf 58 [t11] s16) fun t36 s17 =>
  bd2 (callf 57 [t36, (I .u64 1099511627776)] s17) fun t37 s18 =>
  bd (aFieldAddr 4 t5) fun t38 =>
  bd2 (aStore 1 t38 t34 s18) fun _ s19 =>
  bd (aFieldAddr 5 t5) fun t39 =>
  bd2 (aStore 1 t39 t37 s19) fun _ s20 =>
  bd2 (callf 58 [t11] s20) fun t41 s21 =>
  bd (aConv .u32 t41) fun t43 =>
  bd (aFieldAddr 6 t5) fun t44 =>
  bd2 (aStore 1 t44 t43 s21) fun _ s22 =>
  some (.normal [a0, t2, t11, t5], s22))
  (bd (aBin .eql t21 (I .i64 2)) fun t46 =>
  jn (br t46 (bd2 (callf 58 [t11] s8) fun t48 s23 =>
  bd2 (callf 57 [t48, (I .u64 1073741824)] s23) fun t49 s24 =>
  bd (aFieldAddr 2 t5) fun t50 =>
  bd2 (aStore 1 t50 t49 s24) fun _ s25 =>
  some (.normal [a0, t2, t11, t5], s25))
  (bd (aBin .eql t21 (I .i64 4)) fun t52 =>
  jn (br t52 (bd2 (callf 58 [t11] s8) fun t55 s26 =>
  bd2 (callf 59 [t11, t55] s26) fun t56 s27 =>
  bd (aFieldAddr 7 t5) fun t57 =>
  bd2 (aStore 1 t57 t56 s27) fun _ s28 =>
  some (.normal [a0, t2, t11, t5], s28))
  (some (.normal [a0, t2, t11, t5], s8)))
  (fun v29 s30 => some (.normal [(v29.getD 0 .any), (v29.getD 1 .any), (v29.getD 2 .any), (v29.getD 3 .any)], s30))
  (fun i31 v29 s30 => some (.exit i31 v29, s30))
  (fun r32 s30 => some (.ret r32, s30))))
  (fun v33 s34 => some (.normal [(v33.getD 0 .any), (v33.getD 1 .any), (v33.getD 2 .any), (v33.getD 3 .any)], s34))
  (fun i35 v33 s34 => some (.exit i35 v33, s34))
  (fun r36 s34 => some (.ret r36, s34))))
  (fun v37 s38 => some (.normal [(v37.getD 0 .any), (v37.getD 1 .any), (v37.getD 2 .any), (v37.getD 3 .any)], s38))
  (fun i39 v37 s38 => if i39 = 0 then some (.normal v37, s38) else some (.exit i39 v37, s38))
  (fun r40 s38 => some (.ret r40, s38)))
  (fun v41 s42 => bd (aLoadN 8 (v41.getD 3 .any) s42.get) fun t59 =>
  bd2 (callf 32 [t59] s42) fun t60 s45 =>
  bd (aExtract t60 0) fun t61 =>
  bd (aExtract t60 1) fun t62 =>
  bd (aNil (v41.getD 2 .any)) fun t64 =>
  bd (aFieldAddr 2 t64) fun t65 =>
  bd (aLoad1 t65 s45.get) fun t66 =>
  bd (gT (gd t66 false) (some t62)) fun t68 =>
  bd (gT (gd t66 false) (aBin .neq t68 (I .i64 0))) fun t69 =>
  bd (aPick t66 (B true) t69) fun t70 =>
  bd (gT (gd t70 false) (some t61)) fun t72 =>
  bd (gT (gd t70 false) (some (v41.getD 0 .any))) fun t73 =>
  bd (gT (gd t70 false) (aBin .neq t72 t73)) fun t74 =>
  bd (aPick t70 (B true) t74) fun t75 =>
  br t75 (bd (asAggT (aFill [.int .i64 0, .int .i64 0, .int .i64 0, .int .i64 0, .int .i64 0, .int .i64 0, .int .u32 0, .str []] [])) fun t76 =>
  bd2 (aStore 8 (v41.getD 1 .any) t76 s45) fun _ s46 =>
  bd (rC (aLoadN 8 (v41.getD 1 .any) s46.get) (rT (I .i64 2) (some []))) fun l47 => bd (retT l47) fun r48 =>
  some (r48, s46))
  (bd (aLoadN 8 (v41.getD 3 .any) s45.get) fun t77 =>
  bd2 (aStore 8 (v41.getD 1 .any) t77 s45) fun _ s49 =>
  bd (rC (aLoadN 8 (v41.getD 1 .any) s49.get) (rT (I .i64 0) (some []))) fun l50 => bd (retT l50) fun r51 =>
  some (r51, s49)))
  (fun i43 v41 s42 => none)
  (fun r44 s42 => some (r44, s42))

theorem f34_eq (callf : CallF) (N : Nat) (a0 : T) (s : St) : bodyC Tryz.prog callf N Tryz.f34 [a0] s = f34 callf N a0 s := by kernel_rfl

theorem f34_run (d : Nat) (a0 : T) (s : St) : R (d + 1) 34 [a0] s = f34 (R d) 8192 a0 s := (runQ_body rfl Tryz.func34 (by kernel_rfl)).trans (f34_eq ..)

/- twinkeep/twinkeepref9.MayEntry -/
def f38 (callf : CallF) (N : Nat) (a0 : T) (s : St) : Option (T × St) :=
  bd2 (aNew s (nBox a0)) fun t1 s1 =>
  bd (aFieldAddr 1 t1) fun t7 =>
  bd (aLoad1 t7 s1.get) fun t8 =>
  bd (aBin .lss t8 (I .i64 0)) fun t9 =>
  bd (gT (gd t9 false) (aFieldAddr 1 t1)) fun t11 =>
  bd (gT (gd t9 false) (aLoad1 t11 s1.get)) fun t12 =>
  bd (gT (gd t9 false) (aBin .gtr t12 (I .i64 1073741824))) fun t13 =>
  bd (aPick t9 (B true) t13) fun t14 =>
  br t14 (some ((B false), s1))
  (bd (aFieldAddr 0 t1) fun t15 =>
  bd (aLoad1 t15 s1.get) fun t16 =>
  bd (aFieldAddr 1 t1) fun t17 =>
  bd (aLoad1 t17 s1.get) fun t18 =>
  bd (asAggT (aFill [.int .i64 0, .int .i64 0, .int .i64 0, .int .i64 0, .int .i64 0, .int .i64 0, .int .u32 0, .str []] [(0, 1, t16), (1, 1, t18)])) fun t19 =>
  bd2 (aNew s1 (nCells [.int .i64 0, .int .i64 0, .int .i64 0, .int .i64 0, .int .i64 0, .int .i64 0, .int .u32 0, .str []])) fun t3 s2 =>
  bd2 (aStore 8 t3 t19 s2) fun _ s3 =>
  bd (aFieldAddr 0 t1) fun t20 =>
  bd (aLoad1 t20 s3.get) fun t21 =>
  jn (bd (aBin .eql t21 (I .i64 1)) fun t23 =>
  jn (br t23 (bd (aFieldAddr 2 t1) fun t24 =>
  bd (aLoad1 t24 s3.get) fun t25 =>
  bd (aFieldAddr 3 t1) fun t26 =>
  bd (aLoad1 t26 s3.get) fun t27 =>
  bd (aFieldAddr 4 t1) fun t28 =>
  bd (aLoad1 t28 s3.get) fun t29 =>
  bd (aFieldAddr 5 t1) fun t30 =>
  bd (aLoad1 t30 s3.get) fun t31 =>
  bd (aFieldAddr 6 t1) fun t32 =>
  bd (aLoad1 t32 s3.get) fun t33 =>
  bd (aFieldAddr 2 t3) fun t34 =>
  bd2 (aStore 1 t34 t25 s3) fun _ s4 =>
  bd (aFieldAddr 3 t3) fun t35 =>
  bd2 (aStore 1 t35 t27 s4) fun _ s5 =>
  bd (aFieldAddr 4 t3) fun t36 =>
  bd2 (aStore 1 t36 t29 s5) fun _ s6 =>
  bd (aFieldAddr 5 t3) fun t37 =>
  bd2 (aStore 1 t37 t31 s6) fun _ s7 =>
  bd (aFieldAddr 6 t3) fun t38 =>
  bd2 (aStore 1 t38 t33 s7) fun _ s8 =>
  ck ((decide (aLoad1 t26 s4.get = aLoad1 t26 s3.get) && true) && ((decide (aLoad1 t28 s4.get = aLoad1 t28 s3.get) && (decide (aLoad1 t28 s5.get = aLoad1 t28 s3.get) && true)) && ((decide (aLoad1 t30 s4.get = aLoad1 t30 s3.get) && (decide (aLoad1 t30 s5.get = aLoad1 t30 s3.get) && (decide (aLoad1 t30 s6.get = aLoad1 t30 s3.get) && true))) && ((decide (aLoad1 t32 s4.get = aLoad1 t32 s3.get) && (decide (aLoad1 t32 s5.get = aLoad1 t32 s3.get) && (decide (aLoad1 t32 s6.get = aLoad1 t32 s3.get) && (decide (aLoad1 t32 s7.get = aLoad1 t32 s3.get) && true)))) && true)))) (bd (aFieldAddr 2 t1) fun t39 =>
  bd (aLoad1 t39 s8.get) fun t40 =>
  bd (aBin .lss t40 (I .i64 1)) fun t41 =>
  bd (gT (gd t41 false) (aFieldAddr 2 t1)) fun t43 =>
  bd (gT (gd t41 false) (aLoad1 t43 s8.get)) fun t44 =>
  bd (gT (gd t41 false) (aBin .gtr t44 (I .i64 1073741824))) fun t45 =>
  bd (aPick t41 (B true) t45) fun t46 =>
  bd (gT (gd t46 false) (aFieldAddr 3 t1)) fun t48 =>
  bd (gT (gd t46 false) (aLoad1 t48 s8.get)) fun t49 =>
  bd (gT (gd t46 false) (aBin .lss t49 (I .i64 0))) fun t50 =>
  bd (aPick t46 (B true) t50) fun t51 =>
  bd (gT (gd t51 false) (aFieldAddr 3 t1)) fun t53 =>
  bd (gT (gd t51 false) (aLoad1 t53 s8.get)) fun t54 =>
  bd (gT (gd t51 false) (aBin .gtr t54 (I .i64 3))) fun t55 =>
  bd (aPick t51 (B true) t55) fun t56 =>
  bd (gT (gd t56 false) (aFieldAddr 4 t1)) fun t58 =>
  bd (gT (gd t56 false) (aLoad1 t58 s8.get)) fun t59 =>
  bd (gT (gd t56 false) (aBin .lss t59 (I .i64 0))) fun t60 =>
  bd (aPick t56 (B true) t60) fun t61 =>
  bd (gT (gd t61 false) (aFieldAddr 4 t1)) fun t63 =>
  bd (gT (gd t61 false) (aLoad1 t63 s8.get)) fun t64 =>
  bd (gT (gd t61 false) (aFieldAddr 5 t1)) fun t65 =>
  bd (gT (gd t61 false) (aLoad1 t65 s8.get)) fun t66 =>
  bd (gT (gd t61 false) (aBin .geq t64 t66)) fun t67 =>
  bd (aPick t61 (B true) t67) fun t68 =>
  bd (gT (gd t68 false) (aFieldAddr 5 t1)) fun t70 =>
  bd (gT (gd t68 false) (aLoad1 t70 s8.get)) fun t71 =>
  bd (gT (gd t68 false) (aBin .gtr t71 (I .i64 1099511627776))) fun t72 =>
  bd (aPick t68 (B true) t72) fun t73 =>
  br t73 (some (.ret (B false), s8))
  (some (.normal [t1, t3], s8))))
  (bd (aBin .eql t21 (I .i64 2)) fun t75 =>
  jn (br t75 (bd (aFieldAddr 2 t1) fun t76 =>
  bd (aLoad1 t76 s3.get) fun t77 =>
  bd (aFieldAddr 2 t3) fun t78 =>
  bd2 (aStore 1 t78 t77 s3) fun _ s9 =>
  bd (aFieldAddr 2 t1) fun t79 =>
  bd (aLoad1 t79 s9.get) fun t80 =>
  bd (aBin .lss t80 (I .i64 1)) fun t81 =>
  bd (gT (gd t81 false) (aFieldAddr 2 t1)) fun t83 =>
  bd (gT (gd t81 false) (aLoad1 t83 s9.get)) fun t84 =>
  bd (gT (gd t81 false) (aBin .gtr t84 (I .i64 1073741824))) fun t85 =>
  bd (aPick t81 (B true) t85) fun t86 =>
  br t86 (some (.ret (B false), s9))
  (some (.normal [t1, t3], s9)))
  (bd (aBin .eql t21 (I .i64 3)) fun t88 =>
  jn (br t88 (bd (aFieldAddr 1 t1) fun t89 =>
  bd (aLoad1 t89 s3.get) fun t90 =>
  bd (aBin .lss t90 (I .i64 1)) fun t91 =>
  br t91 (some (.ret (B false), s3))
  (some (.normal [t1, t3], s3)))
  (bd (aBin .eql t21 (I .i64 4)) fun t93 =>
  br t93 (bd (aFieldAddr 7 t1) fun t94 =>
  bd (aLoad1 t94 s3.get) fun t95 =>
  bd (aFieldAddr 7 t3) fun t96 =>
  bd2 (aStore 1 t96 t95 s3) fun _ s10 =>
  bd (aFieldAddr 7 t1) fun t98 =>
  bd (aLoad1 t98 s10.get) fun t99 =>
  bd2 (callf 64 [t99] s10) fun t100 s11 =>
  bd (aExtract t100 0) fun t101 =>
  bd (aExtract t100 1) fun t102 =>
  bd (aExtract t100 2) fun t103 =>
  bd2 (aNew s11 (nCells [.int .i64 0, .int .i64 0, .int .i64 0, .int .i64 0, .int .i64 0, .int .i64 0])) fun t4 s12 =>
  bd2 (aStore 6 t4 t101 s12) fun _ s13 =>
  bd (aBin .neq t102 (I .i64 0)) fun t105 =>
  bd (gT (gd t105 false) (aFieldAddr 7 t1)) fun t107 =>
  bd (gT (gd t105 false) (aLoad1 t107 s13.get)) fun t108 =>
  bd (gT (gd t105 false) (aLenStr t108)) fun t109 =>
  bd (gT (gd t105 false) (aBin .gtr t109 (I .i64 300))) fun t110 =>
  bd (aPick t105 (B true) t110) fun t111 =>
  br t111 (some (.ret (B false), s13))
  (some (.normal [t1, t3], s13)))
  (some (.ret (B false), s3))))
  (fun v14 s15 => some (.normal [(v14.getD 0 .any), (v14.getD 1 .any)], s15))
  (fun i16 v14 s15 => some (.exit i16 v14, s15))
  (fun r17 s15 => some (.ret r17, s15))))
  (fun v18 s19 => some (.normal [(v18.getD 0 .any), (v18.getD 1 .any)], s19))
  (fun i20 v18 s19 => some (.exit i20 v18, s19))
  (fun r21 s19 => some (.ret r21, s19))))
  (fun v22 s23 => some (.normal [(v22.getD 0 .any), (v22.getD 1 .any)], s23))
  (fun i24 v22 s23 => if i24 = 0 then some (.normal v22, s23) else some (.exit i24 v22, s23))
  (fun r25 s23 => some (.ret r25, s23)))
  (fun v26 s27 => bd (aLoadN 8 (v26.getD 1 .any) s27.get) fun t112 =>
  bd (aLoadN 8 (v26.getD 0 .any) s27.get) fun t113 =>
  bd (eqB (.a 8 [(0, .i), (1, .i), (2, .i), (3, .i), (4, .i), (5, .i), (6, .i), (7, .s)]) t112 t113) fun t114 =>
  some (t114, s27))
  (fun i28 v26 s27 => none)
  (fun r29 s27 => some (r29, s27)))

theorem f38_eq (callf : CallF) (N : Nat) (a0 : T) (s : St) : bodyC Tryz.prog callf N Tryz.f38 [a0] s = f38 callf N a0 s := by kernel_rfl

theorem f38_run (d : Nat) (a0 : T) (s : St) : R (d + 1) 38 [a0] s = f38 (R d) 8192 a0 s := (runQ_body rfl Tryz.func38 (by kernel_rfl)).trans (f38_eq ..)

/- twinkeep/twinkeepref9.Fold: a loop; 0: t0 l, 1: t3 , 2: t6 out, 3: t7 ever, 4: t8 p, 5: t9 view, 6: t10 last, 7: t11 i -/
def f35_l1 (callf : CallF) (N : Nat) (v : List T) (s : St) : Option (JO × St) :=
  bd (aLenSl (v.getD 0 .any)) fun t18 =>
  bd (aBin .lss (v.getD 7 .any) t18) fun t19 =>
  br t19 (jn (bd (aIndexSl 8 (v.getD 0 .any) (v.getD 7 .any)) fun t24 =>
  bd (aLoadN 8 t24 s.get) fun t25 =>
  bd2 (aNew s (nCells [.int .i64 0, .int .i64 0, .int .i64 0, .int .i64 0, .int .i64 0, .int .i64 0, .int .u32 0, .str []])) fun t12 s5 =>
  bd2 (aStore 8 t12 t25 s5) fun _ s6 =>
  bd (aFieldAddr 2 t12) fun t27 =>
  bd (aLoad1 t27 s6.get) fun t28 =>
  bd2 (callf 61 [(v.getD 2 .any), t28] s6) fun t29 s7 =>
  jn (bd (aLoadN 8 t12 s7.get) fun t31 =>
  bd2 (callf 38 [t31] s7) fun t32 s8 =>
  bd (aUn .not t32) fun t33 =>
  jn (br t33 (some (.normal [(v.getD 0 .any), (v.getD 1 .any), (v.getD 2 .any), (v.getD 3 .any), (v.getD 4 .any), (v.getD 5 .any), (v.getD 7 .any), t12, (I .i64 1), t29], s8))
  (bd (aFieldAddr 0 t12) fun t35 =>
  bd (aLoad1 t35 s8.get) fun t36 =>
  bd (aBin .eql t36 (I .i64 1)) fun t37 =>
  bd (gT (gd t37 true) (some (v.getD 3 .any))) fun t39 =>
  bd (gT (gd t37 true) (aFieldAddr 2 t12)) fun t40 =>
  bd (gT (gd t37 true) (aLoad1 t40 s8.get)) fun t41 =>
  bd2 (gS (gd t37 true) s8 (callf 62 [t39, t41] s8)) fun t42 s9 =>
  bd (aPick t37 t42 (B false)) fun t43 =>
  jn (br t43 (some (.normal [(v.getD 0 .any), (v.getD 1 .any), (v.getD 2 .any), (v.getD 3 .any), (v.getD 4 .any), (v.getD 5 .any), (v.getD 7 .any), t12, (I .i64 7), t29], s9))
  (bd (aFieldAddr 0 t12) fun t45 =>
  bd (aLoad1 t45 s9.get) fun t46 =>
  bd (aBin .eql t46 (I .i64 2)) fun t47 =>
  bd (gT (gd t47 true) (some t29)) fun t49 =>
  bd (gT (gd t47 true) (aBin .lss t49 (I .i64 0))) fun t50 =>
  bd (aPick t47 t50 (B false)) fun t51 =>
  jn (br t51 (some (.normal [(v.getD 0 .any), (v.getD 1 .any), (v.getD 2 .any), (v.getD 3 .any), (v.getD 4 .any), (v.getD 5 .any), (v.getD 7 .any), t12, (I .i64 9), t29], s9))
  (bd (aFieldAddr 1 t12) fun t53 =>
  bd (aLoad1 t53 s9.get) fun t54 =>
  bd (aBin .lss t54 (v.getD 6 .any)) fun t56 =>
  jn (br t56 (some (.normal [(v.getD 0 .any), (v.getD 1 .any), (v.getD 2 .any), (v.getD 3 .any), (v.getD 4 .any), (v.getD 5 .any), (v.getD 7 .any), t12, (I .i64 12), t29], s9))
  (some (.normal [(v.getD 0 .any), (v.getD 1 .any), (v.getD 2 .any), (v.getD 3 .any), (v.getD 4 .any), (v.getD 5 .any), (v.getD 7 .any), t12, (I .i64 0), t29], s9)))
  (fun v10 s11 => some (.normal [(v10.getD 0 .any), (v10.getD 1 .any), (v10.getD 2 .any), (v10.getD 3 .any), (v10.getD 4 .any), (v10.getD 5 .any), (v10.getD 6 .any), (v10.getD 7 .any), (v10.getD 8 .any), (v10.getD 9 .any)], s11))
  (fun i12 v10 s11 => some (.exit i12 v10, s11))
  (fun r13 s11 => some (.ret r13, s11))))
  (fun v14 s15 => some (.normal [(v14.getD 0 .any), (v14.getD 1 .any), (v14.getD 2 .any), (v14.getD 3 .any), (v14.getD 4 .any), (v14.getD 5 .any), (v14.getD 6 .any), (v14.getD 7 .any), (v14.getD 8 .any), (v14.getD 9 .any)], s15))
  (fun i16 v14 s15 => some (.exit i16 v14, s15))
  (fun r17 s15 => some (.ret r17, s15))))
  (fun v18 s19 => some (.normal [(v18.getD 0 .any), (v18.getD 1 .any), (v18.getD 2 .any), (v18.getD 3 .any), (v18.getD 4 .any), (v18.getD 5 .any), (v18.getD 6 .any), (v18.getD 7 .any), (v18.getD 8 .any), (v18.getD 9 .any)], s19))
  (fun i20 v18 s19 => some (.exit i20 v18, s19))
  (fun r21 s19 => some (.ret r21, s19))))
  (fun v22 s23 => some (.normal [(v22.getD 0 .any), (v22.getD 1 .any), (v22.getD 2 .any), (v22.getD 3 .any), (v22.getD 4 .any), (v22.getD 5 .any), (v22.getD 6 .any), (v22.getD 7 .any), (v22.getD 8 .any), (v22.getD 9 .any)], s23))
  (fun i24 v22 s23 => if i24 = 2 then some (.normal v22, s23) else some (.exit i24 v22, s23))
  (fun r25 s23 => some (.ret r25, s23)))
  (fun v26 s27 => bd (aBin .neq (v26.getD 8 .any) (I .i64 0)) fun t58 =>
  br t58 (bd (asAggT (aFill [.int .i64 0, .int .i64 0, .int .i64 0, .int .i64 0, .int .i64 0, .int .i64 0] [])) fun t59 =>
  bd2 (aStore 6 (v26.getD 1 .any) t59 s27) fun _ s30 =>
  bd (rT (Z .nils) (rC (aLoadN 6 (v26.getD 1 .any) s30.get) (rT (I .i64 0) (rT (v26.getD 8 .any) (some []))))) fun l31 => bd (retT l31) fun r32 =>
  some (.ret r32, s30))
  (bd (aFieldAddr 1 (v26.getD 7 .any)) fun t61 =>
  bd (aLoad1 t61 s27.get) fun t62 =>
  bd (aFieldAddr 0 (v26.getD 7 .any)) fun t63 =>
  bd (aLoad1 t63 s27.get) fun t64 =>
  jn (bd (aBin .eql t64 (I .i64 1)) fun t66 =>
  jn (br t66 (bd (aFieldAddr 2 (v26.getD 7 .any)) fun t68 =>
  bd (aLoad1 t68 s27.get) fun t69 =>
  bd2 (aNew s27 (nSlice 1 (aFill [.int .i64 0] [(0, 1, t69)]))) fun t70 s33 =>
  bd2 (aAppend 1 8 (v26.getD 3 .any) t70 s33) fun t71 s34 =>
  bd (aFieldAddr 2 (v26.getD 7 .any)) fun t73 =>
  bd (aLoad1 t73 s34.get) fun t74 =>
  bd (aFieldAddr 3 (v26.getD 7 .any)) fun t75 =>
  bd (aLoad1 t75 s34.get) fun t76 =>
  bd (aFieldAddr 4 (v26.getD 7 .any)) fun t77 =>
  bd (aLoad1 t77 s34.get) fun t78 =>
  bd (aFieldAddr 5 (v26.getD 7 .any)) fun t79 =>
  bd (aLoad1 t79 s34.get) fun t80 =>
  bd (aFieldAddr 6 (v26.getD 7 .any)) fun t81 =>
  bd (aLoad1 t81 s34.get) fun t82 =>
  bd (asAggT (aFill [.int .i64 0, .int .i64 0, .int .i64 0, .int .i64 0, .int .u32 0] [(0, 1, t74), (1, 1, t76), (2, 1, t78), (3, 1, t80), (4, 1, t82)])) fun t83 =>
  bd2 (callf 63 [(v26.getD 2 .any), t83] s34) fun t84 s35 =>
  some (.normal [(v26.getD 0 .any), (v26.getD 1 .any), t84, t71, (v26.getD 4 .any), (v26.getD 5 .any), t62, (v26.getD 6 .any)], s35))
  (bd (aBin .eql t64 (I .i64 2)) fun t86 =>
  jn (br t86 (bd2 (aNew s27 (nSlice 0 (aFill [] []))) fun t87 s36 =>
  bd (aPieceSl 5 (v26.getD 2 .any) none (some (v26.getD 9 .any)) none) fun t90 =>
  bd2 (aAppend 5 40 t87 t90 s36) fun t91 s37 =>
  bd (aBin .add (v26.getD 9 .any) (I .i64 1)) fun t94 =>
  bd (aPieceSl 5 (v26.getD 2 .any) (some t94) none none) fun t95 =>
  bd2 (aAppend 5 40 t91 t95 s37) fun t96 s38 =>
  some (.normal [(v26.getD 0 .any), (v26.getD 1 .any), t96, (v26.getD 3 .any), (v26.getD 4 .any), (v26.getD 5 .any), t62, (v26.getD 6 .any)], s38))
  (bd (aBin .eql t64 (I .i64 3)) fun t98 =>
  jn (br t98 (bd (aFieldAddr 1 (v26.getD 7 .any)) fun t99 =>
  bd (aLoad1 t99 s27.get) fun t100 =>
  some (.normal [(v26.getD 0 .any), (v26.getD 1 .any), (v26.getD 2 .any), (v26.getD 3 .any), (v26.getD 4 .any), t100, t62, (v26.getD 6 .any)], s27))
  (bd (aBin .eql t64 (I .i64 4)) fun t102 =>
  jn (br t102 (bd (aFieldAddr 7 (v26.getD 7 .any)) fun t104 =>
  bd (aLoad1 t104 s27.get) fun t105 =>
  bd2 (callf 64 [t105] s27) fun t106 s39 =>
  bd (aExtract t106 0) fun t107 =>
  bd (aExtract t106 1) fun t108 =>
  bd (aExtract t106 2) fun t109 =>
  bd2 (aStore 6 (v26.getD 4 .any) t107 s39) fun _ s40 =>
  some (.normal [(v26.getD 0 .any), (v26.getD 1 .any), (v26.getD 2 .any), (v26.getD 3 .any), (v26.getD 4 .any), (v26.getD 5 .any), t62, (v26.getD 6 .any)], s40))
  (some (.normal [(v26.getD 0 .any), (v26.getD 1 .any), (v26.getD 2 .any), (v26.getD 3 .any), (v26.getD 4 .any), (v26.getD 5 .any), t62, (v26.getD 6 .any)], s27)))
  (fun v41 s42 => some (.normal [(v41.getD 0 .any), (v41.getD 1 .any), (v41.getD 2 .any), (v41.getD 3 .any), (v41.getD 4 .any), (v41.getD 5 .any), (v41.getD 6 .any), (v41.getD 7 .any)], s42))
  (fun i43 v41 s42 => some (.exit i43 v41, s42))
  (fun r44 s42 => some (.ret r44, s42))))
  (fun v45 s46 => some (.normal [(v45.getD 0 .any), (v45.getD 1 .any), (v45.getD 2 .any), (v45.getD 3 .any), (v45.getD 4 .any), (v45.getD 5 .any), (v45.getD 6 .any), (v45.getD 7 .any)], s46))
  (fun i47 v45 s46 => some (.exit i47 v45, s46))
  (fun r48 s46 => some (.ret r48, s46))))
  (fun v49 s50 => some (.normal [(v49.getD 0 .any), (v49.getD 1 .any), (v49.getD 2 .any), (v49.getD 3 .any), (v49.getD 4 .any), (v49.getD 5 .any), (v49.getD 6 .any), (v49.getD 7 .any)], s50))
  (fun i51 v49 s50 => some (.exit i51 v49, s50))
  (fun r52 s50 => some (.ret r52, s50))))
  (fun v53 s54 => some (.normal [(v53.getD 0 .any), (v53.getD 1 .any), (v53.getD 2 .any), (v53.getD 3 .any), (v53.getD 4 .any), (v53.getD 5 .any), (v53.getD 6 .any), (v53.getD 7 .any)], s54))
  (fun i55 v53 s54 => if i55 = 3 then some (.normal v53, s54) else some (.exit i55 v53, s54))
  (fun r56 s54 => some (.ret r56, s54)))
  (fun v57 s58 => some (.normal [(v57.getD 0 .any), (v57.getD 1 .any), (v57.getD 2 .any), (v57.getD 3 .any), (v57.getD 4 .any), (v57.getD 5 .any), (v57.getD 6 .any), (v57.getD 7 .any)], s58))
  (fun i59 v57 s58 => if i59 = 1 then some (.normal v57, s58) else some (.exit i59 v57, s58))
  (fun r60 s58 => some (.ret r60, s58))))
  (fun i28 v26 s27 => if i28 = 1 then some (.normal v26, s27) else some (.exit i28 v26, s27))
  (fun r29 s27 => some (.ret r29, s27)))
  (fun v61 s62 => bd (aBin .add (v61.getD 7 .any) (I .i64 1)) fun t21 =>
  some (.normal [(v61.getD 0 .any), (v61.getD 1 .any), (v61.getD 2 .any), (v61.getD 3 .any), (v61.getD 4 .any), (v61.getD 5 .any), (v61.getD 6 .any), t21], s62))
  (fun i63 v61 s62 => some (.exit i63 v61, s62))
  (fun r64 s62 => some (.ret r64, s62)))
  (some (.exit 0 [(v.getD 1 .any), (v.getD 2 .any), (v.getD 4 .any), (v.getD 5 .any)], s))

/- twinkeep/twinkeepref9.Fold -/
def f35 (callf : CallF) (N : Nat) (a0 : T) (s : St) : Option (T × St) :=
  bd2 (aNew s (nCells [.int .i64 0, .int .i64 0, .int .i64 0, .int .i64 0, .int .i64 0, .int .i64 0])) fun t3 s1 =>
  bd2 (callf 60 [] s1) fun t15 s2 =>
  bd2 (aNew s2 (nCells [.int .i64 0, .int .i64 0, .int .i64 0, .int .i64 0, .int .i64 0, .int .i64 0])) fun t8 s3 =>
  bd2 (aStore 6 t8 t15 s3) fun _ s4 =>
  jn (jn (loops (f35_l1 callf N) N [a0, t3, (Z .nils), (Z .nils), t8, (I .i64 0), (I .i64 0), (I .i64 0)] s4)
  (fun v65 s66 => some (.normal [.any, .any, .any, .any], s66))
  (fun i67 v65 s66 => if i67 = 0 then some (.normal v65, s66) else some (.exit i67 v65, s66))
  (fun r68 s66 => some (.ret r68, s66)))
  (fun v69 s70 => bd (aLoadN 6 (v69.getD 2 .any) s70.get) fun t111 =>
  bd2 (aStore 6 (v69.getD 0 .any) t111 s70) fun _ s73 =>
  bd (rT (v69.getD 1 .any) (rC (aLoadN 6 (v69.getD 0 .any) s73.get) (rT (v69.getD 3 .any) (rT (I .i64 0) (some []))))) fun l74 => bd (retT l74) fun r75 =>
  some (r75, s73))
  (fun i71 v69 s70 => none)
  (fun r72 s70 => some (r72, s70))

theorem f35_eq (callf : CallF) (N : Nat) (a0 : T) (s : St) : bodyC Tryz.prog callf N Tryz.f35 [a0] s = f35 callf N a0 s := by kernel_rfl

theorem f35_run (d : Nat) (a0 : T) (s : St) : R (d + 1) 35 [a0] s = f35 (R d) 8192 a0 s := (runQ_body rfl Tryz.func35 (by kernel_rfl)).trans (f35_eq ..)

/- twinkeep/twinkeepref9.SameInfos: a loop; 0: t0 a, 1: t1 b, 2: t5 i -/
def f37_l1 (callf : CallF) (N : Nat) (v : List T) (s : St) : Option (JO × St) :=
  bd (aLenSl (v.getD 0 .any)) fun t13 =>
  bd (aBin .lss (v.getD 2 .any) t13) fun t14 =>
  br t14 (jn (bd (aIndexSl 5 (v.getD 0 .any) (v.getD 2 .any)) fun t19 =>
  bd (aLoadN 5 t19 s.get) fun t20 =>
  bd (aIndexSl 5 (v.getD 1 .any) (v.getD 2 .any)) fun t23 =>
  bd (aLoadN 5 t23 s.get) fun t24 =>
  bd (neB (.a 5 [(0, .i), (1, .i), (2, .i), (3, .i), (4, .i)]) t20 t24) fun t25 =>
  br t25 (some (.ret (B false), s))
  (some (.normal [(v.getD 0 .any), (v.getD 1 .any), (v.getD 2 .any)], s)))
  (fun v1 s2 => bd (aBin .add (v1.getD 2 .any) (I .i64 1)) fun t16 =>
  some (.normal [(v1.getD 0 .any), (v1.getD 1 .any), t16], s2))
  (fun i3 v1 s2 => some (.exit i3 v1, s2))
  (fun r4 s2 => some (.ret r4, s2)))
  (some (.exit 0 [], s))

/- twinkeep/twinkeepref9.SameInfos -/
def f37 (callf : CallF) (N : Nat) (a0 : T) (a1 : T) (s : St) : Option (T × St) :=
  bd (aLenSl a0) fun t7 =>
  bd (aLenSl a1) fun t9 =>
  bd (aBin .neq t7 t9) fun t10 =>
  br t10 (some ((B false), s))
  (jn (jn (loops (f37_l1 callf N) N [a0, a1, (I .i64 0)] s)
  (fun v5 s6 => some (.normal [], s6))
  (fun i7 v5 s6 => if i7 = 0 then some (.normal v5, s6) else some (.exit i7 v5, s6))
  (fun r8 s6 => some (.ret r8, s6)))
  (fun v9 s10 => some ((B true), s10))
  (fun i11 v9 s10 => none)
  (fun r12 s10 => some (r12, s10)))

theorem f37_eq (callf : CallF) (N : Nat) (a0 : T) (a1 : T) (s : St) : bodyC Tryz.prog callf N Tryz.f37 [a0, a1] s = f37 callf N a0 a1 s := by kernel_rfl

theorem f37_run (d : Nat) (a0 : T) (a1 : T) (s : St) : R (d + 1) 37 [a0, a1] s = f37 (R d) 8192 a0 a1 s := (runQ_body rfl Tryz.func37 (by kernel_rfl)).trans (f37_eq ..)

/- twinkeep/twinkeepref9.find: a loop; 0: t0 l, 1: t1 id, 2: t5 i -/
def f61_l1 (callf : CallF) (N : Nat) (v : List T) (s : St) : Option (JO × St) :=
  bd (aLenSl (v.getD 0 .any)) fun t8 =>
  bd (aBin .lss (v.getD 2 .any) t8) fun t9 =>
  br t9 (jn (bd (aIndexSl 5 (v.getD 0 .any) (v.getD 2 .any)) fun t14 =>
  bd (aFieldAddr 0 t14) fun t15 =>
  bd (aLoad1 t15 s.get) fun t16 =>
  bd (aBin .eql t16 (v.getD 1 .any)) fun t18 =>
  br t18 (some (.ret (v.getD 2 .any), s))
  (some (.normal [(v.getD 0 .any), (v.getD 1 .any), (v.getD 2 .any)], s)))
  (fun v1 s2 => bd (aBin .add (v1.getD 2 .any) (I .i64 1)) fun t11 =>
  some (.normal [(v1.getD 0 .any), (v1.getD 1 .any), t11], s2))
  (fun i3 v1 s2 => some (.exit i3 v1, s2))
  (fun r4 s2 => some (.ret r4, s2)))
  (some (.exit 0 [], s))

/- twinkeep/twinkeepref9.find -/
def f61 (callf : CallF) (N : Nat) (a0 : T) (a1 : T) (s : St) : Option (T × St) :=
  jn (jn (loops (f61_l1 callf N) N [a0, a1, (I .i64 0)] s)
  (fun v5 s6 => some (.normal [], s6))
  (fun i7 v5 s6 => if i7 = 0 then some (.normal v5, s6) else some (.exit i7 v5, s6))
  (fun r8 s6 => some (.ret r8, s6)))
  (fun v9 s10 => some ((I .i64 (-1)), s10))
  (fun i11 v9 s10 => none)
  (fun r12 s10 => some (r12, s10))

theorem f61_eq (callf : CallF) (N : Nat) (a0 : T) (a1 : T) (s : St) : bodyC Tryz.prog callf N Tryz.f61 [a0, a1] s = f61 callf N a0 a1 s := by kernel_rfl

theorem f61_run (d : Nat) (a0 : T) (a1 : T) (s : St) : R (d + 1) 61 [a0, a1] s = f61 (R d) 8192 a0 a1 s := (runQ_body rfl Tryz.func61 (by kernel_rfl)).trans (f61_eq ..)

/- twinkeep/twinkeepref9.has: a loop; 0: t0 l, 1: t1 n, 2: t5 i -/
def f62_l1 (callf : CallF) (N : Nat) (v : List T) (s : St) : Option (JO × St) :=
  bd (aLenSl (v.getD 0 .any)) fun t8 =>
  bd (aBin .lss (v.getD 2 .any) t8) fun t9 =>
  br t9 (jn (bd (aIndexSl 1 (v.getD 0 .any) (v.getD 2 .any)) fun t14 =>
  bd (aLoad1 t14 s.get) fun t15 =>
  bd (aBin .eql t15 (v.getD 1 .any)) fun t17 =>
  br t17 (some (.ret (B true), s))
  (some (.normal [(v.getD 0 .any), (v.getD 1 .any), (v.getD 2 .any)], s)))
  (fun v1 s2 => bd (aBin .add (v1.getD 2 .any) (I .i64 1)) fun t11 =>
  some (.normal [(v1.getD 0 .any), (v1.getD 1 .any), t11], s2))
  (fun i3 v1 s2 => some (.exit i3 v1, s2))
  (fun r4 s2 => some (.ret r4, s2)))
  (some (.exit 0 [], s))

/- twinkeep/twinkeepref9.has -/
def f62 (callf : CallF) (N : Nat) (a0 : T) (a1 : T) (s : St) : Option (T × St) :=
  jn (jn (loops (f62_l1 callf N) N [a0, a1, (I .i64 0)] s)
  (fun v5 s6 => some (.normal [], s6))
  (fun i7 v5 s6 => if i7 = 0 then some (.normal v5, s6) else some (.exit i7 v5, s6))
  (fun r8 s6 => some (.ret r8, s6)))
  (fun v9 s10 => some ((B false), s10))
  (fun i11 v9 s10 => none)
  (fun r12 s10 => some (r12, s10))

theorem f62_eq (callf : CallF) (N : Nat) (a0 : T) (a1 : T) (s : St) : bodyC Tryz.prog callf N Tryz.f62 [a0, a1] s = f62 callf N a0 a1 s := by kernel_rfl

theorem f62_run (d : Nat) (a0 : T) (a1 : T) (s : St) : R (d + 1) 62 [a0, a1] s = f62 (R d) 8192 a0 a1 s := (runQ_body rfl Tryz.func62 (by kernel_rfl)).trans (f62_eq ..)

/- twinkeep/twinkeepref9.insert: a loop; 0: t0 l, 1: t3 x, 2: t5 k -/
def f63_l1 (callf : CallF) (N : Nat) (v : List T) (s : St) : Option (JO × St) :=
  bd (aLenSl (v.getD 0 .any)) fun t9 =>
  bd (aBin .lss (v.getD 2 .any) t9) fun t10 =>
  bd (gT (gd t10 true) (some (v.getD 0 .any))) fun t12 =>
  bd (gT (gd t10 true) (some (v.getD 2 .any))) fun t13 =>
  bd (gT (gd t10 true) (aIndexSl 5 t12 t13)) fun t14 =>
  bd (gT (gd t10 true) (aFieldAddr 0 t14)) fun t15 =>
  bd (gT (gd t10 true) (aLoad1 t15 s.get)) fun t16 =>
  bd (gT (gd t10 true) (aFieldAddr 0 (v.getD 1 .any))) fun t17 =>
  bd (gT (gd t10 true) (aLoad1 t17 s.get)) fun t18 =>
  bd (gT (gd t10 true) (aBin .lss t16 t18)) fun t19 =>
  bd (aPick t10 t19 (B false)) fun t20 =>
  br t20 (jn (bd (aBin .add (v.getD 2 .any) (I .i64 1)) fun t22 =>
  some (.normal [(v.getD 0 .any), (v.getD 1 .any), t22], s))
  (fun v2 s3 => some (.normal [(v2.getD 0 .any), (v2.getD 1 .any), (v2.getD 2 .any)], s3))
  (fun i4 v2 s3 => some (.exit i4 v2, s3))
  (fun r5 s3 => some (.ret r5, s3)))
  (some (.exit 0 [(v.getD 0 .any), (v.getD 1 .any), (v.getD 2 .any)], s))

/- twinkeep/twinkeepref9.insert -/
def f63 (callf : CallF) (N : Nat) (a0 : T) (a1 : T) (s : St) : Option (T × St) :=
  bd2 (aNew s (nBox a1)) fun t3 s1 =>
  jn (jn (loops (f63_l1 callf N) N [a0, t3, (I .i64 0)] s1)
  (fun v6 s7 => some (.normal [.any, .any, .any], s7))
  (fun i8 v6 s7 => if i8 = 0 then some (.normal v6, s7) else some (.exit i8 v6, s7))
  (fun r9 s7 => some (.ret r9, s7)))
  (fun v10 s11 => bd2 (aNew s11 (nSlice 0 (aFill [] []))) fun t23 s14 =>
  bd (aPieceSl 5 (v10.getD 0 .any) none (some (v10.getD 2 .any)) none) fun t26 =>
  bd2 (aAppend 5 40 t23 t26 s14) fun t27 s15 =>
  bd (aLoadN 5 (v10.getD 1 .any) s15.get) fun t29 =>
  bd2 (aNew s15 (nSlice 1 (aFill [.int .i64 0, .int .i64 0, .int .i64 0, .int .i64 0, .int .u32 0] [(0, 5, t29)]))) fun t30 s16 =>
  bd2 (aAppend 5 40 t27 t30 s16) fun t31 s17 =>
  bd (aPieceSl 5 (v10.getD 0 .any) (some (v10.getD 2 .any)) none none) fun t34 =>
  bd2 (aAppend 5 40 t31 t34 s17) fun t35 s18 =>
  some (t35, s18))
  (fun i12 v10 s11 => none)
  (fun r13 s11 => some (r13, s11))

theorem f63_eq (callf : CallF) (N : Nat) (a0 : T) (a1 : T) (s : St) : bodyC Tryz.prog callf N Tryz.f63 [a0, a1] s = f63 callf N a0 a1 s := by kernel_rfl

theorem f63_run (d : Nat) (a0 : T) (a1 : T) (s : St) : R (d + 1) 63 [a0, a1] s = f63 (R d) 8192 a0 a1 s := (runQ_body rfl Tryz.func63 (by kernel_rfl)).trans (f63_eq ..)

/- twinkeep/twinkeepref9.small -/
def f57 (callf : CallF) (N : Nat) (a0 : T) (a1 : T) (s : St) : Option (T × St) :=
  bd (aBin .gtr a0 a1) fun t7 =>
  br t7 (bd (aConv .i64 a1) fun t9 =>
  bd (aBin .add t9 (I .i64 1)) fun t10 =>
  some (t10, s))
  (bd (aConv .i64 a0) fun t12 =>
  some (t12, s))

theorem f57_eq (callf : CallF) (N : Nat) (a0 : T) (a1 : T) (s : St) : bodyC Tryz.prog callf N Tryz.f57 [a0, a1] s = f57 callf N a0 a1 s := by kernel_rfl

theorem f57_run (d : Nat) (a0 : T) (a1 : T) (s : St) : R (d + 1) 57 [a0, a1] s = f57 (R d) 8192 a0 a1 s := (runQ_body rfl Tryz.func57 (by kernel_rfl)).trans (f57_eq ..)

end
end Go.Proofs.YtlhbidbdmdcdeaaGreatDoor
