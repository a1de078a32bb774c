/-
  Several texts in one: what functions that the law reaches compute. No conditions but those named in each line.
-/
import Derived.Test.YtlhbidbdmdcdeaaGreatDoorFnsA
import Derived.Test.YtlhbidbdmdcdeaaGreatDoorAbsE
/-
  What functions that the laws reach compute, printed by a program of our own: each text is by definition the run of the code. No conditions.
-/
namespace Go.Proofs.YtlhbidbdmdcdeaaGreatDoor
open Go Go.Abs Go.Abs.F
set_option linter.unusedVariables false
noncomputable section
/- twinkeep/twinkeepref9.Frame -/
def f21 (callf : CallF) (N : Nat) (a0 : T) (s : St) : Option (T × St) :=
  bd2 (aNew s (nBox a0)) fun t1 s1 =>
  bd (aLoadN 8 t1 s1.get) fun t8 =>
  bd2 (callf 32 [t8] s1) fun t9 s2 =>
  bd (aExtract t9 0) fun t10 =>
  bd (aExtract t9 1) fun t11 =>
  bd (aBin .neq t11 (I .i64 0)) fun t13 =>
  br t13 (bd (retT [(Z (.str [])), t11]) fun r3 =>
  some (r3, s2))
  (bd (aLenStr t10) fun t16 =>
  bd (aConv .u64 t16) fun t17 =>
  bd2 (callf 43 [t17] s2) fun t18 s4 =>
  bd (aBin .add t18 t10) fun t22 =>
  bd2 (callf 45 [t22] s4) fun t23 s5 =>
  bd2 (callf 44 [t23] s5) fun t24 s6 =>
  bd (aBin .add t18 t24) fun t25 =>
  bd (aBin .add t25 t10) fun t27 =>
  bd (retT [t27, (I .i64 0)]) fun r7 =>
  some (r7, s6))

theorem f21_eq (callf : CallF) (N : Nat) (a0 : T) (s : St) : bodyC Tryz.prog callf N Tryz.f21 [a0] s = f21 callf N a0 s := by kernel_rfl

theorem f21_run (d : Nat) (a0 : T) (s : St) : R (d + 1) 21 [a0] s = f21 (R d) 8192 a0 s := (runQ_body rfl Tryz.func21 (by kernel_rfl)).trans (f21_eq ..)

/- twinkeep/twinkeepref9.All: a loop; 0: t0 l, 1: t4 s, 2: t5 i -/
def f19_l1 (callf : CallF) (N : Nat) (v : List T) (s : St) : Option (JO × St) :=
  bd (aLenSl (v.getD 0 .any)) fun t10 =>
  bd (aBin .lss (v.getD 2 .any) t10) fun t11 =>
  br t11 (jn (bd (aIndexSl 8 (v.getD 0 .any) (v.getD 2 .any)) fun t17 =>
  bd (aLoadN 8 t17 s.get) fun t18 =>
  bd2 (callf 21 [t18] s) fun t19 s1 =>
  bd (aExtract t19 0) fun t20 =>
  bd (aExtract t19 1) fun t21 =>
  bd (aBin .neq t21 (I .i64 0)) fun t23 =>
  br t23 (bd (retT [(Z (.str [])), t21]) fun r2 =>
  some (.ret r2, s1))
  (bd (aBin .add (v.getD 1 .any) t20) fun t27 =>
  some (.normal [(v.getD 0 .any), t27, (v.getD 2 .any)], s1)))
  (fun v3 s4 => bd (aBin .add (v3.getD 2 .any) (I .i64 1)) fun t13 =>
  some (.normal [(v3.getD 0 .any), (v3.getD 1 .any), t13], s4))
  (fun i5 v3 s4 => some (.exit i5 v3, s4))
  (fun r6 s4 => some (.ret r6, s4)))
  (some (.exit 0 [(v.getD 0 .any), (v.getD 1 .any)], s))

/- twinkeep/twinkeepref9.All -/
def f19 (callf : CallF) (N : Nat) (a0 : T) (s : St) : Option (T × St) :=
  jn (jn (loops (f19_l1 callf N) N [a0, (Z (.str [])), (I .i64 0)] s)
  (fun v7 s8 => some (.normal [.any, .any], s8))
  (fun i9 v7 s8 => if i9 = 0 then some (.normal v7, s8) else some (.exit i9 v7, s8))
  (fun r10 s8 => some (.ret r10, s8)))
  (fun v11 s12 => bd (aLenSl (v11.getD 0 .any)) fun t29 =>
  bd (aBin .gtr t29 (I .i64 2000)) fun t30 =>
  br t30 (bd (retT [(Z (.str [])), (I .i64 8)]) fun r15 =>
  some (r15, s12))
  (bd (retT [(v11.getD 1 .any), (I .i64 0)]) fun r16 =>
  some (r16, s12)))
  (fun i13 v11 s12 => none)
  (fun r14 s12 => some (r14, s12))

theorem f19_eq (callf : CallF) (N : Nat) (a0 : T) (s : St) : bodyC Tryz.prog callf N Tryz.f19 [a0] s = f19 callf N a0 s := by kernel_rfl

theorem f19_run (d : Nat) (a0 : T) (s : St) : R (d + 1) 19 [a0] s = f19 (R d) 8192 a0 s := (runQ_body rfl Tryz.func19 (by kernel_rfl)).trans (f19_eq ..)

/- twinkeep/twinkeepref9.Read: a loop; 0: t0 b, 1: t4 l, 2: t5 at -/
def f20_l1 (callf : CallF) (N : Nat) (v : List T) (s : St) : Option (JO × St) :=
  bd (aLenStr (v.getD 0 .any)) fun t15 =>
  bd (aBin .lss (v.getD 2 .any) t15) fun t16 =>
  bd (gT (gd t16 true) (some (v.getD 1 .any))) fun t18 =>
  bd (gT (gd t16 true) (aLenSl t18)) fun t19 =>
  bd (gT (gd t16 true) (aBin .lss t19 (I .i64 2000))) fun t20 =>
  bd (aPick t16 t20 (B false)) fun t21 =>
  br t21 (jn (bd2 (callf 42 [(v.getD 0 .any), (v.getD 2 .any)] s) fun t25 s1 =>
  bd (aExtract t25 0) fun t26 =>
  bd (aExtract t25 1) fun t27 =>
  bd (aExtract t25 2) fun t28 =>
  bd (aBin .neq t28 (I .i64 0)) fun t30 =>
  bd (gT (gd t30 false) (some t26)) fun t32 =>
  bd (gT (gd t30 false) (some (v.getD 0 .any))) fun t33 =>
  bd (gT (gd t30 false) (aLenStr t33)) fun t34 =>
  bd (gT (gd t30 false) (aConv .u64 t34)) fun t35 =>
  bd (gT (gd t30 false) (aBin .gtr t32 t35)) fun t36 =>
  bd (aPick t30 (B true) t36) fun t37 =>
  bd (gT (gd t37 false) (some t27)) fun t39 =>
  bd (gT (gd t37 false) (aBin .add t39 (I .i64 4))) fun t40 =>
  bd (gT (gd t37 false) (some t26)) fun t41 =>
  bd (gT (gd t37 false) (aConv .i64 t41)) fun t42 =>
  bd (gT (gd t37 false) (aBin .add t40 t42)) fun t43 =>
  bd (gT (gd t37 false) (some (v.getD 0 .any))) fun t44 =>
  bd (gT (gd t37 false) (aLenStr t44)) fun t45 =>
  bd (gT (gd t37 false) (aBin .gtr t43 t45)) fun t46 =>
  bd (aPick t37 (B true) t46) fun t47 =>
  br t47 (some (.exit 0 [(v.getD 1 .any), (v.getD 2 .any)], s1))
  (bd (aBin .add t27 (I .i64 4)) fun t51 =>
  bd (aBin .add t27 (I .i64 4)) fun t53 =>
  bd (aConv .i64 t26) fun t55 =>
  bd (aBin .add t53 t55) fun t56 =>
  bd (aPieceStr (v.getD 0 .any) (some t51) (some t56) none) fun t57 =>
  bd2 (callf 34 [t57] s1) fun t58 s2 =>
  bd (aExtract t58 0) fun t59 =>
  bd (aExtract t58 1) fun t60 =>
  bd2 (aNew s2 (nCells [.int .i64 0, .int .i64 0, .int .i64 0, .int .i64 0, .int .i64 0, .int .i64 0, .int .u32 0, .str []])) fun t9 s3 =>
  bd2 (aStore 8 t9 t59 s3) fun _ s4 =>
  bd (aBin .neq t60 (I .i64 0)) fun t62 =>
  br t62 (some (.exit 0 [(v.getD 1 .any), (v.getD 2 .any)], s4))
  (bd (aLoadN 8 t9 s4.get) fun t64 =>
  bd2 (callf 21 [t64] s4) fun t65 s5 =>
  bd (aExtract t65 0) fun t66 =>
  bd (aExtract t65 1) fun t67 =>
  bd (aBin .add t27 (I .i64 4)) fun t72 =>
  bd (aConv .i64 t26) fun t74 =>
  bd (aBin .add t72 t74) fun t75 =>
  bd (aPieceStr (v.getD 0 .any) (some (v.getD 2 .any)) (some t75) none) fun t76 =>
  bd (aBin .neq t66 t76) fun t77 =>
  br t77 (some (.exit 0 [(v.getD 1 .any), (v.getD 2 .any)], s5))
  (bd (aLoadN 8 t9 s5.get) fun t79 =>
  bd2 (aNew s5 (nSlice 1 (aFill [.int .i64 0, .int .i64 0, .int .i64 0, .int .i64 0, .int .i64 0, .int .i64 0, .int .u32 0, .str []] [(0, 8, t79)]))) fun t80 s6 =>
  bd2 (aAppend 8 72 (v.getD 1 .any) t80 s6) fun t81 s7 =>
  bd (aBin .add t27 (I .i64 4)) fun t83 =>
  bd (aConv .i64 t26) fun t85 =>
  bd (aBin .add t83 t85) fun t86 =>
  some (.normal [(v.getD 0 .any), t81, t86], s7)))))
  (fun v8 s9 => some (.normal [(v8.getD 0 .any), (v8.getD 1 .any), (v8.getD 2 .any)], s9))
  (fun i10 v8 s9 => some (.exit i10 v8, s9))
  (fun r11 s9 => some (.ret r11, s9)))
  (some (.exit 0 [(v.getD 1 .any), (v.getD 2 .any)], s))

/- twinkeep/twinkeepref9.Read -/
def f20 (callf : CallF) (N : Nat) (a0 : T) (s : St) : Option (T × St) :=
  jn (jn (loops (f20_l1 callf N) N [a0, (Z .nils), (I .i64 0)] s)
  (fun v12 s13 => some (.normal [.any, .any], s13))
  (fun i14 v12 s13 => if i14 = 0 then some (.normal v12, s13) else some (.exit i14 v12, s13))
  (fun r15 s13 => some (.ret r15, s13)))
  (fun v16 s17 => bd (retT [(v16.getD 0 .any), (v16.getD 1 .any)]) fun r20 =>
  some (r20, s17))
  (fun i18 v16 s17 => none)
  (fun r19 s17 => some (r19, s17))

theorem f20_eq (callf : CallF) (N : Nat) (a0 : T) (s : St) : bodyC Tryz.prog callf N Tryz.f20 [a0] s = f20 callf N a0 s := by kernel_rfl

theorem f20_run (d : Nat) (a0 : T) (s : St) : R (d + 1) 20 [a0] s = f20 (R d) 8192 a0 s := (runQ_body rfl Tryz.func20 (by kernel_rfl)).trans (f20_eq ..)

/- twinkeep/twinkeepref9.SameEntries -/
def f22 (callf : CallF) (N : Nat) (a0 : T) (a1 : T) (s : St) : Option (T × St) :=
  bd (aLenSl a0) fun t6 =>
  bd (aLenSl a1) fun t8 =>
  bd (aBin .eql t6 t8) fun t9 =>
  bd (gT (gd t9 true) (some a0)) fun t11 =>
  bd (gT (gd t9 true) (some a1)) fun t12 =>
  bd2 (gS (gd t9 true) s (callf 24 [t11, t12] s)) fun t13 s1 =>
  bd (aPick t9 t13 (B false)) fun t14 =>
  some (t14, s1)

theorem f22_eq (callf : CallF) (N : Nat) (a0 : T) (a1 : T) (s : St) : bodyC Tryz.prog callf N Tryz.f22 [a0, a1] s = f22 callf N a0 a1 s := by kernel_rfl

theorem f22_run (d : Nat) (a0 : T) (a1 : T) (s : St) : R (d + 1) 22 [a0, a1] s = f22 (R d) 8192 a0 a1 s := (runQ_body rfl Tryz.func22 (by kernel_rfl)).trans (f22_eq ..)

/- twinkeep/twinkeepref9.Front -/
def f24 (callf : CallF) (N : Nat) (a0 : T) (a1 : T) (s : St) : Option (T × St) :=
  bd2 (callf 26 [a0, a1] s) fun t7 s1 =>
  bd (aLenSl a0) fun t9 =>
  bd (aBin .eql t7 t9) fun t10 =>
  some (t10, s1)

theorem f24_eq (callf : CallF) (N : Nat) (a0 : T) (a1 : T) (s : St) : bodyC Tryz.prog callf N Tryz.f24 [a0, a1] s = f24 callf N a0 a1 s := by kernel_rfl

theorem f24_run (d : Nat) (a0 : T) (a1 : T) (s : St) : R (d + 1) 24 [a0, a1] s = f24 (R d) 8192 a0 a1 s := (runQ_body rfl Tryz.func24 (by kernel_rfl)).trans (f24_eq ..)

/- twinkeep/twinkeepref9.Meet: a loop; 0: t0 a, 1: t1 b, 2: t5 n -/
def f26_l1 (callf : CallF) (N : Nat) (v : List T) (s : St) : Option (JO × St) :=
  bd (aLenSl (v.getD 0 .any)) fun t8 =>
  bd (aBin .lss (v.getD 2 .any) t8) fun t9 =>
  bd (gT (gd t9 true) (some (v.getD 2 .any))) fun t11 =>
  bd (gT (gd t9 true) (some (v.getD 1 .any))) fun t12 =>
  bd (gT (gd t9 true) (aLenSl t12)) fun t13 =>
  bd (gT (gd t9 true) (aBin .lss t11 t13)) fun t14 =>
  bd (aPick t9 t14 (B false)) fun t15 =>
  bd (gT (gd t15 true) (some (v.getD 0 .any))) fun t17 =>
  bd (gT (gd t15 true) (some (v.getD 2 .any))) fun t18 =>
  bd (gT (gd t15 true) (aIndexSl 8 t17 t18)) fun t19 =>
  bd (gT (gd t15 true) (aLoadN 8 t19 s.get)) fun t20 =>
  bd (gT (gd t15 true) (some (v.getD 1 .any))) fun t21 =>
  bd (gT (gd t15 true) (some (v.getD 2 .any))) fun t22 =>
  bd (gT (gd t15 true) (aIndexSl 8 t21 t22)) fun t23 =>
  bd (gT (gd t15 true) (aLoadN 8 t23 s.get)) fun t24 =>
  bd (gT (gd t15 true) (eqB (.a 8 [(0, .i), (1, .i), (2, .i), (3, .i), (4, .i), (5, .i), (6, .i), (7, .s)]) t20 t24)) fun t25 =>
  bd (aPick t15 t25 (B false)) fun t26 =>
  br t26 (jn (bd (aBin .add (v.getD 2 .any) (I .i64 1)) fun t28 =>
  some (.normal [(v.getD 0 .any), (v.getD 1 .any), t28], s))
  (fun v1 s2 => some (.normal [(v1.getD 0 .any), (v1.getD 1 .any), (v1.getD 2 .any)], s2))
  (fun i3 v1 s2 => some (.exit i3 v1, s2))
  (fun r4 s2 => some (.ret r4, s2)))
  (some (.exit 0 [(v.getD 2 .any)], s))

/- twinkeep/twinkeepref9.Meet -/
def f26 (callf : CallF) (N : Nat) (a0 : T) (a1 : T) (s : St) : Option (T × St) :=
  jn (jn (loops (f26_l1 callf N) N [a0, a1, (I .i64 0)] s)
  (fun v5 s6 => some (.normal [.any], s6))
  (fun i7 v5 s6 => if i7 = 0 then some (.normal v5, s6) else some (.exit i7 v5, s6))
  (fun r8 s6 => some (.ret r8, s6)))
  (fun v9 s10 => some ((v9.getD 0 .any), s10))
  (fun i11 v9 s10 => none)
  (fun r12 s10 => some (r12, s10))

theorem f26_eq (callf : CallF) (N : Nat) (a0 : T) (a1 : T) (s : St) : bodyC Tryz.prog callf N Tryz.f26 [a0, a1] s = f26 callf N a0 a1 s := by kernel_rfl

theorem f26_run (d : Nat) (a0 : T) (a1 : T) (s : St) : R (d + 1) 26 [a0, a1] s = f26 (R d) 8192 a0 a1 s := (runQ_body rfl Tryz.func26 (by kernel_rfl)).trans (f26_eq ..)

/- twinkeep/twinkeepref9.PutEntry -/
def f32 (callf : CallF) (N : Nat) (a0 : T) (s : St) : Option (T × St) :=
  bd2 (aNew s (nBox a0)) fun t1 s1 =>
  bd (aLoadN 8 t1 s1.get) fun t5 =>
  bd2 (callf 38 [t5] s1) fun t6 s2 =>
  bd (aUn .not t6) fun t7 =>
  br t7 (bd (retT [(Z (.str [])), (I .i64 1)]) fun r3 =>
  some (r3, s2))
  (bd (aFieldAddr 0 t1) fun t8 =>
  bd (aLoad1 t8 s2.get) fun t9 =>
  bd (aConv .u8 t9) fun t10 =>
  bd2 (aNew s2 (nSlice 1 (aFill [.int .u8 0] [(0, 1, t10)]))) fun t11 s4 =>
  bd (aBytesStr t11 s4.get) fun t12 =>
  bd (aFieldAddr 1 t1) fun t13 =>
  bd (aLoad1 t13 s4.get) fun t14 =>
  bd (aConv .u64 t14) fun t15 =>
  bd2 (callf 43 [t15] s4) fun t16 s5 =>
  bd (aBin .add t12 t16) fun t17 =>
  ck ((decide (aLoad1 t8 (overlay 9 s5.get (ovO 3 s2.size (nSlice 1 (aFill [.int .u8 0] [(0, 1, t10)])) [])) = aLoad1 t8 s2.get) && true) && ((decide (aBytesStr t11 (overlay 9 s5.get (ovO 3 s2.size (nSlice 1 (aFill [.int .u8 0] [(0, 1, t10)])) [])) = aBytesStr t11 s4.get) && true) && true)) (bd (aFieldAddr 0 t1) fun t18 =>
  bd (aLoad1 t18 s5.get) fun t19 =>
  jn (bd (aBin .eql t19 (I .i64 1)) fun t21 =>
  jn (br t21 (bd (aFieldAddr 2 t1) fun t23 =>
  bd (aLoad1 t23 s5.get) fun t24 =>
  bd (aConv .u64 t24) fun t25 =>
  bd2 (callf 43 [t25] s5) fun t26 s6 =>
  bd (aBin .add t17 t26) fun t27 =>
  bd (aFieldAddr 3 t1) fun t28 =>
  bd (aLoad1 t28 s6.get) fun t29 =>
  bd (aConv .u64 t29) fun t30 =>
  bd2 (callf 43 [t30] s6) fun t31 s7 =>
  bd (aBin .add t27 t31) fun t32 =>
  bd (aFieldAddr 4 t1) fun t33 =>
  bd (aLoad1 t33 s7.get) fun t34 =>
  bd (aConv .u64 t34) fun t35 =>
  bd2 (callf 43 [t35] s7) fun t36 s8 =>
  bd (aBin .add t32 t36) fun t37 =>
  bd (aFieldAddr 5 t1) fun t38 =>
  bd (aLoad1 t38 s8.get) fun t39 =>
  bd (aConv .u64 t39) fun t40 =>
  bd2 (callf 43 [t40] s8) fun t41 s9 =>
  bd (aBin .add t37 t41) fun t42 =>
  bd (aFieldAddr 6 t1) fun t43 =>
  bd (aLoad1 t43 s9.get) fun t44 =>
  bd (aConv .u64 t44) fun t45 =>
  bd2 (callf 43 [t45] s9) fun t46 s10 =>
  bd (aBin .add t42 t46) fun t47 =>
  ck ((decide (aLoad1 t28 s5.get = aLoad1 t28 s6.get) && true) && ((decide (aLoad1 t33 s5.get = aLoad1 t33 s7.get) && (decide (aLoad1 t33 s6.get = aLoad1 t33 s7.get) && true)) && ((decide (aLoad1 t38 s5.get = aLoad1 t38 s8.get) && (decide (aLoad1 t38 s6.get = aLoad1 t38 s8.get) && (decide (aLoad1 t38 s7.get = aLoad1 t38 s8.get) && true))) && ((decide (aLoad1 t43 s5.get = aLoad1 t43 s9.get) && (decide (aLoad1 t43 s6.get = aLoad1 t43 s9.get) && (decide (aLoad1 t43 s7.get = aLoad1 t43 s9.get) && (decide (aLoad1 t43 s8.get = aLoad1 t43 s9.get) && true)))) && true)))) (some (.normal [t47], s10)))
  (bd (aBin .eql t19 (I .i64 2)) fun t49 =>
  jn (br t49 (bd (aFieldAddr 2 t1) fun t51 =>
  bd (aLoad1 t51 s5.get) fun t52 =>
  bd (aConv .u64 t52) fun t53 =>
  bd2 (callf 43 [t53] s5) fun t54 s11 =>
  bd (aBin .add t17 t54) fun t55 =>
  some (.normal [t55], s11))
  (bd (aBin .eql t19 (I .i64 4)) fun t57 =>
  jn (br t57 (bd (aFieldAddr 7 t1) fun t59 =>
  bd (aLoad1 t59 s5.get) fun t60 =>
  bd (aLenStr t60) fun t61 =>
  bd (aConv .u64 t61) fun t62 =>
  bd2 (callf 43 [t62] s5) fun t63 s12 =>
  bd (aBin .add t17 t63) fun t64 =>
  bd (aFieldAddr 7 t1) fun t65 =>
  bd (aLoad1 t65 s12.get) fun t66 =>
  bd (aBin .add t64 t66) fun t67 =>
  ck ((decide (aLoad1 t65 s5.get = aLoad1 t65 s12.get) && true) && true) (some (.normal [t67], s12)))
  (some (.normal [t17], s5)))
  (fun v13 s14 => some (.normal [(v13.getD 0 .any)], s14))
  (fun i15 v13 s14 => some (.exit i15 v13, s14))
  (fun r16 s14 => some (.ret r16, s14))))
  (fun v17 s18 => some (.normal [(v17.getD 0 .any)], s18))
  (fun i19 v17 s18 => some (.exit i19 v17, s18))
  (fun r20 s18 => some (.ret r20, s18))))
  (fun v21 s22 => some (.normal [(v21.getD 0 .any)], s22))
  (fun i23 v21 s22 => if i23 = 0 then some (.normal v21, s22) else some (.exit i23 v21, s22))
  (fun r24 s22 => some (.ret r24, s22)))
  (fun v25 s26 => bd (retT [(v25.getD 0 .any), (I .i64 0)]) fun r29 =>
  some (r29, s26))
  (fun i27 v25 s26 => none)
  (fun r28 s26 => some (r28, s26))))

theorem f32_eq (callf : CallF) (N : Nat) (a0 : T) (s : St) : bodyC Tryz.prog callf N Tryz.f32 [a0] s = f32 callf N a0 s := by kernel_rfl

theorem f32_run (d : Nat) (a0 : T) (s : St) : R (d + 1) 32 [a0] s = f32 (R d) 8192 a0 s := (runQ_body rfl Tryz.func32 (by kernel_rfl)).trans (f32_eq ..)

/- twinkeep/twinkeepref9.GetEntry -/
def f34 (callf : CallF) (N : Nat) (a0 : T) (s : St) : Option (T × St) :=
  bd2 (aNew s (nCells [.int .i64 0, .int .i64 0, .int .i64 0, .int .i64 0, .int .i64 0, .int .i64 0, .int .u32 0, .str []])) fun t2 s1 =>
  bd (asAggT (aFill [.str [], .int .i64 0, .bool false] [(0, 1, a0)])) fun t10 =>
  bd2 (aNew s1 (nBox t10)) fun t11 s2 =>
  bd2 (callf 56 [t11] s2) fun t13 s3 =>
  bd (aConv .i64 t13) fun t14 =>
  bd (asAggT (aFill [.int .i64 0, .int .i64 0, .int .i64 0, .int .i64 0, .int .i64 0, .int .i64 0, .int .u32 0, .str []] [(0, 1, t14)])) fun t15 =>
  bd2 (aNew s3 (nCells [.int .i64 0, .int .i64 0, .int .i64 0, .int .i64 0, .int .i64 0, .int .i64 0, .int .u32 0, .str []])) fun t5 s4 =>
  bd2 (aStore 8 t5 t15 s4) fun _ s5 =>
  bd2 (callf 58 [t11] s5) fun t17 s6 =>
  bd2 (callf 57 [t17, (I .u64 1073741824)] s6) fun t18 s7 =>
  bd (aFieldAddr 1 t5) fun t19 =>
  bd2 (aStore 1 t19 t18 s7) fun _ s8 =>
  bd (aFieldAddr 0 t5) fun t20 =>
  bd (aLoad1 t20 s8.get) fun t21 =>
  jn (bd (aBin .eql t21 (I .i64 1)) fun t23 =>
  jn (br t23 (bd2 (callf 58 [t11] s8) fun t25 s9 =>
  bd2 (callf 57 [t25, (I .u64 1073741824)] s9) fun t26 s10 =>
  bd2 (callf 58 [t11] s10) fun t28 s11 =>
  bd2 (callf 57 [t28, (I .u64 4)] s11) fun t29 s12 =>
  bd (aFieldAddr 2 t5) fun t30 =>
  bd2 (aStore 1 t30 t26 s12) fun _ s13 =>
  bd (aFieldAddr 3 t5) fun t31 =>
  bd2 (aStore 1 t31 t29 s13) fun _ s14 =>
  bd2 (callf 58 [t11] s14) fun t33 s15 =>
  bd2 (callf 57 [t33, (I .u64 1099511627776)] s15) fun t34 s16 =>
  bd2 (callf 58 [t11] s16) fun t36 s17 =>
  bd2 (callf 57 [t36, (I .u64 1099511627776)] s17) fun t37 s18 =>
  bd (aFieldAddr 4 t5) fun t38 =>
  bd2 (aStore 1 t38 t34 s18) fun _ s19 =>
  bd (aFieldAddr 5 t5) fun t39 =>
  bd2 (aStore 1 t39 t37 s19) fun _ s20 =>
  bd2 (callf 58 [t11] s20) fun t41 s21 =>
  bd (aConv .u32 t41) fun t43 =>
  bd (aFieldAddr 6 t5) fun t44 =>
  bd2 (aStore 1 t44 t43 s21) fun _ s22 =>
  some (.normal [a0, t2, t11, t5], s22))
  (bd (aBin .eql t21 (I .i64 2)) fun t46 =>
  jn (br t46 (bd2 (callf 58 [t11] s8) fun t48 s23 =>
  bd2 (callf 57 [t48, (I .u64 1073741824)] s23) fun t49 s24 =>
  bd (aFieldAddr 2 t5) fun t50 =>
  bd2 (aStore 1 t50 t49 s24) fun _ s25 =>
  some (.normal [a0, t2, t11, t5], s25))
  (bd (aBin .eql t21 (I .i64 4)) fun t52 =>
  jn (br t52 (bd2 (callf 58 [t11] s8) fun t55 s26 =>
  bd2 (callf 59 [t11, t55] s26) fun t56 s27 =>
  bd (aFieldAddr 7 t5) fun t57 =>
  bd2 (aStore 1 t57 t56 s27) fun _ s28 =>
  some (.normal [a0, t2, t11, t5], s28))
  (some (.normal [a0, t2, t11, t5], s8)))
  (fun v29 s30 => some (.normal [(v29.getD 0 .any), (v29.getD 1 .any), (v29.getD 2 .any), (v29.getD 3 .any)], s30))
  (fun i31 v29 s30 => some (.exit i31 v29, s30))
  (fun r32 s30 => some (.ret r32, s30))))
  (fun v33 s34 => some (.normal [(v33.getD 0 .any), (v33.getD 1 .any), (v33.getD 2 .any), (v33.getD 3 .any)], s34))
  (fun i35 v33 s34 => some (.exit i35 v33, s34))
  (fun r36 s34 => some (.ret r36, s34))))
  (fun v37 s38 => some (.normal [(v37.getD 0 .any), (v37.getD 1 .any), (v37.getD 2 .any), (v37.getD 3 .any)], s38))
  (fun i39 v37 s38 => if i39 = 0 then some (.normal v37, s38) else some (.exit i39 v37, s38))
  (fun r40 s38 => some (.ret r40, s38)))
  (fun v41 s42 => bd (aLoadN 8 (v41.getD 3 .any) s42.get) fun t59 =>
  bd2 (callf 32 [t59] s42) fun t60 s45 =>
  bd (aExtract t60 0) fun t61 =>
  bd (aExtract t60 1) fun t62 =>
  bd (aNil (v41.getD 2 .any)) fun t64 =>
  bd (aFieldAddr 2 t64) fun t65 =>
  bd (aLoad1 t65 s45.get) fun t66 =>
  bd (gT (gd t66 false) (some t62)) fun t68 =>
  bd (gT (gd t66 false) (aBin .neq t68 (I .i64 0))) fun t69 =>
  bd (aPick t66 (B true) t69) fun t70 =>
  bd (gT (gd t70 false) (some t61)) fun t72 =>
  bd (gT (gd t70 false) (some (v41.getD 0 .any))) fun t73 =>
  bd (gT (gd t70 false) (aBin .neq t72 t73)) fun t74 =>
  bd (aPick t70 (B true) t74) fun t75 =>
  br t75 (bd (asAggT (aFill [.int .i64 0, .int .i64 0, .int .i64 0, .int .i64 0, .int .i64 0, .int .i64 0, .int .u32 0, .str []] [])) fun t76 =>
  bd2 (aStore 8 (v41.getD 1 .any) t76 s45) fun _ s46 =>
  bd (rC (aLoadN 8 (v41.getD 1 .any) s46.get) (rT (I .i64 2) (some []))) fun l47 => bd (retT l47) fun r48 =>
  some (r48, s46))
  (bd (aLoadN 8 (v41.getD 3 .any) s45.get) fun t77 =>
  bd2 (aStore 8 (v41.getD 1 .any) t77 s45) fun _ s49 =>
  bd (rC (aLoadN 8 (v41.getD 1 .any) s49.get) (rT (I .i64 0) (some []))) fun l50 => bd (retT l50) fun r51 =>
  some (r51, s49)))
  (fun i43 v41 s42 => none)
  (fun r44 s42 => some (r44, s42))

theorem f34_eq (callf : CallF) (N : Nat) (a0 : T) (s : St) : bodyC Tryz.prog callf N Tryz.f34 [a0] s = f34 callf N a0 s := by kernel_rfl

theorem f34_run (d : Nat) (a0 : T) (s : St) : R (d + 1) 34 [a0] s = f34 (R d) 8192 a0 s := (runQ_body rfl Tryz.func34 (by kernel_rfl)).trans (f34_eq ..)

/- twinkeep/twinkeepref9.MayEntry -/
def f38 (callf : CallF) (N : Nat) (a0 : T) (s : St) : Option (T × St) :=
  bd2 (aNew s (nBox a0)) fun t1 s1 =>
  bd (aFieldAddr 1 t1) fun t7 =>
  bd (aLoad1 t7 s1.get) fun t8 =>
  bd (aBin .lss t8 (I .i64 0)) fun t9 =>
  bd (gT (gd t9 false) (aFieldAddr 1 t1)) fun t11 =>
  bd (gT (gd t9 false) (aLoad1 t11 s1.get)) fun t12 =>
  bd (gT (gd t9 false) (aBin .gtr t12 (I .i64 1073741824))) fun t13 =>
  bd (aPick t9 (B true) t13) fun t14 =>
  br t14 (some ((B false), s1))
  (bd (aFieldAddr 0 t1) fun t15 =>
  bd (aLoad1 t15 s1.get) fun t16 =>
  bd (aFieldAddr 1 t1) fun t17 =>
  bd (aLoad1 t17 s1.get) fun t18 =>
  bd (asAggT (aFill [.int .i64 0, .int .i64 0, .int .i64 0, .int .i64 0, .int .i64 0, .int .i64 0, .int .u32 0, .str []] [(0, 1, t16), (1, 1, t18)])) fun t19 =>
  bd2 (aNew s1 (nCells [.int .i64 0, .int .i64 0, .int .i64 0, .int .i64 0, .int .i64 0, .int .i64 0, .int .u32 0, .str []])) fun t3 s2 =>
  bd2 (aStore 8 t3 t19 s2) fun _ s3 =>
  bd (aFieldAddr 0 t1) fun t20 =>
  bd (aLoad1 t20 s3.get) fun t21 =>
  jn (bd (aBin .eql t21 (I .i64 1)) fun t23 =>
  jn (br t23 (bd (aFieldAddr 2 t1) fun t24 =>
  bd (aLoad1 t24 s3.get) fun t25 =>
  bd (aFieldAddr 3 t1) fun t26 =>
  bd (aLoad1 t26 s3.get) fun t27 =>
  bd (aFieldAddr 4 t1) fun t28 =>
  bd (aLoad1 t28 s3.get) fun t29 =>
  bd (aFieldAddr 5 t1) fun t30 =>
  bd (aLoad1 t30 s3.get) fun t31 =>
  bd (aFieldAddr 6 t1) fun t32 =>
  bd (aLoad1 t32 s3.get) fun t33 =>
  bd (aFieldAddr 2 t3) fun t34 =>
  bd2 (aStore 1 t34 t25 s3) fun _ s4 =>
  bd (aFieldAddr 3 t3) fun t35 =>
  bd2 (aStore 1 t35 t27 s4) fun _ s5 =>
  bd (aFieldAddr 4 t3) fun t36 =>
  bd2 (aStore 1 t36 t29 s5) fun _ s6 =>
  bd (aFieldAddr 5 t3) fun t37 =>
  bd2 (aStore 1 t37 t31 s6) fun _ s7 =>
  bd (aFieldAddr 6 t3) fun t38 =>
  bd2 (aStore 1 t38 t33 s7) fun _ s8 =>
  ck ((decide (aLoad1 t26 s4.get = aLoad1 t26 s3.get) && true) && ((decide (aLoad1 t28 s4.get = aLoad1 t28 s3.get) && (decide (aLoad1 t28 s5.get = aLoad1 t28 s3.get) && true)) && ((decide (aLoad1 t30 s4.get = aLoad1 t30 s3.get) && (decide (aLoad1 t30 s5.get = aLoad1 t30 s3.get) && (decide (aLoad1 t30 s6.get = aLoad1 t30 s3.get) && true))) && ((decide (aLoad1 t32 s4.get = aLoad1 t32 s3.get) && (decide (aLoad1 t32 s5.get = aLoad1 t32 s3.get) && (decide (aLoad1 t32 s6.get = aLoad1 t32 s3.get) && (decide (aLoad1 t32 s7.get = aLoad1 t32 s3.get) && true)))) && true)))) (bd (aFieldAddr 2 t1) fun t39 =>
  bd (aLoad1 t39 s8.get) fun t40 =>
  bd (aBin .lss t40 (I .i64 1)) fun t41 =>
  bd (gT (gd t41 false) (aFieldAddr 2 t1)) fun t43 =>
  bd (gT (gd t41 false) (aLoad1 t43 s8.get)) fun t44 =>
  bd (gT (gd t41 false) (aBin .gtr t44 (I .i64 1073741824))) fun t45 =>
  bd (aPick t41 (B true) t45) fun t46 =>
  bd (gT (gd t46 false) (aFieldAddr 3 t1)) fun t48 =>
  bd (gT (gd t46 false) (aLoad1 t48 s8.get)) fun t49 =>
  bd (gT (gd t46 false) (aBin .lss t49 (I .i64 0))) fun t50 =>
  bd (aPick t46 (B true) t50) fun t51 =>
  bd (gT (gd t51 false) (aFieldAddr 3 t1)) fun t53 =>
  bd (gT (gd t51 false) (aLoad1 t53 s8.get)) fun t54 =>
  bd (gT (gd t51 false) (aBin .gtr t54 (I .i64 3))) fun t55 =>
  bd (aPick t51 (B true) t55) fun t56 =>
  bd (gT (gd t56 false) (aFieldAddr 4 t1)) fun t58 =>
  bd (gT (gd t56 false) (aLoad1 t58 s8.get)) fun t59 =>
  bd (gT (gd t56 false) (aBin .lss t59 (I .i64 0))) fun t60 =>
  bd (aPick t56 (B true) t60) fun t61 =>
  bd (gT (gd t61 false) (aFieldAddr 4 t1)) fun t63 =>
  bd (gT (gd t61 false) (aLoad1 t63 s8.get)) fun t64 =>
  bd (gT (gd t61 false) (aFieldAddr 5 t1)) fun t65 =>
  bd (gT (gd t61 false) (aLoad1 t65 s8.get)) fun t66 =>
  bd (gT (gd t61 false) (aBin .geq t64 t66)) fun t67 =>
  bd (aPick t61 (B true) t67) fun t68 =>
  bd (gT (gd t68 false) (aFieldAddr 5 t1)) fun t70 =>
  bd (gT (gd t68 false) (aLoad1 t70 s8.get)) fun t71 =>
  bd (gT (gd t68 false) (aBin .gtr t71 (I .i64 1099511627776))) fun t72 =>
  bd (aPick t68 (B true) t72) fun t73 =>
  br t73 (some (.ret (B false), s8))
  (some (.normal [t1, t3], s8))))
  (bd (aBin .eql t21 (I .i64 2)) fun t75 =>
  jn (br t75 (bd (aFieldAddr 2 t1) fun t76 =>
  bd (aLoad1 t76 s3.get) fun t77 =>
  bd (aFieldAddr 2 t3) fun t78 =>
  bd2 (aStore 1 t78 t77 s3) fun _ s9 =>
  bd (aFieldAddr 2 t1) fun t79 =>
  bd (aLoad1 t79 s9.get) fun t80 =>
  bd (aBin .lss t80 (I .i64 1)) fun t81 =>
  bd (gT (gd t81 false) (aFieldAddr 2 t1)) fun t83 =>
  bd (gT (gd t81 false) (aLoad1 t83 s9.get)) fun t84 =>
  bd (gT (gd t81 false) (aBin .gtr t84 (I .i64 1073741824))) fun t85 =>
  bd (aPick t81 (B true) t85) fun t86 =>
  br t86 (some (.ret (B false), s9))
  (some (.normal [t1, t3], s9)))
  (bd (aBin .eql t21 (I .i64 3)) fun t88 =>
  jn (br t88 (bd (aFieldAddr 1 t1) fun t89 =>
  bd (aLoad1 t89 s3.get) fun t90 =>
  bd (aBin .lss t90 (I .i64 1)) fun t91 =>
  br t91 (some (.ret (B false), s3))
  (some (.normal [t1, t3], s3)))
  (bd (aBin .eql t21 (I .i64 4)) fun t93 =>
  br t93 (bd (aFieldAddr 7 t1) fun t94 =>
  bd (aLoad1 t94 s3.get) fun t95 =>
  bd (aFieldAddr 7 t3) fun t96 =>
  bd2 (aStore 1 t96 t95 s3) fun _ s10 =>
  bd (aFieldAddr 7 t1) fun t98 =>
  bd (aLoad1 t98 s10.get) fun t99 =>
  bd2 (callf 64 [t99] s10) fun t100 s11 =>
  bd (aExtract t100 0) fun t101 =>
  bd (aExtract t100 1) fun t102 =>
  bd (aExtract t100 2) fun t103 =>
  bd2 (aNew s11 (nCells [.int .i64 0, .int .i64 0, .int .i64 0, .int .i64 0, .int .i64 0, .int .i64 0])) fun t4 s12 =>
  bd2 (aStore 6 t4 t101 s12) fun _ s13 =>
  bd (aBin .neq t102 (I .i64 0)) fun t105 =>
  bd (gT (gd t105 false) (aFieldAddr 7 t1)) fun t107 =>
  bd (gT (gd t105 false) (aLoad1 t107 s13.get)) fun t108 =>
  bd (gT (gd t105 false) (aLenStr t108)) fun t109 =>
  bd (gT (gd t105 false) (aBin .gtr t109 (I .i64 300))) fun t110 =>
  bd (aPick t105 (B true) t110) fun t111 =>
  br t111 (some (.ret (B false), s13))
  (some (.normal [t1, t3], s13)))
  (some (.ret (B false), s3))))
  (fun v14 s15 => some (.normal [(v14.getD 0 .any), (v14.getD 1 .any)], s15))
  (fun i16 v14 s15 => some (.exit i16 v14, s15))
  (fun r17 s15 => some (.ret r17, s15))))
  (fun v18 s19 => some (.normal [(v18.getD 0 .any), (v18.getD 1 .any)], s19))
  (fun i20 v18 s19 => some (.exit i20 v18, s19))
  (fun r21 s19 => some (.ret r21, s19))))
  (fun v22 s23 => some (.normal [(v22.getD 0 .any), (v22.getD 1 .any)], s23))
  (fun i24 v22 s23 => if i24 = 0 then some (.normal v22, s23) else some (.exit i24 v22, s23))
  (fun r25 s23 => some (.ret r25, s23)))
  (fun v26 s27 => bd (aLoadN 8 (v26.getD 1 .any) s27.get) fun t112 =>
  bd (aLoadN 8 (v26.getD 0 .any) s27.get) fun t113 =>
  bd (eqB (.a 8 [(0, .i), (1, .i), (2, .i), (3, .i), (4, .i), (5, .i), (6, .i), (7, .s)]) t112 t113) fun t114 =>
  some (t114, s27))
  (fun i28 v26 s27 => none)
  (fun r29 s27 => some (r29, s27)))

theorem f38_eq (callf : CallF) (N : Nat) (a0 : T) (s : St) : bodyC Tryz.prog callf N Tryz.f38 [a0] s = f38 callf N a0 s := by kernel_rfl

theorem f38_run (d : Nat) (a0 : T) (s : St) : R (d + 1) 38 [a0] s = f38 (R d) 8192 a0 s := (runQ_body rfl Tryz.func38 (by kernel_rfl)).trans (f38_eq ..)

/- twinkeep/twinkeepref9.Fold: a loop; 0: t0 l, 1: t3 , 2: t6 out, 3: t7 ever, 4: t8 p, 5: t9 view, 6: t10 last, 7: t11 i -/
def f35_l1 (callf : CallF) (N : Nat) (v : List T) (s : St) : Option (JO × St) :=
  bd (aLenSl (v.getD 0 .any)) fun t18 =>
  bd (aBin .lss (v.getD 7 .any) t18) fun t19 =>
  br t19 (jn (bd (aIndexSl 8 (v.getD 0 .any) (v.getD 7 .any)) fun t24 =>
  bd (aLoadN 8 t24 s.get) fun t25 =>
  bd2 (aNew s (nCells [.int .i64 0, .int .i64 0, .int .i64 0, .int .i64 0, .int .i64 0, .int .i64 0, .int .u32 0, .str []])) fun t12 s5 =>
  bd2 (aStore 8 t12 t25 s5) fun _ s6 =>
  bd (aFieldAddr 2 t12) fun t27 =>
  bd (aLoad1 t27 s6.get) fun t28 =>
  bd2 (callf 61 [(v.getD 2 .any), t28] s6) fun t29 s7 =>
  jn (bd (aLoadN 8 t12 s7.get) fun t31 =>
  bd2 (callf 38 [t31] s7) fun t32 s8 =>
  bd (aUn .not t32) fun t33 =>
  jn (br t33 (some (.normal [(v.getD 0 .any), (v.getD 1 .any), (v.getD 2 .any), (v.getD 3 .any), (v.getD 4 .any), (v.getD 5 .any), (v.getD 7 .any), t12, (I .i64 1), t29], s8))
  (bd (aFieldAddr 0 t12) fun t35 =>
  bd (aLoad1 t35 s8.get) fun t36 =>
  bd (aBin .eql t36 (I .i64 1)) fun t37 =>
  bd (gT (gd t37 true) (some (v.getD 3 .any))) fun t39 =>
  bd (gT (gd t37 true) (aFieldAddr 2 t12)) fun t40 =>
  bd (gT (gd t37 true) (aLoad1 t40 s8.get)) fun t41 =>
  bd2 (gS (gd t37 true) s8 (callf 62 [t39, t41] s8)) fun t42 s9 =>
  bd (aPick t37 t42 (B false)) fun t43 =>
  jn (br t43 (some (.normal [(v.getD 0 .any), (v.getD 1 .any), (v.getD 2 .any), (v.getD 3 .any), (v.getD 4 .any), (v.getD 5 .any), (v.getD 7 .any), t12, (I .i64 7), t29], s9))
  (bd (aFieldAddr 0 t12) fun t45 =>
  bd (aLoad1 t45 s9.get) fun t46 =>
  bd (aBin .eql t46 (I .i64 2)) fun t47 =>
  bd (gT (gd t47 true) (some t29)) fun t49 =>
  bd (gT (gd t47 true) (aBin .lss t49 (I .i64 0))) fun t50 =>
  bd (aPick t47 t50 (B false)) fun t51 =>
  jn (br t51 (some (.normal [(v.getD 0 .any), (v.getD 1 .any), (v.getD 2 .any), (v.getD 3 .any), (v.getD 4 .any), (v.getD 5 .any), (v.getD 7 .any), t12, (I .i64 9), t29], s9))
  (bd (aFieldAddr 1 t12) fun t53 =>
  bd (aLoad1 t53 s9.get) fun t54 =>
  bd (aBin .lss t54 (v.getD 6 .any)) fun t56 =>
  jn (br t56 (some (.normal [(v.getD 0 .any), (v.getD 1 .any), (v.getD 2 .any), (v.getD 3 .any), (v.getD 4 .any), (v.getD 5 .any), (v.getD 7 .any), t12, (I .i64 12), t29], s9))
  (some (.normal [(v.getD 0 .any), (v.getD 1 .any), (v.getD 2 .any), (v.getD 3 .any), (v.getD 4 .any), (v.getD 5 .any), (v.getD 7 .any), t12, (I .i64 0), t29], s9)))
  (fun v10 s11 => some (.normal [(v10.getD 0 .any), (v10.getD 1 .any), (v10.getD 2 .any), (v10.getD 3 .any), (v10.getD 4 .any), (v10.getD 5 .any), (v10.getD 6 .any), (v10.getD 7 .any), (v10.getD 8 .any), (v10.getD 9 .any)], s11))
  (fun i12 v10 s11 => some (.exit i12 v10, s11))
  (fun r13 s11 => some (.ret r13, s11))))
  (fun v14 s15 => some (.normal [(v14.getD 0 .any), (v14.getD 1 .any), (v14.getD 2 .any), (v14.getD 3 .any), (v14.getD 4 .any), (v14.getD 5 .any), (v14.getD 6 .any), (v14.getD 7 .any), (v14.getD 8 .any), (v14.getD 9 .any)], s15))
  (fun i16 v14 s15 => some (.exit i16 v14, s15))
  (fun r17 s15 => some (.ret r17, s15))))
  (fun v18 s19 => some (.normal [(v18.getD 0 .any), (v18.getD 1 .any), (v18.getD 2 .any), (v18.getD 3 .any), (v18.getD 4 .any), (v18.getD 5 .any), (v18.getD 6 .any), (v18.getD 7 .any), (v18.getD 8 .any), (v18.getD 9 .any)], s19))
  (fun i20 v18 s19 => some (.exit i20 v18, s19))
  (fun r21 s19 => some (.ret r21, s19))))
  (fun v22 s23 => some (.normal [(v22.getD 0 .any), (v22.getD 1 .any), (v22.getD 2 .any), (v22.getD 3 .any), (v22.getD 4 .any), (v22.getD 5 .any), (v22.getD 6 .any), (v22.getD 7 .any), (v22.getD 8 .any), (v22.getD 9 .any)], s23))
  (fun i24 v22 s23 => if i24 = 2 then some (.normal v22, s23) else some (.exit i24 v22, s23))
  (fun r25 s23 => some (.ret r25, s23)))
  (fun v26 s27 => bd (aBin .neq (v26.getD 8 .any) (I .i64 0)) fun t58 =>
  br t58 (bd (asAggT (aFill [.int .i64 0, .int .i64 0, .int .i64 0, .int .i64 0, .int .i64 0, .int .i64 0] [])) fun t59 =>
  bd2 (aStore 6 (v26.getD 1 .any) t59 s27) fun _ s30 =>
  bd (rT (Z .nils) (rC (aLoadN 6 (v26.getD 1 .any) s30.get) (rT (I .i64 0) (rT (v26.getD 8 .any) (some []))))) fun l31 => bd (retT l31) fun r32 =>
  some (.ret r32, s30))
  (bd (aFieldAddr 1 (v26.getD 7 .any)) fun t61 =>
  bd (aLoad1 t61 s27.get) fun t62 =>
  bd (aFieldAddr 0 (v26.getD 7 .any)) fun t63 =>
  bd (aLoad1 t63 s27.get) fun t64 =>
  jn (bd (aBin .eql t64 (I .i64 1)) fun t66 =>
  jn (br t66 (bd (aFieldAddr 2 (v26.getD 7 .any)) fun t68 =>
  bd (aLoad1 t68 s27.get) fun t69 =>
  bd2 (aNew s27 (nSlice 1 (aFill [.int .i64 0] [(0, 1, t69)]))) fun t70 s33 =>
  bd2 (aAppend 1 8 (v26.getD 3 .any) t70 s33) fun t71 s34 =>
  bd (aFieldAddr 2 (v26.getD 7 .any)) fun t73 =>
  bd (aLoad1 t73 s34.get) fun t74 =>
  bd (aFieldAddr 3 (v26.getD 7 .any)) fun t75 =>
  bd (aLoad1 t75 s34.get) fun t76 =>
  bd (aFieldAddr 4 (v26.getD 7 .any)) fun t77 =>
  bd (aLoad1 t77 s34.get) fun t78 =>
  bd (aFieldAddr 5 (v26.getD 7 .any)) fun t79 =>
  bd (aLoad1 t79 s34.get) fun t80 =>
  bd (aFieldAddr 6 (v26.getD 7 .any)) fun t81 =>
  bd (aLoad1 t81 s34.get) fun t82 =>
  bd (asAggT (aFill [.int .i64 0, .int .i64 0, .int .i64 0, .int .i64 0, .int .u32 0] [(0, 1, t74), (1, 1, t76), (2, 1, t78), (3, 1, t80), (4, 1, t82)])) fun t83 =>
  bd2 (callf 63 [(v26.getD 2 .any), t83] s34) fun t84 s35 =>
  some (.normal [(v26.getD 0 .any), (v26.getD 1 .any), t84, t71, (v26.getD 4 .any), (v26.getD 5 .any), t62, (v26.getD 6 .any)], s35))
  (bd (aBin .eql t64 (I .i64 2)) fun t86 =>
  jn (br t86 (bd2 (aNew s27 (nSlice 0 (aFill [] []))) fun t87 s36 =>
  bd (aPieceSl 5 (v26.getD 2 .any) none (some (v26.getD 9 .any)) none) fun t90 =>
  bd2 (aAppend 5 40 t87 t90 s36) fun t91 s37 =>
  bd (aBin .add (v26.getD 9 .any) (I .i64 1)) fun t94 =>
  bd (aPieceSl 5 (v26.getD 2 .any) (some t94) none none) fun t95 =>
  bd2 (aAppend 5 40 t91 t95 s37) fun t96 s38 =>
  some (.normal [(v26.getD 0 .any), (v26.getD 1 .any), t96, (v26.getD 3 .any), (v26.getD 4 .any), (v26.getD 5 .any), t62, (v26.getD 6 .any)], s38))
  (bd (aBin .eql t64 (I .i64 3)) fun t98 =>
  jn (br t98 (bd (aFieldAddr 1 (v26.getD 7 .any)) fun t99 =>
  bd (aLoad1 t99 s27.get) fun t100 =>
  some (.normal [(v26.getD 0 .any), (v26.getD 1 .any), (v26.getD 2 .any), (v26.getD 3 .any), (v26.getD 4 .any), t100, t62, (v26.getD 6 .any)], s27))
  (bd (aBin .eql t64 (I .i64 4)) fun t102 =>
  jn (br t102 (bd (aFieldAddr 7 (v26.getD 7 .any)) fun t104 =>
  bd (aLoad1 t104 s27.get) fun t105 =>
  bd2 (callf 64 [t105] s27) fun t106 s39 =>
  bd (aExtract t106 0) fun t107 =>
  bd (aExtract t106 1) fun t108 =>
  bd (aExtract t106 2) fun t109 =>
  bd2 (aStore 6 (v26.getD 4 .any) t107 s39) fun _ s40 =>
  some (.normal [(v26.getD 0 .any), (v26.getD 1 .any), (v26.getD 2 .any), (v26.getD 3 .any), (v26.getD 4 .any), (v26.getD 5 .any), t62, (v26.getD 6 .any)], s40))
  (some (.normal [(v26.getD 0 .any), (v26.getD 1 .any), (v26.getD 2 .any), (v26.getD 3 .any), (v26.getD 4 .any), (v26.getD 5 .any), t62, (v26.getD 6 .any)], s27)))
  (fun v41 s42 => some (.normal [(v41.getD 0 .any), (v41.getD 1 .any), (v41.getD 2 .any), (v41.getD 3 .any), (v41.getD 4 .any), (v41.getD 5 .any), (v41.getD 6 .any), (v41.getD 7 .any)], s42))
  (fun i43 v41 s42 => some (.exit i43 v41, s42))
  (fun r44 s42 => some (.ret r44, s42))))
  (fun v45 s46 => some (.normal [(v45.getD 0 .any), (v45.getD 1 .any), (v45.getD 2 .any), (v45.getD 3 .any), (v45.getD 4 .any), (v45.getD 5 .any), (v45.getD 6 .any), (v45.getD 7 .any)], s46))
  (fun i47 v45 s46 => some (.exit i47 v45, s46))
  (fun r48 s46 => some (.ret r48, s46))))
  (fun v49 s50 => some (.normal [(v49.getD 0 .any), (v49.getD 1 .any), (v49.getD 2 .any), (v49.getD 3 .any), (v49.getD 4 .any), (v49.getD 5 .any), (v49.getD 6 .any), (v49.getD 7 .any)], s50))
  (fun i51 v49 s50 => some (.exit i51 v49, s50))
  (fun r52 s50 => some (.ret r52, s50))))
  (fun v53 s54 => some (.normal [(v53.getD 0 .any), (v53.getD 1 .any), (v53.getD 2 .any), (v53.getD 3 .any), (v53.getD 4 .any), (v53.getD 5 .any), (v53.getD 6 .any), (v53.getD 7 .any)], s54))
  (fun i55 v53 s54 => if i55 = 3 then some (.normal v53, s54) else some (.exit i55 v53, s54))
  (fun r56 s54 => some (.ret r56, s54)))
  (fun v57 s58 => some (.normal [(v57.getD 0 .any), (v57.getD 1 .any), (v57.getD 2 .any), (v57.getD 3 .any), (v57.getD 4 .any), (v57.getD 5 .any), (v57.getD 6 .any), (v57.getD 7 .any)], s58))
  (fun i59 v57 s58 => if i59 = 1 then some (.normal v57, s58) else some (.exit i59 v57, s58))
  (fun r60 s58 => some (.ret r60, s58))))
  (fun i28 v26 s27 => if i28 = 1 then some (.normal v26, s27) else some (.exit i28 v26, s27))
  (fun r29 s27 => some (.ret r29, s27)))
  (fun v61 s62 => bd (aBin .add (v61.getD 7 .any) (I .i64 1)) fun t21 =>
  some (.normal [(v61.getD 0 .any), (v61.getD 1 .any), (v61.getD 2 .any), (v61.getD 3 .any), (v61.getD 4 .any), (v61.getD 5 .any), (v61.getD 6 .any), t21], s62))
  (fun i63 v61 s62 => some (.exit i63 v61, s62))
  (fun r64 s62 => some (.ret r64, s62)))
  (some (.exit 0 [(v.getD 1 .any), (v.getD 2 .any), (v.getD 4 .any), (v.getD 5 .any)], s))

/- twinkeep/twinkeepref9.Fold -/
def f35 (callf : CallF) (N : Nat) (a0 : T) (s : St) : Option (T × St) :=
  bd2 (aNew s (nCells [.int .i64 0, .int .i64 0, .int .i64 0, .int .i64 0, .int .i64 0, .int .i64 0])) fun t3 s1 =>
  bd2 (callf 60 [] s1) fun t15 s2 =>
  bd2 (aNew s2 (nCells [.int .i64 0, .int .i64 0, .int .i64 0, .int .i64 0, .int .i64 0, .int .i64 0])) fun t8 s3 =>
  bd2 (aStore 6 t8 t15 s3) fun _ s4 =>
  jn (jn (loops (f35_l1 callf N) N [a0, t3, (Z .nils), (Z .nils), t8, (I .i64 0), (I .i64 0), (I .i64 0)] s4)
  (fun v65 s66 => some (.normal [.any, .any, .any, .any], s66))
  (fun i67 v65 s66 => if i67 = 0 then some (.normal v65, s66) else some (.exit i67 v65, s66))
  (fun r68 s66 => some (.ret r68, s66)))
  (fun v69 s70 => bd (aLoadN 6 (v69.getD 2 .any) s70.get) fun t111 =>
  bd2 (aStore 6 (v69.getD 0 .any) t111 s70) fun _ s73 =>
  bd (rT (v69.getD 1 .any) (rC (aLoadN 6 (v69.getD 0 .any) s73.get) (rT (v69.getD 3 .any) (rT (I .i64 0) (some []))))) fun l74 => bd (retT l74) fun r75 =>
  some (r75, s73))
  (fun i71 v69 s70 => none)
  (fun r72 s70 => some (r72, s70))

theorem f35_eq (callf : CallF) (N : Nat) (a0 : T) (s : St) : bodyC Tryz.prog callf N Tryz.f35 [a0] s = f35 callf N a0 s := by kernel_rfl

theorem f35_run (d : Nat) (a0 : T) (s : St) : R (d + 1) 35 [a0] s = f35 (R d) 8192 a0 s := (runQ_body rfl Tryz.func35 (by kernel_rfl)).trans (f35_eq ..)

/- twinkeep/twinkeepref9.SameInfos: a loop; 0: t0 a, 1: t1 b, 2: t5 i -/
def f37_l1 (callf : CallF) (N : Nat) (v : List T) (s : St) : Option (JO × St) :=
  bd (aLenSl (v.getD 0 .any)) fun t13 =>
  bd (aBin .lss (v.getD 2 .any) t13) fun t14 =>
  br t14 (jn (bd (aIndexSl 5 (v.getD 0 .any) (v.getD 2 .any)) fun t19 =>
  bd (aLoadN 5 t19 s.get) fun t20 =>
  bd (aIndexSl 5 (v.getD 1 .any) (v.getD 2 .any)) fun t23 =>
  bd (aLoadN 5 t23 s.get) fun t24 =>
  bd (neB (.a 5 [(0, .i), (1, .i), (2, .i), (3, .i), (4, .i)]) t20 t24) fun t25 =>
  br t25 (some (.ret (B false), s))
  (some (.normal [(v.getD 0 .any), (v.getD 1 .any), (v.getD 2 .any)], s)))
  (fun v1 s2 => bd (aBin .add (v1.getD 2 .any) (I .i64 1)) fun t16 =>
  some (.normal [(v1.getD 0 .any), (v1.getD 1 .any), t16], s2))
  (fun i3 v1 s2 => some (.exit i3 v1, s2))
  (fun r4 s2 => some (.ret r4, s2)))
  (some (.exit 0 [], s))

/- twinkeep/twinkeepref9.SameInfos -/
def f37 (callf : CallF) (N : Nat) (a0 : T) (a1 : T) (s : St) : Option (T × St) :=
  bd (aLenSl a0) fun t7 =>
  bd (aLenSl a1) fun t9 =>
  bd (aBin .neq t7 t9) fun t10 =>
  br t10 (some ((B false), s))
  (jn (jn (loops (f37_l1 callf N) N [a0, a1, (I .i64 0)] s)
  (fun v5 s6 => some (.normal [], s6))
  (fun i7 v5 s6 => if i7 = 0 then some (.normal v5, s6) else some (.exit i7 v5, s6))
  (fun r8 s6 => some (.ret r8, s6)))
  (fun v9 s10 => some ((B true), s10))
  (fun i11 v9 s10 => none)
  (fun r12 s10 => some (r12, s10)))

theorem f37_eq (callf : CallF) (N : Nat) (a0 : T) (a1 : T) (s : St) : bodyC Tryz.prog callf N Tryz.f37 [a0, a1] s = f37 callf N a0 a1 s := by kernel_rfl

theorem f37_run (d : Nat) (a0 : T) (a1 : T) (s : St) : R (d + 1) 37 [a0, a1] s = f37 (R d) 8192 a0 a1 s := (runQ_body rfl Tryz.func37 (by kernel_rfl)).trans (f37_eq ..)

/- twinkeep/twinkeepref9.find: a loop; 0: t0 l, 1: t1 id, 2: t5 i -/
def f61_l1 (callf : CallF) (N : Nat) (v : List T) (s : St) : Option (JO × St) :=
  bd (aLenSl (v.getD 0 .any)) fun t8 =>
  bd (aBin .lss (v.getD 2 .any) t8) fun t9 =>
  br t9 (jn (bd (aIndexSl 5 (v.getD 0 .any) (v.getD 2 .any)) fun t14 =>
  bd (aFieldAddr 0 t14) fun t15 =>
  bd (aLoad1 t15 s.get) fun t16 =>
  bd (aBin .eql t16 (v.getD 1 .any)) fun t18 =>
  br t18 (some (.ret (v.getD 2 .any), s))
  (some (.normal [(v.getD 0 .any), (v.getD 1 .any), (v.getD 2 .any)], s)))
  (fun v1 s2 => bd (aBin .add (v1.getD 2 .any) (I .i64 1)) fun t11 =>
  some (.normal [(v1.getD 0 .any), (v1.getD 1 .any), t11], s2))
  (fun i3 v1 s2 => some (.exit i3 v1, s2))
  (fun r4 s2 => some (.ret r4, s2)))
  (some (.exit 0 [], s))

/- twinkeep/twinkeepref9.find -/
def f61 (callf : CallF) (N : Nat) (a0 : T) (a1 : T) (s : St) : Option (T × St) :=
  jn (jn (loops (f61_l1 callf N) N [a0, a1, (I .i64 0)] s)
  (fun v5 s6 => some (.normal [], s6))
  (fun i7 v5 s6 => if i7 = 0 then some (.normal v5, s6) else some (.exit i7 v5, s6))
  (fun r8 s6 => some (.ret r8, s6)))
  (fun v9 s10 => some ((I .i64 (-1)), s10))
  (fun i11 v9 s10 => none)
  (fun r12 s10 => some (r12, s10))

theorem f61_eq (callf : CallF) (N : Nat) (a0 : T) (a1 : T) (s : St) : bodyC Tryz.prog callf N Tryz.f61 [a0, a1] s = f61 callf N a0 a1 s := by kernel_rfl

theorem f61_run (d : Nat) (a0 : T) (a1 : T) (s : St) : R (d + 1) 61 [a0, a1] s = f61 (R d) 8192 a0 a1 s := (runQ_body rfl Tryz.func61 (by kernel_rfl)).trans (f61_eq ..)

/- twinkeep/twinkeepref9.has: a loop; 0: t0 l, 1: t1 n, 2: t5 i -/
def f62_l1 (callf : CallF) (N : Nat) (v : List T) (s : St) : Option (JO × St) :=
  bd (aLenSl (v.getD 0 .any)) fun t8 =>
  bd (aBin .lss (v.getD 2 .any) t8) fun t9 =>
  br t9 (jn (bd (aIndexSl 1 (v.getD 0 .any) (v.getD 2 .any)) fun t14 =>
  bd (aLoad1 t14 s.get) fun t15 =>
  bd (aBin .eql t15 (v.getD 1 .any)) fun t17 =>
  br t17 (some (.ret (B true), s))
  (some (.normal [(v.getD 0 .any), (v.getD 1 .any), (v.getD 2 .any)], s)))
  (fun v1 s2 => bd (aBin .add (v1.getD 2 .any) (I .i64 1)) fun t11 =>
  some (.normal [(v1.getD 0 .any), (v1.getD 1 .any), t11], s2))
  (fun i3 v1 s2 => some (.exit i3 v1, s2))
  (fun r4 s2 => some (.ret r4, s2)))
  (some (.exit 0 [], s))

/- twinkeep/twinkeepref9.has -/
def f62 (callf : CallF) (N : Nat) (a0 : T) (a1 : T) (s : St) : Option (T × St) :=
  jn (jn (loops (f62_l1 callf N) N [a0, a1, (I .i64 0)] s)
  (fun v5 s6 => some (.normal [], s6))
  (fun i7 v5 s6 => if i7 = 0 then some (.normal v5, s6) else some (.exit i7 v5, s6))
  (fun r8 s6 => some (.ret r8, s6)))
  (fun v9 s10 => some ((B false), s10))
  (fun i11 v9 s10 => none)
  (fun r12 s10 => some (r12, s10))

theorem f62_eq (callf : CallF) (N : Nat) (a0 : T) (a1 : T) (s : St) : bodyC Tryz.prog callf N Tryz.f62 [a0, a1] s = f62 callf N a0 a1 s := by kernel_rfl

theorem f62_run (d : Nat) (a0 : T) (a1 : T) (s : St) : R (d + 1) 62 [a0, a1] s = f62 (R d) 8192 a0 a1 s := (runQ_body rfl Tryz.func62 (by kernel_rfl)).trans (f62_eq ..)

/- twinkeep/twinkeepref9.insert: a loop; 0: t0 l, 1: t3 x, 2: t5 k -/
def f63_l1 (callf : CallF) (N : Nat) (v : List T) (s : St) : Option (JO × St) :=
  bd (aLenSl (v.getD 0 .any)) fun t9 =>
  bd (aBin .lss (v.getD 2 .any) t9) fun t10 =>
  bd (gT (gd t10 true) (some (v.getD 0 .any))) fun t12 =>
  bd (gT (gd t10 true) (some (v.getD 2 .any))) fun t13 =>
  bd (gT (gd t10 true) (aIndexSl 5 t12 t13)) fun t14 =>
  bd (gT (gd t10 true) (aFieldAddr 0 t14)) fun t15 =>
  bd (gT (gd t10 true) (aLoad1 t15 s.get)) fun t16 =>
  bd (gT (gd t10 true) (aFieldAddr 0 (v.getD 1 .any))) fun t17 =>
  bd (gT (gd t10 true) (aLoad1 t17 s.get)) fun t18 =>
  bd (gT (gd t10 true) (aBin .lss t16 t18)) fun t19 =>
  bd (aPick t10 t19 (B false)) fun t20 =>
  br t20 (jn (bd (aBin .add (v.getD 2 .any) (I .i64 1)) fun t22 =>
  some (.normal [(v.getD 0 .any), (v.getD 1 .any), t22], s))
  (fun v2 s3 => some (.normal [(v2.getD 0 .any), (v2.getD 1 .any), (v2.getD 2 .any)], s3))
  (fun i4 v2 s3 => some (.exit i4 v2, s3))
  (fun r5 s3 => some (.ret r5, s3)))
  (some (.exit 0 [(v.getD 0 .any), (v.getD 1 .any), (v.getD 2 .any)], s))

/- twinkeep/twinkeepref9.insert -/
def f63 (callf : CallF) (N : Nat) (a0 : T) (a1 : T) (s : St) : Option (T × St) :=
  bd2 (aNew s (nBox a1)) fun t3 s1 =>
  jn (jn (loops (f63_l1 callf N) N [a0, t3, (I .i64 0)] s1)
  (fun v6 s7 => some (.normal [.any, .any, .any], s7))
  (fun i8 v6 s7 => if i8 = 0 then some (.normal v6, s7) else some (.exit i8 v6, s7))
  (fun r9 s7 => some (.ret r9, s7)))
  (fun v10 s11 => bd2 (aNew s11 (nSlice 0 (aFill [] []))) fun t23 s14 =>
  bd (aPieceSl 5 (v10.getD 0 .any) none (some (v10.getD 2 .any)) none) fun t26 =>
  bd2 (aAppend 5 40 t23 t26 s14) fun t27 s15 =>
  bd (aLoadN 5 (v10.getD 1 .any) s15.get) fun t29 =>
  bd2 (aNew s15 (nSlice 1 (aFill [.int .i64 0, .int .i64 0, .int .i64 0, .int .i64 0, .int .u32 0] [(0, 5, t29)]))) fun t30 s16 =>
  bd2 (aAppend 5 40 t27 t30 s16) fun t31 s17 =>
  bd (aPieceSl 5 (v10.getD 0 .any) (some (v10.getD 2 .any)) none none) fun t34 =>
  bd2 (aAppend 5 40 t31 t34 s17) fun t35 s18 =>
  some (t35, s18))
  (fun i12 v10 s11 => none)
  (fun r13 s11 => some (r13, s11))

theorem f63_eq (callf : CallF) (N : Nat) (a0 : T) (a1 : T) (s : St) : bodyC Tryz.prog callf N Tryz.f63 [a0, a1] s = f63 callf N a0 a1 s := by kernel_rfl

theorem f63_run (d : Nat) (a0 : T) (a1 : T) (s : St) : R (d + 1) 63 [a0, a1] s = f63 (R d) 8192 a0 a1 s := (runQ_body rfl Tryz.func63 (by kernel_rfl)).trans (f63_eq ..)

/- twinkeep/twinkeepref9.small -/
def f57 (callf : CallF) (N : Nat) (a0 : T) (a1 : T) (s : St) : Option (T × St) :=
  bd (aBin .gtr a0 a1) fun t7 =>
  br t7 (bd (aConv .i64 a1) fun t9 =>
  bd (aBin .add t9 (I .i64 1)) fun t10 =>
  some (t10, s))
  (bd (aConv .i64 a0) fun t12 =>
  some (t12, s))

theorem f57_eq (callf : CallF) (N : Nat) (a0 : T) (a1 : T) (s : St) : bodyC Tryz.prog callf N Tryz.f57 [a0, a1] s = f57 callf N a0 a1 s := by kernel_rfl

theorem f57_run (d : Nat) (a0 : T) (a1 : T) (s : St) : R (d + 1) 57 [a0, a1] s = f57 (R d) 8192 a0 a1 s := (runQ_body rfl Tryz.func57 (by kernel_rfl)).trans (f57_eq ..)

end
end Go.Proofs.YtlhbidbdmdcdeaaGreatDoor

/-
  What functions that the laws reach compute, printed by a program of our own: each text is by definition the run of the code. No conditions.
-/
namespace Go.Proofs.YtlhbidbdmdcdeaaGreatDoor
open Go Go.Abs Go.Abs.F
set_option linter.unusedVariables false
noncomputable section
/- (twinkeep/twinkeepref5.C).Byte -/
def f56 (callf : CallF) (N : Nat) (a0 : T) (s : St) : Option (T × St) :=
  bd (aNil a0) fun t4 =>
  bd (aFieldAddr 2 t4) fun t5 =>
  bd (aLoad1 t5 s.get) fun t6 =>
  bd (gT (gd t6 false) (some a0)) fun t8 =>
  bd (gT (gd t6 false) (aNil t8)) fun t9 =>
  bd (gT (gd t6 false) (aFieldAddr 1 t9)) fun t10 =>
  bd (gT (gd t6 false) (aLoad1 t10 s.get)) fun t11 =>
  bd (gT (gd t6 false) (some a0)) fun t12 =>
  bd (gT (gd t6 false) (aNil t12)) fun t13 =>
  bd (gT (gd t6 false) (aFieldAddr 0 t13)) fun t14 =>
  bd (gT (gd t6 false) (aLoad1 t14 s.get)) fun t15 =>
  bd (gT (gd t6 false) (aLenStr t15)) fun t16 =>
  bd (gT (gd t6 false) (aBin .geq t11 t16)) fun t17 =>
  bd (aPick t6 (B true) t17) fun t18 =>
  br t18 (bd (aNil a0) fun t20 =>
  bd (aFieldAddr 2 t20) fun t21 =>
  bd2 (aStore 1 t21 (B true) s) fun _ s1 =>
  some ((I .u8 0), s1))
  (bd (aNil a0) fun t23 =>
  bd (aFieldAddr 1 t23) fun t24 =>
  bd (aLoad1 t24 s.get) fun t25 =>
  bd (aBin .add t25 (I .i64 1)) fun t26 =>
  bd (aNil a0) fun t27 =>
  bd (aFieldAddr 1 t27) fun t28 =>
  bd2 (aStore 1 t28 t26 s) fun _ s2 =>
  bd (aNil a0) fun t30 =>
  bd (aFieldAddr 0 t30) fun t31 =>
  bd (aLoad1 t31 s2.get) fun t32 =>
  bd (aNil a0) fun t34 =>
  bd (aFieldAddr 1 t34) fun t35 =>
  bd (aLoad1 t35 s2.get) fun t36 =>
  bd (aBin .sub t36 (I .i64 1)) fun t37 =>
  bd (aAtStr t32 t37) fun t38 =>
  some (t38, s2))

theorem f56_eq (callf : CallF) (N : Nat) (a0 : T) (s : St) : bodyC Tryz.prog callf N Tryz.f56 [a0] s = f56 callf N a0 s := by kernel_rfl

theorem f56_run (d : Nat) (a0 : T) (s : St) : R (d + 1) 56 [a0] s = f56 (R d) 8192 a0 s := (runQ_body rfl Tryz.func56 (by kernel_rfl)).trans (f56_eq ..)

/- (twinkeep/twinkeepref5.C).Num -/
def f58 (callf : CallF) (N : Nat) (a0 : T) (s : St) : Option (T × St) :=
  bd (aNil a0) fun t7 =>
  bd (aFieldAddr 2 t7) fun t8 =>
  bd (aLoad1 t8 s.get) fun t9 =>
  br t9 (some ((I .u64 0), s))
  (bd (aNil a0) fun t12 =>
  bd (aFieldAddr 0 t12) fun t13 =>
  bd (aLoad1 t13 s.get) fun t14 =>
  bd (aNil a0) fun t16 =>
  bd (aFieldAddr 1 t16) fun t17 =>
  bd (aLoad1 t17 s.get) fun t18 =>
  bd2 (callf 42 [t14, t18] s) fun t19 s1 =>
  bd (aExtract t19 0) fun t20 =>
  bd (aExtract t19 1) fun t21 =>
  bd (aExtract t19 2) fun t22 =>
  bd (aBin .neq t22 (I .i64 0)) fun t27 =>
  bd (aNil a0) fun t28 =>
  bd (aFieldAddr 1 t28) fun t29 =>
  bd2 (aStore 1 t29 t21 s1) fun _ s2 =>
  bd (aNil a0) fun t30 =>
  bd (aFieldAddr 2 t30) fun t31 =>
  bd2 (aStore 1 t31 t27 s2) fun _ s3 =>
  some (t20, s3))

theorem f58_eq (callf : CallF) (N : Nat) (a0 : T) (s : St) : bodyC Tryz.prog callf N Tryz.f58 [a0] s = f58 callf N a0 s := by kernel_rfl

theorem f58_run (d : Nat) (a0 : T) (s : St) : R (d + 1) 58 [a0] s = f58 (R d) 8192 a0 s := (runQ_body rfl Tryz.func58 (by kernel_rfl)).trans (f58_eq ..)

/- (twinkeep/twinkeepref5.C).Text -/
def f59 (callf : CallF) (N : Nat) (a0 : T) (a1 : T) (s : St) : Option (T × St) :=
  bd (aNil a0) fun t6 =>
  bd (aFieldAddr 2 t6) fun t7 =>
  bd (aLoad1 t7 s.get) fun t8 =>
  bd (gT (gd t8 false) (some a1)) fun t10 =>
  bd (gT (gd t8 false) (some a0)) fun t11 =>
  bd (gT (gd t8 false) (aNil t11)) fun t12 =>
  bd (gT (gd t8 false) (aFieldAddr 0 t12)) fun t13 =>
  bd (gT (gd t8 false) (aLoad1 t13 s.get)) fun t14 =>
  bd (gT (gd t8 false) (aLenStr t14)) fun t15 =>
  bd (gT (gd t8 false) (some a0)) fun t16 =>
  bd (gT (gd t8 false) (aNil t16)) fun t17 =>
  bd (gT (gd t8 false) (aFieldAddr 1 t17)) fun t18 =>
  bd (gT (gd t8 false) (aLoad1 t18 s.get)) fun t19 =>
  bd (gT (gd t8 false) (aBin .sub t15 t19)) fun t20 =>
  bd (gT (gd t8 false) (aConv .u64 t20)) fun t21 =>
  bd (gT (gd t8 false) (aBin .gtr t10 t21)) fun t22 =>
  bd (aPick t8 (B true) t22) fun t23 =>
  br t23 (bd (aNil a0) fun t25 =>
  bd (aFieldAddr 2 t25) fun t26 =>
  bd2 (aStore 1 t26 (B true) s) fun _ s1 =>
  some ((Z (.str [])), s1))
  (bd (aNil a0) fun t29 =>
  bd (aFieldAddr 1 t29) fun t30 =>
  bd (aLoad1 t30 s.get) fun t31 =>
  bd (aConv .i64 a1) fun t33 =>
  bd (aBin .add t31 t33) fun t34 =>
  bd (aNil a0) fun t35 =>
  bd (aFieldAddr 1 t35) fun t36 =>
  bd2 (aStore 1 t36 t34 s) fun _ s2 =>
  bd (aNil a0) fun t38 =>
  bd (aFieldAddr 0 t38) fun t39 =>
  bd (aLoad1 t39 s2.get) fun t40 =>
  bd (aNil a0) fun t42 =>
  bd (aFieldAddr 1 t42) fun t43 =>
  bd (aLoad1 t43 s2.get) fun t44 =>
  bd (aConv .i64 a1) fun t46 =>
  bd (aBin .sub t44 t46) fun t47 =>
  bd (aNil a0) fun t49 =>
  bd (aFieldAddr 1 t49) fun t50 =>
  bd (aLoad1 t50 s2.get) fun t51 =>
  bd (aPieceStr t40 (some t47) (some t51) none) fun t52 =>
  some (t52, s2))

theorem f59_eq (callf : CallF) (N : Nat) (a0 : T) (a1 : T) (s : St) : bodyC Tryz.prog callf N Tryz.f59 [a0, a1] s = f59 callf N a0 a1 s := by kernel_rfl

theorem f59_run (d : Nat) (a0 : T) (a1 : T) (s : St) : R (d + 1) 59 [a0, a1] s = f59 (R d) 8192 a0 a1 s := (runQ_body rfl Tryz.func59 (by kernel_rfl)).trans (f59_eq ..)

/- twinkeep/twinkeepref5.Parse: a loop; 0: t0 s, 1: t2 , 2: t5 p, 3: t6 was, 4: t7 from, 5: t8 n, 6: t9 i -/
def f64_l1 (callf : CallF) (N : Nat) (v : List T) (s : St) : Option (JO × St) :=
  bd (aLenStr (v.getD 0 .any)) fun t15 =>
  bd (aBin .leq (v.getD 6 .any) t15) fun t16 =>
  br t16 (jn (bd (aLenStr (v.getD 0 .any)) fun t21 =>
  bd (aBin .lss (v.getD 6 .any) t21) fun t22 =>
  bd (gT (gd t22 true) (some (v.getD 0 .any))) fun t24 =>
  bd (gT (gd t22 true) (some (v.getD 6 .any))) fun t25 =>
  bd (gT (gd t22 true) (aAtStr t24 t25)) fun t26 =>
  bd (gT (gd t22 true) (aBin .neq t26 (I .u8 10))) fun t27 =>
  bd (aPick t22 t27 (B false)) fun t28 =>
  br t28 (some (.normal [(v.getD 0 .any), (v.getD 1 .any), (v.getD 2 .any), (v.getD 3 .any), (v.getD 4 .any), (v.getD 5 .any), (v.getD 6 .any)], s))
  (bd (aBin .add (v.getD 5 .any) (I .i64 1)) fun t30 =>
  bd (aPieceStr (v.getD 0 .any) (some (v.getD 4 .any)) (some (v.getD 6 .any)) none) fun t34 =>
  bd2 (callf 83 [t34] s) fun t35 s6 =>
  bd (aLenSl t35) fun t37 =>
  bd (aBin .gtr t37 (I .i64 0)) fun t38 =>
  bd (gT (gd t38 true) (some (v.getD 3 .any))) fun t40 =>
  bd (gT (gd t38 true) (some t35)) fun t41 =>
  bd2 (gS (gd t38 true) s6 (callf 84 [(v.getD 2 .any), t40, t41] s6)) fun t42 s7 =>
  bd (gT (gd t38 true) (aUn .not t42)) fun t43 =>
  bd (aPick t38 t43 (B false)) fun t44 =>
  br t44 (bd (asAggT (aFill [.int .i64 0, .int .i64 0, .int .i64 0, .int .i64 0, .int .i64 0, .int .i64 0] [])) fun t45 =>
  bd2 (aStore 6 (v.getD 1 .any) t45 s7) fun _ s8 =>
  bd (rC (aLoadN 6 (v.getD 1 .any) s8.get) (rT (I .i64 4) (rT t30 (some [])))) fun l9 => bd (retT l9) fun r10 =>
  some (.ret r10, s8))
  (bd (aBin .add (v.getD 6 .any) (I .i64 1)) fun t48 =>
  some (.normal [(v.getD 0 .any), (v.getD 1 .any), (v.getD 2 .any), (v.getD 3 .any), t48, t30, (v.getD 6 .any)], s7))))
  (fun v11 s12 => bd (aBin .add (v11.getD 6 .any) (I .i64 1)) fun t18 =>
  some (.normal [(v11.getD 0 .any), (v11.getD 1 .any), (v11.getD 2 .any), (v11.getD 3 .any), (v11.getD 4 .any), (v11.getD 5 .any), t18], s12))
  (fun i13 v11 s12 => some (.exit i13 v11, s12))
  (fun r14 s12 => some (.ret r14, s12)))
  (some (.exit 0 [(v.getD 1 .any), (v.getD 2 .any)], s))

/- twinkeep/twinkeepref5.Parse -/
def f64 (callf : CallF) (N : Nat) (a0 : T) (s : St) : Option (T × St) :=
  bd2 (aNew s (nCells [.int .i64 0, .int .i64 0, .int .i64 0, .int .i64 0, .int .i64 0, .int .i64 0])) fun t2 s1 =>
  bd2 (callf 60 [] s1) fun t11 s2 =>
  bd2 (aNew s2 (nCells [.int .i64 0, .int .i64 0, .int .i64 0, .int .i64 0, .int .i64 0, .int .i64 0])) fun t5 s3 =>
  bd2 (aStore 6 t5 t11 s3) fun _ s4 =>
  bd2 (aNew s4 (nMake 1 1 [.bool false] (I .i64 6) (I .i64 6))) fun t12 s5 =>
  jn (jn (loops (f64_l1 callf N) N [a0, t2, t5, t12, (I .i64 0), (I .i64 0), (I .i64 0)] s5)
  (fun v15 s16 => some (.normal [.any, .any], s16))
  (fun i17 v15 s16 => if i17 = 0 then some (.normal v15, s16) else some (.exit i17 v15, s16))
  (fun r18 s16 => some (.ret r18, s16)))
  (fun v19 s20 => bd (aLoadN 6 (v19.getD 1 .any) s20.get) fun t49 =>
  bd2 (callf 85 [t49] s20) fun t50 s23 =>
  bd (aUn .not t50) fun t51 =>
  br t51 (bd (asAggT (aFill [.int .i64 0, .int .i64 0, .int .i64 0, .int .i64 0, .int .i64 0, .int .i64 0] [])) fun t52 =>
  bd2 (aStore 6 (v19.getD 0 .any) t52 s23) fun _ s24 =>
  bd (rC (aLoadN 6 (v19.getD 0 .any) s24.get) (rT (I .i64 5) (rT (I .i64 0) (some [])))) fun l25 => bd (retT l25) fun r26 =>
  some (r26, s24))
  (bd (aLoadN 6 (v19.getD 1 .any) s23.get) fun t53 =>
  bd2 (aStore 6 (v19.getD 0 .any) t53 s23) fun _ s27 =>
  bd (rC (aLoadN 6 (v19.getD 0 .any) s27.get) (rT (I .i64 0) (rT (I .i64 0) (some [])))) fun l28 => bd (retT l28) fun r29 =>
  some (r29, s27)))
  (fun i21 v19 s20 => none)
  (fun r22 s20 => some (r22, s20))

theorem f64_eq (callf : CallF) (N : Nat) (a0 : T) (s : St) : bodyC Tryz.prog callf N Tryz.f64 [a0] s = f64 callf N a0 s := by kernel_rfl

theorem f64_run (d : Nat) (a0 : T) (s : St) : R (d + 1) 64 [a0] s = f64 (R d) 8192 a0 s := (runQ_body rfl Tryz.func64 (by kernel_rfl)).trans (f64_eq ..)

/- twinkeep/twinkeepref5.words: a loop; 0: t0 s, 1: t3 out, 2: t4 from, 3: t5 i -/
def f83_l1 (callf : CallF) (N : Nat) (v : List T) (s : St) : Option (JO × St) :=
  bd (aLenStr (v.getD 0 .any)) fun t9 =>
  bd (aBin .leq (v.getD 3 .any) t9) fun t10 =>
  br t10 (jn (bd (aLenStr (v.getD 0 .any)) fun t15 =>
  bd (aBin .eql (v.getD 3 .any) t15) fun t16 =>
  bd (gT (gd t16 false) (some (v.getD 0 .any))) fun t18 =>
  bd (gT (gd t16 false) (some (v.getD 3 .any))) fun t19 =>
  bd (gT (gd t16 false) (aAtStr t18 t19)) fun t20 =>
  bd (gT (gd t16 false) (aBin .eql t20 (I .u8 35))) fun t21 =>
  bd (aPick t16 (B true) t21) fun t22 =>
  bd (gT (gd t22 false) (some (v.getD 0 .any))) fun t25 =>
  bd (gT (gd t22 false) (some (v.getD 3 .any))) fun t26 =>
  bd (gT (gd t22 false) (aAtStr t25 t26)) fun t27 =>
  bd (gT (gd t22 false) (aBin .eql t27 (I .u8 32))) fun t28 =>
  bd (aPick t22 (B true) t28) fun t29 =>
  jn (br t29 (bd (aBin .gtr (v.getD 3 .any) (v.getD 2 .any)) fun t32 =>
  jn (br t32 (bd (aPieceStr (v.getD 0 .any) (some (v.getD 2 .any)) (some (v.getD 3 .any)) none) fun t37 =>
  bd2 (aNew s (nSlice 1 (aFill [.str []] [(0, 1, t37)]))) fun t38 s1 =>
  bd2 (aAppend 1 16 (v.getD 1 .any) t38 s1) fun t39 s2 =>
  some (.normal [(v.getD 0 .any), t39, (v.getD 3 .any), t22], s2))
  (some (.normal [(v.getD 0 .any), (v.getD 1 .any), (v.getD 3 .any), t22], s)))
  (fun v3 s4 => bd (aBin .add (v3.getD 2 .any) (I .i64 1)) fun t41 =>
  some (.normal [(v3.getD 0 .any), (v3.getD 1 .any), t41, (v3.getD 2 .any), (v3.getD 3 .any)], s4))
  (fun i5 v3 s4 => some (.exit i5 v3, s4))
  (fun r6 s4 => some (.ret r6, s4)))
  (some (.normal [(v.getD 0 .any), (v.getD 1 .any), (v.getD 2 .any), (v.getD 3 .any), t22], s)))
  (fun v7 s8 => br (v7.getD 4 .any) (some (.exit 0 [(v7.getD 1 .any)], s8))
  (some (.normal [(v7.getD 0 .any), (v7.getD 1 .any), (v7.getD 2 .any), (v7.getD 3 .any)], s8)))
  (fun i9 v7 s8 => if i9 = 1 then some (.normal v7, s8) else some (.exit i9 v7, s8))
  (fun r10 s8 => some (.ret r10, s8)))
  (fun v11 s12 => bd (aBin .add (v11.getD 3 .any) (I .i64 1)) fun t12 =>
  some (.normal [(v11.getD 0 .any), (v11.getD 1 .any), (v11.getD 2 .any), t12], s12))
  (fun i13 v11 s12 => some (.exit i13 v11, s12))
  (fun r14 s12 => some (.ret r14, s12)))
  (some (.exit 0 [(v.getD 1 .any)], s))

/- twinkeep/twinkeepref5.words -/
def f83 (callf : CallF) (N : Nat) (a0 : T) (s : St) : Option (T × St) :=
  jn (jn (loops (f83_l1 callf N) N [a0, (Z .nils), (I .i64 0), (I .i64 0)] s)
  (fun v15 s16 => some (.normal [.any], s16))
  (fun i17 v15 s16 => if i17 = 0 then some (.normal v15, s16) else some (.exit i17 v15, s16))
  (fun r18 s16 => some (.ret r18, s16)))
  (fun v19 s20 => some ((v19.getD 0 .any), s20))
  (fun i21 v19 s20 => none)
  (fun r22 s20 => some (r22, s20))

theorem f83_eq (callf : CallF) (N : Nat) (a0 : T) (s : St) : bodyC Tryz.prog callf N Tryz.f83 [a0] s = f83 callf N a0 s := by kernel_rfl

theorem f83_run (d : Nat) (a0 : T) (s : St) : R (d + 1) 83 [a0] s = f83 (R d) 8192 a0 s := (runQ_body rfl Tryz.func83 (by kernel_rfl)).trans (f83_eq ..)

/- twinkeep/twinkeepref5.line: a loop; 0: t0 p, 1: t1 was, 2: t2 l, 3: t7 n, 4: t8 i -/
def f84_l1 (callf : CallF) (N : Nat) (v : List T) (s : St) : Option (JO × St) :=
  bd (aBin .lss (v.getD 4 .any) (I .i64 4)) fun t27 =>
  br t27 (jn (bd2 (callf 100 [] s) fun t30 s6 =>
  bd (aIndexSl 1 t30 (v.getD 4 .any)) fun t32 =>
  bd (aLoad1 t32 s6.get) fun t33 =>
  bd (aIndexSl 1 (v.getD 2 .any) (I .i64 1)) fun t35 =>
  bd (aLoad1 t35 s6.get) fun t36 =>
  bd (aBin .eql t33 t36) fun t37 =>
  bd (gT (gd t37 true) (some (v.getD 3 .any))) fun t39 =>
  bd (gT (gd t37 true) (aBin .geq t39 (I .i64 0))) fun t40 =>
  bd (aPick t37 t40 (B false)) fun t41 =>
  bd (gT (gd t41 true) (some (v.getD 1 .any))) fun t43 =>
  bd (gT (gd t41 true) (some (v.getD 4 .any))) fun t44 =>
  bd (gT (gd t41 true) (aIndexSl 1 t43 t44)) fun t45 =>
  bd (gT (gd t41 true) (aLoad1 t45 s6.get)) fun t46 =>
  bd (gT (gd t41 true) (aUn .not t46)) fun t47 =>
  bd (aPick t41 t47 (B false)) fun t48 =>
  ck ((decide (aLoad1 t35 s.get = aLoad1 t35 s6.get) && true) && true) (br t48 (bd (aNil (v.getD 0 .any)) fun t52 =>
  bd (aFieldAddr 0 t52) fun t53 =>
  bd (aIndexArr 4 1 t53 (v.getD 4 .any)) fun t54 =>
  bd2 (aStore 1 t54 (v.getD 3 .any) s6) fun _ s7 =>
  bd (aIndexSl 1 (v.getD 1 .any) (v.getD 4 .any)) fun t57 =>
  bd2 (aStore 1 t57 (B true) s7) fun _ s8 =>
  some (.ret (B true), s8))
  (some (.normal [(v.getD 0 .any), (v.getD 1 .any), (v.getD 2 .any), (v.getD 3 .any), (v.getD 4 .any)], s6))))
  (fun v9 s10 => bd (aBin .add (v9.getD 4 .any) (I .i64 1)) fun t29 =>
  some (.normal [(v9.getD 0 .any), (v9.getD 1 .any), (v9.getD 2 .any), (v9.getD 3 .any), t29], s10))
  (fun i11 v9 s10 => some (.exit i11 v9, s10))
  (fun r12 s10 => some (.ret r12, s10)))
  (some (.exit 0 [], s))

/- twinkeep/twinkeepref5.line -/
def f84 (callf : CallF) (N : Nat) (a0 : T) (a1 : T) (a2 : T) (s : St) : Option (T × St) :=
  bd (aLenSl a2) fun t10 =>
  bd (aBin .eql t10 (I .i64 3)) fun t11 =>
  bd (gT (gd t11 true) (some a2)) fun t13 =>
  bd (gT (gd t11 true) (aIndexSl 1 t13 (I .i64 0))) fun t14 =>
  bd (gT (gd t11 true) (aLoad1 t14 s.get)) fun t15 =>
  bd (gT (gd t11 true) (aBin .eql t15 (Z (.str [107, 101, 101, 112])))) fun t16 =>
  bd (aPick t11 t16 (B false)) fun t17 =>
  br t17 (bd (aIndexSl 1 a2 (I .i64 2)) fun t19 =>
  bd (aLoad1 t19 s.get) fun t20 =>
  bd2 (callf 99 [t20] s) fun t21 s1 =>
  bd (aIndexSl 1 a2 (I .i64 2)) fun t23 =>
  bd (aLoad1 t23 s1.get) fun t24 =>
  bd (aBin .eql t24 (Z (.str [101, 118, 101, 114]))) fun t25 =>
  jn (br t25 (some (.normal [a0, a1, a2, (I .i64 0)], s1))
  (some (.normal [a0, a1, a2, t21], s1)))
  (fun v2 s3 => jn (jn (loops (f84_l1 callf N) N [(v2.getD 0 .any), (v2.getD 1 .any), (v2.getD 2 .any), (v2.getD 3 .any), (I .i64 0)] s3)
  (fun v13 s14 => some (.normal [], s14))
  (fun i15 v13 s14 => if i15 = 0 then some (.normal v13, s14) else some (.exit i15 v13, s14))
  (fun r16 s14 => some (.ret r16, s14)))
  (fun v17 s18 => some ((B false), s18))
  (fun i19 v17 s18 => none)
  (fun r20 s18 => some (r20, s18)))
  (fun i4 v2 s3 => none)
  (fun r5 s3 => some (r5, s3)))
  (bd (aLenSl a2) fun t59 =>
  bd (aBin .neq t59 (I .i64 2)) fun t60 =>
  bd (gT (gd t60 false) (some a2)) fun t62 =>
  bd (gT (gd t60 false) (aIndexSl 1 t62 (I .i64 1))) fun t63 =>
  bd (gT (gd t60 false) (aLoad1 t63 s.get)) fun t64 =>
  bd2 (gS (gd t60 false) s (callf 99 [t64] s)) fun t65 s21 =>
  bd (gT (gd t60 false) (aBin .lss t65 (I .i64 0))) fun t66 =>
  bd (aPick t60 (B true) t66) fun t67 =>
  br t67 (some ((B false), s21))
  (bd (aIndexSl 1 a2 (I .i64 0)) fun t69 =>
  bd (aLoad1 t69 s21.get) fun t70 =>
  bd (aBin .eql t70 (Z (.str [115, 101, 97, 108]))) fun t71 =>
  bd (gT (gd t71 true) (some a1)) fun t73 =>
  bd (gT (gd t71 true) (aIndexSl 1 t73 (I .i64 4))) fun t74 =>
  bd (gT (gd t71 true) (aLoad1 t74 s21.get)) fun t75 =>
  bd (gT (gd t71 true) (aUn .not t75)) fun t76 =>
  bd (aPick t71 t76 (B false)) fun t77 =>
  br t77 (bd (aIndexSl 1 a2 (I .i64 1)) fun t80 =>
  bd (aLoad1 t80 s21.get) fun t81 =>
  bd2 (callf 99 [t81] s21) fun t82 s22 =>
  bd (aNil a0) fun t83 =>
  bd (aFieldAddr 4 t83) fun t84 =>
  bd2 (aStore 1 t84 t82 s22) fun _ s23 =>
  bd (aIndexSl 1 a1 (I .i64 4)) fun t86 =>
  bd2 (aStore 1 t86 (B true) s23) fun _ s24 =>
  some ((B true), s24))
  (bd (aIndexSl 1 a2 (I .i64 0)) fun t88 =>
  bd (aLoad1 t88 s21.get) fun t89 =>
  bd (aBin .eql t89 (Z (.str [115, 112, 97, 110]))) fun t90 =>
  bd (gT (gd t90 true) (some a1)) fun t92 =>
  bd (gT (gd t90 true) (aIndexSl 1 t92 (I .i64 5))) fun t93 =>
  bd (gT (gd t90 true) (aLoad1 t93 s21.get)) fun t94 =>
  bd (gT (gd t90 true) (aUn .not t94)) fun t95 =>
  bd (aPick t90 t95 (B false)) fun t96 =>
  br t96 (bd (aIndexSl 1 a2 (I .i64 1)) fun t99 =>
  bd (aLoad1 t99 s21.get) fun t100 =>
  bd2 (callf 99 [t100] s21) fun t101 s25 =>
  bd (aNil a0) fun t102 =>
  bd (aFieldAddr 5 t102) fun t103 =>
  bd2 (aStore 1 t103 t101 s25) fun _ s26 =>
  bd (aIndexSl 1 a1 (I .i64 5)) fun t105 =>
  bd2 (aStore 1 t105 (B true) s26) fun _ s27 =>
  some ((B true), s27))
  (some ((B false), s21)))))

theorem f84_eq (callf : CallF) (N : Nat) (a0 : T) (a1 : T) (a2 : T) (s : St) : bodyC Tryz.prog callf N Tryz.f84 [a0, a1, a2] s = f84 callf N a0 a1 a2 s := by kernel_rfl

theorem f84_run (d : Nat) (a0 : T) (a1 : T) (a2 : T) (s : St) : R (d + 1) 84 [a0, a1, a2] s = f84 (R d) 8192 a0 a1 a2 s := (runQ_body rfl Tryz.func84 (by kernel_rfl)).trans (f84_eq ..)

/- twinkeep/twinkeepref5.number: a loop; 0: t0 s, 1: t3 n, 2: t4 i -/
def f99_l1 (callf : CallF) (N : Nat) (v : List T) (s : St) : Option (JO × St) :=
  bd (aLenStr (v.getD 0 .any)) fun t15 =>
  bd (aBin .lss (v.getD 2 .any) t15) fun t16 =>
  br t16 (jn (bd (aAtStr (v.getD 0 .any) (v.getD 2 .any)) fun t21 =>
  bd (aBin .lss t21 (I .u8 48)) fun t22 =>
  bd (gT (gd t22 false) (some (v.getD 0 .any))) fun t24 =>
  bd (gT (gd t22 false) (some (v.getD 2 .any))) fun t25 =>
  bd (gT (gd t22 false) (aAtStr t24 t25)) fun t26 =>
  bd (gT (gd t22 false) (aBin .gtr t26 (I .u8 57))) fun t27 =>
  bd (aPick t22 (B true) t27) fun t28 =>
  br t28 (some (.ret (I .i64 (-1)), s))
  (bd (aBin .mul (v.getD 1 .any) (I .i64 10)) fun t30 =>
  bd (aAtStr (v.getD 0 .any) (v.getD 2 .any)) fun t33 =>
  bd (aBin .sub t33 (I .u8 48)) fun t34 =>
  bd (aConv .i64 t34) fun t35 =>
  bd (aBin .add t30 t35) fun t36 =>
  some (.normal [(v.getD 0 .any), t36, (v.getD 2 .any)], s)))
  (fun v1 s2 => bd (aBin .add (v1.getD 2 .any) (I .i64 1)) fun t18 =>
  some (.normal [(v1.getD 0 .any), (v1.getD 1 .any), t18], s2))
  (fun i3 v1 s2 => some (.exit i3 v1, s2))
  (fun r4 s2 => some (.ret r4, s2)))
  (some (.exit 0 [(v.getD 1 .any)], s))

/- twinkeep/twinkeepref5.number -/
def f99 (callf : CallF) (N : Nat) (a0 : T) (s : St) : Option (T × St) :=
  bd (aLenStr a0) fun t6 =>
  bd (aBin .lss t6 (I .i64 1)) fun t7 =>
  bd (gT (gd t7 false) (some a0)) fun t9 =>
  bd (gT (gd t7 false) (aLenStr t9)) fun t10 =>
  bd (gT (gd t7 false) (aBin .gtr t10 (I .i64 13))) fun t11 =>
  bd (aPick t7 (B true) t11) fun t12 =>
  br t12 (some ((I .i64 (-1)), s))
  (jn (jn (loops (f99_l1 callf N) N [a0, (I .i64 0), (I .i64 0)] s)
  (fun v5 s6 => some (.normal [.any], s6))
  (fun i7 v5 s6 => if i7 = 0 then some (.normal v5, s6) else some (.exit i7 v5, s6))
  (fun r8 s6 => some (.ret r8, s6)))
  (fun v9 s10 => some ((v9.getD 0 .any), s10))
  (fun i11 v9 s10 => none)
  (fun r12 s10 => some (r12, s10)))

theorem f99_eq (callf : CallF) (N : Nat) (a0 : T) (s : St) : bodyC Tryz.prog callf N Tryz.f99 [a0] s = f99 callf N a0 s := by kernel_rfl

theorem f99_run (d : Nat) (a0 : T) (s : St) : R (d + 1) 99 [a0] s = f99 (R d) 8192 a0 s := (runQ_body rfl Tryz.func99 (by kernel_rfl)).trans (f99_eq ..)

/- twinkeep/twinkeepref5.names -/
def f100 (callf : CallF) (N : Nat) (s : St) : Option (T × St) :=
  bd2 (aNew s (nSlice 4 (aFill [.str [], .str [], .str [], .str []] [(0, 1, (Z (.str [114, 97, 119]))), (1, 1, (Z (.str [53, 109]))), (2, 1, (Z (.str [49, 104]))), (3, 1, (Z (.str [49, 100])))]))) fun t1 s1 =>
  some (t1, s1)

theorem f100_eq (callf : CallF) (N : Nat) (s : St) : bodyC Tryz.prog callf N Tryz.f100 [] s = f100 callf N s := by kernel_rfl

theorem f100_run (d : Nat) (s : St) : R (d + 1) 100 [] s = f100 (R d) 8192 s := (runQ_body rfl Tryz.func100 (by kernel_rfl)).trans (f100_eq ..)

/- twinkeep/twinkeepref5.MayPolicy: a loop; 0: t1 p, 1: t3 i -/
def f85_l1 (callf : CallF) (N : Nat) (v : List T) (s : St) : Option (JO × St) :=
  bd (aBin .lss (v.getD 1 .any) (I .i64 4)) fun t6 =>
  br t6 (jn (bd (aFieldAddr 0 (v.getD 0 .any)) fun t10 =>
  bd (aIndexArr 4 1 t10 (v.getD 1 .any)) fun t11 =>
  bd (aLoad1 t11 s.get) fun t12 =>
  bd (aBin .lss t12 (I .i64 0)) fun t14 =>
  bd (gT (gd t14 false) (some t12)) fun t16 =>
  bd (gT (gd t14 false) (aBin .gtr t16 (I .i64 1099511627776))) fun t17 =>
  bd (aPick t14 (B true) t17) fun t18 =>
  bd (gT (gd t18 false) (some (v.getD 1 .any))) fun t20 =>
  bd (gT (gd t18 false) (aBin .gtr t20 (I .i64 0))) fun t21 =>
  bd (gT (gd t18 false) (some t21)) fun t22 =>
  bd (gT (gd t22 true) (some t12)) fun t23 =>
  bd (gT (gd t22 true) (aBin .neq t23 (I .i64 0))) fun t24 =>
  bd (gT (gd t22 true) (some t24)) fun t25 =>
  bd (gT (gd t25 true) (some t12)) fun t26 =>
  bd (gT (gd t25 true) (some (v.getD 1 .any))) fun t27 =>
  bd (gT (gd t25 true) (aBin .sub t27 (I .i64 1))) fun t28 =>
  bd (gT (gd t25 true) (aFieldAddr 0 (v.getD 0 .any))) fun t29 =>
  bd (gT (gd t25 true) (aIndexArr 4 1 t29 t28)) fun t30 =>
  bd (gT (gd t25 true) (aLoad1 t30 s.get)) fun t31 =>
  bd (gT (gd t25 true) (aBin .lss t26 t31)) fun t32 =>
  bd (gT (gd t22 true) (aPick t25 t32 (B false))) fun t33 =>
  bd (gT (gd t22 true) (some t33)) fun t34 =>
  bd (gT (gd t34 false) (some t12)) fun t35 =>
  bd (gT (gd t34 false) (aBin .neq t35 (I .i64 0))) fun t36 =>
  bd (gT (gd t34 false) (some t36)) fun t37 =>
  bd (gT (gd t37 true) (some (v.getD 1 .any))) fun t38 =>
  bd (gT (gd t37 true) (aBin .sub t38 (I .i64 1))) fun t39 =>
  bd (gT (gd t37 true) (aFieldAddr 0 (v.getD 0 .any))) fun t40 =>
  bd (gT (gd t37 true) (aIndexArr 4 1 t40 t39)) fun t41 =>
  bd (gT (gd t37 true) (aLoad1 t41 s.get)) fun t42 =>
  bd (gT (gd t37 true) (aBin .eql t42 (I .i64 0))) fun t43 =>
  bd (gT (gd t34 false) (aPick t37 t43 (B false))) fun t44 =>
  bd (gT (gd t22 true) (aPick t34 (B true) t44)) fun t45 =>
  bd (gT (gd t18 false) (aPick t22 t45 (B false))) fun t46 =>
  bd (aPick t18 (B true) t46) fun t47 =>
  br t47 (some (.ret (B false), s))
  (some (.normal [(v.getD 0 .any), (v.getD 1 .any)], s)))
  (fun v2 s3 => bd (aBin .add (v2.getD 1 .any) (I .i64 1)) fun t8 =>
  some (.normal [(v2.getD 0 .any), t8], s3))
  (fun i4 v2 s3 => some (.exit i4 v2, s3))
  (fun r5 s3 => some (.ret r5, s3)))
  (some (.exit 0 [(v.getD 0 .any)], s))

/- twinkeep/twinkeepref5.MayPolicy -/
def f85 (callf : CallF) (N : Nat) (a0 : T) (s : St) : Option (T × St) :=
  bd2 (aNew s (nBox a0)) fun t1 s1 =>
  jn (jn (loops (f85_l1 callf N) N [t1, (I .i64 0)] s1)
  (fun v6 s7 => some (.normal [.any], s7))
  (fun i8 v6 s7 => if i8 = 0 then some (.normal v6, s7) else some (.exit i8 v6, s7))
  (fun r9 s7 => some (.ret r9, s7)))
  (fun v10 s11 => bd (aFieldAddr 0 (v10.getD 0 .any)) fun t48 =>
  bd (aIndexArr 4 1 t48 (I .i64 3)) fun t49 =>
  bd (aLoad1 t49 s11.get) fun t50 =>
  bd (aBin .eql t50 (I .i64 0)) fun t51 =>
  bd (gT (gd t51 true) (aFieldAddr 4 (v10.getD 0 .any))) fun t53 =>
  bd (gT (gd t51 true) (aLoad1 t53 s11.get)) fun t54 =>
  bd (gT (gd t51 true) (aBin .geq t54 (I .i64 1))) fun t55 =>
  bd (aPick t51 t55 (B false)) fun t56 =>
  bd (gT (gd t56 true) (aFieldAddr 4 (v10.getD 0 .any))) fun t58 =>
  bd (gT (gd t56 true) (aLoad1 t58 s11.get)) fun t59 =>
  bd (gT (gd t56 true) (aBin .leq t59 (I .i64 64))) fun t60 =>
  bd (aPick t56 t60 (B false)) fun t61 =>
  bd (gT (gd t61 true) (aFieldAddr 5 (v10.getD 0 .any))) fun t63 =>
  bd (gT (gd t61 true) (aLoad1 t63 s11.get)) fun t64 =>
  bd (gT (gd t61 true) (aBin .geq t64 (I .i64 1))) fun t65 =>
  bd (aPick t61 t65 (B false)) fun t66 =>
  bd (gT (gd t66 true) (aFieldAddr 5 (v10.getD 0 .any))) fun t68 =>
  bd (gT (gd t66 true) (aLoad1 t68 s11.get)) fun t69 =>
  bd (gT (gd t66 true) (aBin .leq t69 (I .i64 200))) fun t70 =>
  bd (aPick t66 t70 (B false)) fun t71 =>
  some (t71, s11))
  (fun i12 v10 s11 => none)
  (fun r13 s11 => some (r13, s11))

theorem f85_eq (callf : CallF) (N : Nat) (a0 : T) (s : St) : bodyC Tryz.prog callf N Tryz.f85 [a0] s = f85 callf N a0 s := by kernel_rfl

theorem f85_run (d : Nat) (a0 : T) (s : St) : R (d + 1) 85 [a0] s = f85 (R d) 8192 a0 s := (runQ_body rfl Tryz.func85 (by kernel_rfl)).trans (f85_eq ..)

/- twinkeep/twinkeepref5.Default -/
def f60 (callf : CallF) (N : Nat) (s : St) : Option (T × St) :=
  bd2 (aNew s (nCells [.int .i64 0, .int .i64 0, .int .i64 0, .int .i64 0, .int .i64 0, .int .i64 0])) fun t0 s1 =>
  bd (asAggT (aFill [.int .i64 0, .int .i64 0, .int .i64 0, .int .i64 0] [(0, 1, (I .i64 60)), (1, 1, (I .i64 600)), (2, 1, (I .i64 6000)), (3, 1, (I .i64 0))])) fun t1 =>
  bd (asAggT (aFill [.int .i64 0, .int .i64 0, .int .i64 0, .int .i64 0, .int .i64 0, .int .i64 0] [(0, 4, t1), (4, 1, (I .i64 8)), (5, 1, (I .i64 30))])) fun t2 =>
  bd2 (aStore 6 t0 t2 s1) fun _ s2 =>
  bd (rC (aLoadN 6 t0 s2.get) (some [])) fun l3 => bd (retT l3) fun r4 =>
  some (r4, s2)

theorem f60_eq (callf : CallF) (N : Nat) (s : St) : bodyC Tryz.prog callf N Tryz.f60 [] s = f60 callf N s := by kernel_rfl

theorem f60_run (d : Nat) (s : St) : R (d + 1) 60 [] s = f60 (R d) 8192 s := (runQ_body rfl Tryz.func60 (by kernel_rfl)).trans (f60_eq ..)

end
end Go.Proofs.YtlhbidbdmdcdeaaGreatDoor

/-
  What functions that the laws reach compute, printed by a program of our own: each text is by definition the run of the code. No conditions.
-/
namespace Go.Proofs.YtlhbidbdmdcdeaaGreatDoor
end Go.Proofs.YtlhbidbdmdcdeaaGreatDoor

/-
  Pieces of texts: what strings.Split, Cut, slices.Index and Contains compute, in any store. No conditions but those named in each line.
-/
namespace Go.Proofs.YtlhbidbdmdcdeaaGreatDoor
open Go Go.Abs Go.Abs.F
set_option linter.unusedVariables false
section
variable {s t : St} {x y : S} {l : Bs} {c : UInt8}

theorem index_run (d : Nat) : R (d + 1) 104 [Z (.str l), Z (.str [c])] s = some (I .i64 (ixB c l 0), s) := runQ_prim (prim_ix (by decide))
theorem index2_run (d : Nat) : R (d + 1) 105 [Z (.str l), Z (.str [c])] s = some (I .i64 (ixB c l 0), s) := runQ_prim (prim_ix (by decide))
theorem count_run (d : Nat) : R (d + 1) 103 [Z (.str l), Z (.str [c])] s = some (I .i64 (cntB c l : Nat), s) := runQ_prim prim_cnt

theorem cut_run (d : Nat) (hl : l.length ≤ 100000) : R (d + 3) 78 [Z (.str l), Z (.str [c])] s = some (.tup [.s (.str (l.takeWhile fun b => !Nat.beq b.toNat c.toNat)), .s (.str (match ixB c l 0 with | .ofNat m => l.drop (m + 1) | _ => [])), .s (.bool (decide (0 ≤ ixB c l 0)))], s) := by
  have key : R (d + 2) 92 [Z (.str l), Z (.str [c])] s = some (.tup [.s (.str (l.takeWhile fun b => !Nat.beq b.toNat c.toNat)), .s (.str (match ixB c l 0 with | .ofNat m => l.drop (m + 1) | _ => [])), .s (.bool (decide (0 ≤ ixB c l 0)))], s) := by
    rw [f92_run]
    unfold f92
    have e := index2_run (s := s) (l := l) (c := c) d
    rcases cut_first c l with ⟨h1, h2⟩ | ⟨m, h0, h1, h2⟩
    · rw [h1] at e ⊢
      have c0 : ¬ (0 : Int) ≤ -1 := by decide
      simp [e, c0, h2, retT, allV]
    · rw [h1] at e ⊢
      have c0 : (0 : Int) ≤ (m : Int) := by omega
      have w1 : IntKind.i64.wrap ((m : Int) + 1) = ((m + 1 : Nat) : Int) := by rw [wrap_in _ (by omega) (by omega)]; omega
      have p1 := aPieceStr_hi (l := l) (m := m) (n := (m : Int)) rfl (by omega)
      have p2 := aPieceStr_lo (l := l) (m := m + 1) (n := ((m + 1 : Nat) : Int)) rfl (by omega)
      generalize ((m + 1 : Nat) : Int) = M1 at w1 p2
      have hd : (match ((m : Nat) : Int) with | .ofNat m => l.drop (m + 1) | _ => []) = l.drop (m + 1) := rfl
      rw [hd]
      generalize ((m : Nat) : Int) = M at *
      simp [e, c0, h2, p1, w1, p2, retT, allV]
  rw [f78_run]
  unfold f78
  simp [key, aExtract, retT, allV]

theorem splitLoop (r : CallF) (hix : ∀ (l : Bs) (u : St), r 104 [Z (.str l), Z (.str [c])] u = some (I .i64 (ixB c l 0), u)) (hl : l.length ≤ 8000) (wf : s.wf) :
    ∃ (m : Bs) (done : List Bs) (τ : St), loops (f91_l1 r 8192) 8192 [Z (.str l), Z (.str [c]), I .i64 0, I .i64 (cntB c l : Nat), Z (.sl s.size 0 (cntB c l + 1) (.known (cntB c l + 1))), I .i64 0] (s.push (.cells true (List.replicate (cntB c l + 1) (.str [])))) =
        some (.exit 0 [Z (.str m), Z (.sl s.size 0 (cntB c l + 1) (.known (cntB c l + 1))), I .i64 (cntB c l : Nat)], τ) ∧ τ.wf ∧ τ.size = s.size + 1 ∧ (∀ b, b < s.size → τ.get b = s.get b) ∧ done ++ [m] = splitB c l ∧ done.length = cntB c l ∧
        τ.get s.size = some (.cells true (strS done ++ [.str []])) := by
  obtain ⟨n, hn⟩ : ∃ n, n = cntB c l := ⟨_, rfl⟩
  have hnl := cntB_le c l
  rw [← hn] at hnl
  rw [← hn]
  obtain ⟨j, τ, lp, m, done, rfl, q1, q2, q3, q4, q5, q6⟩ := loops_inv (f := f91_l1 r 8192) (fun q v u => ∃ (m : Bs) (done : List Bs), q + done.length = n ∧ v = [Z (.str m), Z (.str [c]), I .i64 0, I .i64 (n : Nat), Z (.sl s.size 0 (n + 1) (.known (n + 1))), I .i64 (done.length : Nat)] ∧ u.wf ∧ u.size = s.size + 1 ∧ (∀ b, b < s.size → u.get b = s.get b) ∧
      done ++ splitB c m = splitB c l ∧ cntB c m = q ∧ m.length ≤ l.length ∧ u.get s.size = some (.cells true (strS done ++ List.replicate (n + 1 - done.length) (.str []))))
    (fun j u => ∃ (m : Bs) (done : List Bs), j = .exit 0 [Z (.str m), Z (.sl s.size 0 (n + 1) (.known (n + 1))), I .i64 (n : Nat)] ∧ u.wf ∧ u.size = s.size + 1 ∧ (∀ b, b < s.size → u.get b = s.get b) ∧ done ++ [m] = splitB c l ∧ done.length = n ∧ u.get s.size = some (.cells true (strS done ++ [.str []]))) (by
    rintro q v u ⟨m, done, hq, rfl, h1, h2, h3, h4, h5, h6, h7⟩
    rcases split_first c m with ⟨k1, k2, k3⟩ | ⟨i, k0, k1, k2, k3⟩
    · right
      have : q = 0 := by omega
      subst this
      have hd : done.length = n := by omega
      have c0 : ¬ ((n : Int) < (n : Int)) := by omega
      refine ⟨_, u, ?_, (fun v hv => by cases hv), m, done, rfl, h1, h2, h3, by rw [← h4, k3], hd, ?_⟩
      · unfold f91_l1
        rw [hd]
        simp [c0]
      · rw [h7, hd, show n + 1 - n = 1 by omega]
        rfl
    · left
      have hdl : done.length < n := by omega
      have c0 : ((done.length : Nat) : Int) < (n : Int) := by omega
      have c1 : ¬ ((i : Nat) : Int) < 0 := by omega
      have w0 : IntKind.i64.wrap ((i : Nat) : Int) = ((i : Nat) : Int) := wrap_in _ (by omega) (by omega)
      have w1 : IntKind.i64.wrap ((i : Int) + 1) = ((i + 1 : Nat) : Int) := by rw [wrap_in _ (by omega) (by omega)]; omega
      have w2 : IntKind.i64.wrap (((done.length : Nat) : Int) + 1) = ((done.length + 1 : Nat) : Int) := by rw [wrap_in _ (by omega) (by omega)]; omega
      have p1 := aPieceStr_hi (l := m) (m := i) (n := ((i : Nat) : Int)) rfl (by omega)
      have p2 := aPieceStr_lo (l := m) (m := i + 1) (n := ((i + 1 : Nat) : Int)) rfl (by omega)
      have ix : aIndexSl 1 (Z (.sl s.size 0 (n + 1) (.known (n + 1)))) (I .i64 ((done.length : Nat) : Int)) = some (Z (.ptr s.size done.length)) := by rw [aIndexSl_int (j := done.length) rfl (by omega), Nat.zero_add, Nat.mul_one]
      have hlen : (strS done ++ List.replicate (n + 1 - done.length) (S.str [])).length = n + 1 := by simp; omega
      have st := aStore1_of (σ := u) (i := s.size) (o := done.length) (x := .str (m.take i)) h7 (by omega)
      have hset : setRange (strS done ++ List.replicate (n + 1 - done.length) (S.str [])) done.length [.str (m.take i)] = strS (done ++ [m.take i]) ++ List.replicate (n + 1 - (done ++ [m.take i]).length) (.str []) := by
        rw [setRange_eq _ _ _ (by simp; omega)]
        have e1 : (strS done ++ List.replicate (n + 1 - done.length) (S.str [])).take done.length = strS done := by
          rw [List.take_append_of_le_length (by simp)]
          exact List.take_of_length_le (by simp)
        have e2 : (strS done ++ List.replicate (n + 1 - done.length) (S.str [])).drop (done.length + [S.str (m.take i)].length) = List.replicate (n + 1 - (done.length + 1)) (S.str []) := by
          rw [List.drop_append, List.drop_eq_nil_of_le (by simp), List.nil_append, List.drop_replicate]
          congr 1
          simp
          omega
        rw [e1, e2, strS_append, List.length_append]
        simp [strS]
      rw [hset] at st
      have e := hix m u
      rw [k1] at e
      refine ⟨[Z (.str (m.drop (i + 1))), Z (.str [c]), I .i64 0, I .i64 (n : Nat), Z (.sl s.size 0 (n + 1) (.known (n + 1))), I .i64 ((done.length + 1 : Nat) : Int)], u.set s.size (.cells true (strS (done ++ [m.take i]) ++ List.replicate (n + 1 - (done ++ [m.take i]).length) (.str []))), q - 1, ?_, by omega, m.drop (i + 1), done ++ [m.take i], by simp; omega, by simp, St.wf_set h1 (by omega) _, by simpa using h2, fun b hb => by rw [St.get_set_ne _ _ (by omega)]; exact h3 b hb, by rw [← h4, k2]; simp, by omega, by simp; omega, St.get_set_same _ _ _⟩
      unfold f91_l1
      generalize ((i + 1 : Nat) : Int) = I1 at w1 p2
      generalize ((i : Nat) : Int) = I0 at c1 w0 w1 p1 e
      generalize ((done.length + 1 : Nat) : Int) = D1 at w2 ⊢
      generalize ((done.length : Nat) : Int) = D0 at c0 w2 ix ⊢
      simp [c0, e, c1, w0, w1, p1, ix, st, p2, w2]) 8192 n [Z (.str l), Z (.str [c]), I .i64 0, I .i64 (n : Nat), Z (.sl s.size 0 (n + 1) (.known (n + 1))), I .i64 0] (s.push (.cells true (List.replicate (n + 1) (.str [])))) ⟨l, [], by simp, rfl, St.wf_push wf _, by simp, fun b hb => St.get_push_ne _ _ (by omega), by simp, hn.symm, Nat.le_refl _, by simp [strS]⟩ (by omega)
  exact ⟨m, done, τ, lp, q1, q2, q3, q4, q5, q6⟩

theorem split_run (d : Nat) (wf : s.wf) (hl : l.length ≤ 8000) : ∃ x t, R (d + 3) 77 [Z (.str l), Z (.str [c])] s = some (Z x, t) ∧ FT s t x (splitB c l) := by
  obtain ⟨m, done, τ, lp, q1, q2, q3, q4, q5, q6⟩ := splitLoop (c := c) (R (d + 1)) (fun l u => index_run d) hl wf
  have hnl := cntB_le c l
  have hcnt := count_run (s := s) (l := l) (c := c) d
  have key : R (d + 2) 91 [Z (.str l), Z (.str [c]), I .i64 0, I .i64 (-1)] s = some (Z (.sl s.size 0 (cntB c l + 1) (.known (cntB c l + 1))), τ.set s.size (.cells true (strS (splitB c l)))) := by
    rw [f91_run]
    unfold f91
    obtain ⟨n, hn⟩ : ∃ n, n = cntB c l := ⟨_, rfl⟩
    rw [← hn] at hnl lp q5 hcnt ⊢
    have w1 : IntKind.i64.wrap ((n : Int) + 1) = ((n + 1 : Nat) : Int) := by rw [wrap_in _ (by omega) (by omega)]; omega
    have w2 : IntKind.i64.wrap ((l.length : Int) + 1) = ((l.length + 1 : Nat) : Int) := by rw [wrap_in _ (by omega) (by omega)]; omega
    have hmin : min ((n + 1 : Nat) : Int) ((l.length + 1 : Nat) : Int) = ((n + 1 : Nat) : Int) := by omega
    have w3 : IntKind.i64.wrap (((n + 1 : Nat) : Int) - 1) = (n : Int) := by rw [wrap_in _ (by omega) (by omega)]; omega
    have nw : aNew s (nMake 1 16 [.str []] (I .i64 ((n + 1 : Nat) : Int)) (I .i64 ((n + 1 : Nat) : Int))) = some (Z (.sl s.size 0 (n + 1) (.known (n + 1))), s.push (.cells true (List.replicate (n + 1) (.str [])))) := by
      have h1 : [S.str []].length = 1 ∧ (0 : Int) ≤ ((n + 1 : Nat) : Int) ∧ ((n + 1 : Nat) : Int) ≤ ((n + 1 : Nat) : Int) ∧ ((n + 1 : Nat) : Int) ≤ 2 ^ 62 ∧ ((16 : Nat) : Int) * ((n + 1 : Nat) : Int) ≤ 2 ^ 48 := ⟨rfl, by omega, by omega, by omega, by omega⟩
      simp only [aNew, nMake, if_pos h1, Int.toNat_natCast]
      have hz : ∀ k, zeros k [S.str []] = List.replicate k (.str []) := by
        intro k
        simp [zeros]
      rw [hz]
    have ix : aIndexSl 1 (Z (.sl s.size 0 (n + 1) (.known (n + 1)))) (I .i64 (n : Int)) = some (Z (.ptr s.size n)) := by rw [aIndexSl_int (j := n) rfl (by omega), Nat.zero_add, Nat.mul_one]
    have st := aStore1_of (σ := τ) (i := s.size) (o := n) (x := .str m) q6 (by simp; omega)
    have hset : setRange (strS done ++ [S.str []]) n [.str m] = strS (splitB c l) := by
      rw [setRange_eq _ _ _ (by simp; omega), ← q4, strS_append]
      have e1 : (strS done ++ [S.str []]).take n = strS done := by
        rw [List.take_append_of_le_length (by simp; omega)]
        exact List.take_of_length_le (by simp; omega)
      have e2 : (strS done ++ [S.str []]).drop (n + [S.str m].length) = [] := List.drop_eq_nil_of_le (by simp; omega)
      rw [e1, e2]
      simp [strS]
    rw [hset] at st
    have pc : aPieceSl 1 (Z (.sl s.size 0 (n + 1) (.known (n + 1)))) none (some (I .i64 ((n + 1 : Nat) : Int))) none = some (Z (.sl s.size 0 (n + 1) (.known (n + 1)))) := by
      unfold aPieceSl
      dsimp only
      rw [aBounds_hi (Nat.le_refl _)]
      simp
    have cc : ¬ [c] = ([] : Bs) := by simp
    generalize ((n + 1 : Nat) : Int) = N1 at w1 hmin w3 nw pc
    generalize ((l.length + 1 : Nat) : Int) = L1 at w2 hmin
    simp [hcnt, w1, w2, hmin, nw, w3, lp, ix, st, pc, cc]
  refine ⟨_, _, ?_, ⟨⟨St.wf_set q1 (by omega) _, by simp; omega, fun b hb => by rw [St.get_set_ne _ _ (by omega)]; exact q3 b hb⟩, ⟨by simp, .inr (.inr ⟨s.size, strS (splitB c l), .known (cntB c l + 1), by rw [splitB_len], .inr (by rw [splitB_len]), St.get_set_same _ _ _, by simp, List.take_of_length_le (by simp)⟩)⟩, fun b hb => by cases hb; exact ⟨Nat.le_refl _, by simp; omega⟩⟩⟩
  rw [f77_run]
  unfold f77
  simp [key]

/-- Where a text stands among texts. -/
def ixT (v : Bs) : List Bs → Nat → Int
  | [], _ => -1
  | w :: r, k => if v = w then (k : Int) else ixT v r (k + 1)

theorem ixT_contains (v : Bs) : ∀ (l : List Bs) (k : Nat), (0 ≤ ixT v l k) ↔ v ∈ l
  | [], k => by simp [ixT]
  | w :: r, k => by
    unfold ixT
    by_cases h : v = w
    · simp [h]
    · rw [if_neg h, ixT_contains v r (k + 1)]
      simp [h]

theorem ixT_range (v : Bs) : ∀ (l : List Bs) (k : Nat), ixT v l k = -1 ∨ ∃ j, j < l.length ∧ ixT v l k = (k + j : Nat) ∧ l[j]? = some v
  | [], k => .inl rfl
  | w :: r, k => by
    unfold ixT
    by_cases h : v = w
    · exact .inr ⟨0, by simp, by rw [if_pos h]; rfl, by simp [h]⟩
    · rw [if_neg h]
      rcases ixT_range v r (k + 1) with e | ⟨j, h1, h2, h3⟩
      · exact .inl e
      · exact .inr ⟨j + 1, by simp; omega, by rw [h2]; omega, by simpa using h3⟩

theorem ixT_drop (v : Bs) (l : List Bs) (k : Nat) (hk : k ≤ l.length) (hn : ∀ j w, j < k → l[j]? = some w → v ≠ w) : ixT v l 0 = ixT v (l.drop k) k := by
  induction k with
  | zero => rfl
  | succ k ih =>
    rw [ih (by omega) fun j w hj => hn j w (by omega)]
    have hc : l.drop k = l[k] :: l.drop (k + 1) := List.drop_eq_getElem_cons (by omega)
    rw [hc]
    show (if v = l[k] then _ else _) = _
    rw [if_neg (hn k l[k] (by omega) (List.getElem?_eq_getElem (by omega)))]

theorem indexT_run (d : Nat) {ws : List Bs} {v : Bs} (h : RT s x ws) (hl : ws.length ≤ 8000) : R (d + 1) 97 [Z x, Z (.str v)] s = some (I .i64 (ixT v ws 0), s) := by
  rw [f97_run]
  unfold f97
  have hlen := h.lens
  obtain ⟨j, τ, lp, hj, hτ⟩ := loops_inv (f := f97_l1 (R d) 8192) (fun q w u => ∃ k : Nat, q + k = ws.length ∧ w = [Z x, Z (.str v), I .i64 ws.length, I .i64 k] ∧ u = s ∧ ∀ j w, j < k → ws[j]? = some w → v ≠ w)
    (fun j u => (j = .exit 0 [] ∧ ixT v ws 0 = -1 ∨ j = .ret (I .i64 (ixT v ws 0))) ∧ u = s) (by
    rintro q w u ⟨k, hk, rfl, rfl, hn⟩
    have hd := ixT_drop v ws k (by omega) hn
    by_cases hkl : k < ws.length
    · have hc : ws[k]? = some ws[k] := List.getElem?_eq_getElem hkl
      have hdr : ws.drop k = ws[k] :: ws.drop (k + 1) := List.drop_eq_getElem_cons hkl
      obtain ⟨p, ix, ld⟩ := RT.atT h (n := (k : Int)) rfl hc
      have c0 : (k : Int) < (ws.length : Int) := by omega
      have w1 : IntKind.i64.wrap ((k : Int) + 1) = ((k + 1 : Nat) : Int) := by rw [wrap_in _ (by omega) (by omega)]; omega
      by_cases he : v = ws[k]
      · right
        have hx : ixT v ws 0 = k := by rw [hd, hdr]; show (if v = ws[k] then _ else _) = _; rw [if_pos he]
        refine ⟨.ret (I .i64 (ixT v ws 0)), u, ?_, (fun v hv => by cases hv), .inr rfl, rfl⟩
        unfold f97_l1
        rw [hx]
        simp [c0, ix, ld, ← he]
      · left
        refine ⟨[Z x, Z (.str v), I .i64 ws.length, I .i64 ((k + 1 : Nat) : Int)], u, q - 1, ?_, by omega, k + 1, by omega, rfl, rfl, fun j w hj hw => ?_⟩
        · unfold f97_l1
          generalize ((k + 1 : Nat) : Int) = K1 at w1 ⊢
          simp [c0, ix, ld, he, w1]
        · by_cases hjk : j = k
          · subst hjk; rw [hc] at hw; cases hw; exact he
          · exact hn j w (by omega) hw
    · right
      have hk' : k = ws.length := by omega
      have c0 : ¬ (k : Int) < (ws.length : Int) := by omega
      refine ⟨.exit 0 [], u, ?_, (fun v hv => by cases hv), .inl ⟨rfl, ?_⟩, rfl⟩
      · unfold f97_l1
        simp [c0]
      · rw [hd, hk', List.drop_length]; rfl) 8192 ws.length [Z x, Z (.str v), I .i64 ws.length, I .i64 0] s ⟨0, rfl, rfl, rfl, fun j w hj => by omega⟩ (by omega)
  subst hτ
  rcases hj with ⟨rfl, he⟩ | rfl
  · rw [he]
    simp [hlen, lp]
  · simp [hlen, lp]

theorem containsT_run (d : Nat) {ws : List Bs} {v : Bs} (h : RT s x ws) (hl : ws.length ≤ 8000) : R (d + 2) 81 [Z x, Z (.str v)] s = some (B (decide (v ∈ ws)), s) := by
  rw [f81_run]
  unfold f81
  have e := indexT_run (v := v) d h hl
  have : decide (0 ≤ ixT v ws 0) = decide (v ∈ ws) := decide_eq_decide.2 (ixT_contains v ws 0)
  simp [e, this]
end
end Go.Proofs.YtlhbidbdmdcdeaaGreatDoor

/-
  A number of digits: what strings.Trim at the digits, strconv.ParseInt at digits, and policy's number compute, in any store. No conditions but those named in each line.
-/
namespace Go.Proofs.YtlhbidbdmdcdeaaGreatDoor
open Go Go.Abs Go.Abs.F
set_option linter.unusedVariables false

def isDig (b : UInt8) : Bool := Nat.ble 48 b.toNat && Nat.ble b.toNat 57
def digits : Bs := [48, 49, 50, 51, 52, 53, 54, 55, 56, 57]
def digitSet : List S := (List.range 256).map fun c => S.bool (Nat.ble 48 c && Nat.ble c 57)
theorem digitSet_len : digitSet.length = 256 := by simp [digitSet]
theorem digitSet_get (b : UInt8) : digitSet[b.toNat]? = some (.bool (isDig b)) := by
  have := b.toNat_lt
  simp [digitSet, isDig, this]

theorem isDig_iff {b : UInt8} : isDig b = true ↔ 48 ≤ b.toNat ∧ b.toNat ≤ 57 := by
  simp [isDig, Nat.ble_eq]

def trimR (l : Bs) : Bs := (l.reverse.dropWhile isDig).reverse
theorem trimR_snoc (l : Bs) (c : UInt8) : trimR (l ++ [c]) = if isDig c then trimR l else l ++ [c] := by
  unfold trimR
  rw [List.reverse_append, List.reverse_singleton, List.singleton_append, List.dropWhile_cons]
  split <;> simp
theorem trimR_nil : trimR [] = [] := rfl

theorem dropWhile_nil (p : UInt8 → Bool) : ∀ l : Bs, l.dropWhile p = [] ↔ ∀ x ∈ l, p x = true
  | [] => by simp
  | a :: r => by
    have ih := dropWhile_nil p r
    rw [List.dropWhile_cons]
    by_cases h : p a = true
    · rw [if_pos h, ih]; simp [h]
    · rw [if_neg h]; simp [h]
theorem dropWhile_hd (p : UInt8 → Bool) : ∀ (l : Bs) (a : UInt8) (r : Bs), l.dropWhile p = a :: r → p a = false
  | [], a, r, h => by simp at h
  | b :: q, a, r, h => by
    rw [List.dropWhile_cons] at h
    by_cases hb : p b = true
    · rw [if_pos hb] at h; exact dropWhile_hd p q a r h
    · rw [if_neg hb] at h; cases h; simpa using hb

theorem trimD_nil (l : Bs) : (trimR l).dropWhile isDig = [] ↔ l.all isDig = true := by
  unfold trimR
  rw [List.all_eq_true]
  constructor
  · intro h
    have h1 := (dropWhile_nil isDig _).1 h
    have h2 : l.reverse.dropWhile isDig = [] := by
      cases hd : l.reverse.dropWhile isDig with
      | nil => rfl
      | cons a r =>
        exfalso
        have e1 := h1 a (by rw [hd]; simp)
        rw [dropWhile_hd isDig _ a r hd] at e1
        cases e1
    intro x hx
    exact (dropWhile_nil isDig _).1 h2 x (by simpa using hx)
  · intro h
    have h2 : l.reverse.dropWhile isDig = [] := (dropWhile_nil isDig _).2 fun x hx => h x (by simpa using hx)
    rw [h2]
    rfl

def valD (l : Bs) : Nat := l.foldl (fun n b => n * 10 + (b.toNat - 48)) 0
theorem valD_snoc (l : Bs) (c : UInt8) : valD (l ++ [c]) = valD l * 10 + (c.toNat - 48) := by simp [valD]
theorem valD_lt : ∀ (n : Nat) (l : Bs), l.length = n → l.all isDig = true → valD l < 10 ^ n
  | 0, l, h, _ => by
    have : l = [] := List.eq_nil_of_length_eq_zero h
    subst this
    decide
  | n + 1, l, h, ha => by
    rcases List.eq_nil_or_concat l with rfl | ⟨r, c, hl⟩
    · simp at h
    · rw [List.concat_eq_append] at hl
      subst hl
      rw [valD_snoc]
      have hr := valD_lt n r (by simpa using h) (by simp at ha; simpa using ha.1)
      have hc : isDig c = true := by simp at ha; exact ha.2
      rw [isDig_iff] at hc
      rw [Nat.pow_succ]
      omega

def numOk (l : Bs) : Bool := Nat.ble 1 l.length && Nat.ble l.length 13 && l.all isDig
def numV (l : Bs) : Nat := match numOk l with
  | true => valD l
  | false => 0

theorem numV_lt (l : Bs) : numV l < 10000000000000 := by
  unfold numV
  cases h : numOk l with
  | false => show 0 < 10000000000000; decide
  | true =>
    simp only [numOk, Bool.and_eq_true, Nat.ble_eq] at h
    have h1 := valD_lt l.length l rfl h.2
    have h2 : 10 ^ l.length ≤ 10 ^ 13 := Nat.pow_le_pow_right (by omega) h.1.2
    have h3 : (10 : Nat) ^ 13 = 10000000000000 := by decide
    show valD l < _
    omega

section
variable {s t : St} {x y : S} {l : Bs} {i : Nat} {w : Bool}

theorem aIndexArr_u8 (n : Nat) (b : UInt8) (h : b.toNat < n) (i o : Nat) : aIndexArr n 1 (Z (.ptr i o)) (I .u8 b.toNat) = some (Z (.ptr i (o + b.toNat))) := by
  have h2 : aIdx (I .u8 (b.toNat : Int)) n = some b.toNat := by simp [aIdx, h]
  simp [aIndexArr, h2]

theorem contains_run (d : Nat) (h : s.get i = some (.cells w digitSet)) (b : UInt8) : R (d + 1) 132 [Z (.ptr i 0), I .u8 b.toNat] s = some (B (isDig b), s) := by
  rw [f132_run]
  unfold f132
  have ix := aIndexArr_u8 256 b b.toNat_lt i 0
  have ld : aLoad1 (Z (.ptr i (0 + b.toNat))) s.get = some (B (isDig b)) := aLoad1_of h (by rw [Nat.zero_add]; exact digitSet_get b)
  simp only [aNil_ptr, bd_some, ix, ld]

theorem trimRight_run (d : Nat) (h : s.get i = some (.cells w digitSet)) (hl : l.length ≤ 8000) : R (d + 2) 124 [Z (.str l), Z (.ptr i 0)] s = some (Z (.str (trimR l)), s) := by
  rw [f124_run]
  unfold f124
  obtain ⟨j, τ, lp, hj, hτ⟩ := loops_inv (f := f124_l1 (R (d + 1)) 8192) (fun q v u => ∃ m : Bs, q = m.length ∧ v = [Z (.str m), Z (.ptr i 0)] ∧ u = s ∧ trimR m = trimR l ∧ m.length ≤ l.length)
    (fun j u => j = .exit 0 [Z (.str (trimR l))] ∧ u = s) (by
    rintro q v u ⟨m, rfl, rfl, rfl, hm, hml⟩
    rcases List.eq_nil_or_concat m with rfl | ⟨r, c, hmr⟩
    · right
      refine ⟨_, u, ?_, (fun v hv => by cases hv), rfl, rfl⟩
      unfold f124_l1
      rw [← hm]
      simp [trimR_nil]
    · rw [List.concat_eq_append] at hmr
      have hlen : m.length = r.length + 1 := by rw [hmr]; simp
      have c0 : 0 < m.length := by omega
      have w1 : IntKind.i64.wrap ((m.length : Int) - 1) = (r.length : Int) := by rw [wrap_in _ (by omega) (by omega)]; omega
      have hat : aAtStr (Z (.str m)) (I .i64 (r.length : Int)) = some (I .u8 c.toNat) := at_str rfl (by rw [hmr]; simp)
      have hc := contains_run d h c
      have pc := aPieceStr_hi (l := m) (m := r.length) (n := (r.length : Int)) rfl (by omega)
      have htk : m.take r.length = r := by rw [hmr]; simp
      rw [htk] at pc
      have hs := trimR_snoc r c
      rw [← hmr, hm] at hs
      cases hd : isDig c with
      | true =>
        left
        rw [hd] at hs hc
        refine ⟨[Z (.str r), Z (.ptr i 0)], u, r.length, ?_, by omega, r, rfl, rfl, rfl, by simpa using hs.symm, by omega⟩
        unfold f124_l1
        simp [c0, w1, hat, hc, pc]
      | false =>
        right
        rw [hd] at hs hc
        refine ⟨.exit 0 [Z (.str (trimR l))], u, ?_, (fun v hv => by cases hv), rfl, rfl⟩
        unfold f124_l1
        have : trimR l = m := by rw [hs, hmr]; simp
        rw [this]
        simp [c0, w1, hat, hc]) 8192 l.length [Z (.str l), Z (.ptr i 0)] s ⟨l, rfl, rfl, rfl, rfl, Nat.le_refl _⟩ (by omega)
  subst hτ; subst hj
  simp [lp]

theorem trimLeft_run (d : Nat) (h : s.get i = some (.cells w digitSet)) (hl : l.length ≤ 8000) : R (d + 2) 123 [Z (.str l), Z (.ptr i 0)] s = some (Z (.str (l.dropWhile isDig)), s) := by
  rw [f123_run]
  unfold f123
  obtain ⟨j, τ, lp, hj, hτ⟩ := loops_inv (f := f123_l1 (R (d + 1)) 8192) (fun q v u => ∃ m : Bs, q = m.length ∧ v = [Z (.str m), Z (.ptr i 0)] ∧ u = s ∧ m.dropWhile isDig = l.dropWhile isDig ∧ m.length ≤ l.length)
    (fun j u => j = .exit 0 [Z (.str (l.dropWhile isDig))] ∧ u = s) (by
    rintro q v u ⟨m, rfl, rfl, rfl, hm, hml⟩
    cases m with
    | nil =>
      right
      refine ⟨_, u, ?_, (fun v hv => by cases hv), rfl, rfl⟩
      unfold f123_l1
      rw [← hm]
      simp
    | cons c r =>
      have hat : aAtStr (Z (.str (c :: r))) (I .i64 0) = some (I .u8 c.toNat) := at_str (j := 0) rfl rfl
      have hc := contains_run d h c
      have pc := aPieceStr_lo (l := c :: r) (m := 1) (n := 1) rfl (by simp)
      rw [List.dropWhile_cons] at hm
      cases hd : isDig c with
      | true =>
        left
        rw [hd] at hm hc
        refine ⟨[Z (.str r), Z (.ptr i 0)], u, r.length, ?_, by simp, r, rfl, rfl, rfl, by simpa using hm, by simp at hml; omega⟩
        unfold f123_l1
        simp [hat, hc, pc]
      | false =>
        right
        rw [hd] at hm hc
        refine ⟨.exit 0 [Z (.str (l.dropWhile isDig))], u, ?_, (fun v hv => by cases hv), rfl, rfl⟩
        unfold f123_l1
        have : l.dropWhile isDig = c :: r := by rw [← hm]; simp
        rw [this]
        simp [hat, hc]) 8192 l.length [Z (.str l), Z (.ptr i 0)] s ⟨l, rfl, rfl, rfl, rfl, Nat.le_refl _⟩ (by omega)
  subst hτ; subst hj
  simp [lp]

theorem setRange_all {vs xs : List S} (h : vs.length = xs.length) : setRange vs 0 xs = xs := by
  rw [setRange_eq _ _ _ (by omega), List.take_zero, List.nil_append, List.drop_eq_nil_of_le (by omega), List.append_nil]

theorem makeSet_run (d : Nat) : R (d + 1) 122 [Z (.str digits)] s = some (.tup [.agg digitSet, .s (.bool true)], s) := runQ_prim (prim_set _)

set_option maxRecDepth 100000 in
theorem trim_run (d : Nat) (wf : s.wf) (h0 : l ≠ []) (hl : l.length ≤ 8000) : ∃ t, R (d + 4) 108 [Z (.str l), Z (.str digits)] s = some (Z (.str ((trimR l).dropWhile isDig)), t) ∧ Gr s t := by
  rw [f108_run]
  unfold f108
  generalize hq : nCells _ = q
  obtain ⟨z, rfl, hz⟩ : ∃ z : List S, q = nCells z ∧ z.length = 256 := ⟨_, hq.symm, rfl⟩
  clear hq
  have e1 := makeSet_run (s := s) (d + 2)
  have nw : aNew s (nCells z) = some (Z (.ptr s.size 0), s.push (.cells true z)) := rfl
  have hb : (V.agg digitSet).cells.length = 256 ∧ 0 + 256 ≤ z.length := ⟨digitSet_len, by omega⟩
  obtain ⟨t, ht⟩ : ∃ t, t = (s.push (.cells true z)).set s.size (.cells true digitSet) := ⟨_, rfl⟩
  have st : aStore 256 (Z (.ptr s.size 0)) (.v (.agg digitSet)) (s.push (.cells true z)) = some (tt, t) := by
    simp only [aStore, St.get_push_same, if_pos hb]
    rw [show (V.agg digitSet).cells = digitSet from rfl, setRange_all (by rw [hz, digitSet_len]), ← ht]
  have g : Gr s t := by
    rw [ht]
    exact ⟨St.wf_set (St.wf_push wf _) (by simp) _, by simp, fun b hb => by rw [St.get_set_ne _ _ (by omega), St.get_push_ne _ _ (by omega)]⟩
  have gn : t.get s.size = some (.cells true digitSet) := by rw [ht]; exact St.get_set_same _ _ _
  have r1 := trimRight_run (l := l) (d + 1) gn hl
  have hl2 : (trimR l).length ≤ 8000 := by
    have : (trimR l).length ≤ l.length := by
      unfold trimR
      rw [List.length_reverse]
      have := (List.dropWhile_sublist (p := isDig) (l := l.reverse)).length_le
      simpa using this
    omega
  have r2 := trimLeft_run (l := trimR l) (d + 1) gn hl2
  have hd : ¬ digits = [] := by decide
  have hdl : (digits.length : Int) = 10 := rfl
  refine ⟨t, ?_, g⟩
  simp only [Nat.add_assoc, Nat.reduceAdd] at e1 r1 r2
  generalize R (d + 3) = r at *
  generalize digits = dg at *
  simp [h0, hd, hdl, e1, aExtract, nw, st, r1, r2]

/-- A number of digits, parsed. -/
theorem parseUint_run (d : Nat) (wf : s.wf) (h0 : l ≠ []) (hl : l.length ≤ 13) (hd : l.all isDig = true) : ∃ t, R (d + 1) 135 [Z (.str l), I .i64 10, I .i64 64] s = some (.tup [.s (.int .u64 (valD l)), .s .nili], t) ∧ Gr s t := by
  rw [f135_run]
  unfold f135
  obtain ⟨t, ht⟩ : ∃ t, t = s.push (.cells false (U l)) := ⟨_, rfl⟩
  have nw : aNew s (nBytes (Z (.str l))) = some (Z (.sl s.size 0 l.length (.grown 1)), t) := by rw [ht]; rfl
  have g : Gr s t := by rw [ht]; exact Gr.push wf _
  have rb : RB t (.sl s.size 0 l.length (.grown 1)) l := ⟨by simp, .inr ⟨s.size, 0, _, false, U l, rfl, by rw [ht]; exact St.get_push_same _ _, by simp, by rw [List.drop_zero]; exact List.take_of_length_le (by simp)⟩, rfl⟩
  have hv := valD_lt
  have hdg : ∀ (k : Nat) (b : UInt8), l[k]? = some b → 48 ≤ b.toNat ∧ b.toNat ≤ 57 := fun k b hb => by
    rw [List.all_eq_true] at hd
    exact isDig_iff.1 (hd b (List.mem_of_getElem? hb))
  have hvt : ∀ k, k ≤ 13 → valD (l.take k) < 10000000000000 := fun k hk => by
    have h1 := valD_lt (l.take k).length (l.take k) rfl (by rw [List.all_eq_true] at hd ⊢; exact fun x hx => hd x (List.mem_of_mem_take hx))
    have h2 : 10 ^ (l.take k).length ≤ 10 ^ 13 := Nat.pow_le_pow_right (by omega) (by rw [List.length_take]; omega)
    have h3 : (10 : Nat) ^ 13 = 10000000000000 := by decide
    omega
  obtain ⟨j, τ, lp, hj, hτ⟩ := loops_inv (f := f135_l1 (R d) 8192) (fun q v u => ∃ k : Nat, q + k = l.length ∧ v = [I .i64 10, B false, Z (.str l), I .u64 1844674407370955162, I .u64 18446744073709551615, B false, I .u64 (valD (l.take k)), Z (.sl s.size 0 l.length (.grown 1)), I .i64 l.length, I .i64 k] ∧ u = t)
    (fun j u => j = .exit 3 [Z (.str l), B false, I .u64 (valD l)] ∧ u = t) (by
    rintro q v u ⟨k, hk, rfl, rfl⟩
    by_cases hkl : k < l.length
    · left
      have hc : l[k]? = some l[k] := List.getElem?_eq_getElem hkl
      obtain ⟨p, ix, ld⟩ := RB.atB rb (n := (k : Int)) rfl hc
      obtain ⟨d1, d2⟩ := hdg k _ hc
      have c0 : (k : Int) < (l.length : Int) := by omega
      have w1 : IntKind.i64.wrap ((k : Int) + 1) = ((k + 1 : Nat) : Int) := by rw [wrap_in _ (by omega) (by omega)]; omega
      have hsn : valD (l.take (k + 1)) = valD (l.take k) * 10 + (l[k].toNat - 48) := by rw [List.take_add_one, hc, Option.toList_some, valD_snoc]
      have hb0 := hvt k (by omega)
      have hb1 := hvt (k + 1) (by omega)
      have k1 : ¬ ((l[k].toNat : Int) = 95) := by omega
      have k2 : (48 : Int) ≤ (l[k].toNat : Int) := by omega
      have k3 : (l[k].toNat : Int) ≤ 57 := by omega
      obtain ⟨D, hD⟩ : ∃ D : Int, D = (l[k].toNat : Int) - 48 := ⟨_, rfl⟩
      have w8 : IntKind.u8.wrap ((l[k].toNat : Int) - 48) = D := by
        have := wrap8 (l[k].toNat - 48)
        rw [show (((l[k].toNat - 48 : Nat)) : Int) = (l[k].toNat : Int) - 48 by omega] at this
        rw [this, hD]
        omega
      have w10 : IntKind.u8.wrap 10 = 10 := rfl
      have w10' : IntKind.u64.wrap 10 = 10 := rfl
      have k4 : ¬ (10 : Int) ≤ D := by omega
      have k5 : ¬ (1844674407370955162 : Int) ≤ (valD (l.take k) : Int) := by omega
      have wm : IntKind.u64.wrap ((valD (l.take k) : Int) * 10) = (valD (l.take k) : Int) * 10 := wrap_u64_in _ (by omega) (by omega)
      have wd : IntKind.u64.wrap D = D := wrap_u64_in _ (by omega) (by omega)
      have wa : IntKind.u64.wrap ((valD (l.take k) : Int) * 10 + D) = (valD (l.take (k + 1)) : Int) := by
        rw [wrap_u64_in _ (by omega) (by omega), hsn]
        omega
      have k6 : ¬ ((valD (l.take (k + 1)) : Int) < (valD (l.take k) : Int) * 10) := by omega
      have k7 : ¬ ((18446744073709551615 : Int) < (valD (l.take (k + 1)) : Int)) := by omega
      refine ⟨[I .i64 10, B false, Z (.str l), I .u64 1844674407370955162, I .u64 18446744073709551615, B false, I .u64 (valD (l.take (k + 1))), Z (.sl s.size 0 l.length (.grown 1)), I .i64 l.length, I .i64 ((k + 1 : Nat) : Int)], u, q - 1, ?_, by omega, k + 1, by omega, rfl, rfl⟩
      unfold f135_l1
      generalize ((k + 1 : Nat) : Int) = K1 at w1 ⊢
      generalize (valD (l.take (k + 1)) : Int) = V1 at wa k6 k7 ⊢
      generalize (valD (l.take k) : Int) = V0 at k5 wm wa k6 ⊢
      generalize (l[k].toNat : Int) = C at ld k1 k2 k3 w8
      generalize (k : Int) = K at *
      generalize (l.length : Int) = L at *
      simp [c0, ix, ld, k1, k2, k3, w8, w10, w10', k4, k5, wm, wd, wa, k6, k7, w1]
    · right
      have hk' : k = l.length := by omega
      subst hk'
      refine ⟨.exit 3 [Z (.str l), B false, I .u64 (valD l)], u, ?_, (fun v hv => by cases hv), rfl, rfl⟩
      unfold f135_l1
      rw [List.take_length]
      simp) 8192 l.length [I .i64 10, B false, Z (.str l), I .u64 1844674407370955162, I .u64 18446744073709551615, B false, I .u64 0, Z (.sl s.size 0 l.length (.grown 1)), I .i64 l.length, I .i64 0] t ⟨0, rfl, rfl, rfl⟩ (by omega)
  subst hτ; subst hj
  refine ⟨τ, ?_, g⟩
  have w64 : IntKind.u64.wrap 64 = 64 := rfl
  have sh : aBin .shl (I .u64 1) (I .u64 64) = some (I .u64 0) := by rfl
  have sb : IntKind.u64.wrap (-1) = 18446744073709551615 := by rfl
  simp [h0, w64, sh, sb, nw, lp, retT, allV]

theorem parseInt_run (d : Nat) (wf : s.wf) (h0 : l ≠ []) (hl : l.length ≤ 13) (hd : l.all isDig = true) : ∃ t, R (d + 3) 109 [Z (.str l), I .i64 10, I .i64 64] s = some (.tup [.s (.int .i64 (valD l)), .s .nili], t) ∧ Gr s t := by
  obtain ⟨t, e, g⟩ := parseUint_run d wf h0 hl hd
  have hv := valD_lt l.length l rfl hd
  have h13 : 10 ^ l.length ≤ 10 ^ 13 := Nat.pow_le_pow_right (by omega) hl
  have h3 : (10 : Nat) ^ 13 = 10000000000000 := by decide
  have key : R (d + 2) 127 [Z (.str l), I .i64 10, I .i64 64] s = some (.tup [.s (.int .i64 (valD l)), .s .nili], t) := by
    rw [f127_run]
    unfold f127
    obtain ⟨c, r, rfl⟩ : ∃ c r, l = c :: r := by cases l with
      | nil => exact absurd rfl h0
      | cons c r => exact ⟨c, r, rfl⟩
    have hat : aAtStr (Z (.str (c :: r))) (I .i64 0) = some (I .u8 c.toNat) := at_str (j := 0) rfl rfl
    have hc : 48 ≤ c.toNat ∧ c.toNat ≤ 57 := isDig_iff.1 (by simp at hd; exact hd.1)
    have k1 : ¬ ((c.toNat : Int) = 43) := by omega
    have k2 : ¬ ((c.toNat : Int) = 45) := by omega
    have n1 : neB .i (Z .nili) (Z .nili) = some (B false) := rfl
    have w63 : IntKind.u64.wrap 63 = 63 := rfl
    have sh : aBin .shl (I .u64 1) (I .u64 63) = some (I .u64 9223372036854775808) := by rfl
    have k3 : ¬ ((9223372036854775808 : Int) ≤ (valD (c :: r) : Int)) := by omega
    have wv : IntKind.i64.wrap (valD (c :: r) : Int) = (valD (c :: r) : Int) := wrap_in _ (by omega) (by omega)
    have w64 : IntKind.i64.wrap 63 = 63 := rfl
    generalize (valD (c :: r) : Int) = V at *
    generalize (c.toNat : Int) = C at *
    generalize R (d + 1) = rr at *
    simp [hat, k1, k2, e, aExtract, n1, w63, w64, sh, k3, wv, retT, allV]
  refine ⟨t, ?_, g⟩
  rw [f109_run]
  unfold f109
  have n1 : neB .i (Z .nili) (Z .nili) = some (B false) := rfl
  simp [key, aExtract, n1, retT, allV]

theorem number_run (d : Nat) (wf : s.wf) : ∃ t, R (d + 5) 96 [Z (.str l)] s = some (.tup [.s (.int .i64 (numV l)), .s (.bool (numOk l))], t) ∧ Gr s t := by
  rw [f96_run]
  unfold f96
  by_cases h1 : 1 ≤ l.length
  · by_cases h2 : l.length ≤ 13
    · have hne : l ≠ [] := fun e => by rw [e] at h1; simp at h1
      obtain ⟨t, e1, g1⟩ := trim_run d wf hne (by omega)
      have c1 : ¬ ((l.length : Int) < 1) := by omega
      have c2 : ¬ ((13 : Int) < (l.length : Int)) := by omega
      have hb1 : Nat.ble 1 l.length = true := Nat.ble_eq_true_of_le h1
      have hb2 : Nat.ble l.length 13 = true := Nat.ble_eq_true_of_le h2
      by_cases hall : l.all isDig = true
      · have hnil := (trimD_nil l).2 hall
        rw [hnil] at e1
        obtain ⟨t2, e2, g2⟩ := parseInt_run (l := l) (d + 1) g1.wf hne h2 hall
        have hok : numOk l = true := by simp [numOk, hb1, hb2, hall]
        have hv : numV l = valD l := by simp [numV, hok]
        have n1 : eqB .i (Z .nili) (Z .nili) = some (B true) := rfl
        refine ⟨t2, ?_, g1.trans g2⟩
        rw [hok, hv]
        simp only [digits] at e1
        generalize R (d + 4) = r at *
        simp [c1, c2, e1, e2, aExtract, n1, retT, allV]
      · have hnn : ¬ ((trimR l).dropWhile isDig = []) := fun e => hall ((trimD_nil l).1 e)
        have hok : numOk l = false := by simp only [numOk, hb1, hb2, Bool.true_and]; simpa using hall
        have hv : numV l = 0 := by simp [numV, hok]
        refine ⟨t, ?_, g1⟩
        rw [hok, hv]
        simp only [digits] at e1
        generalize R (d + 4) = r at *
        simp [c1, c2, e1, hnn, retT, allV]
    · have c1 : ¬ ((l.length : Int) < 1) := by omega
      have c2 : (13 : Int) < (l.length : Int) := by omega
      have hok : numOk l = false := by
        have : Nat.ble l.length 13 = false := by
          rw [Bool.eq_false_iff]
          intro h
          exact h2 (Nat.le_of_ble_eq_true h)
        simp [numOk, this]
      have hv : numV l = 0 := by simp [numV, hok]
      refine ⟨s, ?_, Gr.refl wf⟩
      rw [hok, hv]
      simp [c1, c2, retT, allV]
  · have c1 : ((l.length : Int) < 1) := by omega
    have hok : numOk l = false := by
      have : Nat.ble 1 l.length = false := by
        rw [Bool.eq_false_iff]
        intro h
        exact h1 (Nat.le_of_ble_eq_true h)
      simp [numOk, this]
    have hv : numV l = 0 := by simp [numV, hok]
    refine ⟨s, ?_, Gr.refl wf⟩
    rw [hok, hv]
    simp [c1, retT, allV]
end
end Go.Proofs.YtlhbidbdmdcdeaaGreatDoor

/-
  Policies: what policy.Default, May, line and Parse compute, in any store. No conditions but those named in each line.
-/
namespace Go.Proofs.YtlhbidbdmdcdeaaGreatDoor
open Go Go.Abs Go.Abs.F
set_option linter.unusedVariables false

structure Pol where
  a0 : Int
  a1 : Int
  a2 : Int
  a3 : Int
  c : Int
  n : Int
  deriving DecidableEq

def cP (p : Pol) : List S := [.int .i64 p.a0, .int .i64 p.a1, .int .i64 p.a2, .int .i64 p.a3, .int .i64 p.c, .int .i64 p.n]
abbrev AP (p : Pol) : T := .v (.agg (cP p))
def pol0 : Pol := ⟨0, 0, 0, 0, 0, 0⟩
def polD : Pol := ⟨60, 600, 6000, 0, 8, 30⟩

def ageOk (n : Int) : Bool := decide (0 ≤ n) && decide (n ≤ 1099511627776)
def nxtOk (was n : Int) : Bool := decide (n = 0) || (decide (was ≤ n) && !decide (was = 0))
def agesOk (p : Pol) : Bool := ageOk p.a0 && (ageOk p.a1 && nxtOk p.a0 p.a1) && (ageOk p.a2 && nxtOk p.a1 p.a2) && (ageOk p.a3 && nxtOk p.a2 p.a3)
def mayP (p : Pol) : Bool := agesOk p && decide (p.a3 = 0) && decide (1 ≤ p.c) && decide (p.c ≤ 64) && decide (1 ≤ p.n) && decide (p.n ≤ 200)

section
variable {s t : St} {x y : S} {l : Bs} {i : Nat}

theorem store6 {i : Nat} {vs : List S} {p : Pol} (h : s.get i = some (.cells true vs)) (hv : vs.length = 6) : aStore 6 (Z (.ptr i 0)) (AP p) s = some (tt, s.set i (.cells true (cP p))) := by
  have hb : (V.agg (cP p)).cells.length = 6 ∧ 0 + 6 ≤ vs.length := ⟨rfl, by omega⟩
  simp only [aStore, h, if_pos hb]
  rw [show (V.agg (cP p)).cells = cP p from rfl, setRange_all (by rw [hv]; rfl)]
theorem load6 {i : Nat} {w : Bool} {p : Pol} {g : Mem} (h : g i = some (.cells w (cP p))) : aLoadN 6 (Z (.ptr i 0)) g = some (AP p) := by
  simp [aLoadN, h, cP]
theorem aNew_cells (s : St) (l : List S) : aNew s (nCells l) = some (Z (.ptr s.size 0), s.push (.cells true l)) := rfl
theorem agg6 : asAggT (aFill [.int .i64 0, .int .i64 0, .int .i64 0, .int .i64 0, .int .i64 0, .int .i64 0] []) = some (AP pol0) := rfl

theorem gtt (b : Bool) : gd tt b = some false := rfl

theorem default_run (d : Nat) (wf : s.wf) : ∃ t, R (d + 1) 49 [] s = some (AP polD, t) ∧ Gr s t := by
  rw [f49_run]
  unfold f49
  have e1 : asAggT (aFill [.int .i64 0, .int .i64 0, .int .i64 0, .int .i64 0] [(0, 1, (I .i64 60)), (1, 1, (I .i64 600)), (2, 1, (I .i64 6000)), (3, 1, (I .i64 0))]) = some (.v (.agg [.int .i64 60, .int .i64 600, .int .i64 6000, .int .i64 0])) := rfl
  have e2 : asAggT (aFill [.int .i64 0, .int .i64 0, .int .i64 0, .int .i64 0, .int .i64 0, .int .i64 0] [(0, 4, .v (.agg [.int .i64 60, .int .i64 600, .int .i64 6000, .int .i64 0])), (4, 1, (I .i64 8)), (5, 1, (I .i64 30))]) = some (AP polD) := rfl
  obtain ⟨s1, hs1⟩ : ∃ s1, s1 = s.push (.cells true (cP pol0)) := ⟨_, rfl⟩
  have nw : aNew s (nCells [.int .i64 0, .int .i64 0, .int .i64 0, .int .i64 0, .int .i64 0, .int .i64 0]) = some (Z (.ptr s.size 0), s1) := by rw [hs1]; rfl
  have h1 : s1.get s.size = some (.cells true (cP pol0)) := by rw [hs1]; exact St.get_push_same _ _
  obtain ⟨s2, hs2⟩ : ∃ s2, s2 = s1.set s.size (.cells true (cP polD)) := ⟨_, rfl⟩
  have st := store6 (p := polD) h1 rfl
  rw [← hs2] at st
  have h2 : s2.get s.size = some (.cells true (cP polD)) := by rw [hs2]; exact St.get_set_same _ _ _
  have ld := load6 (g := s2.get) h2
  refine ⟨s2, ?_, ?_⟩
  · simp [nw, e1, e2, st, ld, rC, retT]
  · rw [hs2, hs1]
    exact ⟨St.wf_set (St.wf_push wf _) (by simp) _, by simp, fun b hb => by rw [St.get_set_ne _ _ (by omega), St.get_push_ne _ _ (by omega)]⟩

def ageAt (p : Pol) : Nat → Int
  | 0 => p.a0
  | 1 => p.a1
  | 2 => p.a2
  | _ => p.a3
def okAt (p : Pol) : Nat → Bool
  | 0 => ageOk p.a0
  | 1 => ageOk p.a1 && nxtOk p.a0 p.a1
  | 2 => ageOk p.a2 && nxtOk p.a1 p.a2
  | _ => ageOk p.a3 && nxtOk p.a2 p.a3
theorem agesOk_iff (p : Pol) : agesOk p = true ↔ ∀ j, j < 4 → okAt p j = true := by
  constructor
  · intro h j hj
    simp only [agesOk, Bool.and_eq_true] at h
    match j, hj with
    | 0, _ => exact h.1.1.1
    | 1, _ => simp only [okAt, Bool.and_eq_true]; exact h.1.1.2
    | 2, _ => simp only [okAt, Bool.and_eq_true]; exact h.1.2
    | 3, _ => simp only [okAt, Bool.and_eq_true]; exact h.2
  · intro h
    have h0 := h 0 (by omega)
    have h1 := h 1 (by omega)
    have h2 := h 2 (by omega)
    have h3 := h 3 (by omega)
    simp only [okAt] at h0 h1 h2 h3
    simp only [agesOk, h0, h1, h2, h3, Bool.and_self]

theorem may_run (d : Nat) (wf : s.wf) (p : Pol) : ∃ t, R (d + 1) 82 [AP p] s = some (B (mayP p), t) ∧ Gr s t := by
  rw [f82_run]
  unfold f82
  obtain ⟨s1, hs1⟩ : ∃ s1, s1 = s.push (.cells true (cP p)) := ⟨_, rfl⟩
  have nw : aNew s (nBox (AP p)) = some (Z (.ptr s.size 0), s1) := by rw [hs1]; rfl
  have h1 : s1.get s.size = some (.cells true (cP p)) := by rw [hs1]; exact St.get_push_same _ _
  have g : Gr s s1 := by rw [hs1]; exact Gr.push wf _
  have l4 : aLoadN 4 (Z (.ptr s.size 0)) s1.get = some (.v (.agg [.int .i64 p.a0, .int .i64 p.a1, .int .i64 p.a2, .int .i64 p.a3])) := by simp [aLoadN, h1, cP]
  have ld : ∀ j, j < 4 → aLoad1 (Z (.ptr s.size j)) s1.get = some (I .i64 (ageAt p j)) := fun j hj => by
    match j, hj with
    | 0, _ => exact aLoad1_of h1 rfl
    | 1, _ => exact aLoad1_of h1 rfl
    | 2, _ => exact aLoad1_of h1 rfl
    | 3, _ => exact aLoad1_of h1 rfl
  have ld4 : aLoad1 (Z (.ptr s.size 4)) s1.get = some (I .i64 p.c) := aLoad1_of h1 rfl
  have ld5 : aLoad1 (Z (.ptr s.size 5)) s1.get = some (I .i64 p.n) := aLoad1_of h1 rfl
  have at4 : ∀ j, j < 4 → aAtArr none 4 1 (.v (.agg [.int .i64 p.a0, .int .i64 p.a1, .int .i64 p.a2, .int .i64 p.a3])) (I .i64 (j : Nat)) = some (I .i64 (ageAt p j)) := fun j hj => by
    match j, hj with
    | 0, _ => rfl
    | 1, _ => rfl
    | 2, _ => rfl
    | 3, _ => rfl
  have ix : ∀ j : Nat, j < 4 → aIndexArr 4 1 (Z (.ptr s.size 0)) (I .i64 (j : Nat)) = some (Z (.ptr s.size j)) := fun j hj => by
    match j, hj with
    | 0, _ => rfl
    | 1, _ => rfl
    | 2, _ => rfl
    | 3, _ => rfl
  obtain ⟨j, τ, lp, hj, hτ⟩ := loops_inv (f := f82_l1 (R d) 8192) (fun q v u => ∃ k : Nat, q + k = 4 ∧ v = [Z (.ptr s.size 0), .v (.agg [.int .i64 p.a0, .int .i64 p.a1, .int .i64 p.a2, .int .i64 p.a3]), I .i64 k] ∧ u = s1 ∧ ∀ j, j < k → okAt p j = true)
    (fun j u => (j = .exit 0 [Z (.ptr s.size 0)] ∧ agesOk p = true ∨ j = .ret (B false) ∧ agesOk p = false) ∧ u = s1) (by
    rintro q v u ⟨k, hk, rfl, rfl, hok⟩
    by_cases hk4 : k < 4
    · have bad : okAt p k = false → agesOk p = false := fun h => by
        rw [Bool.eq_false_iff]
        intro h2
        rw [(agesOk_iff p).1 h2 k hk4] at h
        cases h
      have next : okAt p k = true → ∀ j, j < k + 1 → okAt p j = true := fun h j hj => by
        by_cases e : j = k
        · subst e; exact h
        · exact hok j (by omega)
      have c0 : (k : Int) < 4 := by omega
      have w1 : IntKind.i64.wrap ((k : Int) + 1) = ((k + 1 : Nat) : Int) := by rw [wrap_in _ (by omega) (by omega)]; omega
      have hat := at4 k hk4
      obtain ⟨a, ha⟩ : ∃ a, a = ageAt p k := ⟨_, rfl⟩
      rw [← ha] at hat
      have hage : okAt p k = (ageOk a && (decide (k = 0) || nxtOk (ageAt p (k - 1)) a)) := by
        rw [ha]
        match k, hk4 with
        | 0, _ => simp [okAt, ageAt]
        | 1, _ => simp [okAt, ageAt]
        | 2, _ => simp [okAt, ageAt]
        | 3, _ => simp [okAt, ageAt]
      by_cases c1 : a < 0
      · right
        have : okAt p k = false := by
          have : ¬ 0 ≤ a := by omega
          rw [hage]; simp [ageOk, this]
        refine ⟨.ret (B false), u, ?_, (fun v hv => by cases hv), .inr ⟨rfl, bad this⟩, rfl⟩
        unfold f82_l1
        simp [c0, hat, c1]
      · by_cases c2 : 1099511627776 < a
        · right
          have : okAt p k = false := by
            have : ¬ a ≤ 1099511627776 := by omega
            rw [hage]; simp [ageOk, this]
          refine ⟨.ret (B false), u, ?_, (fun v hv => by cases hv), .inr ⟨rfl, bad this⟩, rfl⟩
          unfold f82_l1
          simp [c0, hat, c1, c2]
        · have hA : ageOk a = true := by
            have h1 : 0 ≤ a := by omega
            have h2 : a ≤ 1099511627776 := by omega
            simp [ageOk, h1, h2]
          by_cases k0 : k = 0
          · left
            have : okAt p k = true := by rw [hage]; simp [hA, k0]
            refine ⟨[Z (.ptr s.size 0), .v (.agg [.int .i64 p.a0, .int .i64 p.a1, .int .i64 p.a2, .int .i64 p.a3]), I .i64 ((k + 1 : Nat) : Int)], u, q - 1, ?_, by omega, k + 1, by omega, rfl, rfl, next this⟩
            unfold f82_l1
            subst k0
            have hat0 : aAtArr none 4 1 (.v (.agg [.int .i64 p.a0, .int .i64 p.a1, .int .i64 p.a2, .int .i64 p.a3])) (I .i64 0) = some (I .i64 a) := hat
            have w0 : IntKind.i64.wrap 1 = 1 := rfl
            simp [hat0, c1, c2, w0]
          · obtain ⟨b, hb⟩ : ∃ b, b = ageAt p (k - 1) := ⟨_, rfl⟩
            rw [← hb] at hage
            have ck0 : ¬ (k : Int) = 0 := by omega
            have w2 : IntKind.i64.wrap ((k : Int) - 1) = ((k - 1 : Nat) : Int) := by rw [wrap_in _ (by omega) (by omega)]; omega
            have ix1 := ix (k - 1) (by omega)
            have ld1 := ld (k - 1) (by omega)
            rw [← hb] at ld1
            by_cases c3 : a = 0
            · left
              have : okAt p k = true := by rw [hage, hA]; simp [nxtOk, c3]
              refine ⟨[Z (.ptr s.size 0), .v (.agg [.int .i64 p.a0, .int .i64 p.a1, .int .i64 p.a2, .int .i64 p.a3]), I .i64 ((k + 1 : Nat) : Int)], u, q - 1, ?_, by omega, k + 1, by omega, rfl, rfl, next this⟩
              unfold f82_l1
              subst c3
              generalize ((k + 1 : Nat) : Int) = K1 at w1 ⊢
              generalize ((k - 1 : Nat) : Int) = K0 at w2 ix1
              generalize (k : Int) = K at *
              simp [c0, hat, ck0, w2, ix1, ld1, w1, gtt]
            · by_cases c4 : a < b
              · right
                have : okAt p k = false := by
                  have h1 : ¬ b ≤ a := by omega
                  rw [hage]; simp [hA, nxtOk, c3, h1, k0]
                refine ⟨.ret (B false), u, ?_, (fun v hv => by cases hv), .inr ⟨rfl, bad this⟩, rfl⟩
                unfold f82_l1
                generalize ((k - 1 : Nat) : Int) = K0 at w2 ix1
                generalize (k : Int) = K at *
                simp [c0, hat, c1, c2, ck0, w2, ix1, ld1, c3, c4]
              · by_cases c5 : b = 0
                · right
                  have : okAt p k = false := by rw [hage]; simp [hA, nxtOk, c3, c5, k0]
                  refine ⟨.ret (B false), u, ?_, (fun v hv => by cases hv), .inr ⟨rfl, bad this⟩, rfl⟩
                  unfold f82_l1
                  generalize ((k - 1 : Nat) : Int) = K0 at w2 ix1
                  generalize (k : Int) = K at *
                  simp [c0, hat, c1, c2, ck0, w2, ix1, ld1, c3, c4, c5]
                · left
                  have : okAt p k = true := by
                    have h1 : b ≤ a := by omega
                    rw [hage]; simp [hA, nxtOk, h1, c5]
                  refine ⟨[Z (.ptr s.size 0), .v (.agg [.int .i64 p.a0, .int .i64 p.a1, .int .i64 p.a2, .int .i64 p.a3]), I .i64 ((k + 1 : Nat) : Int)], u, q - 1, ?_, by omega, k + 1, by omega, rfl, rfl, next this⟩
                  unfold f82_l1
                  generalize ((k + 1 : Nat) : Int) = K1 at w1 ⊢
                  generalize ((k - 1 : Nat) : Int) = K0 at w2 ix1
                  generalize (k : Int) = K at *
                  simp [c0, hat, c1, c2, ck0, w2, ix1, ld1, c3, c4, c5, w1]
    · right
      have hk' : k = 4 := by omega
      subst hk'
      refine ⟨.exit 0 [Z (.ptr s.size 0)], u, ?_, (fun v hv => by cases hv), .inl ⟨rfl, (agesOk_iff p).2 hok⟩, rfl⟩
      unfold f82_l1
      simp) 8192 4 [Z (.ptr s.size 0), .v (.agg [.int .i64 p.a0, .int .i64 p.a1, .int .i64 p.a2, .int .i64 p.a3]), I .i64 0] s1 ⟨0, rfl, rfl, rfl, fun j hj => by omega⟩ (by omega)
  subst hτ
  refine ⟨τ, ?_, g⟩
  have ix3 : aIndexArr 4 1 (Z (.ptr s.size 0)) (I .i64 3) = some (Z (.ptr s.size 3)) := rfl
  have ld3 := ld 3 (by omega)
  generalize (T.v (.agg [.int .i64 p.a0, .int .i64 p.a1, .int .i64 p.a2, .int .i64 p.a3])) = L at l4 lp
  rcases hj with ⟨rfl, ha⟩ | ⟨rfl, ha⟩
  · have hm : mayP p = (decide (p.a3 = 0) && decide (1 ≤ p.c) && decide (p.c ≤ 64) && decide (1 ≤ p.n) && decide (p.n ≤ 200)) := by simp [mayP, ha]
    rw [hm]
    by_cases d1 : p.a3 = 0
    · by_cases d2 : 1 ≤ p.c
      · by_cases d3 : p.c ≤ 64
        · by_cases d4 : 1 ≤ p.n
          · simp [nw, l4, lp, ix3, ld3, ld4, ld5, ageAt, d1, d2, d3, d4]
          · simp [nw, l4, lp, ix3, ld3, ld4, ld5, ageAt, d1, d2, d3, d4]
        · simp [nw, l4, lp, ix3, ld3, ld4, ld5, ageAt, d1, d2, d3]
      · simp [nw, l4, lp, ix3, ld3, ld4, ld5, ageAt, d1, d2]
    · simp [nw, l4, lp, ix3, ld3, ageAt, d1]
  · have hm : mayP p = false := by simp [mayP, ha]
    rw [hm]
    simp [nw, l4, lp]

/-! ### A line -/

def tNames : List Bs := [[114, 97, 119], [53, 109], [49, 104], [49, 100]]
def kKeep : Bs := [107, 101, 101, 112]
def kSeal : Bs := [115, 101, 97, 108]
def kSpan : Bs := [115, 112, 97, 110]
def kEver : Bs := [101, 118, 101, 114]

theorem names_run (d : Nat) (wf : s.wf) : ∃ x t, R (d + 1) 98 [] s = some (Z x, t) ∧ FT s t x tNames := by
  rw [f98_run]
  unfold f98
  refine ⟨.sl s.size 0 4 (.known 4), s.push (.cells true (strS tNames)), ?_, Fr.lit 1 wf rfl⟩
  simp [aNew, nSlice, aFill, V.cells, setRange, strS, tNames]

def setAge (p : Pol) (k : Int) (n : Int) : Pol :=
  if k = 0 then { p with a0 := n } else if k = 1 then { p with a1 := n } else if k = 2 then { p with a2 := n } else { p with a3 := n }

def lineP (p : Pol) (ws : List Bs) : Option Pol :=
  let last := ws.getD (ws.length - 1) []
  if ws.getD 0 [] = kKeep ∧ ws.length = 3 then
    if ixT (ws.getD 1 []) tNames 0 < 0 ∨ (numOk last = false ∧ ws.getD 2 [] ≠ kEver) then none else some (setAge p (ixT (ws.getD 1 []) tNames 0) (numV last))
  else if ws.getD 0 [] = kSeal ∧ ws.length = 2 ∧ numOk last = true then some { p with c := numV last }
  else if ws.getD 0 [] = kSpan ∧ ws.length = 2 ∧ numOk last = true then some { p with n := numV last }
  else none

/-- All but one block is as it was. -/
def But (i : Nat) (s t : St) : Prop := t.wf ∧ s.size ≤ t.size ∧ ∀ b, b < s.size → b ≠ i → t.get b = s.get b
theorem Gr.but {s t : St} (h : Gr s t) (i : Nat) : But i s t := ⟨h.1, h.2.1, fun b hb _ => h.2.2 b hb⟩
theorem But.trans {i : Nat} {a b c : St} (h : But i a b) (k : But i b c) : But i a c := ⟨k.1, Nat.le_trans h.2.1 k.2.1, fun x hx hi => by rw [k.2.2 x (Nat.lt_of_lt_of_le hx h.2.1) hi, h.2.2 x hx hi]⟩
theorem But.set {i : Nat} {s : St} (wf : s.wf) (hi : i < s.size) (b : Blk) : But i s (s.set i b) := ⟨St.wf_set wf hi _, by simp, fun c hc hne => St.get_set_ne _ _ hne⟩

theorem set_age {p : Pol} {j : Nat} {n : Int} (hj : j < 4) : setRange (cP p) j [.int .i64 n] = cP (setAge p (j : Nat) n) := by
  match j, hj with
  | 0, _ => rfl
  | 1, _ => rfl
  | 2, _ => rfl
  | 3, _ => rfl

theorem line_run (d : Nat) (wf : s.wf) {p : Pol} {ws : List Bs} (hp : s.get i = some (.cells true (cP p))) (hx : RT s x ws) (hox : ∀ c, own x = some c → c < s.size ∧ c ≠ i) (hne : ws ≠ []) (hl : ws.length ≤ 100000) :
    ∃ t, R (d + 6) 80 [Z (.ptr i 0), Z x] s = some (B (lineP p ws).isSome, t) ∧ But i s t ∧ t.get i = some (.cells true (cP ((lineP p ws).getD p))) := by
  rw [f80_run]
  unfold f80
  have hi := wf.lt hp
  have hpos : 0 < ws.length := by
    cases ws with
    | nil => exact absurd rfl hne
    | cons _ _ => simp
  have at_ : ∀ (u : St), Gr s u → ∀ j : Nat, j < ws.length → ∃ q, aIndexSl 1 (Z x) (I .i64 (j : Nat)) = some q ∧ aLoad1 q u.get = some (Z (.str (ws.getD j []))) := fun u g j hj => by
    have hx' : RT u x ws := hx.gr (fun c hc => (hox c hc).1) g
    exact RT.atT hx' rfl (by simp [List.getD, hj])
  have fixp : ∀ (u v : St) j, j < ws.length → ∀ q, aIndexSl 1 (Z x) (I .i64 ((j : Nat) : Int)) = some q → Gr s u → aLoad1 q u.get = some (Z (.str (ws.getD j []))) := fun u v j hj q hq g => by
    obtain ⟨q', h1, h2⟩ := at_ u g j hj
    rw [hq] at h1
    cases h1
    exact h2
  have hlen := hx.lens
  have w1 : IntKind.i64.wrap ((ws.length : Int) - 1) = ((ws.length - 1 : Nat) : Int) := by rw [wrap_in _ (by omega) (by omega)]; omega
  obtain ⟨ql, ixl, ldl⟩ := at_ s (Gr.refl wf) (ws.length - 1) (by omega)
  obtain ⟨s1, e1, g1⟩ := number_run (l := ws.getD (ws.length - 1) []) d wf
  obtain ⟨last, hlast⟩ : ∃ last, last = ws.getD (ws.length - 1) [] := ⟨_, rfl⟩
  rw [← hlast] at ldl e1
  obtain ⟨q0, ix0, ld0⟩ := at_ s1 g1 0 hpos
  obtain ⟨w0, hw0⟩ : ∃ w, w = ws.getD 0 [] := ⟨_, rfl⟩
  rw [← hw0] at ld0
  have hp1 : s1.get i = some (.cells true (cP p)) := by rw [g1.2.2 i hi]; exact hp
  have hi1 : i < s1.size := Nat.lt_of_lt_of_le hi g1.2.1
  have hdef : lineP p ws = if w0 = kKeep ∧ ws.length = 3 then
    if ixT (ws.getD 1 []) tNames 0 < 0 ∨ (numOk last = false ∧ ws.getD 2 [] ≠ kEver) then none else some (setAge p (ixT (ws.getD 1 []) tNames 0) (numV last))
      else if w0 = kSeal ∧ ws.length = 2 ∧ numOk last = true then some { p with c := numV last }
      else if w0 = kSpan ∧ ws.length = 2 ∧ numOk last = true then some { p with n := numV last } else none := by rw [hw0, hlast]; rfl
  rw [hdef]
  have k1 : (Z (.str [107, 101, 101, 112]) : T) = Z (.str kKeep) := rfl
  have k2 : (Z (.str [115, 101, 97, 108]) : T) = Z (.str kSeal) := rfl
  have k3 : (Z (.str [115, 112, 97, 110]) : T) = Z (.str kSpan) := rfl
  have k4 : (Z (.str [101, 118, 101, 114]) : T) = Z (.str kEver) := rfl
  rw [k1, k2, k3, k4]
  have ix0' : aIndexSl 1 (Z x) (I .i64 0) = some q0 := ix0
  by_cases hk : w0 = kKeep ∧ ws.length = 3
  · rw [if_pos hk]
    obtain ⟨hk0, hk3⟩ := hk
    obtain ⟨y, s2, e2, f2⟩ := names_run (d + 4) g1.wf
    have g2 := g1.trans f2.gr
    obtain ⟨q1, ix1, ld1⟩ := at_ s2 g2 1 (by omega)
    have ld1' := fixp s1 s1 1 (by omega) q1 ix1 g1
    obtain ⟨q2, ix2, ld2⟩ := at_ s2 g2 2 (by omega)
    obtain ⟨w1', hw1⟩ : ∃ w, w = ws.getD 1 [] := ⟨_, rfl⟩
    obtain ⟨w2', hw2⟩ : ∃ w, w = ws.getD 2 [] := ⟨_, rfl⟩
    rw [← hw1] at ld1 ld1' ⊢
    rw [← hw2] at ld2 ⊢
    have e3 := indexT_run (v := w1') (d + 4) f2.rd (by decide)
    have ix1' : aIndexSl 1 (Z x) (I .i64 1) = some q1 := ix1
    have ix2' : aIndexSl 1 (Z x) (I .i64 2) = some q2 := ix2
    have hp2 : s2.get i = some (.cells true (cP p)) := by rw [f2.gr.2.2 i hi1]; exact hp1
    have c3 : (ws.length : Int) = 3 := by omega
    have ckk : decide (aLoad1 q1 s1.get = aLoad1 q1 s2.get) = true := decide_eq_true (by rw [ld1, ld1'])
    simp only [Nat.add_assoc, Nat.reduceAdd] at e2 e3
    generalize R (d + 5) = r at *
    rcases ixT_range w1' tNames 0 with hx1 | ⟨j, hj1, hj2, _⟩
    · rw [hx1] at e3 ⊢
      refine ⟨s2, ?_, Gr.but g2 i, by simp; exact hp2⟩
      generalize ((ws.length - 1 : Nat) : Int) = L1 at *
      have w1c : IntKind.i64.wrap 2 = L1 := by rw [c3] at w1; exact w1
      simp [hlen, w1c, ixl, ldl, e1, aExtract, ix0', ld0, hk0, c3, e2, ix1', ld1, ld1', e3, gtt]
    · rw [hj2] at e3 ⊢
      rw [Nat.zero_add] at e3 ⊢
      have c4 : ¬ ((j : Nat) : Int) < 0 := by omega
      have hj4 : j < 4 := hj1
      by_cases hbad : numOk last = false ∧ w2' ≠ kEver
      · rw [if_pos (.inr hbad)]
        refine ⟨s2, ?_, Gr.but g2 i, by simp; exact hp2⟩
        generalize ((ws.length - 1 : Nat) : Int) = L1 at *
        generalize ((j : Nat) : Int) = J at *
        have w1c : IntKind.i64.wrap 2 = L1 := by rw [c3] at w1; exact w1
        simp [hlen, w1c, ixl, ldl, e1, aExtract, ix0', ld0, hk0, c3, e2, ix1', ld1, ld1', e3, gtt, c4, hbad.1, ix2', ld2, hbad.2]
      · have hn : ¬ (((j : Nat) : Int) < 0 ∨ (numOk last = false ∧ w2' ≠ kEver)) := fun h => h.elim c4 hbad
        rw [if_neg hn]
        obtain ⟨s3, hs3⟩ : ∃ s3, s3 = s2.set i (.cells true (cP (setAge p (j : Nat) (numV last)))) := ⟨_, rfl⟩
        have ixa : aIndexArr 4 1 (Z (.ptr i 0)) (I .i64 (j : Nat)) = some (Z (.ptr i j)) := by
          match j, hj4 with
          | 0, _ => rfl
          | 1, _ => rfl
          | 2, _ => rfl
          | 3, _ => rfl
        have st := aStore1_of (σ := s2) (i := i) (o := j) (x := .int .i64 (numV last)) hp2 (by simp [cP]; omega)
        rw [set_age hj4, ← hs3] at st
        refine ⟨s3, ?_, (Gr.but g2 i).trans (by rw [hs3]; exact But.set (Gr.wf g2) (Nat.lt_of_lt_of_le hi g2.2.1) _), by rw [hs3]; exact St.get_set_same _ _ _⟩
        generalize ((ws.length - 1 : Nat) : Int) = L1 at *
        generalize ((j : Nat) : Int) = J at *
        have w1c : IntKind.i64.wrap 2 = L1 := by rw [c3] at w1; exact w1
        cases hno : numOk last with
        | true =>
          rw [hno] at e1
          simp [hlen, w1c, ixl, ldl, e1, aExtract, ix0', ld0, hk0, c3, e2, ix1', ld1, ld1', e3, gtt, c4, ixa, st]
        | false =>
          rw [hno] at e1
          have hev : w2' = kEver := by
            apply Classical.byContradiction
            intro h
            exact hbad ⟨hno, h⟩
          simp [hlen, w1c, ixl, ldl, e1, aExtract, ix0', ld0, hk0, c3, e2, ix1', ld1, ld1', e3, gtt, c4, ix2', ld2, hev, ixa, st]
  · rw [if_neg hk]
    have hkk : w0 = kKeep → ¬ (ws.length : Int) = 3 := fun h h2 => hk ⟨h, by omega⟩
    by_cases hs : w0 = kSeal ∧ ws.length = 2 ∧ numOk last = true
    · rw [if_pos hs]
      obtain ⟨a1, a2, a3⟩ := hs
      have c2 : (ws.length : Int) = 2 := by omega
      have n1 : ¬ kSeal = kKeep := by decide
      have st := aStore1_of (σ := s1) (i := i) (o := 4) (x := .int .i64 (numV last)) hp1 (by simp [cP])
      refine ⟨s1.set i (.cells true (cP { p with c := numV last })), ?_, (Gr.but g1 i).trans (But.set (Gr.wf g1) hi1 _), by simp⟩
      have hset : setRange (cP p) 4 [.int .i64 (numV last)] = cP { p with c := numV last } := rfl
      rw [hset] at st
      rw [a3] at e1
      generalize R (d + 5) = r at *
      generalize ((ws.length - 1 : Nat) : Int) = L1 at *
      have w1c : IntKind.i64.wrap 1 = L1 := by rw [c2] at w1; exact w1
      simp [hlen, w1c, ixl, ldl, e1, aExtract, ix0', ld0, a1, n1, c2, st]
    · rw [if_neg hs]
      by_cases hq : w0 = kSpan ∧ ws.length = 2 ∧ numOk last = true
      · rw [if_pos hq]
        obtain ⟨a1, a2, a3⟩ := hq
        have c2 : (ws.length : Int) = 2 := by omega
        have n1 : ¬ kSpan = kKeep := by decide
        have n2 : ¬ kSpan = kSeal := by decide
        have st := aStore1_of (σ := s1) (i := i) (o := 5) (x := .int .i64 (numV last)) hp1 (by simp [cP])
        refine ⟨s1.set i (.cells true (cP { p with n := numV last })), ?_, (Gr.but g1 i).trans (But.set (Gr.wf g1) hi1 _), by simp⟩
        have hset : setRange (cP p) 5 [.int .i64 (numV last)] = cP { p with n := numV last } := rfl
        rw [hset] at st
        rw [a3] at e1
        generalize R (d + 5) = r at *
        generalize ((ws.length - 1 : Nat) : Int) = L1 at *
        have w1c : IntKind.i64.wrap 1 = L1 := by rw [c2] at w1; exact w1
        simp [hlen, w1c, ixl, ldl, e1, aExtract, ix0', ld0, a1, n1, n2, c2, st]
      · rw [if_neg hq]
        refine ⟨s1, ?_, Gr.but g1 i, by simp; exact hp1⟩
        have hss : w0 = kSeal → (ws.length : Int) = 2 → numOk last = false := fun h h2 => by
          cases hn : numOk last with
          | false => rfl
          | true => exact absurd ⟨h, by omega, hn⟩ hs
        have hqq : w0 = kSpan → (ws.length : Int) = 2 → numOk last = false := fun h h2 => by
          cases hn : numOk last with
          | false => rfl
          | true => exact absurd ⟨h, by omega, hn⟩ hq
        generalize R (d + 5) = r at *
        generalize ((ws.length - 1 : Nat) : Int) = L1 at *
        have n1 : ¬ kSeal = kKeep := by decide
        have n2 : ¬ kSpan = kKeep := by decide
        have n3 : ¬ kSpan = kSeal := by decide
        have n4 : ¬ kSeal = kSpan := by decide
        have n5 : ¬ kKeep = kSpan := by decide
        have n6 : ¬ kKeep = kSeal := by decide
        by_cases b1 : w0 = kKeep
        · have c3 := hkk b1
          simp [hlen, w1, ixl, ldl, e1, aExtract, ix0', ld0, b1, c3, n5, n6]
        · by_cases b2 : w0 = kSeal
          · by_cases c2 : (ws.length : Int) = 2
            · have := hss b2 c2
              have w1c : IntKind.i64.wrap 1 = L1 := by rw [c2] at w1; exact w1
              simp [hlen, w1c, ixl, ldl, e1, aExtract, ix0', ld0, b2, n1, n4, c2, this]
            · simp [hlen, w1, ixl, ldl, e1, aExtract, ix0', ld0, b2, n1, n4, c2]
          · by_cases b3 : w0 = kSpan
            · by_cases c2 : (ws.length : Int) = 2
              · have := hqq b3 c2
                have w1c : IntKind.i64.wrap 1 = L1 := by rw [c2] at w1; exact w1
                simp [hlen, w1c, ixl, ldl, e1, aExtract, ix0', ld0, b3, n2, n3, c2, this]
              · simp [hlen, w1, ixl, ldl, e1, aExtract, ix0', ld0, b3, n2, n3, c2]
            · simp [hlen, w1, ixl, ldl, e1, aExtract, ix0', ld0, b1, b2, b3]
end
end Go.Proofs.YtlhbidbdmdcdeaaGreatDoor

/-
  What policy.Parse computes, in any store. No conditions but those named in each line.
-/
namespace Go.Proofs.YtlhbidbdmdcdeaaGreatDoor
open Go Go.Abs Go.Abs.F
set_option linter.unusedVariables false

def wordsOf (x : Bs) : List Bs := (splitB 32 (x.takeWhile fun b => !Nat.beq b.toNat (35 : UInt8).toNat)).filter fun w => !decide (w = [])

/-- A policy, a code, the line. -/
def parseGo : Pol → List Bs → Nat → List Bs → Pol × Int × Int
  | p, _, _, [] => if mayP p then (p, 0, 0) else (pol0, 5, 0)
  | p, seen, k, x :: r => if wordsOf x = [] then parseGo p seen (k + 1) r else
    match lineP p (wordsOf x) with
    | none => (pol0, 4, k + 1)
    | some p' => if joinB [32] (wordsOf x).dropLast ∈ seen then (pol0, 4, k + 1) else parseGo p' (seen ++ [joinB [32] (wordsOf x).dropLast]) (k + 1) r
def parseP (l : Bs) : Pol × Int × Int := parseGo polD [] 0 (splitB 10 l)

section
variable {s t : St} {x y : S} {l : Bs} {i : Nat}

theorem wordsOf_len (x : Bs) : (wordsOf x).length ≤ x.length + 1 := by
  unfold wordsOf
  refine Nat.le_trans (List.length_filter_le _ _) ?_
  rw [splitB_len]
  have h1 := cntB_le 32 (x.takeWhile fun b => !Nat.beq b.toNat (35 : UInt8).toNat)
  have h2 := (List.takeWhile_sublist (p := fun b : UInt8 => !Nat.beq b.toNat (35 : UInt8).toNat) (l := x)).length_le
  omega

theorem total_sublist : ∀ {a b : List Bs}, a.Sublist b → totalLen a ≤ totalLen b := by
  intro a b h
  induction h with
  | slnil => exact Nat.le_refl _
  | cons x _ ih => simp only [totalLen]; omega
  | cons_cons x _ ih => simp only [totalLen]; omega

theorem wordsOf_total (x : Bs) : totalLen (wordsOf x).dropLast ≤ x.length := by
  have h1 := total_sublist (List.dropLast_sublist (wordsOf x))
  have h2 := total_sublist (List.filter_sublist (l := splitB 32 (x.takeWhile fun b => !Nat.beq b.toNat (35 : UInt8).toNat)) (p := fun w => !decide (w = [])))
  have h3 : totalLen (splitB 32 (x.takeWhile fun b => !Nat.beq b.toNat (35 : UInt8).toNat)) ≤ (x.takeWhile fun b => !Nat.beq b.toNat (35 : UInt8).toNat).length := by rw [totalLen_sum]; exact splitB_sum _ _
  have h4 := (List.takeWhile_sublist (p := fun b : UInt8 => !Nat.beq b.toNat (35 : UInt8).toNat) (l := x)).length_le
  unfold wordsOf at h1 ⊢
  exact Nat.le_trans h1 (Nat.le_trans h2 (Nat.le_trans h3 h4))

/-- The words of a line are gathered. -/
theorem words_loop (r : CallF) (v0 v1 v2 v3 v5 v6 v7 : T) {ps : List Bs} (hx : RT s x ps) (hox : ∀ c, own x = some c → c < s.size) (wf : s.wf) (hl : ps.length ≤ 8001) :
    ∃ (y : S) (τ : St), loops (f51_l2 r 8192) 8192 [v0, v1, v2, v3, Z .nils, v5, v6, v7, Z x, I .i64 ps.length, I .i64 0] s = some (.exit 2 [v0, v1, v2, v3, Z y, v5, v6, v7], τ) ∧ FT s τ y (ps.filter fun w => !decide (w = [])) := by
  obtain ⟨j, τ, lp, y, rfl, hf⟩ := loops_inv (f := f51_l2 r 8192) (fun q v u => ∃ (k : Nat) (y : S), q + k = ps.length ∧ v = [v0, v1, v2, v3, Z y, v5, v6, v7, Z x, I .i64 ps.length, I .i64 k] ∧ FT s u y ((ps.take k).filter fun w => !decide (w = [])))
    (fun j u => ∃ y, j = .exit 2 [v0, v1, v2, v3, Z y, v5, v6, v7] ∧ FT s u y (ps.filter fun w => !decide (w = []))) (by
    rintro q v u ⟨k, y, hk, rfl, hf⟩
    by_cases hkl : k < ps.length
    · left
      have hc : ps[k]? = some ps[k] := List.getElem?_eq_getElem hkl
      have hx' : RT u x ps := hx.gr hox hf.gr
      obtain ⟨p, ix, ld⟩ := RT.atT hx' (n := (k : Int)) rfl hc
      have c0 : (k : Int) < (ps.length : Int) := by omega
      have w1 : IntKind.i64.wrap ((k : Int) + 1) = ((k + 1 : Nat) : Int) := by rw [wrap_in _ (by omega) (by omega)]; omega
      have htk : ps.take (k + 1) = ps.take k ++ [ps[k]] := by rw [List.take_add_one, hc]; rfl
      by_cases he : ps[k] = []
      · refine ⟨[v0, v1, v2, v3, Z y, v5, v6, v7, Z x, I .i64 ps.length, I .i64 ((k + 1 : Nat) : Int)], u, q - 1, ?_, by omega, k + 1, y, by omega, rfl, ?_⟩
        · unfold f51_l2
          rw [he] at ld
          generalize ((k + 1 : Nat) : Int) = K1 at w1 ⊢
          generalize (k : Int) = K at *
          simp [c0, ix, ld, w1]
        · rw [htk, List.filter_append, he]
          simpa using hf
      · have hlen : ((ps.take k).filter fun w => !decide (w = [])).length ≤ 1000000 := by
          refine Nat.le_trans (List.length_filter_le _ _) ?_
          rw [List.length_take]
          omega
        obtain ⟨y', t, ⟨s', nw, ap⟩, hf', _⟩ := FT.lit (c := ps[k]) hf hlen
        refine ⟨[v0, v1, v2, v3, Z y', v5, v6, v7, Z x, I .i64 ps.length, I .i64 ((k + 1 : Nat) : Int)], t, q - 1, ?_, by omega, k + 1, y', by omega, rfl, ?_⟩
        · unfold f51_l2
          generalize ((k + 1 : Nat) : Int) = K1 at w1 ⊢
          generalize (k : Int) = K at *
          simp [c0, ix, ld, he, nw, ap, w1]
        · rw [htk, List.filter_append]
          simpa [he] using hf'
    · right
      have hk' : k = ps.length := by omega
      subst hk'
      refine ⟨.exit 2 [v0, v1, v2, v3, Z y, v5, v6, v7], u, ?_, (fun v hv => by cases hv), y, rfl, by rwa [List.take_length] at hf⟩
      unfold f51_l2
      simp) 8192 ps.length [v0, v1, v2, v3, Z .nils, v5, v6, v7, Z x, I .i64 ps.length, I .i64 0] s ⟨0, .nils, by omega, rfl, by simpa [FT, strS] using Fr.nil 1 wf⟩ (by omega)
  exact ⟨y, τ, lp, hf⟩

theorem parse_run (d : Nat) (wf : s.wf) (hl : l.length ≤ 8000) : ∃ t, R (d + 7) 51 [Z (.str l)] s = some (.tup [.agg (cP (parseP l).1), .s (.int .i64 (parseP l).2.1), .s (.int .i64 (parseP l).2.2)], t) ∧ Gr s t := by
  rw [f51_run]
  unfold f51
  -- the result's block, the policy's block, the lines
  obtain ⟨s1, hs1⟩ : ∃ s1, s1 = s.push (.cells true (cP pol0)) := ⟨_, rfl⟩
  have g1 : Gr s s1 := by rw [hs1]; exact Gr.push wf _
  have z1 : s1.size = s.size + 1 := by rw [hs1]; rfl
  have hr1 : s1.get s.size = some (.cells true (cP pol0)) := by rw [hs1]; exact St.get_push_same _ _
  have nw1 : aNew s (nCells [.int .i64 0, .int .i64 0, .int .i64 0, .int .i64 0, .int .i64 0, .int .i64 0]) = some (Z (.ptr s.size 0), s1) := by rw [hs1]; rfl
  obtain ⟨s2, e2, g2⟩ := default_run (d + 5) g1.wf
  obtain ⟨s3, hs3⟩ : ∃ s3, s3 = s2.push (.cells true (cP pol0)) := ⟨_, rfl⟩
  have g3 : Gr s2 s3 := by rw [hs3]; exact Gr.push g2.wf _
  have nw3 : aNew s2 (nCells [.int .i64 0, .int .i64 0, .int .i64 0, .int .i64 0, .int .i64 0, .int .i64 0]) = some (Z (.ptr s2.size 0), s3) := by rw [hs3]; rfl
  have hp3 : s3.get s2.size = some (.cells true (cP pol0)) := by rw [hs3]; exact St.get_push_same _ _
  have z3 : s3.size = s2.size + 1 := by rw [hs3]; rfl
  obtain ⟨s4, hs4⟩ : ∃ s4, s4 = s3.set s2.size (.cells true (cP polD)) := ⟨_, rfl⟩
  have st4 := store6 (p := polD) hp3 rfl
  rw [← hs4] at st4
  have f4 : s4.wf := by rw [hs4]; exact St.wf_set g3.wf (by omega) _
  have z4 : s4.size = s2.size + 1 := by rw [hs4]; simpa using z3
  have hp4 : s4.get s2.size = some (.cells true (cP polD)) := by rw [hs4]; exact St.get_set_same _ _ _
  have old4 : ∀ b, b < s2.size → s4.get b = s2.get b := fun b hb => by rw [hs4, St.get_set_ne _ _ (by omega), g3.2.2 b hb]
  have hle2 : s.size + 1 ≤ s2.size := by have := g2.2.1; omega
  have hr4 : s4.get s.size = some (.cells true (cP pol0)) := by rw [old4 _ (by omega), g2.2.2 _ (by omega)]; exact hr1
  have olds4 : ∀ b, b < s.size → s4.get b = s.get b := fun b hb => by rw [old4 b (by omega), g2.2.2 b (by omega), g1.2.2 b hb]
  obtain ⟨x, s5, e5, f5⟩ := split_run (l := l) (c := 10) (d + 3) f4 hl
  obtain ⟨ps, hps⟩ : ∃ ps, ps = splitB 10 l := ⟨_, rfl⟩
  rw [← hps] at f5
  have hcount : ps.length ≤ 8001 := by rw [hps, splitB_len]; have := cntB_le 10 l; omega
  have hmem : ∀ w ∈ ps, w.length ≤ 8000 := fun w hw => by have := splitB_mem 10 l w (by rw [← hps]; exact hw); omega
  have hresult : parseP l = parseGo polD [] 0 ps := by rw [hps]; rfl
  rw [hresult]
  obtain ⟨rp, hrp⟩ : ∃ rp, rp = s.size := ⟨_, rfl⟩
  obtain ⟨pp, hpp⟩ : ∃ pp, pp = s2.size := ⟨_, rfl⟩
  rw [← hrp] at nw1 hr4
  rw [← hpp] at nw3 st4 hp4
  obtain ⟨j, τ, lp, hj⟩ := loops_inv (f := f51_l1 (R (d + 6)) 8192)
    (fun q v u => ∃ (k : Nat) (p : Pol) (y : S) (seen : List Bs), q + k = ps.length ∧ v = [Z (.ptr rp 0), Z (.ptr pp 0), Z y, Z x, I .i64 ps.length, I .i64 k] ∧ u.wf ∧ s5.size ≤ u.size ∧ u.get rp = some (.cells true (cP pol0)) ∧ u.get pp = some (.cells true (cP p)) ∧
      (∀ b, b < s5.size → b ≠ pp → u.get b = s5.get b) ∧ Ow 1 u y seen.length (strS seen) ∧ (∀ c, own y = some c → s5.size ≤ c ∧ c < u.size) ∧ seen.length ≤ k ∧ parseGo p seen k (ps.drop k) = parseGo polD [] 0 ps)
    (fun j u => u.wf ∧ s5.size ≤ u.size ∧ (∀ b, b < s5.size → b ≠ pp → b ≠ rp → u.get b = s5.get b) ∧
      ((∃ p, j = .exit 0 [Z (.ptr rp 0), Z (.ptr pp 0)] ∧ u.get rp = some (.cells true (cP pol0)) ∧ u.get pp = some (.cells true (cP p)) ∧ parseGo polD [] 0 ps = if mayP p then (p, 0, 0) else (pol0, 5, 0)) ∨
       ∃ k : Nat, j = .ret (.tup [.agg (cP pol0), .s (.int .i64 4), .s (.int .i64 ((k + 1 : Nat) : Int))]) ∧ parseGo polD [] 0 ps = (pol0, 4, (k : Int) + 1))) (by
    rintro q v u ⟨k, p, y, seen, hk, rfl, wfu, hzu, hru, hpu, hou, hy, hyo, hsl, hgo⟩
    have hne : rp ≠ pp := by omega
    have hrp5 : rp < s5.size := by have := f5.gr.2.1; omega
    have hpp5 : pp < s5.size := by have := f5.gr.2.1; omega
    by_cases hkl : k < ps.length
    · have hc : ps[k]? = some ps[k] := List.getElem?_eq_getElem hkl
      have hdr : ps.drop k = ps[k] :: ps.drop (k + 1) := List.drop_eq_getElem_cons hkl
      obtain ⟨w, hw⟩ : ∃ w, w = ps[k] := ⟨_, rfl⟩
      rw [← hw] at hc hdr
      rw [hdr] at hgo
      have hwl : w.length ≤ 8000 := hmem w (List.mem_of_getElem? hc)
      have hx' : RT u x ps := f5.rd.keep fun c hc' => hou c (f5.new c hc').2 (by have := (f5.new c hc').1; omega)
      obtain ⟨pi, ix, ld⟩ := RT.atT hx' (n := (k : Int)) rfl hc
      have c0 : (k : Int) < (ps.length : Int) := by omega
      have w1 : IntKind.i64.wrap ((k : Int) + 1) = ((k + 1 : Nat) : Int) := by rw [wrap_in _ (by omega) (by omega)]; omega
      have ec := cut_run (s := u) (l := w) (c := 35) (d + 3) (by omega)
      obtain ⟨cw, hcw⟩ : ∃ cw, cw = w.takeWhile fun b => !Nat.beq b.toNat (35 : UInt8).toNat := ⟨_, rfl⟩
      rw [← hcw] at ec
      have hcl : cw.length ≤ w.length := by rw [hcw]; exact (List.takeWhile_sublist _).length_le
      obtain ⟨x2, u2, es, fs⟩ := split_run (l := cw) (c := 32) (d + 3) wfu (by omega)
      have hl2 : (splitB 32 cw).length ≤ 8001 := by rw [splitB_len]; have := cntB_le 32 cw; omega
      have hl2' := fs.rd.lens
      obtain ⟨y3, u3, lp2, f3⟩ := words_loop (R (d + 6)) (Z (.ptr rp 0)) (Z (.ptr pp 0)) (Z y) (I .i64 k) (Z x) (I .i64 ps.length) (I .i64 k) fs.rd (fun c hc' => (fs.new c hc').2) fs.gr.wf hl2
      have hws : ((splitB 32 cw).filter fun w => !decide (w = [])) = wordsOf w := by rw [hcw]; rfl
      rw [hws] at f3
      have g23 : Gr u u3 := fs.gr.trans f3.gr
      have hru3 : u3.get rp = some (.cells true (cP pol0)) := by rw [g23.2.2 rp (by omega)]; exact hru
      have hpu3 : u3.get pp = some (.cells true (cP p)) := by rw [g23.2.2 pp (by omega)]; exact hpu
      have hou3 : ∀ b, b < s5.size → b ≠ pp → u3.get b = s5.get b := fun b hb hb2 => by rw [g23.2.2 b (by omega)]; exact hou b hb hb2
      have hy3 : Ow 1 u3 y seen.length (strS seen) := hy.gr wfu g23
      have hyo3 : ∀ c, own y = some c → s5.size ≤ c ∧ c < u3.size := fun c hc' => ⟨(hyo c hc').1, Nat.lt_of_lt_of_le (hyo c hc').2 g23.2.1⟩
      have hz3 : s5.size ≤ u3.size := Nat.le_trans hzu g23.2.1
      have hl3 := f3.rd.lens
      simp only [Nat.add_assoc, Nat.reduceAdd] at ec es lp2
      by_cases hnil : wordsOf w = []
      · left
        rw [hnil] at hl3
        refine ⟨[Z (.ptr rp 0), Z (.ptr pp 0), Z y, Z x, I .i64 ps.length, I .i64 ((k + 1 : Nat) : Int)], u3, q - 1, ?_, by omega, k + 1, p, y, seen, by omega, rfl, g23.wf, hz3, hru3, hpu3, hou3, hy3, hyo3, by omega, ?_⟩
        · unfold f51_l1
          generalize R (d + 6) = r at *
          generalize ((k + 1 : Nat) : Int) = K1 at w1 ⊢
          generalize (k : Int) = K at *
          generalize ((splitB 32 cw).length : Int) = SL at *
          simp [c0, ix, ld, ec, aExtract, es, hl2', lp2, hl3, w1]
        · rw [← hgo]
          show _ = (if wordsOf w = [] then _ else _)
          rw [if_pos hnil]
      · -- a line that says something
        obtain ⟨n, hn⟩ : ∃ n, (wordsOf w).length = n + 1 := by
          cases hq : wordsOf w with
          | nil => exact absurd hq hnil
          | cons a b => exact ⟨b.length, rfl⟩
        have hwn : (wordsOf w).length ≤ 8001 := Nat.le_trans (wordsOf_len w) (by omega)
        rw [hn] at hl3
        have cl : ¬ (((n + 1 : Nat) : Int) = 0) := by omega
        have wl : IntKind.i64.wrap (((n + 1 : Nat) : Int) - 1) = ((n : Nat) : Int) := by rw [wrap_in _ (by omega) (by omega)]; omega
        obtain ⟨y4, pc, rd4, own4⟩ := f3.rd.upto (hi := n) (by omega)
        have htk : (strS (wordsOf w)).take (n * 1) = strS (wordsOf w).dropLast := by rw [Nat.mul_one, strS_take, List.dropLast_eq_take, hn, Nat.add_sub_cancel]
        have hdl : (wordsOf w).dropLast.length = n := by rw [List.length_dropLast, hn, Nat.add_sub_cancel]
        rw [htk] at rd4
        have rd4' : RT u3 y4 (wordsOf w).dropLast := by unfold RT; rw [hdl]; exact rd4
        have ej : R (d + 6) 79 [Z y4, Z (.str [32])] u3 = some (Z (.str (joinB [32] (wordsOf w).dropLast)), u3) := runQ_prim (prim_join rd4' (by have := wordsOf_total w; simp; omega) (by omega))
        obtain ⟨said, hsaid⟩ : ∃ said, said = joinB [32] (wordsOf w).dropLast := ⟨_, rfl⟩
        rw [← hsaid] at ej
        have hrdw : RT u3 y3 (wordsOf w) := f3.rd
        obtain ⟨u4, e4, b4, hp4'⟩ := line_run (i := pp) d g23.wf (ws := wordsOf w) hpu3 hrdw (fun c hc' => ⟨(f3.new c hc').2, by have := (f3.new c hc').1; have := fs.gr.2.1; omega⟩) hnil (by omega)
        have hz4 : s5.size ≤ u4.size := Nat.le_trans hz3 b4.2.1
        have hru4 : u4.get rp = some (.cells true (cP pol0)) := by rw [b4.2.2 rp (by omega) hne]; exact hru3
        have hou4 : ∀ b, b < s5.size → b ≠ pp → u4.get b = s5.get b := fun b hb hb2 => by rw [b4.2.2 b (by omega) hb2]; exact hou3 b hb hb2
        have hy4 : Ow 1 u4 y seen.length (strS seen) := hy3.keep fun c hc' => b4.2.2 c (hyo3 c hc').2 (by have := (hyo3 c hc').1; omega)
        have hyo4 : ∀ c, own y = some c → s5.size ≤ c ∧ c < u4.size := fun c hc' => ⟨(hyo3 c hc').1, Nat.lt_of_lt_of_le (hyo3 c hc').2 b4.2.1⟩
        have econ := containsT_run (s := u4) (x := y) (ws := seen) (v := said) (d + 4) hy4.rd (by omega)
        have hgo2 : (match lineP p (wordsOf w) with
          | none => (pol0, 4, (k : Int) + 1)
          | some p' => if said ∈ seen then (pol0, 4, (k : Int) + 1) else parseGo p' (seen ++ [said]) (k + 1) (ps.drop (k + 1))) = parseGo polD [] 0 ps := by
          rw [← hgo]
          show _ = (if wordsOf w = [] then _ else _)
          rw [if_neg hnil, hsaid]
        -- the two ways to fail
        have store_r : ∀ u' : St, u'.get rp = some (.cells true (cP pol0)) → aStore 6 (Z (.ptr rp 0)) (AP pol0) u' = some (tt, u'.set rp (.cells true (cP pol0))) := fun u' h => store6 h rfl
        have load_r : ∀ u' : St, aLoadN 6 (Z (.ptr rp 0)) (u'.set rp (.cells true (cP pol0))).get = some (AP pol0) := fun u' => load6 (St.get_set_same _ _ _)
        simp only [Nat.add_assoc, Nat.reduceAdd] at e4 econ
        cases hlp : lineP p (wordsOf w) with
        | none =>
          right
          rw [hlp] at e4 hgo2
          simp only [Option.isSome_none] at e4
          refine ⟨.ret (.tup [.agg (cP pol0), .s (.int .i64 4), .s (.int .i64 ((k + 1 : Nat) : Int))]), u4.set rp (.cells true (cP pol0)), ?_, (fun v hv => by cases hv), St.wf_set b4.1 (by omega) _, by simpa using hz4, fun b hb h1 h2 => by rw [St.get_set_ne _ _ h2]; exact hou4 b hb h1, .inr ⟨k, rfl, hgo2.symm⟩⟩
          unfold f51_l1
          have sr := store_r u4 hru4
          have lr := load_r u4
          generalize u4.set rp (.cells true (cP pol0)) = u5 at *
          generalize R (d + 6) = r at *
          generalize ((k + 1 : Nat) : Int) = K1 at w1 ⊢
          generalize (k : Int) = K at *
          generalize ((splitB 32 cw).length : Int) = SL at *
          generalize ((n + 1 : Nat) : Int) = N1 at *
          generalize ((n : Nat) : Int) = N0 at *
          simp [c0, ix, ld, ec, aExtract, es, hl2', lp2, hl3, cl, wl, pc, ej, e4, gtt, agg6, sr, lr, w1, rC, rT, retT, allV]
        | some p' =>
          rw [hlp] at e4 hgo2 hp4'
          simp only [Option.isSome_some] at e4
          by_cases hin : said ∈ seen
          · right
            simp only [if_pos hin] at hgo2
            rw [decide_eq_true hin] at econ
            refine ⟨.ret (.tup [.agg (cP pol0), .s (.int .i64 4), .s (.int .i64 ((k + 1 : Nat) : Int))]), u4.set rp (.cells true (cP pol0)), ?_, (fun v hv => by cases hv), St.wf_set b4.1 (by omega) _, by simpa using hz4, fun b hb h1 h2 => by rw [St.get_set_ne _ _ h2]; exact hou4 b hb h1, .inr ⟨k, rfl, hgo2.symm⟩⟩
            unfold f51_l1
            have sr := store_r u4 hru4
            have lr := load_r u4
            generalize u4.set rp (.cells true (cP pol0)) = u5 at *
            generalize R (d + 6) = r at *
            generalize ((k + 1 : Nat) : Int) = K1 at w1 ⊢
            generalize (k : Int) = K at *
            generalize ((splitB 32 cw).length : Int) = SL at *
            generalize ((n + 1 : Nat) : Int) = N1 at *
            generalize ((n : Nat) : Int) = N0 at *
            simp [c0, ix, ld, ec, aExtract, es, hl2', lp2, hl3, cl, wl, pc, ej, e4, econ, agg6, sr, lr, w1, rC, rT, retT, allV]
          · left
            simp only [if_neg hin] at hgo2
            rw [decide_eq_false hin] at econ
            have hfr : Fr 1 u4 u4 y seen.length (strS seen) → True := fun _ => trivial
            have L := Fr.lit 1 b4.1 (n := 1) (vs := strS [said]) (by simp)
            obtain ⟨y5, u5, ap, wf5, z5, ow5, old5, new5⟩ := (hy4.gr b4.1 L.gr).append (by_ := 16) L.gr.wf (by omega) L.rd.src (by simp) (by omega)
            have nw : aNew u4 (nSlice 1 (aFill [.str []] [(0, 1, Z (.str said))])) = some (Z (.sl u4.size 0 1 (.known 1)), u4.push (.cells true (strS [said]))) := by simp [aNew, nSlice, aFill, V.cells, setRange, strS]
            have zl : u4.size < (u4.push (.cells true (strS [said]))).size := by simp
            have keep5 : ∀ b, b < s5.size → u5.get b = u4.get b := fun b hb => by
              rw [old5 b (by omega) (fun e => by have := (hyo4 b e).1; omega), L.gr.2.2 b (by omega)]
            refine ⟨[Z (.ptr rp 0), Z (.ptr pp 0), Z y5, Z x, I .i64 ps.length, I .i64 ((k + 1 : Nat) : Int)], u5, q - 1, ?_, by omega, k + 1, p', y5, seen ++ [said], by omega, rfl, wf5, by omega, by rw [keep5 rp hrp5]; exact hru4, by rw [keep5 pp hpp5]; exact hp4',
              fun b hb h1 => by rw [keep5 b hb]; exact hou4 b hb h1, by rw [strS_append, List.length_append]; exact ow5, fun c hc' => ?_, by simp; omega, by rw [hgo2]⟩
            · unfold f51_l1
              generalize u4.push (.cells true (strS [said])) = u6 at *
              generalize R (d + 6) = r at *
              generalize ((k + 1 : Nat) : Int) = K1 at w1 ⊢
              generalize (k : Int) = K at *
              generalize ((splitB 32 cw).length : Int) = SL at *
              generalize ((n + 1 : Nat) : Int) = N1 at *
              generalize ((n : Nat) : Int) = N0 at *
              simp [c0, ix, ld, ec, aExtract, es, hl2', lp2, hl3, cl, wl, pc, ej, e4, econ, nw, ap, w1]
            · have hlt := ow5.lt wf5 hc'
              rcases new5 with e | e | ⟨c', e, hc2⟩
              · rw [e] at hc'; cases hc'
              · rw [e] at hc'; exact ⟨(hyo4 c hc').1, hlt⟩
              · rw [e] at hc'; cases hc'; exact ⟨by omega, hlt⟩
    · right
      have hk' : k = ps.length := by omega
      refine ⟨.exit 0 [Z (.ptr rp 0), Z (.ptr pp 0)], u, ?_, (fun v hv => by cases hv), wfu, hzu, fun b hb h1 h2 => hou b hb h1, .inl ⟨p, rfl, hru, hpu, ?_⟩⟩
      · have c0 : ¬ (k : Int) < (ps.length : Int) := by omega
        unfold f51_l1
        simp [c0]
      · rw [← hgo, List.drop_eq_nil_of_le (by omega)]
        rfl) 8192 ps.length [Z (.ptr rp 0), Z (.ptr pp 0), Z .nils, Z x, I .i64 ps.length, I .i64 0] s5
    ⟨0, polD, .nils, [], by omega, rfl, f5.gr.wf, Nat.le_refl _, by rw [f5.gr.2.2 rp (by omega)]; exact hr4, by rw [f5.gr.2.2 pp (by omega)]; exact hp4, fun b hb h1 => rfl, by simpa [strS] using Ow.nil 1 s5, (fun c hc => by cases hc), by simp, rfl⟩ (by omega)
  have hlen5 := f5.rd.lens
  simp only [Nat.add_assoc, Nat.reduceAdd] at e2 e5
  obtain ⟨wfτ, zτ, oldτ, hcase⟩ := hj
  have h45 := f5.gr.2.1
  have oldsτ : ∀ b, b < s.size → τ.get b = s.get b := fun b hb => by rw [oldτ b (by omega) (by omega) (by omega), f5.gr.2.2 b (by omega)]; exact olds4 b hb
  rcases hcase with ⟨p, rfl, hrτ, hpτ, hres⟩ | ⟨k, rfl, hres⟩
  · have lp6 := load6 (g := τ.get) hpτ
    obtain ⟨s6, em, g6⟩ := may_run (d + 5) wfτ p
    have hr6 : s6.get rp = some (.cells true (cP pol0)) := by rw [g6.2.2 rp (by omega)]; exact hrτ
    have hp6 : s6.get pp = some (.cells true (cP p)) := by rw [g6.2.2 pp (by omega)]; exact hpτ
    have ld6 := load6 (g := s6.get) hp6
    have olds6 : ∀ b, b < s.size → s6.get b = s.get b := fun b hb => by rw [g6.2.2 b (by omega)]; exact oldsτ b hb
    have hsz : s.size ≤ s6.size := by have := g6.2.1; omega
    have hrp6 : rp < s6.size := by have := g6.2.1; omega
    cases hm : mayP p with
    | true =>
      rw [hm] at em hres
      rw [hres]
      have st6 := store6 (p := p) hr6 rfl
      obtain ⟨s7, hs7⟩ : ∃ s7, s7 = s6.set rp (.cells true (cP p)) := ⟨_, rfl⟩
      rw [← hs7] at st6
      have ld7 : aLoadN 6 (Z (.ptr rp 0)) s7.get = some (AP p) := load6 (by rw [hs7]; exact St.get_set_same _ _ _)
      refine ⟨s7, ?_, by rw [hs7]; exact St.wf_set g6.wf (by omega) _, by rw [hs7]; simpa using hsz, fun b hb => by rw [hs7, St.get_set_ne _ _ (by omega)]; exact olds6 b hb⟩
      generalize R (d + 6) = r at *
      generalize (ps.length : Int) = PL at *
      simp [nw1, e2, nw3, st4, e5, hlen5, lp, lp6, em, ld6, st6, ld7, rC, rT, retT, allV]
    | false =>
      rw [hm] at em hres
      rw [hres]
      have st6 := store6 (p := pol0) hr6 rfl
      obtain ⟨s7, hs7⟩ : ∃ s7, s7 = s6.set rp (.cells true (cP pol0)) := ⟨_, rfl⟩
      rw [← hs7] at st6
      have ld7 : aLoadN 6 (Z (.ptr rp 0)) s7.get = some (AP pol0) := load6 (by rw [hs7]; exact St.get_set_same _ _ _)
      refine ⟨s7, ?_, by rw [hs7]; exact St.wf_set g6.wf (by omega) _, by rw [hs7]; simpa using hsz, fun b hb => by rw [hs7, St.get_set_ne _ _ (by omega)]; exact olds6 b hb⟩
      generalize R (d + 6) = r at *
      generalize (ps.length : Int) = PL at *
      simp [nw1, e2, nw3, st4, e5, hlen5, lp, lp6, em, agg6, st6, ld7, rC, rT, retT, allV]
  · rw [hres]
    refine ⟨τ, ?_, wfτ, by omega, oldsτ⟩
    generalize R (d + 6) = r at *
    generalize (ps.length : Int) = PL at *
    have hk1 : ((k + 1 : Nat) : Int) = (k : Int) + 1 := by omega
    rw [hk1] at lp
    simp [nw1, e2, nw3, st4, e5, hlen5, lp]
end
end Go.Proofs.YtlhbidbdmdcdeaaGreatDoor

/-
  Numbers' bytes, sums and comparisons of bytes: what the functions compute, in any store. No conditions but those named in each line.
-/
namespace Go.Proofs.YtlhbidbdmdcdeaaGreatDoor
open Go Go.Abs Go.Abs.F
set_option linter.unusedVariables false
section
variable {s t : St} {x y : S} {bs cs : List UInt8}

def vjo (at_ : Nat) : Option (Nat × Nat) → JO
  | some (n, e) => .ret (.tup [.s (.int .u64 n), .s (.int .i64 e), .s (.int .i64 0)])
  | none => .exit 0 [I .i64 at_]

theorem getN_run (r : CallF) (N : Nat) (h : RB s x bs) (hl : bs.length ≤ 100000) {at_ : Nat} (ha : at_ ≤ 100000) (res : Option (Nat × Nat)) (hres : getN bs at_ 10 0 0 = res) :
    loops (f54_l1 r N) 8192 [Z x, I .i64 at_, I .u64 0, I .i64 0] s = some (vjo at_ res, s) := by
  obtain ⟨j, τ, lp, hj, hτ⟩ := loops_inv (f := f54_l1 r N) (fun q v u => ∃ k n : Nat, q + k = 10 ∧ v = [Z x, I .i64 at_, I .u64 n, I .i64 k] ∧ u = s ∧ n < 2 ^ 64 ∧ getN bs at_ q k n = res)
    (fun j u => j = vjo at_ res ∧ u = s) (by
    rintro q v u ⟨k, n, hk, rfl, rfl, hn, hg⟩
    have hll := h.lenB
    cases q with
    | zero =>
      right
      have hk' : k = 10 := by omega
      subst hk'
      have : res = none := by rw [← hg]; rfl
      subst this
      refine ⟨.exit 0 [I .i64 at_], u, ?_, (fun v hv => by cases hv), rfl, rfl⟩
      unfold f54_l1
      simp
    | succ q =>
      have c0 : (k : Int) < 10 := by omega
      have w0 : IntKind.i64.wrap ((at_ : Int) + k) = ((at_ + k : Nat) : Int) := by rw [wrap_in _ (by omega) (by omega)]; omega
      unfold getN at hg
      cases hc : bs[at_ + k]? with
      | none =>
        rw [hc] at hg
        subst hg
        right
        have hle : bs.length ≤ at_ + k := by simpa using hc
        have c1 : (bs.length : Int) ≤ ((at_ + k : Nat) : Int) := by omega
        refine ⟨.exit 0 [I .i64 at_], u, ?_, (fun v hv => by cases hv), rfl, rfl⟩
        unfold f54_l1
        generalize ((at_ + k : Nat) : Int) = A at w0 c1 ⊢
        simp [c0, w0, hll, c1]
      | some c =>
        rw [hc] at hg
        simp only at hg
        have hlt := (List.getElem?_eq_some_iff.1 hc).1
        have c1 : ¬ (bs.length : Int) ≤ ((at_ + k : Nat) : Int) := by omega
        obtain ⟨p, ix, ld⟩ := h.atB (n := ((at_ + k : Nat) : Int)) rfl hc
        have hcb : c.toNat < 256 := c.toNat_lt
        have hand : aBin .and (I .u8 c.toNat) (I .u8 127) = some (I .u8 (c.toNat % 128 : Nat)) := by
          have := and_u8 c.toNat 127 hcb (by decide)
          rw [show (c.toNat &&& 127 : Nat) = c.toNat % 128 from Nat.and_two_pow_sub_one_eq_mod c.toNat 7] at this
          exact this
        have hconv : IntKind.u64.wrap ((c.toNat % 128 : Nat) : Int) = ((c.toNat % 128 : Nat) : Int) := wrap64 _ (by omega)
        have hm7 : IntKind.i64.wrap (7 * (k : Int)) = ((7 * k : Nat) : Int) := by rw [wrap_in _ (by omega) (by omega)]; omega
        have hm8 : IntKind.u64.wrap ((7 * k : Nat) : Int) = ((7 * k : Nat) : Int) := wrap64 _ (by omega)
        have w1 : IntKind.i64.wrap ((k : Int) + 1) = ((k + 1 : Nat) : Int) := by rw [wrap_in _ (by omega) (by omega)]; omega
        have w2 : IntKind.i64.wrap (((at_ + k : Nat) : Int) + 1) = ((at_ + k + 1 : Nat) : Int) := by rw [wrap_in _ (by omega) (by omega)]; omega
        by_cases h9 : k = 9 ∧ 1 < c.toNat
        · rw [if_pos h9] at hg
          subst hg
          right
          have d9 : ((k : Int) = 9) = True := eq_true (by omega)
          have d1 : ((1 : Int) < (c.toNat : Int)) = True := eq_true (by omega)
          refine ⟨.exit 0 [I .i64 at_], u, ?_, (fun v hv => by cases hv), rfl, rfl⟩
          unfold f54_l1
          generalize ((at_ + k : Nat) : Int) = A at w0 c1 ix ⊢
          generalize (k : Int) = K at *
          generalize (c.toNat : Int) = C at *
          simp [c0, w0, hll, c1, ix, ld, d9, d1]
        · rw [if_neg h9] at hg
          have hpow : c.toNat % 128 * 2 ^ (7 * k) < 2 ^ 64 := by
            by_cases e9 : k = 9
            · subst e9
              have : c.toNat % 128 ≤ 1 := by omega
              calc c.toNat % 128 * 2 ^ (7 * 9) ≤ 1 * 2 ^ 63 := Nat.mul_le_mul_right _ this
                _ < 2 ^ 64 := by decide
            · have hk8 : 7 * k ≤ 56 := by omega
              have h128 : c.toNat % 128 < 2 ^ 7 := by omega
              calc c.toNat % 128 * 2 ^ (7 * k) ≤ c.toNat % 128 * 2 ^ 56 := Nat.mul_le_mul_left _ (Nat.pow_le_pow_right (by omega) hk8)
                _ < 2 ^ 64 := by omega
          have hshl := shl_u64 (c.toNat % 128) (7 * k) hpow (by omega)
          have hor := or_u64 n (c.toNat % 128 * 2 ^ (7 * k)) hn hpow
          have hn' : (n ||| c.toNat % 128 * 2 ^ (7 * k)) < 2 ^ 64 := Nat.or_lt_two_pow hn hpow
          obtain ⟨M, hM⟩ : ∃ M, M = (n ||| c.toNat % 128 * 2 ^ (7 * k)) := ⟨_, rfl⟩
          rw [← hM] at hor hn' hg
          have hcase : ((k : Int) = 9) = False ∨ (((k : Int) = 9) = True ∧ ((1 : Int) < (c.toNat : Int)) = False) := by
            by_cases e9 : k = 9
            · exact .inr ⟨eq_true (by omega), eq_false (fun h => h9 ⟨e9, by omega⟩)⟩
            · exact .inl (eq_false (by omega))
          by_cases h128 : 128 ≤ c.toNat
          · rw [if_pos h128] at hg
            left
            have d1 : ((128 : Int) ≤ (c.toNat : Int)) = True := eq_true (by omega)
            refine ⟨[Z x, I .i64 at_, I .u64 M, I .i64 ((k + 1 : Nat) : Int)], u, q, ?_, rfl, k + 1, M, by omega, rfl, rfl, hn', hg⟩
            generalize ((k + 1 : Nat) : Int) = K1 at w1 ⊢
            unfold f54_l1
            generalize ((c.toNat % 128 * 2 ^ (7 * k) : Nat) : Int) = SH at hshl hor
            generalize ((c.toNat % 128 : Nat) : Int) = L at hand hconv hshl
            generalize ((7 * k : Nat) : Int) = K7 at hm7 hm8 hshl
            generalize ((at_ + k : Nat) : Int) = A at w0 c1 ix
            generalize (k : Int) = K at *
            generalize (c.toNat : Int) = C at *
            rcases hcase with e9 | ⟨e9, e1⟩
            · simp [c0, w0, hll, c1, ix, ld, e9, hand, hconv, hm7, hm8, hshl, hor, d1, w1]
            · simp [c0, w0, hll, c1, ix, ld, e9, e1, hand, hconv, hm7, hm8, hshl, hor, d1, w1]
          · rw [if_neg h128] at hg
            right
            have d1 : ((128 : Int) ≤ (c.toNat : Int)) = False := eq_false (by omega)
            by_cases hz : 0 < k ∧ c.toNat = 0
            · rw [if_pos hz] at hg
              subst hg
              have d2 : ((0 : Int) < (k : Int)) = True := eq_true (by omega)
              have d3 : ((c.toNat : Int) = 0) = True := eq_true (by omega)
              refine ⟨.exit 0 [I .i64 at_], u, ?_, (fun v hv => by cases hv), rfl, rfl⟩
              unfold f54_l1
              generalize ((c.toNat % 128 * 2 ^ (7 * k) : Nat) : Int) = SH at hshl hor
              generalize ((c.toNat % 128 : Nat) : Int) = L at hand hconv hshl
              generalize ((7 * k : Nat) : Int) = K7 at hm7 hm8 hshl
              generalize ((at_ + k : Nat) : Int) = A at w0 c1 ix
              generalize (k : Int) = K at *
              generalize (c.toNat : Int) = C at *
              rcases hcase with e9 | ⟨e9, e1⟩
              · simp [c0, w0, hll, c1, ix, ld, e9, hand, hconv, hm7, hm8, hshl, hor, d1, d2, d3]
              · simp [c0, w0, hll, c1, ix, ld, e9, e1, hand, hconv, hm7, hm8, hshl, hor, d1, d2, d3]
            · rw [if_neg hz] at hg
              subst hg
              refine ⟨.ret (.tup [.s (.int .u64 M), .s (.int .i64 ((at_ + k + 1 : Nat) : Int)), .s (.int .i64 0)]), u, ?_, (fun v hv => by cases hv), rfl, rfl⟩
              have hcase2 : ((0 : Int) < (k : Int)) = False ∨ (((0 : Int) < (k : Int)) = True ∧ ((c.toNat : Int) = 0) = False) := by
                by_cases e0 : 0 < k
                · exact .inr ⟨eq_true (by omega), eq_false (fun h => hz ⟨e0, by omega⟩)⟩
                · exact .inl (eq_false (by omega))
              unfold f54_l1
              generalize ((c.toNat % 128 * 2 ^ (7 * k) : Nat) : Int) = SH at hshl hor
              generalize ((c.toNat % 128 : Nat) : Int) = L at hand hconv hshl
              generalize ((7 * k : Nat) : Int) = K7 at hm7 hm8 hshl
              generalize ((at_ + k + 1 : Nat) : Int) = A1 at w2 ⊢
              generalize ((at_ + k : Nat) : Int) = A at w0 w2 c1 ix
              generalize (k : Int) = K at *
              generalize (c.toNat : Int) = C at *
              rcases hcase with e9 | ⟨e9, e1⟩ <;> rcases hcase2 with d2 | ⟨d2, d3⟩
              · simp [c0, w0, hll, c1, ix, ld, e9, hand, hconv, hm7, hm8, hshl, hor, d1, d2, w2, retT, allV]
              · simp [c0, w0, hll, c1, ix, ld, e9, hand, hconv, hm7, hm8, hshl, hor, d1, d2, d3, w2, retT, allV]
              · simp [c0, w0, hll, c1, ix, ld, e9, e1, hand, hconv, hm7, hm8, hshl, hor, d1, d2, w2, retT, allV]
              · simp [c0, w0, hll, c1, ix, ld, e9, e1, hand, hconv, hm7, hm8, hshl, hor, d1, d2, d3, w2, retT, allV]) 8192 10 [Z x, I .i64 at_, I .u64 0, I .i64 0] s ⟨0, 0, rfl, rfl, rfl, by decide, hres⟩ (by omega)
  subst hτ
  subst hj
  exact lp

def vres (at_ len : Nat) : Option (Nat × Nat) → T
  | some (n, e) => .tup [.s (.int .u64 n), .s (.int .i64 e), .s (.int .i64 0)]
  | none => .tup [.s (.int .u64 0), .s (.int .i64 at_), .s (.int .i64 (if at_ ≤ len then 2 else 1))]

theorem vget_run (d : Nat) (h : RB s x bs) (hl : bs.length ≤ 100000) {at_ : Nat} (ha : at_ ≤ 100000) : R (d + 1) 54 [Z x, I .i64 at_] s = some (vres at_ bs.length (vget bs at_), s) := by
  rw [f54_run]
  unfold f54
  have hll := h.lenB
  have c0 : ¬ (at_ : Int) < 0 := by omega
  by_cases hle : at_ ≤ bs.length
  · have c1 : ¬ (bs.length : Int) < (at_ : Int) := by omega
    have lp := getN_run (R d) 8192 h hl ha _ rfl
    unfold vget
    rw [if_pos hle]
    cases hg : getN bs at_ 10 0 0 with
    | none =>
      rw [hg] at lp
      simp [c0, c1, hll, lp, vjo, vres, hle, retT, allV]
    | some p =>
      obtain ⟨n, e⟩ := p
      rw [hg] at lp
      simp [c0, c1, hll, lp, vjo, vres]
  · have c1 : (bs.length : Int) < (at_ : Int) := by omega
    unfold vget
    rw [if_neg hle]
    simp [c0, c1, hll, vres, hle, retT, allV]

/-- A sum of bytes. -/
theorem sum_run (d : Nat) (h : RB s x bs) (hl : bs.length ≤ 8000) : R (d + 2) 69 [Z x] s = some (I .u32 (sumB 1 bs), s) := by
  have key : R (d + 1) 68 [I .u32 1, Z x] s = some (I .u32 (sumB 1 bs), s) := by
    rw [f68_run]
    unfold f68
    have hll := h.lenB
    obtain ⟨j, τ, lp, hj, hτ⟩ := loops_inv (f := f68_l1 (R d) 8192) (fun q v u => ∃ k n : Nat, q + k = bs.length ∧ v = [I .u64 n, Z x, I .i64 bs.length, I .i64 k] ∧ u = s ∧ n < 4294967291 ∧ sumB n (bs.drop k) = sumB 1 bs)
      (fun j u => j = .exit 0 [I .u64 (sumB 1 bs)] ∧ u = s) (by
      rintro q v u ⟨k, n, hk, rfl, rfl, hn, hg⟩
      by_cases hkl : k < bs.length
      · left
        have hc : bs[k]? = some bs[k] := List.getElem?_eq_getElem hkl
        have hd : bs.drop k = bs[k] :: bs.drop (k + 1) := List.drop_eq_getElem_cons hkl
        rw [hd] at hg
        obtain ⟨p, ix, ld⟩ := h.atB (n := (k : Int)) rfl hc
        have hcb : bs[k].toNat < 256 := bs[k].toNat_lt
        obtain ⟨A1, A2, A3, A4, hA4, m1, m2, m3, m4⟩ : ∃ A1 A2 A3 A4 : Int, A4 = (((n * 257 + bs[k].toNat + 1) % 4294967291 : Nat) : Int) ∧ aBin .mul (I .u64 n) (I .u64 257) = some (I .u64 A1) ∧ aBin .add (I .u64 A1) (I .u64 bs[k].toNat) = some (I .u64 A2) ∧
            aBin .add (I .u64 A2) (I .u64 1) = some (I .u64 A3) ∧ aBin .rem (I .u64 A3) (I .u64 4294967291) = some (I .u64 A4) := ⟨_, _, _, _, rfl, More.step n bs[k].toNat hn hcb u⟩
        have hw : IntKind.u64.wrap (bs[k].toNat : Int) = (bs[k].toNat : Int) := wrap64 _ (by omega)
        have w1 : IntKind.i64.wrap ((k : Int) + 1) = ((k + 1 : Nat) : Int) := by rw [wrap_in _ (by omega) (by omega)]; omega
        have c0 : ((k : Int) < (bs.length : Int)) = True := eq_true (by omega)
        refine ⟨[I .u64 (((n * 257 + bs[k].toNat + 1) % 4294967291 : Nat)), Z x, I .i64 bs.length, I .i64 ((k + 1 : Nat) : Int)], u, q - 1, ?_, by omega, k + 1, _, by omega, rfl, rfl, Nat.mod_lt _ (by decide), hg⟩
        unfold f68_l1
        generalize ((k + 1 : Nat) : Int) = K1 at w1 ⊢
        rw [← hA4]
        generalize (bs[k].toNat : Int) = C at m2 ld hw
        generalize (k : Int) = K at w1 ix c0 ⊢
        simp only [jn_normal, bd_some, List.getD_cons_zero, List.getD_cons_succ, lss_int, br_true, decide_true, c0, ix, ld, m1, m2, m3, m4, aConv_int, hw, add_int, w1]
      · right
        have hk' : k = bs.length := by omega
        have c0 : ¬ ((k : Int) < (bs.length : Int)) := by omega
        have hg' : n = sumB 1 bs := by
          rw [List.drop_eq_nil_of_le (by omega)] at hg
          exact hg
        refine ⟨.exit 0 [I .u64 (sumB 1 bs)], u, ?_, (fun v hv => by cases hv), rfl, rfl⟩
        unfold f68_l1
        rw [hg']
        simp [c0]) 8192 bs.length [I .u64 1, Z x, I .i64 bs.length, I .i64 0] s ⟨0, 1, rfl, rfl, rfl, by decide, rfl⟩ (by omega)
    subst hj; subst hτ
    have hlt := sumB_lt bs 1 (by decide)
    have h32 : IntKind.u32.wrap (sumB 1 bs : Int) = (sumB 1 bs : Int) := by rw [wrap32, Nat.mod_eq_of_lt (by omega)]
    have e1 : aConv .u64 (I .u32 1) = some (I .u64 1) := rfl
    have e2 : aBin .rem (I .u64 1) (I .u64 4294967291) = some (I .u64 1) := rfl
    simp [e1, e2, hll, lp, h32]
  rw [f69_run]
  unfold f69
  simp [key]

/-- Two slices of bytes are compared. -/
theorem equal_run (d : Nat) (h : RB s x bs) (k : RB s y cs) (hl : bs.length ≤ 8000) : R (d + 1) 70 [Z x, Z y] s = some (B (decide (bs = cs)), s) := by
  rw [f70_run]
  unfold f70
  have hll := h.lenB
  have kll := k.lenB
  by_cases hle : bs.length = cs.length
  · have e0 : ((bs.length : Int) = (cs.length : Int)) = True := eq_true (by omega)
    obtain ⟨j, τ, lp, hj, hτ⟩ := loops_inv (f := f70_l1 (R d) 8192) (fun q v u => ∃ i : Nat, q + i = bs.length ∧ v = [Z x, Z y, I .i64 bs.length, I .i64 i] ∧ u = s ∧ bs.take i = cs.take i)
      (fun j u => (j = .exit 0 [] ∧ bs = cs ∨ j = .ret (B false) ∧ bs ≠ cs) ∧ u = s) (by
      rintro q v u ⟨i, hi, rfl, rfl, hg⟩
      by_cases hil : i < bs.length
      · have hb : bs[i]? = some bs[i] := List.getElem?_eq_getElem hil
        have hc : cs[i]? = some (cs[i]'(by omega)) := List.getElem?_eq_getElem (by omega)
        obtain ⟨p, ix, ld⟩ := h.atB (n := (i : Int)) rfl hb
        obtain ⟨p', ix', ld'⟩ := k.atB (n := (i : Int)) rfl hc
        have w1 : IntKind.i64.wrap ((i : Int) + 1) = ((i + 1 : Nat) : Int) := by rw [wrap_in _ (by omega) (by omega)]; omega
        have c0 : ((i : Int) < (bs.length : Int)) = True := eq_true (by omega)
        by_cases he : bs[i] = cs[i]'(by omega)
        · left
          refine ⟨[Z x, Z y, I .i64 bs.length, I .i64 ((i + 1 : Nat) : Int)], u, q - 1, ?_, by omega, i + 1, by omega, rfl, rfl, ?_⟩
          · unfold f70_l1
            rw [← he] at ld'
            generalize ((i + 1 : Nat) : Int) = K1 at w1 ⊢
            generalize (i : Int) = K at *
            simp [c0, ix, ix', ld, ld', w1]
          · rw [List.take_add_one, List.take_add_one, hg, hb, hc, he]
        · right
          have hne : ¬ ((bs[i].toNat : Int) = ((cs[i]'(by omega)).toNat : Int)) := fun e => he (UInt8.toNat.inj (by omega))
          refine ⟨.ret (B false), u, ?_, (fun v hv => by cases hv), .inr ⟨rfl, fun e => he (by simp [e])⟩, rfl⟩
          unfold f70_l1
          generalize (bs[i].toNat : Int) = X1 at *
          generalize ((cs[i]'(by omega)).toNat : Int) = X2 at *
          generalize (i : Int) = K at *
          simp [c0, ix, ix', ld, ld', hne]
      · right
        have c0 : ¬ ((i : Int) < (bs.length : Int)) := by omega
        refine ⟨.exit 0 [], u, ?_, (fun v hv => by cases hv), .inl ⟨rfl, ?_⟩, rfl⟩
        · unfold f70_l1
          simp [c0]
        · rwa [List.take_of_length_le (by omega), List.take_of_length_le (by omega)] at hg) 8192 bs.length [Z x, Z y, I .i64 bs.length, I .i64 0] s ⟨0, rfl, rfl, rfl, by simp⟩ (by omega)
    subst hτ
    rcases hj with ⟨rfl, he⟩ | ⟨rfl, he⟩
    · subst he
      simp [hll, kll, lp]
    · simp [hll, kll, e0, lp, he]
  · have e0 : ¬ ((bs.length : Int) = (cs.length : Int)) := by omega
    have hne : bs ≠ cs := fun e => hle (by rw [e])
    simp [hll, kll, e0, hne]
theorem vput_loop (r : CallF) (wf : s.wf) (n : Nat) (hn : n < 2 ^ 64) : ∃ (m : Nat) (x : S) (acc : List UInt8) (τ : St), loops (f52_l1 r 8192) 8192 [I .u64 n, Z .nils] s = some (.exit 0 [I .u64 m, Z x], τ) ∧ FB s τ x acc ∧ m < 128 ∧ acc ++ [UInt8.ofNat m] = vput n ∧ acc.length ≤ 10 := by
  obtain ⟨j, τ, lp, m, x, acc, rfl, hF, hm, hacc⟩ := loops_inv (f := f52_l1 r 8192) (fun q v u => ∃ (m : Nat) (x : S) (acc : List UInt8), v = [I .u64 m, Z x] ∧ FB s u x acc ∧ m < 2 ^ (64 - 7 * (10 - q)) ∧ q ≤ 10 ∧ acc.length = 10 - q ∧ acc ++ putN q m = vput n)
      (fun j u => ∃ (m : Nat) (x : S) (acc : List UInt8), j = .exit 0 [I .u64 m, Z x] ∧ FB s u x acc ∧ m < 128 ∧ acc ++ [UInt8.ofNat m] = vput n ∧ acc.length ≤ 10) (by
    rintro q v u ⟨m, x, acc, rfl, hF, hm, hq, hal, hacc⟩
    have hm64 : m < 2 ^ 64 := Nat.lt_of_lt_of_le hm (Nat.pow_le_pow_right (by omega) (by omega))
    by_cases h128 : 128 ≤ m
    · cases q with
      | zero =>
        exfalso
        have : 64 - 7 * (10 - 0) = 0 := by decide
        rw [this] at hm
        omega
      | succ q =>
        left
        have hor : aBin .or (I .u8 ((m % 256 : Nat))) (I .u8 128) = some (I .u8 ((UInt8.ofNat (m % 128 + 128)).toNat)) := by
          have h1 := or_u8 (m % 256) 128 (by omega) (by omega)
          rw [or128 _ (by omega)] at h1
          have e1 : (UInt8.ofNat (m % 128 + 128)).toNat = m % 256 % 128 + 128 := by rw [byte_nat]; omega
          rw [e1]
          exact h1
        have hw := wrap8 m
        have hshr : aBin .shr (I .u64 m) (I .u64 7) = some (I .u64 ((m / 2 ^ 7 : Nat))) := shr_nat .u64 m 7 (by decide)
        have c0 : ((128 : Int) ≤ (m : Int)) = True := eq_true (by omega)
        have nw := lit1 u (UInt8.ofNat (m % 128 + 128)).toNat
        obtain ⟨x', t, ap, hF', hz, _⟩ := FB.lit hF (cs := [UInt8.ofNat (m % 128 + 128)]) (by simp; omega)
        unfold putN at hacc
        rw [if_pos h128] at hacc
        refine ⟨[I .u64 ((m / 2 ^ 7 : Nat)), Z x'], t, q, ?_, rfl, m / 2 ^ 7, x', acc ++ [UInt8.ofNat (m % 128 + 128)], rfl, hF', ?_, by omega, by simp; omega, by rw [List.append_assoc]; exact hacc⟩
        · unfold f52_l1
          simp only [U, List.map_cons, List.map_nil, List.length_cons, List.length_nil, Nat.zero_add] at ap
          generalize ((m / 2 ^ 7 : Nat) : Int) = M7 at hshr ⊢
          generalize ((m % 256 : Nat) : Int) = M8 at hw hor
          generalize ((UInt8.ofNat (m % 128 + 128)).toNat : Int) = B8 at hor nw ap
          generalize (m : Int) = M at *
          simp [c0, hw, hor, nw, ap, hshr]
        · have hq0 : q ≠ 0 := fun e => by
            subst e
            have : 64 - 7 * (10 - (0 + 1)) = 1 := by decide
            rw [this] at hm
            omega
          have h2 : (2 : Nat) ^ (64 - 7 * (10 - (q + 1))) = 2 ^ (64 - 7 * (10 - q)) * 2 ^ 7 := by
            rw [← Nat.pow_add]
            congr 1
            omega
          rw [h2] at hm
          exact Nat.div_lt_of_lt_mul (by rw [Nat.mul_comm]; exact hm)
    · right
      have c0 : ((128 : Int) ≤ (m : Int)) = False := eq_false (by omega)
      refine ⟨.exit 0 [I .u64 m, Z x], u, ?_, (fun v hv => by cases hv), m, x, acc, rfl, hF, by omega, ?_, by omega⟩
      · unfold f52_l1
        simp [c0]
      · rw [← hacc]
        cases q with
        | zero => rfl
        | succ q => unfold putN; rw [if_neg h128]) 8192 10 [I .u64 n, Z .nils] s ⟨n, .nils, [], rfl, Fr.nil 1 wf, hn, by omega, rfl, rfl⟩ (by omega)
  exact ⟨m, x, acc, τ, lp, hF, hm, hacc⟩

/-- A number's bytes. -/
theorem vput_run (d : Nat) (wf : s.wf) (n : Nat) (hn : n < 2 ^ 64) : ∃ x t, R (d + 1) 52 [I .u64 n] s = some (Z x, t) ∧ FB s t x (vput n) := by
  rw [f52_run]
  unfold f52
  obtain ⟨m, x, acc, τ, lp, hF, hm, hacc⟩ := vput_loop (R d) wf n hn
  have nw := lit1 τ m
  have hb : (UInt8.ofNat m).toNat = m := by rw [byte_nat]; omega
  obtain ⟨x', t, ap, hF', _⟩ := FB.lit hF (cs := [UInt8.ofNat m]) (by simp; omega)
  rw [hacc.1] at hF'
  refine ⟨x', t, ?_, hF'⟩
  have hw : IntKind.u8.wrap (m : Int) = (m : Int) := by rw [wrap8]; omega
  simp only [U, List.map_cons, List.map_nil, List.length_cons, List.length_nil, Nat.zero_add, hb] at ap
  simp [lp, hw, nw, ap]
end
end Go.Proofs.YtlhbidbdmdcdeaaGreatDoor
