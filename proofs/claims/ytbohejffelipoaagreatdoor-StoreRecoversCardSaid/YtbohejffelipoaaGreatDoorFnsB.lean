/-
  Several texts in one: what functions that the law reaches compute. No conditions but those named in each line.
-/
import Derived.Test.YtbohejffelipoaaGreatDoorFnsA
import Derived.Test.YtbohejffelipoaaGreatDoorAbsE
namespace Go.Proofs.YtbohejffelipoaaGreatDoor
open Go Go.Abs Go.Abs.F
set_option linter.unusedVariables false
noncomputable section
def Ib (aa:ak) (N:Nat) (v:List T) (s:St):Option (JO×St) :=
 bd (af .geq (v.getD 0 .any) (I .u64 128)) fun t5 =>
 br t5 (jn (bd (aI .u8 (v.getD 0 .any)) fun t8 =>
 bd (af .or t8 (I .u8 128)) fun t9 =>
 ax (aL s (aS 1 (aG [.int .u8 0] [(0,1,t9)]))) fun t10 s1 =>
 ax (aJ 1 1 (v.getD 1 .any) t10 s1) fun t11 s2 =>
 bd (af .shr (v.getD 0 .any) (I .u64 7)) fun t13 =>
 some (.normal [t13,t11],s2))
 (fun v3 s4=>some (.normal [(v3.getD 0 .any),(v3.getD 1 .any)],s4))
 (fun i5 v3 s4=>some (.exit i5 v3,s4))
 (fun r6 s4=>some (.ret r6,s4)))
 (some (.exit 0 [(v.getD 0 .any),(v.getD 1 .any)],s))
def f71 (aa:ak) (N:Nat) (a0:T) (s:St):Option (T×St) :=
 jn (jn (loops (Ib aa N) N [a0,(Z .ay)] s)
 (fun v7 s8=>some (.normal [.any,.any],s8))
 (fun i9 v7 s8=>if i9=0 then some (.normal v7,s8) else some (.exit i9 v7,s8))
 (fun oR s8=>some (.ret oR,s8)))
 (fun v11 bW=>bd (aI .u8 (v11.getD 0 .any)) fun t16 =>
 ax (aL bW (aS 1 (aG [.int .u8 0] [(0,1,t16)]))) fun t17 gv =>
 ax (aJ 1 1 (v11.getD 1 .any) t17 gv) fun t18 fV =>
 bd (bR t18 fV.get) fun t19 =>
 some (t19,fV))
 (fun i13 v11 bW=>none)
 (fun vg bW=>some (vg,bW))
theorem QL (aa:ak) (N:Nat) (a0:T) (s:St):aR Tryz.prog aa N Tryz.f71 [a0] s=f71 aa N a0 s:=by kernel_rfl
theorem MS (d:Nat) (a0:T) (s:St):R (d+1) 71 [a0] s=f71 (R d) 8192 a0 s:=(au rfl Tryz.func71 (by kernel_rfl)).trans (QL ..)
def f115 (aa:ak) (N:Nat) (a0:T) (s:St):Option (T×St) :=
 bd (af .geq a0 (I .i64 0)) fun t4 =>
 br t4 (bd (aI .u64 a0) fun t6 =>
 bd (af .mul t6 (I .u64 2)) fun t7 =>
 some (t7,s))
 (bd (af .add a0 (I .i64 1)) fun t9 =>
 bd (jZ .neg t9) fun t10 =>
 bd (aI .u64 t10) fun t11 =>
 bd (af .mul t11 (I .u64 2)) fun t12 =>
 bd (af .add t12 (I .u64 1)) fun t13 =>
 some (t13,s))
theorem Ls (aa:ak) (N:Nat) (a0:T) (s:St):aR Tryz.prog aa N Tryz.f115 [a0] s=f115 aa N a0 s:=by kernel_rfl
theorem Hf (d:Nat) (a0:T) (s:St):R (d+1) 115 [a0] s=f115 (R d) 8192 a0 s:=(au rfl Tryz.func115 (by kernel_rfl)).trans (Ls ..)
def rU (aa:ak) (N:Nat) (v:List T) (s:St):Option (JO×St) :=
 bd (az (v.getD 0 .any)) fun t6 =>
 bd (af .lss (v.getD 1 .any) t6) fun t7 =>
 br t7 (jn (bd (av 2 (v.getD 0 .any) (v.getD 1 .any)) fun t12 =>
 bd (ae 0 t12) fun t13 =>
 bd (ab t13 s.get) fun t14 =>
 bd (af .lss t14 (I .i64 0)) fun t15 =>
 bd (gT (gd t15 false) (some (v.getD 0 .any))) fun t17 =>
 bd (gT (gd t15 false) (some (v.getD 1 .any))) fun t18 =>
 bd (gT (gd t15 false) (av 2 t17 t18)) fun t19 =>
 bd (gT (gd t15 false) (ae 0 t19)) fun t20 =>
 bd (gT (gd t15 false) (ab t20 s.get)) fun t21 =>
 bd (gT (gd t15 false) (af .gtr t21 (I .i64 1099511627776))) fun t22 =>
 bd (aC t15 (B true) t22) fun t23 =>
 bd (gT (gd t23 false) (some (v.getD 1 .any))) fun t25 =>
 bd (gT (gd t23 false) (af .gtr t25 (I .i64 0))) fun t26 =>
 bd (gT (gd t23 false) (some t26)) fun t27 =>
 bd (gT (gd t27 true) (some (v.getD 0 .any))) fun t28 =>
 bd (gT (gd t27 true) (some (v.getD 1 .any))) fun t29 =>
 bd (gT (gd t27 true) (av 2 t28 t29)) fun t30 =>
 bd (gT (gd t27 true) (ae 0 t30)) fun t31 =>
 bd (gT (gd t27 true) (ab t31 s.get)) fun t32 =>
 bd (gT (gd t27 true) (some (v.getD 0 .any))) fun t33 =>
 bd (gT (gd t27 true) (some (v.getD 1 .any))) fun t34 =>
 bd (gT (gd t27 true) (af .sub t34 (I .i64 1))) fun t35 =>
 bd (gT (gd t27 true) (av 2 t33 t35)) fun t36 =>
 bd (gT (gd t27 true) (ae 0 t36)) fun t37 =>
 bd (gT (gd t27 true) (ab t37 s.get)) fun t38 =>
 bd (gT (gd t27 true) (af .leq t32 t38)) fun t39 =>
 bd (gT (gd t23 false) (aC t27 t39 (B false))) fun t40 =>
 bd (aC t23 (B true) t40) fun t41 =>
 br t41 (some (.ret (B false),s))
 (some (.normal [(v.getD 0 .any),(v.getD 1 .any)],s)))
 (fun v1 s2=>bd (af .add (v1.getD 1 .any) (I .i64 1)) fun t9 =>
 some (.normal [(v1.getD 0 .any),t9],s2))
 (fun i3 v1 s2=>some (.exit i3 v1,s2))
 (fun r4 s2=>some (.ret r4,s2)))
 (some (.exit 0 [],s))
def f112 (aa:ak) (N:Nat) (a0:T) (s:St):Option (T×St) :=
 jn (jn (loops (rU aa N) N [a0,(I .i64 0)] s)
 (fun v5 s6=>some (.normal [],s6))
 (fun i7 v5 s6=>if i7=0 then some (.normal v5,s6) else some (.exit i7 v5,s6))
 (fun r8 s6=>some (.ret r8,s6)))
 (fun v9 bM=>some ((B true),bM))
 (fun i11 v9 bM=>none)
 (fun vf bM=>some (vf,bM))
theorem Lr (aa:ak) (N:Nat) (a0:T) (s:St):aR Tryz.prog aa N Tryz.f112 [a0] s=f112 aa N a0 s:=by kernel_rfl
theorem He (d:Nat) (a0:T) (s:St):R (d+1) 112 [a0] s=f112 (R d) 8192 a0 s:=(au rfl Tryz.func112 (by kernel_rfl)).trans (Lr ..)
def f75 (aa:ak) (N:Nat) (a0:T) (s:St):Option (T×St) :=
 ax (aa 117 [(I .u32 1),a0] s) fun t4 s1 =>
 some (t4,s1)
theorem QO (aa:ak) (N:Nat) (a0:T) (s:St):aR Tryz.prog aa N Tryz.f75 [a0] s=f75 aa N a0 s:=by kernel_rfl
theorem MW (d:Nat) (a0:T) (s:St):R (d+1) 75 [a0] s=f75 (R d) 8192 a0 s:=(au rfl Tryz.func75 (by kernel_rfl)).trans (QO ..)
def rV (aa:ak) (N:Nat) (v:List T) (s:St):Option (JO×St) :=
 bd (bN (v.getD 0 .any)) fun t12 =>
 bd (af .lss (v.getD 2 .any) t12) fun t13 =>
 br t13 (jn (bd (af .mul (v.getD 1 .any) (I .u64 257)) fun t17 =>
 bd (dG (v.getD 0 .any) (v.getD 2 .any)) fun t20 =>
 bd (aI .u64 t20) fun t21 =>
 bd (af .add t17 t21) fun t22 =>
 bd (af .add t22 (I .u64 1)) fun t23 =>
 bd (af .rem t23 (I .u64 4294967291)) fun t24 =>
 some (.normal [(v.getD 0 .any),t24,(v.getD 2 .any)],s))
 (fun v1 s2=>bd (af .add (v1.getD 2 .any) (I .i64 1)) fun t15 =>
 some (.normal [(v1.getD 0 .any),(v1.getD 1 .any),t15],s2))
 (fun i3 v1 s2=>some (.exit i3 v1,s2))
 (fun r4 s2=>some (.ret r4,s2)))
 (some (.exit 0 [(v.getD 1 .any)],s))
def f117 (aa:ak) (N:Nat) (a0:T) (a1:T) (s:St):Option (T×St) :=
 bd (aI .u64 a0) fun t8 =>
 bd (af .rem t8 (I .u64 4294967291)) fun t9 =>
 jn (jn (loops (rV aa N) N [a1,t9,(I .i64 0)] s)
 (fun v5 s6=>some (.normal [.any],s6))
 (fun i7 v5 s6=>if i7=0 then some (.normal v5,s6) else some (.exit i7 v5,s6))
 (fun r8 s6=>some (.ret r8,s6)))
 (fun v9 bM=>bd (aI .u32 (v9.getD 0 .any)) fun t26 =>
 some (t26,bM))
 (fun i11 v9 bM=>none)
 (fun vf bM=>some (vf,bM))
theorem Lt (aa:ak) (N:Nat) (a0:T) (a1:T) (s:St):aR Tryz.prog aa N Tryz.f117 [a0,a1] s=f117 aa N a0 a1 s:=by kernel_rfl
theorem Hg (d:Nat) (a0:T) (a1:T) (s:St):R (d+1) 117 [a0,a1] s=f117 (R d) 8192 a0 a1 s:=(au rfl Tryz.func117 (by kernel_rfl)).trans (Lt ..)
def f74 (aa:ak) (N:Nat) (a0:T) (s:St):Option (T×St) :=
 bd (aI .u8 a0) fun t4 =>
 bd (af .shr a0 (I .u64 8)) fun t6 =>
 bd (aI .u8 t6) fun t7 =>
 bd (af .shr a0 (I .u64 16)) fun t9 =>
 bd (aI .u8 t9) fun t10 =>
 bd (af .shr a0 (I .u64 24)) fun t12 =>
 bd (aI .u8 t12) fun t13 =>
 ax (aL s (aS 4 (aG [.int .u8 0,.int .u8 0,.int .u8 0,.int .u8 0] [(0,1,t4),(1,1,t7),(2,1,t10),(3,1,t13)]))) fun t14 s1 =>
 bd (bR t14 s1.get) fun t15 =>
 some (t15,s1)
theorem QN (aa:ak) (N:Nat) (a0:T) (s:St):aR Tryz.prog aa N Tryz.f74 [a0] s=f74 aa N a0 s:=by kernel_rfl
theorem MU (d:Nat) (a0:T) (s:St):R (d+1) 74 [a0] s=f74 (R d) 8192 a0 s:=(au rfl Tryz.func74 (by kernel_rfl)).trans (QN ..)
def f70 (aa:ak) (N:Nat) (a0:T) (s:St):Option (T×St) :=
 ax (aL s (cf a0)) fun t1 s1 =>
 bd (ae 0 t1) fun t5 =>
 bd (ab t5 s1.get) fun t6 =>
 bd (af .lss t6 (I .i64 1)) fun t7 =>
 bd (gT (gd t7 false) (ae 0 t1)) fun t9 =>
 bd (gT (gd t7 false) (ab t9 s1.get)) fun t10 =>
 bd (gT (gd t7 false) (af .gtr t10 (I .i64 1073741824))) fun t11 =>
 bd (aC t7 (B true) t11) fun t12 =>
 bd (gT (gd t12 false) (ae 1 t1)) fun t14 =>
 bd (gT (gd t12 false) (ab t14 s1.get)) fun t15 =>
 bd (gT (gd t12 false) (af .lss t15 (I .i64 0))) fun t16 =>
 bd (aC t12 (B true) t16) fun t17 =>
 bd (gT (gd t17 false) (ae 1 t1)) fun t19 =>
 bd (gT (gd t17 false) (ab t19 s1.get)) fun t20 =>
 bd (gT (gd t17 false) (af .gtr t20 (I .i64 3))) fun t21 =>
 bd (aC t17 (B true) t21) fun t22 =>
 bd (gT (gd t22 false) (ae 2 t1)) fun t24 =>
 bd (gT (gd t22 false) (ab t24 s1.get)) fun t25 =>
 bd (gT (gd t22 false) (af .lss t25 (I .i64 0))) fun t26 =>
 bd (aC t22 (B true) t26) fun t27 =>
 bd (gT (gd t27 false) (ae 2 t1)) fun t29 =>
 bd (gT (gd t27 false) (ab t29 s1.get)) fun t30 =>
 bd (gT (gd t27 false) (ae 3 t1)) fun t31 =>
 bd (gT (gd t27 false) (ab t31 s1.get)) fun t32 =>
 bd (gT (gd t27 false) (af .geq t30 t32)) fun t33 =>
 bd (aC t27 (B true) t33) fun t34 =>
 bd (gT (gd t34 false) (ae 3 t1)) fun t36 =>
 bd (gT (gd t34 false) (ab t36 s1.get)) fun t37 =>
 bd (gT (gd t34 false) (af .gtr t37 (I .i64 1099511627776))) fun t38 =>
 bd (aC t34 (B true) t38) fun t39 =>
 br t39 (some ((B false),s1))
 (bd (ae 1 t1) fun t40 =>
 bd (ab t40 s1.get) fun t41 =>
 bd (af .eql t41 (I .i64 0)) fun t42 =>
 br t42 (bd (ae 4 t1) fun t43 =>
 bd (ab t43 s1.get) fun t44 =>
 bd (az t44) fun t45 =>
 bd (ae 5 t1) fun t46 =>
 bd (ab t46 s1.get) fun t47 =>
 bd (az t47) fun t48 =>
 bd (af .eql t48 (I .i64 0)) fun t49 =>
 bd (gT (gd t49 true) (some t45)) fun t51 =>
 bd (gT (gd t49 true) (af .geq t51 (I .i64 1))) fun t52 =>
 bd (aC t49 t52 (B false)) fun t53 =>
 bd (gT (gd t53 true) (some t45)) fun t55 =>
 bd (gT (gd t53 true) (af .leq t55 (I .i64 64))) fun t56 =>
 bd (aC t53 t56 (B false)) fun t57 =>
 bd (gT (gd t57 true) (ae 4 t1)) fun t59 =>
 bd (gT (gd t57 true) (ab t59 s1.get)) fun t60 =>
 ax (gS (gd t57 true) s1 (aa 112 [t60] s1)) fun t61 s2 =>
 bd (aC t57 t61 (B false)) fun t62 =>
 bd (gT (gd t62 true) (ae 4 t1)) fun t64 =>
 bd (gT (gd t62 true) (ab t64 s2.get)) fun t65 =>
 bd (gT (gd t62 true) (av 2 t65 (I .i64 0))) fun t66 =>
 bd (gT (gd t62 true) (ae 0 t66)) fun t67 =>
 bd (gT (gd t62 true) (ab t67 s2.get)) fun t68 =>
 bd (gT (gd t62 true) (ae 2 t1)) fun t69 =>
 bd (gT (gd t62 true) (ab t69 s2.get)) fun t70 =>
 bd (gT (gd t62 true) (af .geq t68 t70)) fun t71 =>
 bd (aC t62 t71 (B false)) fun t72 =>
 bd (gT (gd t72 true) (ae 4 t1)) fun t74 =>
 bd (gT (gd t72 true) (ab t74 s2.get)) fun t75 =>
 bd (gT (gd t72 true) (some t45)) fun t76 =>
 bd (gT (gd t72 true) (af .sub t76 (I .i64 1))) fun t77 =>
 bd (gT (gd t72 true) (av 2 t75 t77)) fun t78 =>
 bd (gT (gd t72 true) (ae 0 t78)) fun t79 =>
 bd (gT (gd t72 true) (ab t79 s2.get)) fun t80 =>
 bd (gT (gd t72 true) (ae 3 t1)) fun t81 =>
 bd (gT (gd t72 true) (ab t81 s2.get)) fun t82 =>
 bd (gT (gd t72 true) (af .lss t80 t82)) fun t83 =>
 bd (aC t72 t83 (B false)) fun t84 =>
 some (t84,s2))
 (bd (ae 5 t1) fun t85 =>
 bd (ab t85 s1.get) fun t86 =>
 bd (az t86) fun t87 =>
 bd (ae 4 t1) fun t88 =>
 bd (ab t88 s1.get) fun t89 =>
 bd (az t89) fun t90 =>
 bd (af .eql t90 (I .i64 0)) fun t91 =>
 bd (gT (gd t91 true) (some t87)) fun t93 =>
 bd (gT (gd t91 true) (af .geq t93 (I .i64 1))) fun t94 =>
 bd (aC t91 t94 (B false)) fun t95 =>
 bd (gT (gd t95 true) (some t87)) fun t97 =>
 bd (gT (gd t95 true) (af .leq t97 (I .i64 64))) fun t98 =>
 bd (aC t95 t98 (B false)) fun t99 =>
 bd (gT (gd t99 true) (ae 5 t1)) fun t101 =>
 bd (gT (gd t99 true) (ab t101 s1.get)) fun t102 =>
 bd (gT (gd t99 true) (ae 1 t1)) fun t103 =>
 bd (gT (gd t99 true) (ab t103 s1.get)) fun t104 =>
 ax (gS (gd t99 true) s1 (aa 113 [t102,t104] s1)) fun t105 s3 =>
 bd (aC t99 t105 (B false)) fun t106 =>
 bd (gT (gd t106 true) (ae 5 t1)) fun t108 =>
 bd (gT (gd t106 true) (ab t108 s3.get)) fun t109 =>
 bd (gT (gd t106 true) (av 7 t109 (I .i64 0))) fun t110 =>
 bd (gT (gd t106 true) (ae 0 t110)) fun t111 =>
 bd (gT (gd t106 true) (ab t111 s3.get)) fun t112 =>
 bd (gT (gd t106 true) (ae 2 t1)) fun t113 =>
 bd (gT (gd t106 true) (ab t113 s3.get)) fun t114 =>
 bd (gT (gd t106 true) (ae 1 t1)) fun t115 =>
 bd (gT (gd t106 true) (ab t115 s3.get)) fun t116 =>
 ax (gS (gd t106 true) s3 (aa 114 [t114,t116] s3)) fun t117 s4 =>
 bd (gT (gd t106 true) (af .geq t112 t117)) fun t118 =>
 bd (aC t106 t118 (B false)) fun t119 =>
 bd (gT (gd t119 true) (ae 5 t1)) fun t121 =>
 bd (gT (gd t119 true) (ab t121 s4.get)) fun t122 =>
 bd (gT (gd t119 true) (some t87)) fun t123 =>
 bd (gT (gd t119 true) (af .sub t123 (I .i64 1))) fun t124 =>
 bd (gT (gd t119 true) (av 7 t122 t124)) fun t125 =>
 bd (gT (gd t119 true) (ae 0 t125)) fun t126 =>
 bd (gT (gd t119 true) (ab t126 s4.get)) fun t127 =>
 bd (gT (gd t119 true) (ae 3 t1)) fun t128 =>
 bd (gT (gd t119 true) (ab t128 s4.get)) fun t129 =>
 bd (gT (gd t119 true) (af .lss t127 t129)) fun t130 =>
 bd (aC t119 t130 (B false)) fun t131 =>
 ck ((wq (gd t106 true) (decide (ab t108 s4.get=ab t108 s3.get))&&true)&&((wq (gd t106 true) (decide (ab t111 s4.get=ab t111 s3.get))&&true)&&true)) (some (t131,s4))))
theorem QK (aa:ak) (N:Nat) (a0:T) (s:St):aR Tryz.prog aa N Tryz.f70 [a0] s=f70 aa N a0 s:=by kernel_rfl
theorem MR (d:Nat) (a0:T) (s:St):R (d+1) 70 [a0] s=f70 (R d) 8192 a0 s:=(au rfl Tryz.func70 (by kernel_rfl)).trans (QK ..)
def f20 (aa:ak) (N:Nat) (a0:T) (s:St):Option (T×St) :=
 ax (aL s (cf a0)) fun t1 s1 =>
 bd (aH 6 t1 s1.get) fun t6 =>
 ax (aa 70 [t6] s1) fun t7 s2 =>
 bd (jZ .not t7) fun t8 =>
 br t8 (bd (aQ [(Z (.str [])),(I .i64 1)]) fun r3 =>
 some (r3,s2))
 (bd (ae 0 t1) fun t9 =>
 bd (ab t9 s2.get) fun t10 =>
 bd (aI .u64 t10) fun t11 =>
 ax (aa 71 [t11] s2) fun t12 s4 =>
 bd (af .add (Z (.str [84,75])) t12) fun t13 =>
 bd (ae 1 t1) fun t14 =>
 bd (ab t14 s4.get) fun t15 =>
 bd (aI .u64 t15) fun t16 =>
 ax (aa 71 [t16] s4) fun t17 s5 =>
 bd (af .add t13 t17) fun t18 =>
 bd (ae 2 t1) fun t19 =>
 bd (ab t19 s5.get) fun t20 =>
 bd (aI .u64 t20) fun t21 =>
 ax (aa 71 [t21] s5) fun t22 s6 =>
 bd (af .add t18 t22) fun t23 =>
 bd (ae 3 t1) fun t24 =>
 bd (ab t24 s6.get) fun t25 =>
 bd (ae 2 t1) fun t26 =>
 bd (ab t26 s6.get) fun t27 =>
 bd (af .sub t25 t27) fun t28 =>
 bd (aI .u64 t28) fun t29 =>
 ax (aa 71 [t29] s6) fun t30 s7 =>
 bd (af .add t23 t30) fun t31 =>
 ck ((decide (ab t14 s2.get=ab t14 s4.get)&&true)&&((decide (ab t19 s2.get=ab t19 s5.get)&&(decide (ab t19 s4.get=ab t19 s5.get)&&true))&&((decide (ab t24 s2.get=ab t24 s6.get)&&(decide (ab t24 s4.get=ab t24 s6.get)&&(decide (ab t24 s5.get=ab t24 s6.get)&&true)))&&((decide (ab t26 s2.get=ab t26 s6.get)&&(decide (ab t26 s4.get=ab t26 s6.get)&&(decide (ab t26 s5.get=ab t26 s6.get)&&true)))&&true)))) (bd (ae 1 t1) fun t32 =>
 bd (ab t32 s7.get) fun t33 =>
 bd (af .eql t33 (I .i64 0)) fun t34 =>
 jn (br t34 (bd (ae 4 t1) fun t36 =>
 bd (ab t36 s7.get) fun t37 =>
 ax (aa 72 [t37] s7) fun t38 s8 =>
 bd (ah t38 0) fun t39 =>
 bd (ah t38 1) fun t40 =>
 some (.normal [t31,t39],s8))
 (bd (ae 5 t1) fun t42 =>
 bd (ab t42 s7.get) fun t43 =>
 bd (ae 1 t1) fun t44 =>
 bd (ab t44 s7.get) fun t45 =>
 ax (aa 73 [t43,t45] s7) fun t46 s9 =>
 bd (ah t46 0) fun t47 =>
 bd (ah t46 1) fun t48 =>
 some (.normal [t31,t47],s9)))
 (fun v10 bO=>bd (af .add (v10.getD 0 .any) (v10.getD 1 .any)) fun t51 =>
 ax (aa 75 [t51] bO) fun t54 fR =>
 ax (aa 74 [t54] fR) fun t55 gv =>
 bd (af .add t51 t55) fun t56 =>
 bd (bN t56) fun t58 =>
 bd (af .gtr t58 (I .i64 4000)) fun t59 =>
 br t59 (bd (aQ [(Z (.str [])),(I .i64 8)]) fun r16 =>
 some (r16,gv))
 (bd (aQ [t56,(I .i64 0)]) fun Fu =>
 some (Fu,gv)))
 (fun i12 v10 bO=>none)
 (fun rN bO=>some (rN,bO))))
theorem Qf (aa:ak) (N:Nat) (a0:T) (s:St):aR Tryz.prog aa N Tryz.f20 [a0] s=f20 aa N a0 s:=by kernel_rfl
theorem Ml (d:Nat) (a0:T) (s:St):R (d+1) 20 [a0] s=f20 (R d) 8192 a0 s:=(au rfl Tryz.func20 (by kernel_rfl)).trans (Qf ..)
def pK (aa:ak) (N:Nat) (v:List T) (s:St):Option (JO×St) :=
 bd (az (v.getD 0 .any)) fun t23 =>
 bd (af .lss (v.getD 3 .any) t23) fun t24 =>
 br t24 (jn (bd (af .eql (v.getD 3 .any) (I .i64 0)) fun t28 =>
 br t28 (bd (av 2 (v.getD 0 .any) (I .i64 0)) fun t31 =>
 bd (ae 0 t31) fun t32 =>
 bd (ab t32 s.get) fun t33 =>
 bd (aI .u64 t33) fun t34 =>
 ax (aa 71 [t34] s) fun t35 s4 =>
 bd (af .add (v.getD 1 .any) t35) fun t36 =>
 bd (av 2 (v.getD 0 .any) (I .i64 0)) fun t38 =>
 bd (ae 1 t38) fun t39 =>
 bd (ab t39 s4.get) fun t40 =>
 ax (aa 115 [t40] s4) fun t41 s5 =>
 ax (aa 71 [t41] s5) fun t42 s6 =>
 bd (af .add t36 t42) fun t43 =>
 ck ((decide (ab t39 s.get=ab t39 s4.get)&&true)&&true) (some (.normal [(v.getD 0 .any),t43,(v.getD 2 .any),(v.getD 3 .any)],s6)))
 (bd (av 2 (v.getD 0 .any) (v.getD 3 .any)) fun t46 =>
 bd (ae 0 t46) fun t47 =>
 bd (ab t47 s.get) fun t48 =>
 bd (af .sub (v.getD 3 .any) (I .i64 1)) fun t51 =>
 bd (av 2 (v.getD 0 .any) t51) fun t52 =>
 bd (ae 0 t52) fun t53 =>
 bd (ab t53 s.get) fun t54 =>
 bd (af .sub t48 t54) fun t55 =>
 bd (av 2 (v.getD 0 .any) (v.getD 3 .any)) fun t58 =>
 bd (ae 1 t58) fun t59 =>
 bd (ab t59 s.get) fun t60 =>
 bd (aI .u64 t60) fun t61 =>
 bd (af .sub (v.getD 3 .any) (I .i64 1)) fun t64 =>
 bd (av 2 (v.getD 0 .any) t64) fun t65 =>
 bd (ae 1 t65) fun t66 =>
 bd (ab t66 s.get) fun t67 =>
 bd (aI .u64 t67) fun t68 =>
 bd (af .sub t61 t68) fun t69 =>
 bd (aI .i64 t69) fun t70 =>
 bd (af .sub t55 (v.getD 2 .any)) fun t74 =>
 ax (aa 115 [t74] s) fun t75 s7 =>
 ax (aa 71 [t75] s7) fun t76 s8 =>
 bd (af .add (v.getD 1 .any) t76) fun t77 =>
 ax (aa 115 [t70] s8) fun t79 s9 =>
 ax (aa 71 [t79] s9) fun t80 bM =>
 bd (af .add t77 t80) fun t81 =>
 some (.normal [(v.getD 0 .any),t81,t55,(v.getD 3 .any)],bM)))
 (fun v11 bW=>bd (af .add (v11.getD 3 .any) (I .i64 1)) fun t26 =>
 some (.normal [(v11.getD 0 .any),(v11.getD 1 .any),(v11.getD 2 .any),t26],bW))
 (fun i13 v11 bW=>some (.exit i13 v11,bW))
 (fun vg bW=>some (.ret vg,bW)))
 (some (.exit 0 [(v.getD 1 .any)],s))
def f72 (aa:ak) (N:Nat) (a0:T) (s:St):Option (T×St) :=
 ax (aa 112 [a0] s) fun t10 s1 =>
 bd (jZ .not t10) fun t11 =>
 bd (gT (gd t11 false) (some a0)) fun t13 =>
 bd (gT (gd t11 false) (az t13)) fun t14 =>
 bd (gT (gd t11 false) (af .gtr t14 (I .i64 64))) fun t15 =>
 bd (aC t11 (B true) t15) fun t16 =>
 br t16 (bd (aQ [(Z (.str [])),(I .i64 1)]) fun r2 =>
 some (r2,s1))
 (bd (az a0) fun t18 =>
 bd (aI .u64 t18) fun t19 =>
 ax (aa 71 [t19] s1) fun t20 s3 =>
 jn (jn (loops (pK aa N) N [a0,t20,(I .i64 0),(I .i64 0)] s3)
 (fun o7 fV=>some (.normal [.any],fV))
 (fun i17 o7 fV=>if i17=0 then some (.normal o7,fV) else some (.exit i17 o7,fV))
 (fun Fv fV=>some (.ret Fv,fV)))
 (fun rD mg=>bd (aQ [(rD.getD 0 .any),(I .i64 0)]) fun Sc =>
 some (Sc,mg))
 (fun i21 rD mg=>none)
 (fun Vs mg=>some (Vs,mg)))
theorem QM (aa:ak) (N:Nat) (a0:T) (s:St):aR Tryz.prog aa N Tryz.f72 [a0] s=f72 aa N a0 s:=by kernel_rfl
theorem MT (d:Nat) (a0:T) (s:St):R (d+1) 72 [a0] s=f72 (R d) 8192 a0 s:=(au rfl Tryz.func72 (by kernel_rfl)).trans (QM ..)
def tw (aa:ak) (N:Nat) (v:List T) (s:St):Option (JO×St) :=
 bd (az (v.getD 3 .any)) fun t19 =>
 bd (af .lss (v.getD 4 .any) t19) fun t20 =>
 br t20 (jn (bd (av 2 (v.getD 3 .any) (v.getD 4 .any)) fun t27 =>
 bd (ae 0 t27) fun t28 =>
 bd (ab t28 s.get) fun t29 =>
 bd (af .add t29 (v.getD 1 .any)) fun t31 =>
 bd (av 2 (v.getD 3 .any) (v.getD 4 .any)) fun t32 =>
 bd (ae 0 t32) fun t33 =>
 ax (aw 1 t33 t31 s) fun _ s5 =>
 bd (av 2 (v.getD 3 .any) (v.getD 4 .any)) fun t38 =>
 bd (ae 1 t38) fun t39 =>
 bd (ab t39 s5.get) fun t40 =>
 bd (af .rem t40 (I .i64 1000000000)) fun t41 =>
 bd (av 2 (v.getD 3 .any) (v.getD 4 .any)) fun t42 =>
 bd (ae 1 t42) fun t43 =>
 ax (aw 1 t43 t41 s5) fun _ s6 =>
 some (.normal [(v.getD 0 .any),(v.getD 1 .any),(v.getD 2 .any),(v.getD 3 .any),(v.getD 4 .any)],s6))
 (fun v7 s8=>bd (af .add (v7.getD 4 .any) (I .i64 1)) fun t22 =>
 some (.normal [(v7.getD 0 .any),(v7.getD 1 .any),(v7.getD 2 .any),(v7.getD 3 .any),t22],s8))
 (fun i9 v7 s8=>some (.exit i9 v7,s8))
 (fun oR s8=>some (.ret oR,s8)))
 (some (.exit 0 [(v.getD 0 .any),(v.getD 1 .any),(v.getD 2 .any),(v.getD 3 .any)],s))
def f21 (aa:ak) (N:Nat) (a0:T) (a1:T) (a2:T) (a3:T) (s:St):Option (T×St) :=
 ax (aL s (bb [.int .i64 0,.int .i64 0,.int .i64 0,.int .i64 0,.ay,.ay])) fun t8 s1 =>
 ax (aL s1 (aS 1 (aG [.int .i64 0] [(0,1,a0)]))) fun t12 s2 =>
 ax (aJ 1 8 t12 a2 s2) fun t14 s3 =>
 ax (aa 76 [t14,a3,(I .i64 40)] s3) fun t16 s4 =>
 jn (jn (loops (tw aa N) N [a0,a1,t8,t16,(I .i64 0)] s4)
 (fun v11 bW=>some (.normal [.any,.any,.any,.any],bW))
 (fun i13 v11 bW=>if i13=0 then some (.normal v11,bW) else some (.exit i13 v11,bW))
 (fun vg bW=>some (.ret vg,bW)))
 (fun o7 fV=>bd (aI .u64 (o7.getD 0 .any)) fun t45 =>
 bd (af .rem t45 (I .u64 1000)) fun t46 =>
 bd (aI .i64 t46) fun t47 =>
 bd (af .add (I .i64 1) t47) fun t48 =>
 bd (az (o7.getD 3 .any)) fun t52 =>
 bd (af .sub t52 (I .i64 1)) fun t53 =>
 bd (av 2 (o7.getD 3 .any) t53) fun t54 =>
 bd (ae 0 t54) fun t55 =>
 bd (ab t55 fV.get) fun t56 =>
 bd (af .add t56 (I .i64 1)) fun t57 =>
 bd (aI .u64 (o7.getD 0 .any)) fun t59 =>
 bd (af .rem t59 (I .u64 7)) fun t60 =>
 bd (aI .i64 t60) fun t61 =>
 bd (af .add t57 t61) fun t62 =>
 bd (aU (aG [.int .i64 0,.int .i64 0,.int .i64 0,.int .i64 0,.ay,.ay] [(0,1,t48),(2,1,(o7.getD 1 .any)),(3,1,t62),(4,1,(o7.getD 3 .any))])) fun t64 =>
 ax (aw 6 (o7.getD 2 .any) t64 fV) fun _ mf =>
 bd (rC (aH 6 (o7.getD 2 .any) mf.get) (some [])) fun WO=>bd (aQ WO) fun JX =>
 some (JX,mf))
 (fun i17 o7 fV=>none)
 (fun Fv fV=>some (Fv,fV))
theorem Qg (aa:ak) (N:Nat) (a0:T) (a1:T) (a2:T) (a3:T) (s:St):aR Tryz.prog aa N Tryz.f21 [a0,a1,a2,a3] s=f21 aa N a0 a1 a2 a3 s:=by kernel_rfl
theorem Mq (d:Nat) (a0:T) (a1:T) (a2:T) (a3:T) (s:St):R (d+1) 21 [a0,a1,a2,a3] s=f21 (R d) 8192 a0 a1 a2 a3 s:=(au rfl Tryz.func21 (by kernel_rfl)).trans (Qg ..)
def tz (aa:ak) (N:Nat) (v:List T) (s:St):Option (JO×St) :=
 bd (az (v.getD 0 .any)) fun t13 =>
 bd (af .lss (v.getD 5 .any) t13) fun t14 =>
 bd (gT (gd t14 true) (some (v.getD 5 .any))) fun t16 =>
 bd (gT (gd t14 true) (some (v.getD 2 .any))) fun t17 =>
 bd (gT (gd t14 true) (af .lss t16 t17)) fun t18 =>
 bd (aC t14 t18 (B false)) fun t19 =>
 br t19 (jn (bd (af .add (v.getD 4 .any) (I .i64 1)) fun t23 =>
 bd (av 1 (v.getD 0 .any) (v.getD 5 .any)) fun t26 =>
 bd (ab t26 s.get) fun t27 =>
 bd (aI .u64 t27) fun t28 =>
 bd (af .rem t28 (I .u64 40)) fun t29 =>
 bd (aI .i64 t29) fun t30 =>
 bd (af .add t23 t30) fun t31 =>
 bd (az (v.getD 1 .any)) fun t35 =>
 bd (af .lss (v.getD 5 .any) t35) fun t36 =>
 jn (br t36 (bd (av 1 (v.getD 1 .any) (v.getD 5 .any)) fun t39 =>
 bd (ab t39 s.get) fun t40 =>
 some (.normal [(v.getD 0 .any),(v.getD 1 .any),(v.getD 2 .any),(v.getD 3 .any),t31,(v.getD 5 .any),t40],s))
 (some (.normal [(v.getD 0 .any),(v.getD 1 .any),(v.getD 2 .any),(v.getD 3 .any),t31,(v.getD 5 .any),(v.getD 5 .any)],s)))
 (fun v1 s2=>bd (aU (aG [.int .i64 0,.int .i64 0] [(0,1,(v1.getD 4 .any)),(1,1,(v1.getD 6 .any))])) fun t44 =>
 ax (aL s2 (aS 1 (aG [.int .i64 0,.int .i64 0] [(0,2,t44)]))) fun t45 s5 =>
 ax (aJ 2 16 (v1.getD 3 .any) t45 s5) fun t46 s6 =>
 some (.normal [(v1.getD 0 .any),(v1.getD 1 .any),(v1.getD 2 .any),t46,(v1.getD 4 .any),(v1.getD 5 .any)],s6))
 (fun i3 v1 s2=>if i3=1 then some (.normal v1,s2) else some (.exit i3 v1,s2))
 (fun r4 s2=>some (.ret r4,s2)))
 (fun v7 s8=>bd (af .add (v7.getD 5 .any) (I .i64 1)) fun t21 =>
 some (.normal [(v7.getD 0 .any),(v7.getD 1 .any),(v7.getD 2 .any),(v7.getD 3 .any),(v7.getD 4 .any),t21],s8))
 (fun i9 v7 s8=>some (.exit i9 v7,s8))
 (fun oR s8=>some (.ret oR,s8)))
 (some (.exit 0 [(v.getD 3 .any)],s))
def f76 (aa:ak) (N:Nat) (a0:T) (a1:T) (a2:T) (s:St):Option (T×St) :=
 jn (jn (loops (tz aa N) N [a0,a1,a2,(Z .ay),(I .i64 0),(I .i64 0)] s)
 (fun v11 bW=>some (.normal [.any],bW))
 (fun i13 v11 bW=>if i13=0 then some (.normal v11,bW) else some (.exit i13 v11,bW))
 (fun vg bW=>some (.ret vg,bW)))
 (fun o7 fV=>some ((o7.getD 0 .any),fV))
 (fun i17 o7 fV=>none)
 (fun Fv fV=>some (Fv,fV))
theorem QP (aa:ak) (N:Nat) (a0:T) (a1:T) (a2:T) (s:St):aR Tryz.prog aa N Tryz.f76 [a0,a1,a2] s=f76 aa N a0 a1 a2 s:=by kernel_rfl
theorem MX (d:Nat) (a0:T) (a1:T) (a2:T) (s:St):R (d+1) 76 [a0,a1,a2] s=f76 (R d) 8192 a0 a1 a2 s:=(au rfl Tryz.func76 (by kernel_rfl)).trans (QP ..)
end
noncomputable section
def lI (aa:ak) (N:Nat) (v:List T) (s:St):Option (JO×St) :=
 bd (az (v.getD 0 .any)) fun t48 =>
 bd (af .lss (v.getD 4 .any) t48) fun t49 =>
 br t49 (jn (bd (av 14 (v.getD 0 .any) (v.getD 4 .any)) fun t54 =>
 bd (ae 4 t54) fun t55 =>
 bd (ab t55 s.get) fun t56 =>
 bd (az t56) fun t57 =>
 bd (af .gtr t57 (I .i64 20)) fun t58 =>
 br t58 (ax (aa 7 [] s) fun t59 s4 =>
 some (.ret t59,s4))
 (bd (av 14 (v.getD 0 .any) (v.getD 4 .any)) fun t62 =>
 bd (ae 1 t62) fun t63 =>
 bd (ab t63 s.get) fun t64 =>
 bd (aI .u64 t64) fun t65 =>
 bd (af .rem t65 (I .u64 12)) fun t66 =>
 bd (aI .i64 t66) fun t67 =>
 bd (av 14 (v.getD 0 .any) (v.getD 4 .any)) fun t70 =>
 bd (ae 0 t70) fun t71 =>
 bd (ab t71 s.get) fun t72 =>
 bd (af .and t72 (I .i64 7)) fun t73 =>
 jn (bd (af .eql t73 (I .i64 3)) fun t91 =>
 jn (br t91 (ax (aa 17 [(v.getD 3 .any),t67,(I .i64 0)] s) fun t94 s5 =>
 some (.normal [(v.getD 0 .any),(v.getD 1 .any),(v.getD 2 .any),(v.getD 3 .any),(v.getD 4 .any)],s5))
 (bd (af .eql t73 (I .i64 4)) fun t96 =>
 jn (br t96 (bd (aU (aG [.int .i64 0,.int .i64 0,.int .i64 0,.int .i64 0,.int .i64 0,.int .i64 0,.int .u32 0,.str []] [(0,1,(I .i64 4)),(7,1,(Z (.str [115,101,97,108,32,53])))])) fun t98 =>
 ax (aa 18 [(v.getD 3 .any),t98] s) fun t99 s6 =>
 some (.normal [(v.getD 0 .any),(v.getD 1 .any),(v.getD 2 .any),(v.getD 3 .any),(v.getD 4 .any)],s6))
 (bd (af .eql t73 (I .i64 5)) fun t101 =>
 jn (br t101 (ax (aa 19 [(v.getD 3 .any)] s) fun t103 s7 =>
 some (.normal [(v.getD 0 .any),(v.getD 1 .any),(v.getD 2 .any),(v.getD 3 .any),(v.getD 4 .any)],s7))
 (bd (av 14 (v.getD 0 .any) (v.getD 4 .any)) fun t79 =>
 bd (ae 4 t79) fun t80 =>
 bd (ab t80 s.get) fun t81 =>
 ax (aa 21 [t67,(v.getD 4 .any),t81,(Z .ay)] s) fun t82 s8 =>
 ax (aa 20 [t82] s8) fun t83 s9 =>
 bd (ah t83 0) fun t84 =>
 bd (ah t83 1) fun t85 =>
 ax (aL s9 (qi t84)) fun t88 bM =>
 ax (aa 22 [(v.getD 3 .any),t88,(I .i64 0)] bM) fun t89 bO =>
 some (.normal [(v.getD 0 .any),(v.getD 1 .any),(v.getD 2 .any),(v.getD 3 .any),(v.getD 4 .any)],bO)))
 (fun v12 dX=>some (.normal [(v12.getD 0 .any),(v12.getD 1 .any),(v12.getD 2 .any),(v12.getD 3 .any),(v12.getD 4 .any)],dX))
 (fun i14 v12 dX=>some (.exit i14 v12,dX))
 (fun Fs dX=>some (.ret Fs,dX))))
 (fun gW iI=>some (.normal [(gW.getD 0 .any),(gW.getD 1 .any),(gW.getD 2 .any),(gW.getD 3 .any),(gW.getD 4 .any)],iI))
 (fun i18 gW iI=>some (.exit i18 gW,iI))
 (fun ym iI=>some (.ret ym,iI))))
 (fun v20 kU=>some (.normal [(v20.getD 0 .any),(v20.getD 1 .any),(v20.getD 2 .any),(v20.getD 3 .any),(v20.getD 4 .any)],kU))
 (fun i22 v20 kU=>if i22=2 then some (.normal v20,kU) else some (.exit i22 v20,kU))
 (fun Sc kU=>some (.ret Sc,kU)))
 (fun v24 kV=>some (.normal [(v24.getD 0 .any),(v24.getD 1 .any),(v24.getD 2 .any),(v24.getD 3 .any),(v24.getD 4 .any)],kV))
 (fun i26 v24 kV=>if i26=1 then some (.normal v24,kV) else some (.exit i26 v24,kV))
 (fun Vu kV=>some (.ret Vu,kV))))
 (fun v28 nH=>bd (af .add (v28.getD 4 .any) (I .i64 1)) fun t51 =>
 some (.normal [(v28.getD 0 .any),(v28.getD 1 .any),(v28.getD 2 .any),(v28.getD 3 .any),t51],nH))
 (fun i30 v28 nH=>some (.exit i30 v28,nH))
 (fun JZ nH=>some (.ret JZ,nH)))
 (some (.exit 0 [(v.getD 1 .any),(v.getD 2 .any),(v.getD 3 .any)],s))
def zE (aa:ak) (N:Nat) (v:List T) (s:St):Option (JO×St) :=
 bd (az (v.getD 4 .any)) fun t145 =>
 bd (af .lss (v.getD 5 .any) t145) fun t146 =>
 br t146 (jn (bd (av 5 (v.getD 4 .any) (v.getD 5 .any)) fun t153 =>
 bd (ae 0 t153) fun t154 =>
 bd (ab t154 s.get) fun t155 =>
 ax (aa 28 [(v.getD 2 .any),t155] s) fun t156 Gj =>
 bd (ah t156 0) fun t157 =>
 bd (ah t156 1) fun t158 =>
 ax (aL Gj (bb [.int .i64 0,.int .i64 0,.int .i64 0,.int .i64 0,.ay,.ay])) fun t19 s49 =>
 ax (aw 6 t19 t157 s49) fun _ OJ =>
 bd (af .neq t158 (I .i64 0)) fun t160 =>
 bd (gT (gd t160 false) (ae 2 t19)) fun t162 =>
 bd (gT (gd t160 false) (ab t162 OJ.get)) fun t163 =>
 bd (gT (gd t160 false) (some (v.getD 4 .any))) fun t164 =>
 bd (gT (gd t160 false) (some (v.getD 5 .any))) fun t165 =>
 bd (gT (gd t160 false) (av 5 t164 t165)) fun t166 =>
 bd (gT (gd t160 false) (ae 2 t166)) fun t167 =>
 bd (gT (gd t160 false) (ab t167 OJ.get)) fun t168 =>
 bd (gT (gd t160 false) (af .neq t163 t168)) fun t169 =>
 bd (aC t160 (B true) t169) fun t170 =>
 bd (gT (gd t170 false) (ae 3 t19)) fun t172 =>
 bd (gT (gd t170 false) (ab t172 OJ.get)) fun t173 =>
 bd (gT (gd t170 false) (some (v.getD 4 .any))) fun t174 =>
 bd (gT (gd t170 false) (some (v.getD 5 .any))) fun t175 =>
 bd (gT (gd t170 false) (av 5 t174 t175)) fun t176 =>
 bd (gT (gd t170 false) (ae 3 t176)) fun t177 =>
 bd (gT (gd t170 false) (ab t177 OJ.get)) fun t178 =>
 bd (gT (gd t170 false) (af .neq t173 t178)) fun t179 =>
 bd (aC t170 (B true) t179) fun t180 =>
 br t180 (some (.ret (B false),OJ))
 (some (.normal [(v.getD 0 .any),(v.getD 1 .any),(v.getD 2 .any),(v.getD 3 .any),(v.getD 4 .any),(v.getD 5 .any)],OJ)))
 (fun v51 PA=>bd (af .add (v51.getD 5 .any) (I .i64 1)) fun t148 =>
 some (.normal [(v51.getD 0 .any),(v51.getD 1 .any),(v51.getD 2 .any),(v51.getD 3 .any),(v51.getD 4 .any),t148],PA))
 (fun i53 v51 PA=>some (.exit i53 v51,PA))
 (fun r54 PA=>some (.ret r54,PA)))
 (some (.exit 3 [(v.getD 0 .any),(v.getD 1 .any),(v.getD 3 .any)],s))
def f4 (aa:ak) (N:Nat) (a0:T) (a1:T) (s:St):Option (T×St) :=
 bd (az a0) fun t26 =>
 bd (af .gtr t26 (I .i64 30)) fun t27 =>
 bd (gT (gd t27 false) (some a1)) fun t29 =>
 bd (gT (gd t27 false) (az t29)) fun t30 =>
 bd (gT (gd t27 false) (af .gtr t30 (I .i64 30))) fun t31 =>
 bd (aC t27 (B true) t31) fun t32 =>
 br t32 (ax (aa 7 [] s) fun t33 s1 =>
 some (t33,s1))
 (ax (aa 10 [(I .i64 100000)] s) fun t34 s2 =>
 ax (aa 14 [t34] s2) fun t37 s3 =>
 bd (ah t37 0) fun t38 =>
 bd (ah t37 1) fun t39 =>
 bd (af .neq t39 (I .i64 0)) fun t41 =>
 bd (gT (gd t41 false) (some t38)) fun t43 =>
 bd (gT (gd t41 false) (fT .p t43 (Z .bL))) fun t44 =>
 bd (aC t41 (B true) t44) fun t45 =>
 br t45 (some ((B false),s3))
 (jn (jn (loops (lI aa N) N [a0,a1,t34,t38,(I .i64 0)] s3)
 (fun v32 sD=>some (.normal [.any,.any,.any],sD))
 (fun i34 v32 sD=>if i34=0 then some (.normal v32,sD) else some (.exit i34 v32,sD))
 (fun ZI sD=>some (.ret ZI,sD)))
 (fun v36 KV=>ax (aa 23 [(v36.getD 2 .any)] KV) fun t105 Bq =>
 ax (aa 24 [(v36.getD 2 .any)] Bq) fun t107 s41 =>
 ax (aa 25 [(v36.getD 1 .any),(v36.getD 0 .any)] s41) fun t110 s42 =>
 ax (aa 14 [(v36.getD 1 .any)] s42) fun t113 AF =>
 bd (ah t113 0) fun t114 =>
 bd (ah t113 1) fun t115 =>
 bd (af .neq t115 (I .i64 0)) fun t117 =>
 bd (gT (gd t117 false) (some t114)) fun t119 =>
 bd (gT (gd t117 false) (fT .p t119 (Z .bL))) fun t120 =>
 bd (aC t117 (B true) t120) fun t121 =>
 br t121 (some ((B false),AF))
 (ax (aa 23 [t114] AF) fun t123 DW =>
 bd (az t123) fun t125 =>
 bd (af .lss t125 t107) fun t127 =>
 bd (gT (gd t127 false) (some t123)) fun t129 =>
 bd (gT (gd t127 false) (some t105)) fun t130 =>
 ax (gS (gd t127 false) DW (aa 26 [t129,t130] DW)) fun t131 s45 =>
 bd (gT (gd t127 false) (jZ .not t131)) fun t132 =>
 bd (aC t127 (B true) t132) fun t133 =>
 bd (gT (gd t133 false) (some t114)) fun t135 =>
 ax (gS (gd t133 false) s45 (aa 24 [t135] s45)) fun t136 Br =>
 bd (gT (gd t133 false) (some t123)) fun t137 =>
 bd (gT (gd t133 false) (az t137)) fun t138 =>
 bd (gT (gd t133 false) (af .neq t136 t138)) fun t139 =>
 bd (aC t133 (B true) t139) fun t140 =>
 br t140 (some ((B false),Br))
 (ax (aa 27 [t114] Br) fun t142 Gi =>
 jn (jn (loops (zE aa N) N [(v36.getD 0 .any),(v36.getD 1 .any),t114,t123,t142,(I .i64 0)] Gi)
 (fun ZX Th=>some (.normal [.any,.any,.any],Th))
 (fun i57 ZX Th=>if i57=3 then some (.normal ZX,Th) else some (.exit i57 ZX,Th))
 (fun r58 Th=>some (.ret r58,Th)))
 (fun v59 Xa=>ax (aa 29 [(v59.getD 1 .any)] Xa) fun t182 s63 =>
 bd (az t182) fun t183 =>
 ax (aa 30 [(v59.getD 1 .any)] s63) fun t185 s64 =>
 ax (aa 25 [(v59.getD 1 .any),(v59.getD 0 .any)] s64) fun t188 s65 =>
 ax (aa 14 [(v59.getD 1 .any)] s65) fun t191 s66 =>
 bd (ah t191 0) fun t192 =>
 bd (ah t191 1) fun t193 =>
 ax (aa 7 [] s66) fun t194 s67 =>
 bd (gT (gd t194 true) (some t193)) fun t196 =>
 bd (gT (gd t194 true) (af .eql t196 (I .i64 0))) fun t197 =>
 bd (aC t194 t197 (B false)) fun t198 =>
 bd (gT (gd t198 true) (some t192)) fun t200 =>
 bd (gT (gd t198 true) (Bn .p t200 (Z .bL))) fun t201 =>
 bd (aC t198 t201 (B false)) fun t202 =>
 bd (gT (gd t202 true) (some t192)) fun t204 =>
 ax (gS (gd t202 true) s67 (aa 23 [t204] s67)) fun t205 PB =>
 bd (gT (gd t202 true) (some (v59.getD 2 .any))) fun t206 =>
 ax (gS (gd t202 true) PB (aa 31 [t205,t206] PB)) fun t207 s69 =>
 bd (aC t202 t207 (B false)) fun t208 =>
 bd (gT (gd t208 true) (some (v59.getD 1 .any))) fun t210 =>
 ax (gS (gd t208 true) s69 (aa 29 [t210] s69)) fun t211 s70 =>
 bd (gT (gd t208 true) (az t211)) fun t212 =>
 bd (gT (gd t208 true) (some t183)) fun t213 =>
 bd (gT (gd t208 true) (af .eql t212 t213)) fun t214 =>
 bd (aC t208 t214 (B false)) fun t215 =>
 bd (gT (gd t215 true) (some (v59.getD 1 .any))) fun t217 =>
 ax (gS (gd t215 true) s70 (aa 30 [t217] s70)) fun t218 s71 =>
 bd (gT (gd t215 true) (some t185)) fun t219 =>
 bd (gT (gd t215 true) (af .eql t218 t219)) fun t220 =>
 bd (aC t215 t220 (B false)) fun t221 =>
 some (t221,s71))
 (fun i61 v59 Xa=>none)
 (fun r62 Xa=>some (r62,Xa)))))
 (fun i38 v36 KV=>none)
 (fun ZK KV=>some (ZK,KV))))
theorem TJ (aa:ak) (N:Nat) (a0:T) (a1:T) (s:St):aR Tryz.prog aa N Tryz.f4 [a0,a1] s=f4 aa N a0 a1 s:=by kernel_rfl
theorem QD (d:Nat) (a0:T) (a1:T) (s:St):R (d+1) 4 [a0,a1] s=f4 (R d) 8192 a0 a1 s:=(au rfl Tryz.func4 (by kernel_rfl)).trans (TJ ..)
def f26 (aa:ak) (N:Nat) (a0:T) (a1:T) (s:St):Option (T×St) :=
 ax (aa 79 [a0,a1] s) fun t7 s1 =>
 bd (az a0) fun t9 =>
 bd (af .eql t7 t9) fun t10 =>
 some (t10,s1)
theorem Ql (aa:ak) (N:Nat) (a0:T) (a1:T) (s:St):aR Tryz.prog aa N Tryz.f26 [a0,a1] s=f26 aa N a0 a1 s:=by kernel_rfl
theorem Mz (d:Nat) (a0:T) (a1:T) (s:St):R (d+1) 26 [a0,a1] s=f26 (R d) 8192 a0 a1 s:=(au rfl Tryz.func26 (by kernel_rfl)).trans (Ql ..)
def xL (aa:ak) (N:Nat) (v:List T) (s:St):Option (JO×St) :=
 bd (az (v.getD 0 .any)) fun t8 =>
 bd (af .lss (v.getD 2 .any) t8) fun t9 =>
 bd (gT (gd t9 true) (some (v.getD 2 .any))) fun t11 =>
 bd (gT (gd t9 true) (some (v.getD 1 .any))) fun t12 =>
 bd (gT (gd t9 true) (az t12)) fun t13 =>
 bd (gT (gd t9 true) (af .lss t11 t13)) fun t14 =>
 bd (aC t9 t14 (B false)) fun t15 =>
 bd (gT (gd t15 true) (some (v.getD 0 .any))) fun t17 =>
 bd (gT (gd t15 true) (some (v.getD 2 .any))) fun t18 =>
 bd (gT (gd t15 true) (av 8 t17 t18)) fun t19 =>
 bd (gT (gd t15 true) (aH 8 t19 s.get)) fun t20 =>
 bd (gT (gd t15 true) (some (v.getD 1 .any))) fun t21 =>
 bd (gT (gd t15 true) (some (v.getD 2 .any))) fun t22 =>
 bd (gT (gd t15 true) (av 8 t21 t22)) fun t23 =>
 bd (gT (gd t15 true) (aH 8 t23 s.get)) fun t24 =>
 bd (gT (gd t15 true) (fT (.a 8 [(0,.i),(1,.i),(2,.i),(3,.i),(4,.i),(5,.i),(6,.i),(7,.s)]) t20 t24)) fun t25 =>
 bd (aC t15 t25 (B false)) fun t26 =>
 br t26 (jn (bd (af .add (v.getD 2 .any) (I .i64 1)) fun t28 =>
 some (.normal [(v.getD 0 .any),(v.getD 1 .any),t28],s))
 (fun v1 s2=>some (.normal [(v1.getD 0 .any),(v1.getD 1 .any),(v1.getD 2 .any)],s2))
 (fun i3 v1 s2=>some (.exit i3 v1,s2))
 (fun r4 s2=>some (.ret r4,s2)))
 (some (.exit 0 [(v.getD 2 .any)],s))
def f79 (aa:ak) (N:Nat) (a0:T) (a1:T) (s:St):Option (T×St) :=
 jn (jn (loops (xL aa N) N [a0,a1,(I .i64 0)] s)
 (fun v5 s6=>some (.normal [.any],s6))
 (fun i7 v5 s6=>if i7=0 then some (.normal v5,s6) else some (.exit i7 v5,s6))
 (fun r8 s6=>some (.ret r8,s6)))
 (fun v9 bM=>some ((v9.getD 0 .any),bM))
 (fun i11 v9 bM=>none)
 (fun vf bM=>some (vf,bM))
theorem QS (aa:ak) (N:Nat) (a0:T) (a1:T) (s:St):aR Tryz.prog aa N Tryz.f79 [a0,a1] s=f79 aa N a0 a1 s:=by kernel_rfl
theorem M0 (d:Nat) (a0:T) (a1:T) (s:St):R (d+1) 79 [a0,a1] s=f79 (R d) 8192 a0 a1 s:=(au rfl Tryz.func79 (by kernel_rfl)).trans (QS ..)
def f31 (aa:ak) (N:Nat) (a0:T) (a1:T) (s:St):Option (T×St) :=
 bd (az a0) fun t6 =>
 bd (az a1) fun t8 =>
 bd (af .eql t6 t8) fun t9 =>
 bd (gT (gd t9 true) (some a0)) fun t11 =>
 bd (gT (gd t9 true) (some a1)) fun t12 =>
 ax (gS (gd t9 true) s (aa 26 [t11,t12] s)) fun t13 s1 =>
 bd (aC t9 t13 (B false)) fun t14 =>
 some (t14,s1)
theorem Qp (aa:ak) (N:Nat) (a0:T) (a1:T) (s:St):aR Tryz.prog aa N Tryz.f31 [a0,a1] s=f31 aa N a0 a1 s:=by kernel_rfl
theorem MD (d:Nat) (a0:T) (a1:T) (s:St):R (d+1) 31 [a0,a1] s=f31 (R d) 8192 a0 a1 s:=(au rfl Tryz.func31 (by kernel_rfl)).trans (Qp ..)
end
noncomputable section
def f143 (aa:ak) (N:Nat) (a0:T) (a1:T) (s:St):Option (T×St) :=
 bd (bg a0) fun t6 =>
 bd (ae 2 t6) fun t7 =>
 bd (ab t7 s.get) fun t8 =>
 bd (gT (gd t8 false) (some a1)) fun t10 =>
 bd (gT (gd t8 false) (some a0)) fun t11 =>
 bd (gT (gd t8 false) (bg t11)) fun t12 =>
 bd (gT (gd t8 false) (ae 0 t12)) fun t13 =>
 bd (gT (gd t8 false) (ab t13 s.get)) fun t14 =>
 bd (gT (gd t8 false) (bN t14)) fun t15 =>
 bd (gT (gd t8 false) (some a0)) fun t16 =>
 bd (gT (gd t8 false) (bg t16)) fun t17 =>
 bd (gT (gd t8 false) (ae 1 t17)) fun t18 =>
 bd (gT (gd t8 false) (ab t18 s.get)) fun t19 =>
 bd (gT (gd t8 false) (af .sub t15 t19)) fun t20 =>
 bd (gT (gd t8 false) (aI .u64 t20)) fun t21 =>
 bd (gT (gd t8 false) (af .gtr t10 t21)) fun t22 =>
 bd (aC t8 (B true) t22) fun t23 =>
 br t23 (bd (bg a0) fun t25 =>
 bd (ae 2 t25) fun t26 =>
 ax (aw 1 t26 (B true) s) fun _ s1 =>
 some ((Z (.str [])),s1))
 (bd (bg a0) fun t29 =>
 bd (ae 1 t29) fun t30 =>
 bd (ab t30 s.get) fun t31 =>
 bd (aI .i64 a1) fun t33 =>
 bd (af .add t31 t33) fun t34 =>
 bd (bg a0) fun t35 =>
 bd (ae 1 t35) fun t36 =>
 ax (aw 1 t36 t34 s) fun _ s2 =>
 bd (bg a0) fun t38 =>
 bd (ae 0 t38) fun t39 =>
 bd (ab t39 s2.get) fun t40 =>
 bd (bg a0) fun t42 =>
 bd (ae 1 t42) fun t43 =>
 bd (ab t43 s2.get) fun t44 =>
 bd (aI .i64 a1) fun t46 =>
 bd (af .sub t44 t46) fun t47 =>
 bd (bg a0) fun t49 =>
 bd (ae 1 t49) fun t50 =>
 bd (ab t50 s2.get) fun t51 =>
 bd (bD t40 (some t47) (some t51) none) fun t52 =>
 some (t52,s2))
end
noncomputable section
def f156 (aa:ak) (N:Nat) (a0:T) (s:St):Option (T×St) :=
 bd (af .lss a0 (I .i64 0)) fun t4 =>
 bd (gT (gd t4 false) (some a0)) fun t6 =>
 bd (gT (gd t4 false) (af .geq t6 (I .i64 4))) fun t7 =>
 bd (aC t4 (B true) t7) fun t8 =>
 br t8 (some ((I .i64 0),s))
 (bd (aU (aG [.int .i64 0,.int .i64 0,.int .i64 0,.int .i64 0] [(0,1,(I .i64 1)),(1,1,(I .i64 5)),(2,1,(I .i64 60)),(3,1,(I .i64 1440))])) fun t9 =>
 bd (nh none 4 1 t9 a0) fun t11 =>
 some (t11,s))
end
noncomputable section
end
noncomputable section
def f11 (aa:ak) (N:Nat) (a0:T) (s:St):Option (T×St) :=
 bd (af .lss a0 (I .i64 0)) fun t4 =>
 bd (gT (gd t4 false) (some a0)) fun t6 =>
 bd (gT (gd t4 false) (af .gtr t6 (I .i64 1048576))) fun t7 =>
 bd (aC t4 (B true) t7) fun t8 =>
 br t8 (some ((Z .bL),s))
 (bd (aU (aG [.int .i64 0,.ay] [(0,1,a0)])) fun t10 =>
 ax (aL s (cf t10)) fun t11 s1 =>
 some (t11,s1))
def Qr (aa:ak) (N:Nat) (v:List T) (s:St):Option (JO×St) :=
 bd (bg (v.getD 0 .any)) fun t8 =>
 bd (ae 1 t8) fun t9 =>
 bd (ab t9 s.get) fun t10 =>
 bd (az t10) fun t11 =>
 bd (af .lss (v.getD 2 .any) t11) fun t12 =>
 br t12 (jn (bd (bg (v.getD 0 .any)) fun t16 =>
 bd (ae 1 t16) fun t17 =>
 bd (ab t17 s.get) fun t18 =>
 bd (av 3 t18 (v.getD 2 .any)) fun t20 =>
 bd (ae 0 t20) fun t21 =>
 bd (ab t21 s.get) fun t22 =>
 bd (af .eql t22 (v.getD 1 .any)) fun t24 =>
 br t24 (some (.ret (v.getD 2 .any),s))
 (some (.normal [(v.getD 0 .any),(v.getD 1 .any),(v.getD 2 .any)],s)))
 (fun v1 s2=>bd (af .add (v1.getD 2 .any) (I .i64 1)) fun t14 =>
 some (.normal [(v1.getD 0 .any),(v1.getD 1 .any),t14],s2))
 (fun i3 v1 s2=>some (.exit i3 v1,s2))
 (fun r4 s2=>some (.ret r4,s2)))
 (some (.exit 0 [],s))
def f37 (aa:ak) (N:Nat) (a0:T) (a1:T) (s:St):Option (T×St) :=
 jn (jn (loops (Qr aa N) N [a0,a1,(I .i64 0)] s)
 (fun v5 s6=>some (.normal [],s6))
 (fun i7 v5 s6=>if i7=0 then some (.normal v5,s6) else some (.exit i7 v5,s6))
 (fun r8 s6=>some (.ret r8,s6)))
 (fun v9 bM=>some ((I .i64 (-1)),bM))
 (fun i11 v9 bM=>none)
 (fun vf bM=>some (vf,bM))
def Qs (aa:ak) (N:Nat) (v:List T) (s:St):Option (JO×St) :=
 bd (bN (v.getD 0 .any)) fun t7 =>
 bd (af .lss (v.getD 1 .any) t7) fun t8 =>
 br t8 (jn (bd (dG (v.getD 0 .any) (v.getD 1 .any)) fun t13 =>
 bd (af .lss t13 (I .u8 97)) fun t15 =>
 bd (gT (gd t15 false) (some t13)) fun t17 =>
 bd (gT (gd t15 false) (af .gtr t17 (I .u8 122))) fun t18 =>
 bd (aC t15 (B true) t18) fun t19 =>
 bd (gT (gd t19 true) (some t13)) fun t21 =>
 bd (gT (gd t19 true) (af .lss t21 (I .u8 48))) fun t22 =>
 bd (gT (gd t19 true) (some t22)) fun t23 =>
 bd (gT (gd t23 false) (some t13)) fun t24 =>
 bd (gT (gd t23 false) (af .gtr t24 (I .u8 57))) fun t25 =>
 bd (gT (gd t19 true) (aC t23 (B true) t25)) fun t26 =>
 bd (aC t19 t26 (B false)) fun t27 =>
 bd (gT (gd t27 true) (some t13)) fun t29 =>
 bd (gT (gd t27 true) (af .neq t29 (I .u8 46))) fun t30 =>
 bd (aC t27 t30 (B false)) fun t31 =>
 br t31 (some (.ret (B false),s))
 (some (.normal [(v.getD 0 .any),(v.getD 1 .any)],s)))
 (fun v1 s2=>bd (af .add (v1.getD 1 .any) (I .i64 1)) fun t10 =>
 some (.normal [(v1.getD 0 .any),t10],s2))
 (fun i3 v1 s2=>some (.exit i3 v1,s2))
 (fun r4 s2=>some (.ret r4,s2)))
 (some (.exit 0 [(v.getD 0 .any)],s))
def f38 (aa:ak) (N:Nat) (a0:T) (s:St):Option (T×St) :=
 jn (jn (loops (Qs aa N) N [a0,(I .i64 0)] s)
 (fun v5 s6=>some (.normal [.any],s6))
 (fun i7 v5 s6=>if i7=0 then some (.normal v5,s6) else some (.exit i7 v5,s6))
 (fun r8 s6=>some (.ret r8,s6)))
 (fun v9 bM=>bd (bN (v9.getD 0 .any)) fun t33 =>
 bd (af .geq t33 (I .i64 1)) fun t34 =>
 bd (gT (gd t34 true) (some (v9.getD 0 .any))) fun t36 =>
 bd (gT (gd t34 true) (bN t36)) fun t37 =>
 bd (gT (gd t34 true) (af .leq t37 (I .i64 20))) fun t38 =>
 bd (aC t34 t38 (B false)) fun t39 =>
 some (t39,bM))
 (fun i11 v9 bM=>none)
 (fun vf bM=>some (vf,bM))
def Qt (aa:ak) (N:Nat) (v:List T) (s:St):Option (JO×St) :=
 bd (bg (v.getD 0 .any)) fun t7 =>
 bd (ae 1 t7) fun t8 =>
 bd (ab t8 s.get) fun t9 =>
 bd (az t9) fun t10 =>
 bd (af .lss (v.getD 2 .any) t10) fun t11 =>
 br t11 (jn (bd (bg (v.getD 0 .any)) fun t16 =>
 bd (ae 1 t16) fun t17 =>
 bd (ab t17 s.get) fun t18 =>
 bd (av 3 t18 (v.getD 2 .any)) fun t20 =>
 bd (ae 1 t20) fun t21 =>
 bd (ab t21 s.get) fun t22 =>
 bd (bN t22) fun t23 =>
 bd (af .add (v.getD 1 .any) t23) fun t24 =>
 some (.normal [(v.getD 0 .any),t24,(v.getD 2 .any)],s))
 (fun v1 s2=>bd (af .add (v1.getD 2 .any) (I .i64 1)) fun t13 =>
 some (.normal [(v1.getD 0 .any),(v1.getD 1 .any),t13],s2))
 (fun i3 v1 s2=>some (.exit i3 v1,s2))
 (fun r4 s2=>some (.ret r4,s2)))
 (some (.exit 0 [(v.getD 1 .any)],s))
def f39 (aa:ak) (N:Nat) (a0:T) (s:St):Option (T×St) :=
 jn (jn (loops (Qt aa N) N [a0,(I .i64 0),(I .i64 0)] s)
 (fun v5 s6=>some (.normal [.any],s6))
 (fun i7 v5 s6=>if i7=0 then some (.normal v5,s6) else some (.exit i7 v5,s6))
 (fun r8 s6=>some (.ret r8,s6)))
 (fun v9 bM=>some ((v9.getD 0 .any),bM))
 (fun i11 v9 bM=>none)
 (fun vf bM=>some (vf,bM))
end
noncomputable section
def TI (aa:ak) (N:Nat) (v:List T) (s:St):Option (JO×St) :=
 bd (af .lss (v.getD 3 .any) (I .i64 2)) fun t59 =>
 br t59 (jn (ax (aa 10 [(I .i64 100000)] s) fun t62 bM =>
 ax (aa 11 [(I .i64 100000)] bM) fun t63 bO =>
 bd (fT .p t62 (Z .bL)) fun t65 =>
 bd (gT (gd t65 false) (some t62)) fun t67 =>
 bd (gT (gd t65 false) (some (v.getD 0 .any))) fun t68 =>
 ax (gS (gd t65 false) bO (aa 12 [t67,(Z (.str [108,111,103])),t68] bO)) fun t69 bW =>
 bd (gT (gd t65 false) (af .neq t69 (I .i64 0))) fun t70 =>
 bd (aC t65 (B true) t70) fun t71 =>
 bd (gT (gd t71 false) (some t62)) fun t73 =>
 bd (gT (gd t71 false) (some (v.getD 1 .any))) fun t74 =>
 ax (gS (gd t71 false) bW (aa 12 [t73,(Z (.str [115,49])),t74] bW)) fun t75 dX =>
 bd (gT (gd t71 false) (af .neq t75 (I .i64 0))) fun t76 =>
 bd (aC t71 (B true) t76) fun t77 =>
 br t77 (some (.ret (B false),dX))
 (bd (bR (v.getD 0 .any) dX.get) fun t80 =>
 ax (aa 13 [t63,(Z (.str [108,111,103])),t80] dX) fun t81 fR =>
 bd (bR (v.getD 1 .any) fR.get) fun t84 =>
 ax (aa 13 [t63,(Z (.str [115,49])),t84] fR) fun t85 gv =>
 ax (aa 14 [t62] gv) fun t88 fV =>
 bd (ah t88 0) fun t89 =>
 bd (ah t88 1) fun t90 =>
 ax (aa 15 [t63] fV) fun t93 iI =>
 bd (ah t93 0) fun t94 =>
 bd (ah t93 1) fun t95 =>
 bd (af .neq t90 t95) fun t98 =>
 bd (gT (gd t98 false) (some t90)) fun t100 =>
 bd (gT (gd t98 false) (af .eql t100 (I .i64 0))) fun t101 =>
 bd (gT (gd t98 false) (some t89)) fun t102 =>
 bd (gT (gd t98 false) (Bn .p t102 (Z .bL))) fun t103 =>
 bd (gT (gd t98 false) (Bn .b t101 t103)) fun t104 =>
 bd (aC t98 (B true) t104) fun t105 =>
 br t105 (some (.ret (B false),iI))
 (bd (af .eql t90 (I .i64 0)) fun t107 =>
 bd (gT (gd t107 true) (some t89)) fun t109 =>
 bd (gT (gd t107 true) (some t94)) fun t110 =>
 bd (gT (gd t107 true) (some t62)) fun t111 =>
 ax (gS (gd t107 true) iI (aa 16 [t109,t110,t111] iI)) fun t112 gV =>
 bd (gT (gd t107 true) (jZ .not t112)) fun t113 =>
 bd (aC t107 t113 (B false)) fun t114 =>
 br t114 (some (.ret (B false),gV))
 (some (.normal [(v.getD 2 .any),(v.getD 1 .any),(v.getD 2 .any),(v.getD 3 .any)],gV)))))
 (fun rD mg=>bd (af .add (rD.getD 3 .any) (I .i64 1)) fun t61 =>
 some (.normal [(rD.getD 0 .any),(rD.getD 1 .any),(rD.getD 2 .any),t61],mg))
 (fun i21 rD mg=>some (.exit i21 rD,mg))
 (fun Vs mg=>some (.ret Vs,mg)))
 (some (.exit 0 [],s))
def f3 (aa:ak) (N:Nat) (a0:T) (a1:T) (a2:T) (a3:T) (a4:T) (s:St):Option (T×St) :=
 bd (az a0) fun t23 =>
 bd (af .gtr t23 (I .i64 300)) fun t24 =>
 bd (gT (gd t24 false) (some a4)) fun t26 =>
 bd (gT (gd t24 false) (az t26)) fun t27 =>
 bd (gT (gd t24 false) (af .gtr t27 (I .i64 200))) fun t28 =>
 bd (aC t24 (B true) t28) fun t29 =>
 br t29 (ax (aa 7 [] s) fun t30 s1 =>
 some (t30,s1))
 (ax (aa 9 [a1] s) fun t33 s2 =>
 ax (aa 8 [t33] s2) fun t34 s3 =>
 bd (ah t34 0) fun t35 =>
 bd (ah t34 1) fun t36 =>
 ax (aL s3 (qi t35)) fun t38 s4 =>
 bd (az t38) fun t40 =>
 bd (af .gtr t40 (I .i64 0)) fun t41 =>
 jn (br t41 (bd (aI .u64 a2) fun t43 =>
 bd (az t38) fun t45 =>
 bd (aI .u64 t45) fun t46 =>
 bd (af .rem t43 t46) fun t47 =>
 bd (aI .i64 t47) fun t48 =>
 bd (av 1 t38 t48) fun t53 =>
 bd (ab t53 s4.get) fun t54 =>
 bd (af .xor t54 a3) fun t56 =>
 bd (av 1 t38 t48) fun t57 =>
 ax (aw 1 t57 t56 s4) fun _ s5 =>
 some (.normal [a0,a4,t38],s5))
 (some (.normal [a0,a4,t38],s4)))
 (fun v6 s7=>jn (jn (loops (TI aa N) N [(v6.getD 0 .any),(v6.getD 1 .any),(v6.getD 2 .any),(I .i64 0)] s7)
 (fun v23 yS=>some (.normal [],yS))
 (fun i25 v23 yS=>if i25=0 then some (.normal v23,yS) else some (.exit i25 v23,yS))
 (fun Vt yS=>some (.ret Vt,yS)))
 (fun v27 yT=>ax (aa 7 [] yT) fun t116 wM =>
 some (t116,wM))
 (fun i29 v27 yT=>none)
 (fun ZG yT=>some (ZG,yT)))
 (fun i8 v6 s7=>none)
 (fun r9 s7=>some (r9,s7)))
end
end Go.Proofs.YtbohejffelipoaaGreatDoor
namespace Go.Proofs.YtbohejffelipoaaGreatDoor
end Go.Proofs.YtbohejffelipoaaGreatDoor
namespace Go.Proofs.YtbohejffelipoaaGreatDoor
open Go Go.Abs Go.Abs.F
set_option linter.unusedVariables false
abbrev yI (s:St) (x:S) (l:List S):Prop:=Rd 1 s x l.length l
def BS (s:St) (x:S) (l:List S):Prop :=
 (x = .ay/\l=[])\/(∃ c rows,x = .emp c 1/\l=[]/\s.get c=some (.cells true rows))\/∃ c rows,x = .sl c 0 l.length (.grown 1)/\s.get c=some (.cells true rows)/\l.length<=rows.length/\rows.take l.length=l
theorem BS.rd {s:St} {x:S} {l:List S} (h:BS s x l):yI s x l:=by
 rcases h with ⟨rfl,rfl⟩ | ⟨c,rows,rfl,rfl,_⟩ | ⟨c,rows,rfl,h1,h2,h3⟩
 · exact Rd.nil 1 s
 · exact ⟨rfl,.inl ⟨rfl,.inr (.inl ⟨c,1,rfl⟩)⟩,rfl⟩
 · exact ⟨by simp,.inr ⟨c,0,_,_,rows,rfl,h1,by omega,by simpa using h3⟩,rfl⟩
theorem BS.keep {s t:St} {x:S} {l:List S} (h:BS s x l) (hk:∀ c,own x=some c->t.get c=s.get c):BS t x l:=by
 rcases h with h | ⟨c,rows,rfl,rfl,h1⟩ | ⟨c,rows,rfl,h1,h2,h3⟩
 · exact .inl h
 · exact .inr (.inl ⟨c,rows,rfl,rfl,by rw [hk c rfl];exact h1⟩)
 · exact .inr (.inr ⟨c,rows,rfl,by rw [hk c rfl];exact h1,h2,h3⟩)
theorem BS.lt {s:St} {x:S} {l:List S} (h:BS s x l) (wf:s.wf) {c:Nat} (hc:own x=some c):c<s.size:=by
 rcases h with ⟨rfl,rfl⟩ | ⟨c',rows,rfl,rfl,h1⟩ | ⟨c',rows,rfl,h1,h2,h3⟩
 · cases hc
 · cases hc;exact wf.lt h1
 · cases hc;exact wf.lt h1
theorem vy {s:St} {x y:S} {l xs:List S} (hb:BS s x l) (wf:s.wf) (hs:yI s y xs) (hl:l.length+xs.length<=100000) :
 ∃ x' t,aJ 1 1 (Z x) (Z y) s=some (Z x',t)/\t.wf/\s.size<=t.size/\BS t x' (l++xs)/\(∀ b,b<s.size->own x≠some b->t.get b=s.get b)/\(own x'=none\/own x'=own x\/∃ c,own x'=some c/\s.size<=c):=by
 have hsrc:=hs.src
 have hB:(l.length+xs.length)*1<=140737488355328:=by omega
 rcases hb with ⟨rfl,rfl⟩ | ⟨c,rows,rfl,rfl,h1⟩ | ⟨c,rows,rfl,h1,h2,h3⟩
 · by_cases hz:xs.length=0
   · have:xs=[]:=List.eq_nil_of_length_eq_zero hz
     subst this
     exact ⟨.ay,s,by simp [aJ,hsrc],wf,Nat.le_refl _,.inl ⟨rfl,rfl⟩,fun _ _ _=>rfl,.inl rfl⟩
   · have Re:xs.length*1<=140737488355328:=by omega
     refine ⟨.sl s.size 0 xs.length (.grown 1),s.push (.cells true xs),?_,St.bu wf _,by simp,.inr (.inr ⟨s.size,xs,by simp,St.aq _ _,by simp,by simp⟩),fun b hb _=>St.aD _ _ (by omega),.inr (.inr ⟨_,rfl,Nat.le_refl _⟩)⟩
     simp only [aJ,hsrc,if_neg hz,if_pos Re]
     rfl
 · have jy:=wf.lt h1
   by_cases hz:xs.length=0
   · have:xs=[]:=List.eq_nil_of_length_eq_zero hz
     subst this
     exact ⟨.emp c 1,s,by simp [aJ,hsrc],wf,Nat.le_refl _,.inr (.inl ⟨c,rows,rfl,rfl,h1⟩),fun _ _ _=>rfl,.inr (.inl rfl)⟩
   · have Re:1=1/\xs.length*1<=140737488355328:=⟨rfl,by omega⟩
     have hg:((s.set c .dead).push (.cells true xs)).get s.size=some (.cells true xs):=by
      have:=St.aq (s.set c .dead) (.cells true xs)
      rwa [St.size_set] at this
     refine ⟨.sl s.size 0 xs.length (.grown 1),(s.set c .dead).push (.cells true xs),?_,St.bu (St.wf_set wf jy _) _,by simp,.inr (.inr ⟨s.size,xs,by simp,hg,by simp,by simp⟩),fun b hb hbc => ?_,.inr (.inr ⟨_,rfl,Nat.le_refl _⟩)⟩
     · unfold aJ
       rw [hsrc]
       dsimp only
       rw [if_neg (by decide),if_pos Re,if_neg hz,h1]
     · have:b≠c:=fun e=>hbc (by rw [e];rfl)
       rw [St.aD _ _ (by rw [St.size_set];omega),St.aj _ _ this]
 · have jy:=wf.lt h1
   have Re:1=1/\(l.length+xs.length)*1<=140737488355328:=⟨rfl,hB⟩
   by_cases hz:xs.length=0
   · have:xs=[]:=List.eq_nil_of_length_eq_zero hz
     subst this
     refine ⟨.sl c 0 l.length (.grown 1),s,?_,wf,Nat.le_refl _,.inr (.inr ⟨c,rows,by simp,h1,by simpa using h2,by simpa using h3⟩),fun _ _ _=>rfl,.inr (.inl rfl)⟩
     unfold aJ
     rw [hsrc]
     dsimp only
     rw [if_neg (by decide),if_pos Re,if_pos hz]
   · by_cases hf:l.length+xs.length<=rows.length
     · have pU:0+(l.length+xs.length)*1<=rows.length:=by omega
       refine ⟨.sl c 0 (l.length+xs.length) (.grown 1),s.set c (.cells true (aO rows (0+l.length*1) xs)),?_,St.wf_set wf jy _,by simp,.inr (.inr ⟨c,_,by simp,St.ar _ _ _,by simpa using hf,?_⟩),fun b hb hbc => ?_,.inr (.inl rfl)⟩
       · unfold aJ
         rw [hsrc]
         dsimp only
         rw [if_neg (by decide),if_pos Re,if_neg hz,h1]
         dsimp only
         rw [if_pos pU]
       · rw [bZ _ _ _ (by omega),List.length_append,show 0+l.length*1=l.length by omega,h3]
         rw [List.take_append_of_le_length (by simp)]
         exact List.take_of_length_le (by simp)
       · have:b≠c:=fun e=>hbc (by rw [e];rfl)
         exact St.aj _ _ this
     · have pU:¬ 0+(l.length+xs.length)*1<=rows.length:=by omega
       have X4:0+l.length*1<=rows.length:=by omega
       have hg:((s.set c .dead).push (.cells true (l++xs))).get s.size=some (.cells true (l++xs)):=by
        have:=St.aq (s.set c .dead) (.cells true (l++xs))
        rwa [St.size_set] at this
       refine ⟨.sl s.size 0 (l.length+xs.length) (.grown 1),(s.set c .dead).push (.cells true (l++xs)),?_,St.bu (St.wf_set wf jy _) _,by simp,.inr (.inr ⟨s.size,l++xs,by simp,hg,by simp,by rw [List.take_length]⟩),fun b hb hbc => ?_,.inr (.inr ⟨_,rfl,Nat.le_refl _⟩)⟩
       · unfold aJ
         rw [hsrc]
         dsimp only
         rw [if_neg (by decide),if_pos Re,if_neg hz,h1]
         dsimp only
         rw [if_neg pU,if_pos X4,List.drop_zero,Nat.mul_one,h3]
       · have:b≠c:=fun e=>hbc (by rw [e];rfl)
         rw [St.aD _ _ (by rw [St.size_set];omega),St.aj _ _ this]
theorem GU {s:St} {x:S} {l:List S} (hb:BS s x l) {k:Nat} (hk:k<=l.length) :
 ∃ x',aB 1 (Z x) none (some (I .i64 k)) none=some (Z x')/\BS s x' (l.take k)/\(own x'=none\/own x'=own x):=by
 rcases hb with ⟨rfl,rfl⟩ | ⟨c,rows,rfl,rfl,h1⟩ | ⟨c,rows,rfl,h1,h2,h3⟩
 · have:k=0:=by simpa using hk
   subst this
   exact ⟨.ay,rfl,.inl ⟨rfl,rfl⟩,.inl rfl⟩
 · have:k=0:=by simpa using hk
   subst this
   exact ⟨.emp c 1,rfl,.inr (.inl ⟨c,rows,rfl,rfl,h1⟩),.inr rfl⟩
 · by_cases hz:l.length=0
   · have hl:l=[]:=List.eq_nil_of_length_eq_zero hz
     subst hl
     have:k=0:=by simpa using hk
     subst this
     exact ⟨.emp c 1,rfl,.inr (.inl ⟨c,rows,rfl,rfl,h1⟩),.inr rfl⟩
   · have hk':(k:Int)<=(l.length:Int):=by omega
     have hpos:0<l.length:=by omega
     refine ⟨.sl c 0 k (.grown 1),?_,.inr (.inr ⟨c,rows,by rw [List.length_take,Nat.min_eq_left hk],h1,by rw [List.length_take];omega,?_⟩),.inr rfl⟩
     · unfold aB
       dsimp only
       rw [if_pos rfl,dZ hk]
       dsimp only
       rw [if_pos hpos]
       simp
     · rw [List.length_take,Nat.min_eq_left hk]
       have:=congrArg (List.take k) h3
       rwa [List.take_take,Nat.min_eq_left hk] at this
structure Fl where
 nm:List UInt8
 fb:Nat
 x:S
 l:List S
 sure:Nat
def gi (fs:List Fl):List (S×V):=fs.map fun f=>(S.str f.nm,V.s (.ptr f.fb 0))
structure Dk (s:St) (i m:Nat) (room:Int) (fs:List Fl):Prop where
 wf:s.wf
 ri:s.get i=some (.cells true [.int .i64 room,.map m])
 mp:s.get m=some (.map (gi fs))
 fl:∀ (k:Nat) (f:Fl),fs[k]? = some f->s.get f.fb=some (.cells true [f.x,.int .i64 f.sure])/\BS s f.x f.l/\f.sure<=f.l.length/\f.l.length<=50000/\f.fb≠i/\f.fb≠m/\∀ c,own f.x=some c->c≠i/\c≠m
 ap:∀ (k k':Nat) (f f':Fl),fs[k]? = some f->fs[k']? = some f'->(k≠k'->f.fb≠f'.fb)/\∀ c,own f.x=some c->c≠f'.fb/\(k≠k'->own f'.x≠some c)
 nm:(fs.map (·.nm)).Nodup
section
variable {s t:St} {i m:Nat} {room:Int} {fs:List Fl}
theorem Dk.gr (h:Dk s i m room fs) (g:Gr s t):Dk t i m room fs:=by
 obtain ⟨g1,g2,g3⟩:=g
 refine ⟨g1,by rw [g3 i (h.wf.lt h.ri)];exact h.ri,by rw [g3 m (h.wf.lt h.mp)];exact h.mp,fun k f hf => ?_,h.ap,h.nm⟩
 obtain ⟨a1,a2,a3⟩:=h.fl k f hf
 exact ⟨by rw [g3 _ (h.wf.lt a1)];exact a1,a2.keep fun c hc=>g3 c (a2.lt h.wf hc),a3⟩
theorem Dk.rO (h:Dk s i m room fs) {k:Nat} {f:Fl} (hk:fs[k]? = some f) {x':S} {l':List S} {sure':Nat} (wf:t.wf) (hsz:s.size<=t.size) (hF:∀ b,b<s.size->b≠f.fb->own f.x≠some b->t.get b=s.get b)
 (O9:t.get f.fb=some (.cells true [x',.int .i64 sure'])) (KM:BS t x' l') (IF:sure'<=l'.length) (hl:l'.length<=50000) (hx:own x'=none\/own x'=own f.x\/∃ c,own x'=some c/\s.size<=c) :
 Dk t i m room (fs.set k { f with x:=x',l:=l',sure:=sure' }):=by
 obtain ⟨a1,a2,a3,a4,a5,a6,a7⟩:=h.fl k f hk
 have hi:=h.wf.lt h.ri
 have hm:=h.wf.lt h.mp
 obtain ⟨eZ,Wr⟩:=List.getElem?_eq_some_iff.1 hk
 have Ub:gi (fs.set k { f with x:=x',l:=l',sure:=sure' })=gi fs:=by
  unfold gi
  rw [List.map_set]
  apply List.ext_getElem?
  intro j
  rw [List.getElem?_set]
  by_cases hj:k=j
  · subst hj
    simp [eZ,Wr]
  · simp [hj]
 have zP:∀ c,own x'=some c->own f.x=some c\/s.size<=c:=fun c hc=>by
  rcases hx with e | e | ⟨c',e,gO⟩
  · rw [e] at hc;cases hc
  · exact .inl (e ▸ hc)
  · rw [e] at hc;cases hc;exact .inr gO
 have ct:∀ j g,(fs.set k { f with x:=x',l:=l',sure:=sure' })[j]? = some g->(j=k/\g={ f with x:=x',l:=l',sure:=sure' })\/(j≠k/\fs[j]? = some g):=fun j g hg=>by
  rw [List.getElem?_set] at hg
  by_cases hj:k=j
  · subst hj
    simp [eZ] at hg
    exact .inl ⟨rfl,hg.symm⟩
  · rw [if_neg hj] at hg
    exact .inr ⟨fun e=>hj e.symm,hg⟩
 refine ⟨wf,by rw [hF i hi (Ne.symm a5) (fun e=>(a7 i e).1 rfl)];exact h.ri,by rw [hF m hm (Ne.symm a6) (fun e=>(a7 m e).2 rfl),Ub];exact h.mp,fun j g hg => ?_,fun j j' g g' hg vI => ?_,?_⟩
 · rcases ct j g hg with ⟨rfl,rfl⟩ | ⟨hj,ho⟩
   · refine ⟨O9,KM,IF,hl,a5,a6,fun c hc => ?_⟩
     rcases zP c hc with e | e
     · exact a7 c e
     · exact ⟨by omega,by omega⟩
   · obtain ⟨b1,b2,b3⟩:=h.fl j g ho
     have p1:=(h.ap j k g f ho hk).1 hj
     refine ⟨by rw [hF _ (h.wf.lt b1) p1 (fun e=>((h.ap k j f g hk ho).2 _ e).1 rfl)];exact b1,b2.keep fun c hc=>hF c (b2.lt h.wf hc) ((h.ap j k g f ho hk).2 c hc).1 (fun e=>((h.ap k j f g hk ho).2 c e).2 (Ne.symm hj) hc),b3⟩
 · rcases ct j g hg with ⟨rfl,rfl⟩ | ⟨hj,ho⟩
   · rcases ct j' g' vI with ⟨rfl,rfl⟩ | ⟨hj',si⟩
     · refine ⟨fun e=>absurd rfl e,fun c hc=>⟨?_,fun e=>absurd rfl e⟩⟩
       rcases zP c hc with e | e
       · exact ((h.ap _ _ f f hk hk).2 c e).1
       · have:=h.wf.lt a1
         show c≠f.fb
         omega
     · obtain ⟨b1,b2,_⟩:=h.fl j' g' si
       refine ⟨fun e=>(h.ap _ j' f g' hk si).1 e,fun c hc => ?_⟩
       rcases zP c hc with e | e
       · exact (h.ap _ j' f g' hk si).2 c e
       · have:=h.wf.lt b1
         exact ⟨by omega,fun _ e'=>by have:=b2.lt h.wf e';omega⟩
   · rcases ct j' g' vI with ⟨rfl,rfl⟩ | ⟨hj',si⟩
     · obtain ⟨b1,b2,_⟩:=h.fl j g ho
       refine ⟨fun e=>(h.ap j _ g f ho hk).1 e,fun c hc=>⟨((h.ap j _ g f ho hk).2 c hc).1,fun hne e => ?_⟩⟩
       rcases zP c e with e' | e'
       · exact ((h.ap j _ g f ho hk).2 c hc).2 hne e'
       · have:=b2.lt h.wf hc
         omega
     · exact h.ap j j' g g' ho si
 · have:(fs.set k { f with x:=x',l:=l',sure:=sure' }).map (·.nm)=fs.map (·.nm):=by
    rw [List.map_set]
    apply List.ext_getElem?
    intro j
    rw [List.getElem?_set]
    by_cases hj:k=j
    · subst hj
      simp [eZ,Wr]
    · simp [hj]
   rw [this]
   exact h.nm
theorem zu:∀ (fs:List Fl) (k k0:Nat) (f:Fl),(fs.map (·.nm)).Nodup->fs[k]? = some f->fg (.str f.nm) (gi fs) k0=some (some (k0+k,V.s (.ptr f.fb 0))):=by
 intro fs
 induction fs with
 | nil=>intro k k0 f _ h;simp at h
 | cons a r ih =>
   intro k k0 f hn hk
   rw [List.map_cons,List.nodup_cons] at hn
   cases k with
   | zero =>
     simp at hk
     subst hk
     simp [gi,fg,jh]
   | succ k =>
     simp at hk
     have hne:f.nm≠a.nm:=fun e=>hn.1 (by rw [← e];exact List.mem_map_of_mem (f:=Fl.nm) (List.mem_of_getElem? hk))
     have:=ih k (k0+1) f hn.2 hk
     have e1:fg (.str f.nm) (gi (a::r)) k0=fg (.str f.nm) (gi r) (k0+1):=by simp [gi,fg,jh,hne]
     rw [e1,this,show k0+1+k=k0+(k+1) by omega]
theorem zw:∀ (fs:List Fl) (k0:Nat) (n:List UInt8),(∀ f∈fs,f.nm≠n)->fg (.str n) (gi fs) k0=some none:=by
 intro fs
 induction fs with
 | nil=>intro k0 n _;rfl
 | cons a r ih =>
   intro k0 n h
   have hne:n≠a.nm:=fun e=>h a List.mem_cons_self e.symm
   have:=ih (k0+1) n fun f hf=>h f (List.mem_cons_of_mem _ hf)
   simpa [gi,fg,jh,hne] using this
theorem Dk.qN (h:Dk s i m room fs):ab (Z (.ptr i 0)) s.get=some (I .i64 room):=ai h.ri rfl
theorem Dk.lW (h:Dk s i m room fs):ab (Z (.ptr i 1)) s.get=some (Z (.map m)):=ai h.ri rfl
theorem Dk.look (h:Dk s i m room fs) {k:Nat} {f:Fl} (hk:fs[k]? = some f):Go.Abs.F.look .s false (.s (.bL)) (Z (.map m)) (Z (.str f.nm)) s.get=some (Z (.ptr f.fb 0)):=by
 simp [Go.Abs.F.look,isKey,gA,h.mp,zu fs k 0 f h.nm hk]
theorem Dk.R2 (h:Dk s i m room fs) {n:List UInt8} (hn:∀ f∈fs,f.nm≠n):Go.Abs.F.look .s false (.s (.bL)) (Z (.map m)) (Z (.str n)) s.get=some (Z .bL):=by
 simp [Go.Abs.F.look,isKey,gA,h.mp,zw fs 0 n hn]
def uN (n:List UInt8):Prop:=∀ (d:Nat) s,R (d+1) 90 [Z (.str n)] s=some (B true,s)
theorem iB (d:Nat) (h:Dk s i m room fs) {k:Nat} {f:Fl} (hk:fs[k]? = some f) (hm:uN f.nm):R (d+2) 36 [Z (.ptr i 0),Z (.str f.nm)] s=some (.eF [.s (.ptr f.fb 0),.s (.int .i64 0)],s):=by
 have l1:=h.lW
 have lk:=h.look hk
 rw [Dc]
 unfold f36
 have e':R (d+1) 90 [Z (.str f.nm)] s=some (B true,s):=hm d s
 generalize R (d+1)=r at e' ⊢
 simp [e',l1,lk,aQ,bK]
theorem gh (d:Nat) (h:Dk s i m room fs) {n:List UInt8} (hn:∀ f∈fs,f.nm≠n) (hm:uN n):R (d+2) 36 [Z (.ptr i 0),Z (.str n)] s=some (.eF [.s .bL,.s (.int .i64 9)],s):=by
 have l1:=h.lW
 have lk:=h.R2 hn
 rw [Dc]
 unfold f36
 have e':R (d+1) 90 [Z (.str n)] s=some (B true,s):=hm d s
 generalize R (d+1)=r at e' ⊢
 simp [e',l1,lk,aQ,bK]
theorem Cp (d:Nat) (s:St) {a:List T} {r:T×St} (h:fc 29 a s=some r):R (d+1) 29 a s=some r:=dU ((bG rfl).trans (ew h))
theorem x9:∀ (fs:List Fl),(fs.map (·.nm)).Nodup->(∀ f∈fs,f.nm.length<=1000)->ir (gi fs)=some (fs.map (·.nm)):=by
 intro fs
 induction fs with
 | nil=>intro _ _;rfl
 | cons a r ih =>
   intro hn hl
   rw [List.map_cons,List.nodup_cons] at hn
   have h1:=ih hn.2 fun f hf=>hl f (List.mem_cons_of_mem _ hf)
   have h2:Nat.ble a.nm.length 1000=true:=Nat.ble_eq_true_of_le (hl a List.mem_cons_self)
   have h3:(r.map (·.nm)).contains a.nm=false:=by simpa using hn.1
   show ir ((S.str a.nm,V.s (.ptr a.fb 0))::gi r)=_
   unfold ir
   simp only [h1,h2,h3]
   rfl
theorem kg (d:Nat) (h:Dk s i m room fs) (hl:∀ f∈fs,f.nm.length<=1000) (hf:fs.length<=1000) :
 (fs=[]/\R (d+1) 29 [Z (.ptr i 0)] s=some (Z .ay,s))\/(fs≠[]/\R (d+1) 29 [Z (.ptr i 0)] s=some (Z (.sl s.size 0 fs.length (.grown 1)),s.push (.cells false ((cC (fs.map (·.nm))).map S.str)))):=by
 have hk:=x9 fs h.nm hl
 have hb:Nat.ble (gi fs).length 1000=true:=Nat.ble_eq_true_of_le (by simpa [gi] using hf)
 have hp:∀ r,fc 29 [Z (.ptr i 0)] s=some r->R (d+1) 29 [Z (.ptr i 0)] s=some r:=fun r hr=>Cp d s hr
 cases fs with
 | nil =>
   refine .inl ⟨rfl,hp _ ?_⟩
   have h1:=h.ri
   have h2:=h.mp
   unfold fc
   simp only [h1,List.getElem?_cons_succ,List.getElem?_cons_zero,h2,hb,hk,List.map_nil,Nat.zero_add]
 | cons a r =>
   refine .inr ⟨by simp,hp _ ?_⟩
   have h1:=h.ri
   have h2:=h.mp
   unfold fc
   simp only [h1,List.getElem?_cons_succ,List.getElem?_cons_zero,h2,hb,hk,List.map_cons,Nat.zero_add]
   simp
end
theorem qd:∀ a b:List UInt8,qQ a b=true↔a<=b
 | [],b=>by simp [qQ]
 | x::r,[]=>by simp [qQ]
 | x::r,y::t=>by
   rw [List.cons_le_cons_iff,← qd r t]
   have hb:∀ a b:Nat,Nat.blt a b=decide (a<b):=fun a b=>by
    by_cases h:a<b
    · rw [decide_eq_true h];simpa using h
    · rw [decide_eq_false h,← Bool.not_eq_true];simpa using h
   have he:∀ a b:Nat,Nat.beq a b=decide (a=b):=fun a b=>by
    by_cases h:a=b
    · rw [decide_eq_true h];subst h;exact Nat.beq_refl a
    · rw [decide_eq_false h,← Bool.not_eq_true];exact fun e=>h (Nat.eq_of_beq_eq_true e)
   rw [qQ,hb,he]
   by_cases h:x.toNat<y.toNat
   · simp only [decide_eq_true h,true_iff]
     exact .inl (UInt8.lt_iff_toNat_lt.2 h)
   · have h2:¬ x<y:=fun e=>h (UInt8.lt_iff_toNat_lt.1 e)
     simp only [decide_eq_false h]
     by_cases e:x.toNat=y.toNat
     · have h4:x=y:=UInt8.toNat.inj e
       simp [h2,h4]
     · have h4:x≠y:=fun e'=>e (by rw [e'])
       simp [e,h2,h4]
theorem vb:∀ {es:List (S×V)} {ks:List (List UInt8)},ir es=some ks->es.map (·.1)=ks.map S.str/\ks.Nodup/\∀ n∈ks,n.length<=1000:=by
 intro es
 induction es with
 | nil=>intro ks h;cases h;exact ⟨rfl,.nil,fun n hn=>by cases hn⟩
 | cons p r ih =>
   intro ks h
   obtain ⟨k,v⟩:=p
   unfold ir at h
   split at h
   · rename_i heq;cases heq
   · rename_i n v' r' heq
     cases heq
     split at h
     · rename_i l hl
       split at h
       · rename_i hw
         cases h
         obtain ⟨h1,h2,h3⟩:=ih hl
         rw [Bool.and_eq_true] at hw
         have hn:n∉l:=by simpa using hw.2
         refine ⟨by simp [h1],List.nodup_cons.2 ⟨hn,h2⟩,fun m hm => ?_⟩
         rcases List.mem_cons.1 hm with rfl | hm
         · exact Nat.le_of_ble_eq_true hw.1
         · exact h3 m hm
       · cases h
     · cases h
   · cases h
theorem qj (n:List UInt8):∀ l:List (List UInt8),(Fh n l).Perm (n::l)
 | [] => .refl _
 | m::r=>by
   unfold Fh
   cases qQ n m with
   | true=>exact .refl _
   | false=>exact ((qj n r).cons m).trans (.swap n m r)
theorem qV (n:List UInt8):∀ l:List (List UInt8),l.Pairwise (· ≤ ·)->(Fh n l).Pairwise (· ≤ ·)
 | [],_=>List.pairwise_singleton _ _
 | m::r,h=>by
   unfold Fh
   cases hd:qQ n m with
   | true =>
     have ky:=(qd n m).1 hd
     refine List.pairwise_cons.2 ⟨fun x hx => ?_,h⟩
     rcases List.mem_cons.1 hx with rfl | hx
     · exact ky
     · exact List.le_trans ky ((List.pairwise_cons.1 h).1 x hx)
   | false =>
     have ky:m<=n:=by
      rcases List.le_total m n with h | h
      · exact h
      · rw [(qd n m).2 h] at hd;cases hd
     refine List.pairwise_cons.2 ⟨fun x hx => ?_,qV n r (List.pairwise_cons.1 h).2⟩
     rcases List.mem_cons.1 ((qj n r).mem_iff.1 hx) with rfl | hx
     · exact ky
     · exact (List.pairwise_cons.1 h).1 x hx
theorem bC:∀ l:List (List UInt8),(cC l).Perm l
 | [] => .refl _
 | n::r=>(qj n _).trans ((bC r).cons n)
theorem lZ:∀ l:List (List UInt8),(cC l).Pairwise (· ≤ ·)
 | [] => .nil
 | n::r=>qV n _ (lZ r)
theorem vc (l:List (List UInt8)):l.mergeSort (fun x y=>decide (x<=y))=cC l:=by
 have h1:(l.mergeSort (fun x y=>decide (x<=y))).Perm (cC l):=(List.mergeSort_perm _ _).trans (bC l).symm
 have h2:(l.mergeSort (fun x y=>decide (x<=y))).Pairwise (· ≤ ·):=by
  have:=List.pairwise_mergeSort (le:=fun x y:List UInt8=>decide (x<=y)) (by intro a b c;simp only [decide_eq_true_eq];exact List.le_trans) (by intro a b;simp only [Bool.or_eq_true,decide_eq_true_eq];exact List.le_total a b) l
  exact this.imp fun h=>by simpa using h
 exact h1.eq_of_pairwise (fun a b _ _ h h'=>List.le_antisymm h h') h2 (lZ l)
def tot (fs:List Fl):Nat:=(fs.map (·.l.length)).sum
def lenOf:List Fl->List UInt8->Nat
 | [],_=>0
 | f::r,n=>if f.nm=n then f.l.length else lenOf r n
theorem Ab:∀ (fs:List Fl) (k:Nat) (f:Fl),(fs.map (·.nm)).Nodup->fs[k]? = some f->lenOf fs f.nm=f.l.length:=by
 intro fs
 induction fs with
 | nil=>intro k f _ h;simp at h
 | cons a r ih =>
   intro k f hn hk
   rw [List.map_cons,List.nodup_cons] at hn
   cases k with
   | zero=>simp at hk;subst hk;simp [lenOf]
   | succ k =>
     simp at hk
     have hne:a.nm≠f.nm:=fun e=>hn.1 (by rw [e];exact List.mem_map_of_mem (f:=Fl.nm) (List.mem_of_getElem? hk))
     simp only [lenOf,if_neg hne]
     exact ih k f hn.2 hk
theorem Kn {l r:List Nat} (h:l.Perm r):l.sum=r.sum:=by
 induction h with
 | nil=>rfl
 | cons a _ ih=>simp [ih]
 | swap a b l=>simp;omega
 | trans _ _ ih1 ih2=>exact ih1.trans ih2
theorem CW {fs:List Fl} (hn:(fs.map (·.nm)).Nodup):((cC (fs.map (·.nm))).map (lenOf fs)).sum=tot fs:=by
 rw [Kn ((bC _).map (lenOf fs)),List.map_map]
 unfold tot
 congr 1
 apply List.map_congr_left
 intro f hf
 obtain ⟨k,hk⟩:=List.getElem?_of_mem hf
 exact Ab fs k f hn hk
section
variable {s t:St} {i m:Nat} {room:Int} {fs:List Fl}
theorem yE:∀ (fs:List Fl),(∀ f∈fs,f.l.length<=50000)->tot fs<=50000*fs.length:=by
 intro fs
 induction fs with
 | nil=>intro _;simp [tot]
 | cons a r ih =>
   intro h
   have h1:=ih fun f hf=>h f (List.mem_cons_of_mem _ hf)
   have h2:=h a List.mem_cons_self
   simp only [tot,List.map_cons,List.sum_cons,List.length_cons] at h1 ⊢
   omega
theorem Ot {ks:List (List UInt8)} {fs:List Fl} (j:Nat):((ks.take j).map (lenOf fs)).sum<=(ks.map (lenOf fs)).sum:=by
 have:ks.map (lenOf fs)=(ks.take j).map (lenOf fs)++(ks.drop j).map (lenOf fs):=by rw [← List.map_append,List.take_append_drop]
 rw [this,List.sum_append]
 omega
theorem jM (d:Nat) (h:Dk s i m room fs) (hl:∀ f∈fs,f.nm.length<=1000) (hf:fs.length<=500):∃ t,R (d+2) 30 [Z (.ptr i 0)] s=some (I .i64 (tot fs),t)/\Gr s t:=by
 rw [MC]
 unfold f30
 rcases kg d h hl (by omega) with ⟨rfl,e⟩ | ⟨hne,e⟩
 · refine ⟨s,?_,Gr.refl h.wf⟩
   generalize R (d+1)=r at e ⊢
   have lp:loops (ny r 8192) 8192 [Z (.ptr i 0),I .i64 0,Z .ay,I .i64 0,I .i64 0] s=some (.exit 0 [I .i64 0],s):=by
    rw [show (8192:Nat)=8191+1 from rfl,loops]
    have:ny r 8192 [Z (.ptr i 0),I .i64 0,Z .ay,I .i64 0,I .i64 0] s=some (.exit 0 [I .i64 0],s):=by
     unfold ny
     simp
    rw [this]
   simp [e,lp,tot]
 · obtain ⟨ks,hks⟩:∃ ks,ks=cC (fs.map (·.nm)):=⟨_,rfl⟩
   rw [← hks] at e
   obtain ⟨t,ht⟩:∃ t,t=s.push (.cells false (ks.map S.str)):=⟨_,rfl⟩
   rw [← ht] at e
   have g:Gr s t:=by rw [ht];exact Gr.push h.wf _
   have hg:=h.gr g
   have eZ:ks.length=fs.length:=by rw [hks,(bC _).length_eq,List.length_map]
   have hts:=CW h.nm
   rw [← hks] at hts
   have UM:=yE fs fun f hf=>by
    obtain ⟨k,hk⟩:=List.getElem?_of_mem hf
    exact (h.fl k f hk).2.2.2.1
   have hblk:t.get s.size=some (.cells false (ks.map S.str)):=by rw [ht];exact St.aq _ _
   refine ⟨t,?_,g⟩
   generalize R (d+1)=r at e ⊢
   obtain ⟨j,τ,hlp,hj,ph⟩:=aV (f:=ny r 8192) (fun k v u=>∃ j:Nat,k+j=fs.length/\v=[Z (.ptr i 0),I .i64 (((ks.take j).map (lenOf fs)).sum:Nat),Z (.sl s.size 0 fs.length (.grown 1)),I .i64 fs.length,I .i64 j]/\u=t) (fun j u=>j = .exit 0 [I .i64 (tot fs)]/\u=t) (by
    rintro k v u ⟨j,hk,rfl,rfl⟩
    by_cases hj:j<fs.length
    · left
      obtain ⟨nm,hnm⟩:∃ nm,ks[j]? = some nm:=⟨_,List.getElem?_eq_getElem (by omega)⟩
      have gG:nm∈fs.map (·.nm):=(bC _).mem_iff.1 (by rw [← hks];exact List.mem_of_getElem? hnm)
      obtain ⟨f,rH,rfl⟩:=List.mem_map.1 gG
      obtain ⟨q,hq⟩:=List.getElem?_of_mem rH
      have ix:av 1 (Z (.sl s.size 0 fs.length (.grown 1))) (I .i64 j)=some (Z (.ptr s.size j)):=by rw [db rfl hj];simp
      have ld:ab (Z (.ptr s.size j)) u.get=some (Z (.str f.nm)):=ai hblk (by rw [List.getElem?_map,hnm];rfl)
      have lk:=hg.look hq
      obtain ⟨a1,a2,_⟩:=hg.fl q f hq
      have lf:ab (Z (.ptr f.fb 0)) u.get=some (Z f.x):=ai a1 rfl
      have ll:=a2.rd.lens
      have aae:=Ot (ks:=ks) (fs:=fs) (j+1)
      have hsum:((ks.take (j+1)).map (lenOf fs)).sum=((ks.take j).map (lenOf fs)).sum+f.l.length:=by
       rw [List.take_add_one,hnm,List.map_append,List.sum_append]
       simp [Ab fs q f h.nm hq]
      have w1:IntKind.i64.wrap ((((ks.take j).map (lenOf fs)).sum:Nat)+f.l.length:Int)=(((ks.take (j+1)).map (lenOf fs)).sum:Nat):=by
       rw [aE _ (by omega) (by omega),hsum]
       omega
      have w2:IntKind.i64.wrap ((j:Int)+1)=(j:Int)+1:=aE _ (by omega) (by omega)
      have hlt:(j:Int)<(fs.length:Int):=by omega
      have l1:=hg.lW
      refine ⟨[Z (.ptr i 0),I .i64 (((ks.take (j+1)).map (lenOf fs)).sum:Nat),Z (.sl s.size 0 fs.length (.grown 1)),I .i64 fs.length,I .i64 ((j:Int)+1)],u,k-1,?_,by omega,j+1,by omega,by simp,rfl⟩
      generalize ((ks.take j).map (lenOf fs)).sum=A at w1 ⊢
      generalize ((ks.take (j+1)).map (lenOf fs)).sum=A' at w1 ⊢
      unfold ny
      simp [hlt,ix,ld,l1,lk,lf,ll,w1,w2]
    · right
      have hlt:¬ (j:Int)<(fs.length:Int):=by omega
      have hj':j=fs.length:=by omega
      have lh:ks.take j=ks:=List.take_of_length_le (by omega)
      refine ⟨_,u,?_,(fun v hv=>by cases hv),rfl,rfl⟩
      rw [lh,hts]
      unfold ny
      simp [hlt]) 8192 fs.length [Z (.ptr i 0),I .i64 0,Z (.sl s.size 0 fs.length (.grown 1)),I .i64 fs.length,I .i64 0] t ⟨0,by omega,by simp,rfl⟩ (by omega)
   subst hj;subst ph
   simp [e,hlp]
def nN (fs:List Fl):Prop:=(∀ f∈fs,f.nm.length<=1000)/\fs.length<=100
theorem zq (d:Nat) (h:Dk s i m room fs) (hn:nN fs) {k:Nat} {f:Fl} (hk:fs[k]? = some f) (hm:uN f.nm) {y:S} {xs:List S} (hy:yI s y xs) (ND:∀ c,own y=some c->c<s.size)
 (hroom:(tot fs:Int)+xs.length<=room) (hlen:xs.length<=40000) (hfl:f.l.length+xs.length<=50000) :
 ∃ x' t,R (d+3) 12 [Z (.ptr i 0),Z (.str f.nm),Z y] s=some (I .i64 0,t)/\Dk t i m room (fs.set k { f with x:=x',l:=f.l++xs,sure:=f.sure })/\s.size<=t.size ∧
   (∀ b,b<s.size->b≠f.fb->own f.x≠some b->t.get b=s.get b)/\(own x'=none\/own x'=own f.x\/∃ c,own x'=some c/\s.size<=c):=by
 rw [xJ]
 unfold f12
 have e1:=iB d h hk hm
 obtain ⟨s1,e2,g⟩:=jM d h hn.1 (by have:=hn.2;omega)
 have h1:=h.gr g
 obtain ⟨a1,a2,a3,a4,a5,a6,a7⟩:=h1.fl k f hk
 have hy1:yI s1 y xs:=hy.keep fun c hc=>g.2.2 c (ND c hc)
 obtain ⟨x',t,ap,q1,q2,q3,q4,q5⟩:=vy a2 h1.wf hy1 (by omega)
 have l0:=h.qN
 have Pv:=h1.qN
 have lf:ab (Z (.ptr f.fb 0)) s1.get=some (Z f.x):=ai a1 rfl
 have UM:=yE fs fun f hf=>by
  obtain ⟨k,hk⟩:=List.getElem?_of_mem hf
  exact (h.fl k f hk).2.2.2.1
 have SZ:=hn.2
 have w1:IntKind.i64.wrap ((tot fs:Int)+xs.length)=(tot fs:Int)+xs.length:=aE _ (by omega) (by omega)
 have hr:¬ room<(tot fs:Int)+xs.length:=by omega
 have eo:=hy.lens
 have hft:t.get f.fb=some (.cells true [f.x,.int .i64 f.sure]):=by
  rw [q4 f.fb (h1.wf.lt a1) (fun e=>((h1.ap k k f f hk hk).2 _ e).1 rfl)]
  exact a1
 have st:aw 1 (Z (.ptr f.fb 0)) (Z x') t=some (tt,t.set f.fb (.cells true [x',.int .i64 f.sure])):=aW hft (by simp)
 have hs1:=g.2.1
 refine ⟨x',t.set f.fb (.cells true [x',.int .i64 f.sure]),?_,?_,by simp;omega,fun b hb uU iE => ?_,?_⟩
 · generalize R (d+2)=r at e1 e2 ⊢
   simp [e1,ah,e2,eo,l0,Pv,w1,hr,lf,ap,st,wq]
 · refine h1.rO hk (St.wf_set q1 (by have:=h1.wf.lt a1;omega) _) (by simpa using q2) (fun b hb uU iE => ?_) (St.ar _ _ _) (q3.keep fun c hc => ?_) (by simp;omega) (by simp;omega) q5
   · rw [St.aj _ _ uU]
     exact q4 b hb iE
   · refine St.aj _ _ fun e => ?_
     have hlt:=h1.wf.lt a1
     rcases q5 with e' | e' | ⟨c',e',gO⟩
     · rw [e'] at hc;cases hc
     · rw [e'] at hc
       exact ((h1.ap k k f f hk hk).2 c hc).1 e
     · rw [e'] at hc
       cases hc
       omega
 · rw [St.aj _ _ uU,q4 b (by omega) iE]
   exact g.2.2 b hb
 · rcases q5 with e | e | ⟨c,e,hc⟩
   · exact .inl e
   · exact .inr (.inl e)
   · exact .inr (.inr ⟨c,e,by omega⟩)
theorem zy (fs:List Fl) (f:Fl):gi (fs++[f])=gi fs++[(S.str f.nm,V.s (.ptr f.fb 0))]:=by simp [gi]
theorem Dk.more (h:Dk s i m room fs) {f:Fl} (hno:∀ g∈fs,g.nm≠f.nm) (wf:t.wf) (hsz:s.size<=t.size) (hF:∀ b,b<s.size->b≠m->t.get b=s.get b) (hm:t.get m=some (.map (gi (fs++[f]))))
 (O9:t.get f.fb=some (.cells true [f.x,.int .i64 f.sure])) (hb:s.size<=f.fb) (KM:BS t f.x f.l) (IF:f.sure<=f.l.length) (hl:f.l.length<=50000) (hx:∀ c,own f.x=some c->s.size<=c/\c≠f.fb) :
 Dk t i m room (fs++[f]):=by
 have hi:=h.wf.lt h.ri
 have Iz:=h.wf.lt h.mp
 have hmi:m≠i:=fun e=>by
  have h1:=h.mp
  rw [e,h.ri] at h1
  cases h1
 have ct:∀ j g,(fs++[f])[j]? = some g->(j<fs.length/\fs[j]? = some g)\/(j=fs.length/\g=f):=fun j g hg=>by
  by_cases hj:j<fs.length
  · rw [List.getElem?_append_left hj] at hg
    exact .inl ⟨hj,hg⟩
  · rw [List.getElem?_append_right (by omega)] at hg
    have:j-fs.length=0:=by
     have:=(List.getElem?_eq_some_iff.1 hg).1
     simp at this
     omega
    rw [this] at hg
    simp at hg
    exact .inr ⟨by omega,hg.symm⟩
 refine ⟨wf,by rw [hF i hi (Ne.symm hmi)];exact h.ri,hm,fun j g hg => ?_,fun j j' g g' hg vI => ?_,?_⟩
 · rcases ct j g hg with ⟨hj,ho⟩ | ⟨rfl,rfl⟩
   · obtain ⟨b1,b2,b3,b4,b5,b6,b7⟩:=h.fl j g ho
     exact ⟨by rw [hF _ (h.wf.lt b1) b6];exact b1,b2.keep fun c hc=>hF c (b2.lt h.wf hc) (b7 c hc).2,b3,b4,b5,b6,b7⟩
   · exact ⟨O9,KM,IF,hl,by omega,by omega,fun c hc=>by have:=(hx c hc).1;exact ⟨by omega,by omega⟩⟩
 · rcases ct j g hg with ⟨hj,ho⟩ | ⟨rfl,rfl⟩
   · obtain ⟨b1,b2,_⟩:=h.fl j g ho
     rcases ct j' g' vI with ⟨hj',si⟩ | ⟨rfl,rfl⟩
     · exact h.ap j j' g g' ho si
     · have:=h.wf.lt b1
       exact ⟨fun _=>by omega,fun c hc=>by
        have:=b2.lt h.wf hc
        exact ⟨by omega,fun _ e=>by have:=(hx c e).1;omega⟩⟩
   · rcases ct j' g' vI with ⟨hj',si⟩ | ⟨rfl,rfl⟩
     · obtain ⟨b1,b2,_⟩:=h.fl j' g' si
       have:=h.wf.lt b1
       exact ⟨fun _=>by omega,fun c hc=>by
        have:=(hx c hc).1
        exact ⟨by omega,fun _ e=>by have:=b2.lt h.wf e;omega⟩⟩
     · exact ⟨fun e=>absurd rfl e,fun c hc=>⟨(hx c hc).2,fun e=>absurd rfl e⟩⟩
 · rw [List.map_append,List.nodup_append]
   refine ⟨h.nm,by simp,fun a ha b hb' => ?_⟩
   obtain ⟨g,hg,rfl⟩:=List.mem_map.1 ha
   simp at hb'
   subst hb'
   exact hno g hg
theorem qE (d:Nat) (h:Dk s i m room fs) (hn:nN fs) {nm:List UInt8} (hno:∀ g∈fs,g.nm≠nm) (hm:uN nm) {y:S} {xs:List S} (hy:yI s y xs) (ND:∀ c,own y=some c->c<s.size)
 (hym:own y≠some m) (hroom:(tot fs:Int)+xs.length<=room) (hlen:xs.length<=40000) :
 ∃ x' fb t,R (d+3) 12 [Z (.ptr i 0),Z (.str nm),Z y] s=some (I .i64 0,t)/\Dk t i m room (fs++[⟨nm,fb,x',xs,0⟩])/\s.size<=t.size/\(∀ b,b<s.size->b≠m->t.get b=s.get b)/\s.size<=fb/\(∀ c,own x'=some c->s.size<=c):=by
 rw [xJ]
 unfold f12
 have e1:=gh d h hno hm
 obtain ⟨s1,e2,g⟩:=jM d h hn.1 (by have:=hn.2;omega)
 have h1:=h.gr g
 have SZ:=hn.2
 have l0:=h.qN
 have Pv:=h1.qN
 have l1:=h.lW
 have eo:=hy.lens
 have UM:=yE fs fun f hf=>by
  obtain ⟨k,hk⟩:=List.getElem?_of_mem hf
  exact (h.fl k f hk).2.2.2.1
 have w1:IntKind.i64.wrap ((tot fs:Int)+xs.length)=(tot fs:Int)+xs.length:=aE _ (by omega) (by omega)
 have hr:¬ room<(tot fs:Int)+xs.length:=by omega
 have Yh:gz (Z (.map m)) s.get=some (I .i64 fs.length):=by simp [gz,h.mp,gi]
 have hfl:¬ (fs.length:Int)=200:=by omega
 obtain ⟨s2,lS⟩:∃ s2,s2=s1.push (.cells true [.ay,.int .i64 0]):=⟨_,rfl⟩
 have g2:Gr s1 s2:=by rw [lS];exact Gr.push h1.wf _
 have X6:s2.get s1.size=some (.cells true [.ay,.int .i64 0]):=by rw [lS];exact St.aq _ _
 have h2:=h1.gr g2
 have l2:=h2.lW
 have nw:aL s1 (cf (.v (.agg [.ay,.int .i64 0])))=some (Z (.ptr s1.size 0),s2):=by simp [aL,cf,V.cells,lS]
 obtain ⟨s3,kZ⟩:∃ s3,s3=s2.set m (.map (gi fs++[(S.str nm,V.s (.ptr s1.size 0))])):=⟨_,rfl⟩
 have ms:Fc .s (Z (.map m)) (Z (.str nm)) (Z (.ptr s1.size 0)) s2=some (tt,s3):=by
  simp [Fc,isKey,ib,h2.mp,zw fs 0 nm hno,kZ]
 have Iz:=h2.wf.lt h2.mp
 have f3:s3.wf:=by rw [kZ];exact St.wf_set h2.wf Iz _
 have z3:s3.size=s2.size:=by rw [kZ];rfl
 have k3:∀ b,b≠m->s3.get b=s2.get b:=fun b hb=>by rw [kZ,St.aj _ _ hb]
 have Ns:=h.wf.lt h.mp
 have hs1:=g.2.1
 have tN:s2.size=s1.size+1:=by rw [lS];rfl
 have Ud:s3.get s1.size=some (.cells true [.ay,.int .i64 0]):=by rw [k3 _ (by omega)];exact X6
 have lf:ab (Z (.ptr s1.size 0)) s3.get=some (Z .ay):=ai Ud rfl
 have WC:yI s3 y xs:=hy.keep fun c hc=>by
  have:=ND c hc
  rw [k3 c (fun e=>hym (by rw [← e];exact hc)),g2.2.2 c (by omega),g.2.2 c this]
 obtain ⟨x',t,ap,q1,q2,q3,q4,q5⟩:=vy (l:=[]) (.inl ⟨rfl,rfl⟩:BS s3 .ay []) f3 WC (by simp;omega)
 have hft:t.get s1.size=some (.cells true [.ay,.int .i64 0]):=by rw [q4 s1.size (by omega) (by simp [own])];exact Ud
 have st:aw 1 (Z (.ptr s1.size 0)) (Z x') t=some (tt,t.set s1.size (.cells true [x',.int .i64 0])):=aW hft (by simp)
 have hown:∀ c,own x'=some c->s3.size<=c:=fun c hc=>by
  rcases q5 with e | e | ⟨c',e,gO⟩
  · rw [e] at hc;cases hc
  · rw [e] at hc;cases hc
  · rw [e] at hc;cases hc;exact gO
 refine ⟨x',s1.size,t.set s1.size (.cells true [x',.int .i64 0]),?_,?_,by simp;omega,fun b hb uU => ?_,hs1,fun c hc=>by have:=hown c hc;omega⟩
 · generalize R (d+2)=r at e1 e2 ⊢
   have ag:aU (aG [.ay,.int .i64 0] [])=some (.v (.agg [.ay,.int .i64 0])):=rfl
   simp [e1,ah,e2,eo,l0,Pv,l1,Yh,hfl,w1,hr,ag,nw,l2,ms,lf,ap,st,wq]
 · have ht:∀ b,b<s.size->b≠m->(t.set s1.size (.cells true [x',.int .i64 0])).get b=s.get b:=fun b hb uU=>by
    rw [St.aj _ _ (by omega),q4 b (by omega) (by simp [own]),k3 b uU,g2.2.2 b (by omega),g.2.2 b hb]
   refine h.more (f:=⟨nm,s1.size,x',xs,0⟩) hno (St.wf_set q1 (by omega) _) (by simp;omega) ht ?_ (St.ar _ _ _) hs1 (q3.keep fun c hc=>St.aj _ _ (by have:=hown c hc;omega)) (by simp) (by simp;omega) fun c hc=>by have:=hown c hc;exact ⟨by omega,by show c≠s1.size;omega⟩
   rw [St.aj _ _ (by omega),q4 m (by omega) (by simp [own]),zy,kZ,St.ar]
 · rw [St.aj _ _ (by omega),q4 b (by omega) (by simp [own]),k3 b uU,g2.2.2 b (by omega),g.2.2 b hb]
theorem xB (d:Nat) (h:Dk s i m room fs) (hn:nN fs) {nm:List UInt8} (hm:uN nm) {y:S} {xs:List S} (hy:yI s y xs) (ND:∀ c,own y=some c->c<s.size) (hlen:xs.length<=40000) (hroom:room<(tot fs:Int)+xs.length)
 (hk:(∃ (k:Nat) (f:Fl),fs[k]? = some f/\f.nm=nm)\/∀ g∈fs,g.nm≠nm):∃ t,R (d+3) 12 [Z (.ptr i 0),Z (.str nm),Z y] s=some (I .i64 8,t)/\Gr s t:=by
 rw [xJ]
 unfold f12
 obtain ⟨s1,e2,g⟩:=jM d h hn.1 (by have:=hn.2;omega)
 have h1:=h.gr g
 have SZ:=hn.2
 have Pv:=h1.qN
 have l0:=h.qN
 have l1:=h.lW
 have eo:=hy.lens
 have UM:=yE fs fun f hf=>by
  obtain ⟨k,hk⟩:=List.getElem?_of_mem hf
  exact (h.fl k f hk).2.2.2.1
 have w1:IntKind.i64.wrap ((tot fs:Int)+xs.length)=(tot fs:Int)+xs.length:=aE _ (by omega) (by omega)
 have Yh:gz (Z (.map m)) s.get=some (I .i64 fs.length):=by simp [gz,h.mp,gi]
 have hfl:¬ (fs.length:Int)=200:=by omega
 refine ⟨s1,?_,g⟩
 rcases hk with ⟨k,f,hk,rfl⟩ | hno
 · have e1:=iB d h hk hm
   generalize R (d+2)=r at e1 e2 ⊢
   simp [e1,ah,e2,eo,Pv,l0,w1,hroom,wq]
 · have e1:=gh d h hno hm
   generalize R (d+2)=r at e1 e2 ⊢
   simp [e1,ah,e2,eo,Pv,l0,l1,Yh,hfl,w1,hroom,wq]
theorem vB (d:Nat) (h:Dk s i m room fs) {k:Nat} {f:Fl} (hk:fs[k]? = some f) (hm:uN f.nm) :
 ∃ t,R (d+3) 47 [Z (.ptr i 0),Z (.str f.nm)] s=some (I .i64 0,t)/\Dk t i m room (fs.set k { f with x:=f.x,l:=f.l,sure:=f.l.length })/\s.size<=t.size/\∀ b,b≠f.fb->t.get b=s.get b:=by
 rw [Df]
 unfold f47
 have e1:=iB d h hk hm
 obtain ⟨a1,a2,a3,a4,a5,a6,a7⟩:=h.fl k f hk
 have lf:ab (Z (.ptr f.fb 0)) s.get=some (Z f.x):=ai a1 rfl
 have ll:=a2.rd.lens
 have st:aw 1 (Z (.ptr f.fb 1)) (I .i64 f.l.length) s=some (tt,s.set f.fb (.cells true [f.x,.int .i64 f.l.length])):=aW a1 (by simp)
 have hfl:=h.wf.lt a1
 refine ⟨s.set f.fb (.cells true [f.x,.int .i64 f.l.length]),?_,?_,by simp,fun b hb=>St.aj _ _ hb⟩
 · generalize R (d+2)=r at e1 ⊢
   simp [e1,ah,lf,ll,st]
 · refine h.rO hk (St.wf_set h.wf hfl _) (by simp) (fun b _ hb _=>St.aj _ _ hb) (St.ar _ _ _) (a2.keep fun c hc=>St.aj _ _ ((h.ap k k f f hk hk).2 c hc).1) (Nat.le_refl _) a4 (.inr (.inl rfl))
theorem GY (d:Nat) (h:Dk s i m room fs) {k:Nat} {f:Fl} (hk:fs[k]? = some f) (hm:uN f.nm) {n:Nat} (hn:n<=f.l.length) :
 ∃ x' t,R (d+3) 45 [Z (.ptr i 0),Z (.str f.nm),I .i64 n] s=some (I .i64 0,t)/\Dk t i m room (fs.set k { f with x:=x',l:=f.l.take n,sure:=min f.sure n })/\s.size<=t.size/\(∀ b,b≠f.fb->t.get b=s.get b)/\(own x'=none\/own x'=own f.x):=by
 rw [De]
 unfold f45
 have e1:=iB d h hk hm
 obtain ⟨a1,a2,a3,a4,a5,a6,a7⟩:=h.fl k f hk
 obtain ⟨x',pc,b1,b2⟩:=GU a2 hn
 have lf:ab (Z (.ptr f.fb 0)) s.get=some (Z f.x):=ai a1 rfl
 have WS:ab (Z (.ptr f.fb 1)) s.get=some (I .i64 f.sure):=ai a1 rfl
 have ll:=a2.rd.lens
 have hfl:=h.wf.lt a1
 have c0:¬ (n:Int)<0:=by omega
 have c1:¬ (f.l.length:Int)<(n:Int):=by omega
 have st:aw 1 (Z (.ptr f.fb 0)) (Z x') s=some (tt,s.set f.fb (.cells true [x',.int .i64 f.sure])):=aW a1 (by simp)
 have yU:aw 1 (Z (.ptr f.fb 1)) (I .i64 (min (f.sure:Int) n)) (s.set f.fb (.cells true [x',.int .i64 f.sure]))=some (tt,(s.set f.fb (.cells true [x',.int .i64 f.sure])).set f.fb (.cells true [x',.int .i64 (min (f.sure:Int) n)])):=aW (St.ar _ _ _) (by simp)
 have hF:∀ b,b≠f.fb->((s.set f.fb (.cells true [x',.int .i64 f.sure])).set f.fb (.cells true [x',.int .i64 (min (f.sure:Int) n)])).get b=s.get b:=fun b hb=>by rw [St.aj _ _ hb,St.aj _ _ hb]
 have pX:(min (f.sure:Int) n)=((min f.sure n:Nat):Int):=by omega
 refine ⟨x',_,?_,?_,by simp,hF,b2⟩
 · generalize R (d+2)=r at e1 ⊢
   simp [e1,ah,lf,WS,ll,c0,c1,pc,st,yU]
 · refine h.rO hk (St.wf_set (St.wf_set h.wf hfl _) hfl _) (by simp) (fun b _ hb _=>hF b hb) (by rw [St.ar,pX]) (b1.keep fun c hc=>hF c ?_) (by rw [List.length_take];omega) (by rw [List.length_take];omega) (by rcases b2 with e | e;exact .inl e;exact .inr (.inl e))
   rcases b2 with e | e
   · rw [e] at hc;cases hc
   · rw [e] at hc
     exact ((h.ap k k f f hk hk).2 c hc).1
end
section
variable {s t:St} {i m:Nat} {room:Int} {fs:List Fl}
theorem G0 (d:Nat) (wf:s.wf) (h0:0<=room) (h1:room<=1048576):∃ t,R (d+1) 10 [I .i64 room] s=some (Z (.ptr (s.size+1) 0),t)/\Dk t (s.size+1) s.size room []/\Gr s t:=by
 have c0:¬ room<0:=by omega
 have c1:¬ 1048576<room:=by omega
 obtain ⟨t,ht⟩:∃ t,t=(s.push (.map [])).push (.cells true [.int .i64 room,.map s.size]):=⟨_,rfl⟩
 have f:t.wf:=by rw [ht];exact St.bu (St.bu wf _) _
 refine ⟨t,?_,⟨f,?_,?_,fun k f hf=>by simp at hf,fun k k' f f' hf=>by simp at hf,List.nodup_nil⟩,f,by rw [ht];simp;omega,fun b hb=>by rw [ht,St.aD _ _ (by rw [St.size_push];omega),St.aD _ _ (by omega)]⟩
 · rw [Lp]
   unfold f10
   simp [c0,c1,aL,N7,cf,aG,V.cells,aO,aU,ht]
 · have:=St.aq (s.push (.map [])) (.cells true [.int .i64 room,.map s.size])
   rwa [St.size_push,← ht] at this
 · rw [ht,St.aD _ _ (by rw [St.size_push];omega),St.aq]
   rfl
theorem BG (d:Nat) (wf:s.wf) {x:S} {l:List S} (hb:BS s x l) (hl:l.length<=50000):∃ y t,R (d+1) 92 [Z x] s=some (Z y,t)/\Gr s t/\yI t y l/\∀ c,own y=some c->s.size<=c/\c<t.size:=by
 rw [M6]
 unfold f92
 have go:fT .l (Z x) (Z .ay)=some (B false)->∃ y t,(bd (fT .l (Z x) (Z .ay)) fun t4=>br t4 (some ((Z .ay),s)) (ax (aL s (aS 0 (aG [] []))) fun t5 s1=>ax (aJ 1 1 t5 (Z x) s1) fun t7 s2=>some (t7,s2)))=some (Z y,t)/\Gr s t/\yI t y l/\∀ c,own y=some c->s.size<=c/\c<t.size:=by
  intro e
  have L:=Fr.lit 1 wf (n:=0) (vs:=[]) rfl
  have nw:aL s (aS 0 (aG [] []))=some (Z (.sl s.size 0 0 (.known 0)),s.push (.cells true [])):=by simp [aL,aS,aG]
  obtain ⟨y,t,ap,F,_,_⟩:=L.append (by_:=1) (by omega) ((hb.keep (t:=s.push (.cells true [])) fun c hc=>L.gr.2.2 c (hb.lt wf hc)).rd.src) (by simp) (by omega)
  refine ⟨y,t,?_,F.gr,by simpa using F.rd,F.new⟩
  simp [e,nw,ap]
 rcases hb with ⟨rfl,rfl⟩ | ⟨c,rows,rfl,rfl,h1⟩ | ⟨c,rows,rfl,h1,h2,h3⟩
 · have e:fT .l (Z .ay) (Z .ay)=some (B true):=rfl
   exact ⟨.ay,s,by simp [e],Gr.refl wf,Rd.nil 1 s,fun c hc=>by cases hc⟩
 · exact go rfl
 · exact go rfl
theorem vA (d:Nat) (h:Dk s i m room fs) {k:Nat} {f:Fl} (hk:fs[k]? = some f) (hm:uN f.nm) :
 ∃ y t,R (d+3) 42 [Z (.ptr i 0),Z (.str f.nm)] s=some (.eF [.s y,.s (.int .i64 0)],t)/\Gr s t/\yI t y f.l/\∀ c,own y=some c->s.size<=c/\c<t.size:=by
 rw [Dd]
 unfold f42
 have e1:=iB d h hk hm
 obtain ⟨a1,a2,a3,a4,_⟩:=h.fl k f hk
 have lf:ab (Z (.ptr f.fb 0)) s.get=some (Z f.x):=ai a1 rfl
 obtain ⟨y,t,e2,g,hr,ho⟩:=BG (d+1) h.wf a2 a4
 refine ⟨y,t,?_,g,hr,ho⟩
 have KJ:R (d+2) 92 [Z f.x] s=some (Z y,t):=e2
 generalize R (d+2)=r at e1 KJ ⊢
 simp [e1,ah,lf,KJ,aQ,bK]
theorem BP (d:Nat) (h:Dk s i m room fs) {nm:List UInt8} (hno:∀ g∈fs,g.nm≠nm) (hm:uN nm):R (d+3) 42 [Z (.ptr i 0),Z (.str nm)] s=some (.eF [.s .ay,.s (.int .i64 9)],s):=by
 rw [Dd]
 unfold f42
 have e1:=gh d h hno hm
 generalize R (d+2)=r at e1 ⊢
 simp [e1,ah,aQ,bK]
end
section
variable {s t:St} {i m:Nat} {room:Int} {fs fs':List Fl}
theorem Dk.rem (h:Dk s i m room fs) {k:Nat} {f:Fl} (hk:fs[k]? = some f) (wf:t.wf) (hsz:s.size<=t.size) (hF:∀ b,b<s.size->b≠m->t.get b=s.get b) (hm:t.get m=some (.map (gi (fs.eraseIdx k)))):Dk t i m room (fs.eraseIdx k):=by
 have hi:=h.wf.lt h.ri
 have Nt:=h.wf.lt h.mp
 have him:i≠m:=fun e=>by
  have h1:=h.ri
  have h2:=h.mp
  rw [e,h2] at h1;cases h1
 have back:∀ (j:Nat) (g:Fl),(fs.eraseIdx k)[j]? = some g->∃ j',fs[j']? = some g/\j'=(if j<k then j else j+1):=fun j g hg=>by
  rw [List.getElem?_eraseIdx] at hg
  by_cases hj:j<k
  · rw [if_pos hj] at hg;exact ⟨j,hg,by rw [if_pos hj]⟩
  · rw [if_neg hj] at hg;exact ⟨j+1,hg,by rw [if_neg hj]⟩
 refine ⟨wf,by rw [hF i hi him];exact h.ri,hm,fun j g hg => ?_,fun j j' g g' hg vI => ?_,?_⟩
 · obtain ⟨q,hq,_⟩:=back j g hg
   obtain ⟨a1,a2,a3,a4,a5,a6,a7⟩:=h.fl q g hq
   exact ⟨by rw [hF _ (h.wf.lt a1) a6];exact a1,a2.keep fun c hc=>hF c (a2.lt h.wf hc) (a7 c hc).2,a3,a4,a5,a6,a7⟩
 · obtain ⟨q,hq,eq⟩:=back j g hg
   obtain ⟨q',qK,eq'⟩:=back j' g' vI
   obtain ⟨b1,b2⟩:=h.ap q q' g g' hq qK
   have hne:j≠j'->q≠q':=fun hne=>by
    rw [eq,eq']
    split<;>split<;>omega
   exact ⟨fun e=>b1 (hne e),fun c hc=>⟨(b2 c hc).1,fun e=>(b2 c hc).2 (hne e)⟩⟩
 · have:(fs.eraseIdx k).map (·.nm)=(fs.map (·.nm)).eraseIdx k:=by
    apply List.ext_getElem?
    intro j
    rw [List.getElem?_map,List.getElem?_eraseIdx,List.getElem?_eraseIdx]
    split<;>rw [List.getElem?_map]
   rw [this]
   exact h.nm.sublist (List.eraseIdx_sublist _ _)
theorem BT (fs:List Fl) (k:Nat):(gi fs).eraseIdx k=gi (fs.eraseIdx k):=by
 unfold gi
 apply List.ext_getElem?
 intro j
 rw [List.getElem?_map,List.getElem?_eraseIdx,List.getElem?_eraseIdx]
 split<;>rw [List.getElem?_map]
theorem zx (d:Nat) (h:Dk s i m room fs) {k:Nat} {f:Fl} (hk:fs[k]? = some f) (hm:uN f.nm) :
 ∃ t,R (d+3) 54 [Z (.ptr i 0),Z (.str f.nm)] s=some (I .i64 0,t)/\Dk t i m room (fs.eraseIdx k)/\t.size=s.size/\∀ b,b≠m->t.get b=s.get b:=by
 rw [Dg]
 unfold f54
 have e1:=iB d h hk hm
 have l1:=h.lW
 obtain ⟨t,ht⟩:∃ t,t=s.set m (.map (gi (fs.eraseIdx k))):=⟨_,rfl⟩
 have de:R4 .s (Z (.map m)) (Z (.str f.nm)) s=some (tt,t):=by
  have h1:=zu fs k 0 f h.nm hk
  rw [Nat.zero_add] at h1
  rw [ht]
  simp [R4,isKey,j7,h.mp,h1,BT]
 have Nt:=h.wf.lt h.mp
 refine ⟨t,?_,h.rem hk (by rw [ht];exact St.wf_set h.wf Nt _) (by rw [ht];simp) (fun b _ hb=>by rw [ht];exact St.aj _ _ hb) (by rw [ht];exact St.ar _ _ _),by rw [ht];simp,fun b hb=>by rw [ht];exact St.aj _ _ hb⟩
 generalize R (d+2)=r at *
 simp [e1,ah,l1,de]
theorem nW (d:Nat) (h:Dk s i m room fs) {nm:List UInt8} (hno:∀ g∈fs,g.nm≠nm) (hm:uN nm):R (d+3) 54 [Z (.ptr i 0),Z (.str nm)] s=some (I .i64 9,s):=by
 rw [Dg]
 unfold f54
 have e1:=gh d h hno hm
 generalize R (d+2)=r at e1 ⊢
 simp [e1,ah]
def kS (kl:List Int) (j:Nat) (f:Fl):Nat:=(min (max (kl.getD j 0) 0) ((f.l.length:Int)-f.sure)).toNat
def u9 (fs:List Fl) (n:List UInt8):Nat:=(cC (fs.map (·.nm))).idxOf n
def eB (kl:List Int) (fs:List Fl) (f:Fl):Nat:=f.sure+kS kl (u9 fs f.nm) f
structure C3 (kl:List Int) (fs fs':List Fl):Prop where
 len:fs'.length=fs.length
 at_:∀ (k:Nat) (f:Fl),fs[k]? = some f->∃ x',fs'[k]? = some { f with x:=x',l:=f.l.take (eB kl fs f),sure:=eB kl fs f }/\(own x'=none\/own x'=own f.x)
theorem zX (kl:List Int) (j:Nat) {f:Fl} (h:f.sure<=f.l.length):f.sure+kS kl j f<=f.l.length:=by
 unfold kS
 omega
structure Mid (kl:List Int) (fs:List Fl) (j:Nat) (cur:List Fl):Prop where
 len:cur.length=fs.length
 at_:∀ (k:Nat) (f:Fl),fs[k]? = some f->if u9 fs f.nm<j then ∃ x',cur[k]? = some { f with x:=x',l:=f.l.take (eB kl fs f),sure:=eB kl fs f }/\(own x'=none\/own x'=own f.x) else cur[k]? = some f
theorem Oc (h:(fs.map (·.nm)).Nodup) {j:Nat} {n:List UInt8} (hj:(cC (fs.map (·.nm)))[j]? = some n):u9 fs n=j:=by
 have hnd:(cC (fs.map (·.nm))).Nodup:=(bC _).nodup_iff.2 h
 obtain ⟨hl,he⟩:=List.getElem?_eq_some_iff.1 hj
 unfold u9
 rw [← he]
 exact hnd.idxOf_getElem j hl
theorem Od {f:Fl} (hf:f∈fs):u9 fs f.nm<fs.length:=by
 unfold u9
 have h1:f.nm∈cC (fs.map (·.nm)):=(bC _).mem_iff.2 (List.mem_map_of_mem hf)
 have h2:=List.idxOf_lt_length_of_mem h1
 rw [(bC _).length_eq,List.length_map] at h2
 exact h2
set_option maxHeartbeats 2000000 in
theorem BN (d:Nat) (h:Dk s i m room fs) (hnm:∀ f∈fs,f.nm.length<=1000) (hfl:fs.length<=1000) {y:S} {kl:List Int} (hy:Rd 1 s y kl.length (kl.map (S.int .i64))) (Dz:∀ c,own y=some c->c<s.size/\∀ f∈fs,c≠f.fb) :
 ∃ fs' t,R (d+2) 25 [Z (.ptr i 0),Z y] s=some (.eF [],t)/\Dk t i m room fs'/\C3 kl fs fs'/\s.size<=t.size/\∀ b,b<s.size->(∀ f∈fs,b≠f.fb)->t.get b=s.get b:=by
 rw [My]
 unfold f25
 rcases kg d h hnm hfl with ⟨rfl,e1⟩ | ⟨hne,e1⟩
 · refine ⟨[],s,?_,h,⟨rfl,fun k f hk=>by simp at hk⟩,Nat.le_refl _,fun _ _ _=>rfl⟩
   generalize R (d+1)=r at e1 ⊢
   have lp:loops (nv r 8192) 8192 [Z (.ptr i 0),Z y,Z .ay,I .i64 0,I .i64 0] s=some (.exit 0 [],s):=by
    rw [show (8192:Nat)=8191+1 from rfl,loops]
    have:nv r (8191+1) [Z (.ptr i 0),Z y,Z .ay,I .i64 0,I .i64 0] s=some (.exit 0 [],s):=by
     unfold nv
     simp
    rw [this]
   simp [e1,lp,aQ,bK]
 obtain ⟨ks,hks⟩:∃ ks,ks=cC (fs.map (·.nm)):=⟨_,rfl⟩
 obtain ⟨s1,hs1⟩:∃ s1,s1=s.push (.cells false (ks.map S.str)):=⟨_,rfl⟩
 rw [← hks,← hs1] at e1
 have g:Gr s s1:=by rw [hs1];exact Gr.push h.wf _
 have h1:=h.gr g
 have eZ:ks.length=fs.length:=by rw [hks,(bC _).length_eq,List.length_map]
 have hz:s1.size=s.size+1:=by rw [hs1];simp
 have uU:s1.get s.size=some (.cells false (ks.map S.str)):=by rw [hs1];exact St.aq _ _
 have X8:∀ f∈fs,f.fb<s.size:=fun f hf=>by
  obtain ⟨k,hk⟩:=List.getElem?_of_mem hf
  exact h.wf.lt (h.fl k f hk).1
 obtain ⟨r,hr⟩:∃ r,r=R (d+1):=⟨_,rfl⟩
 rw [← hr] at e1 ⊢
 have lpx:=aV (f:=nv r 8192)
  (fun q v u=>∃ (j:Nat) (cur:List Fl),q+j=fs.length/\v=[Z (.ptr i 0),Z y,Z (.sl s.size 0 fs.length (.grown 1)),I .i64 fs.length,I .i64 (j:Nat)]/\Dk u i m room cur/\Mid kl fs j cur/\u.size=s1.size/\∀ b,(∀ f∈fs,b≠f.fb)->u.get b=s1.get b)
  (fun q u=>q = .exit 0 []/\∃ cur,Dk u i m room cur/\Mid kl fs fs.length cur/\u.size=s1.size/\∀ b,(∀ f∈fs,b≠f.fb)->u.get b=s1.get b) (by
  rintro q v u ⟨j,cur,hq,rfl,hd,hm,hsz,hk⟩
  by_cases hj:j<fs.length
  · left
    have hjk:j<ks.length:=by omega
    obtain ⟨n,hn⟩:∃ n,n=ks[j]:=⟨_,rfl⟩
    have hnk:ks[j]? = some n:=by rw [List.getElem?_eq_getElem hjk,hn]
    have Yr:n∈fs.map (·.nm):=by
     have:n∈ks:=List.mem_of_getElem? hnk
     rw [hks] at this
     exact (bC _).mem_iff.1 this
    obtain ⟨f,hf,hfn⟩:=List.mem_map.1 Yr
    obtain ⟨k,S4⟩:=List.getElem?_of_mem hf
    have Yc:u9 fs f.nm=j:=Oc h.nm (by rw [hfn,← hks];exact hnk)
    have zM:cur[k]? = some f:=by
     have:=hm.at_ k f S4
     rwa [if_neg (by omega)] at this
    obtain ⟨a1,a2,a3,a4,a5,a6,a7⟩:=hd.fl k f zM
    have hct:eB kl fs f=f.sure+kS kl j f:=by unfold eB;rw [Yc]
    have hle:=zX kl j a3
    obtain ⟨x',pc,b1,b2⟩:=GU a2 (k:=f.sure+kS kl j f) hle
    have hbu:u.get s.size=some (.cells false (ks.map S.str)):=by rw [hk _ fun g hg=>by have:=X8 g hg;omega];exact uU
    have ix:av 1 (Z (.sl s.size 0 fs.length (.grown 1))) (I .i64 (j:Nat))=some (Z (.ptr s.size j)):=by
     have:=db (e:=1) (b:=s.size) (o:=0) (c := .grown 1) (k := .i64) (n:=((j:Nat):Int)) rfl hj
     rwa [Nat.zero_add,Nat.mul_one] at this
    have ld:ab (Z (.ptr s.size j)) u.get=some (Z (.str f.nm)):=ai hbu (by rw [List.getElem?_map,hnk,hfn];rfl)
    have l1:=hd.lW
    have lk:=hd.look zM
    have lf:ab (Z (.ptr f.fb 0)) u.get=some (Z f.x):=ai a1 rfl
    have WS:ab (Z (.ptr f.fb 1)) u.get=some (I .i64 f.sure):=ai a1 rfl
    have ll:=a2.rd.lens
    have WU:=b1.rd.lens
    have O9:=hd.wf.lt a1
    have hlt:(f.l.take (f.sure+kS kl j f)).length=f.sure+kS kl j f:=by rw [List.length_take];omega
    rw [hlt] at WU
    obtain ⟨kn,hN⟩:∃ n,n=kS kl j f:=⟨_,rfl⟩
    rw [← hN] at pc b1 WU hlt hle hct
    have w1:IntKind.i64.wrap ((f.sure:Int)+kn)=((f.sure+kn:Nat):Int):=by rw [aE _ (by omega) (by omega)];omega
    have w2:IntKind.i64.wrap ((f.l.length:Int)-f.sure)=(f.l.length:Int)-f.sure:=aE _ (by omega) (by omega)
    have w3:IntKind.i64.wrap ((j:Int)+1)=((j+1:Nat):Int):=by rw [aE _ (by omega) (by omega)];omega
    obtain ⟨u2,zS⟩:∃ u2,u2=u.set f.fb (.cells true [x',.int .i64 f.sure]):=⟨_,rfl⟩
    have st:aw 1 (Z (.ptr f.fb 0)) (Z x') u=some (tt,u2):=by rw [zS];exact aW a1 (by simp)
    have g2:u2.get f.fb=some (.cells true [x',.int .i64 f.sure]):=by rw [zS];exact St.ar _ _ _
    have lf2:ab (Z (.ptr f.fb 0)) u2.get=some (Z x'):=ai g2 rfl
    obtain ⟨u3,IG⟩:∃ u3,u3=u2.set f.fb (.cells true [x',.int .i64 ((f.sure+kn:Nat):Int)]):=⟨_,rfl⟩
    have yU:aw 1 (Z (.ptr f.fb 1)) (I .i64 ((f.sure+kn:Nat):Int)) u2=some (tt,u3):=by rw [IG];exact aW g2 (by simp)
    have hF:∀ b,b≠f.fb->u3.get b=u.get b:=fun b hb=>by rw [IG,zS,St.aj _ _ hb,St.aj _ _ hb]
    have z3:u3.size=u.size:=by rw [IG,zS];rfl
    have hd3:=hd.rO (t:=u3) zM (x':=x') (l':=f.l.take (f.sure+kn)) (sure':=f.sure+kn) (by rw [IG];exact St.wf_set (by rw [zS];exact St.wf_set hd.wf O9 _) (by rw [zS];exact O9) _) (by omega) (fun b _ hb _=>hF b hb) (by rw [IG];exact St.ar _ _ _)
     (b1.keep fun c hc=>hF c (by
      rcases b2 with e | e
      · rw [e] at hc;cases hc
      · rw [e] at hc
        exact ((hd.ap k k f f zM zM).2 c hc).1)) (by omega) (by omega) (by rcases b2 with e | e;exact .inl e;exact .inr (.inl e))
    have WE:Rd 1 u y kl.length (kl.map (S.int .i64)):=hy.keep fun c hc=>by rw [hk c (Dz c hc).2,g.2.2 c (Dz c hc).1]
    have US:=WE.lens
    refine ⟨[Z (.ptr i 0),Z y,Z (.sl s.size 0 fs.length (.grown 1)),I .i64 fs.length,I .i64 ((j+1:Nat):Int)],u3,q-1,?_,by omega,j+1,_,by omega,rfl,hd3,⟨by rw [List.length_set];exact hm.len,fun k' f' hk' => ?_⟩,by omega,fun b hb=>by rw [hF b (hb f hf),hk b hb]⟩
    · have c0:((j:Nat):Int)<((fs.length:Nat):Int):=by omega
      unfold nv
      by_cases hjl:j<kl.length
      · have hv:(kl.map (S.int .i64))[j]? = some (S.int .i64 (kl.getD j 0)):=by rw [List.getElem?_map,List.getElem?_eq_getElem hjl,List.getD_eq_getElem?_getD,List.getElem?_eq_getElem hjl];rfl
        obtain ⟨p,ixy,ldy⟩:=WE.yJ (i:=((j:Nat):Int)) rfl hv
        have c1:((j:Nat):Int)<((kl.length:Nat):Int):=by omega
        have pX:min (max (kl.getD j 0) 0) ((f.l.length:Int)-f.sure)=((kn:Nat):Int):=by rw [hN];unfold kS;omega
        generalize ((f.sure+kn:Nat):Int)=FN at *
        generalize ((kn:Nat):Int)=NN at *
        generalize ((j+1:Nat):Int)=J1 at *
        generalize ((j:Nat):Int)=J0 at *
        generalize ((fs.length:Nat):Int)=LL at *
        generalize ((kl.length:Nat):Int)=KL at *
        generalize kl.getD j 0=K0 at *
        simp [c0,ix,ld,l1,lk,US,c1,ixy,ldy,lf,WS,ll,w2,pX,w1,pc,st,lf2,WU,yU,w3]
      · have Un:kn=0:=by
         rw [hN]
         unfold kS
         rw [List.getD_eq_getElem?_getD,List.getElem?_eq_none (by omega)]
         simp only [Option.getD_none]
         omega
        have c1:¬ ((j:Nat):Int)<((kl.length:Nat):Int):=by omega
        subst Un
        rw [show ((0:Nat):Int)=0 from rfl,Int.add_zero] at w1
        generalize ((f.sure+0:Nat):Int)=FN at *
        generalize ((j+1:Nat):Int)=J1 at *
        generalize ((j:Nat):Int)=J0 at *
        generalize ((fs.length:Nat):Int)=LL at *
        generalize ((kl.length:Nat):Int)=KL at *
        simp [c0,ix,ld,l1,lk,US,c1,lf,WS,w1,pc,st,lf2,WU,yU,w3]
    · by_cases hkk:k'=k
      · subst hkk
        have hff:f'=f:=by rw [S4] at hk';exact (Option.some.inj hk').symm
        subst hff
        rw [if_pos (by omega),hct]
        refine ⟨x',?_,b2⟩
        rw [List.getElem?_set]
        have:=(List.getElem?_eq_some_iff.1 zM).1
        simp [this]
      · have hne:u9 fs f'.nm≠j:=fun e=>by
         have h3:f'.nm=n:=by
          have Ns:f'.nm∈ks:=by rw [hks];exact (bC _).mem_iff.2 (List.mem_map_of_mem (List.mem_of_getElem? hk'))
          have h5:ks.idxOf f'.nm=j:=by rw [hks];exact e
          have h4:ks[ks.idxOf f'.nm]? = some f'.nm:=by
           rw [List.getElem?_eq_getElem (List.idxOf_lt_length_of_mem Ns),List.getElem_idxOf]
          rw [h5,hnk] at h4
          exact (Option.some.inj h4).symm
         have h8:(fs.map (·.nm))[k']? = (fs.map (·.nm))[k]? := by rw [List.getElem?_map,List.getElem?_map,hk',S4];simp [h3,hfn]
         exact hkk ((List.getElem?_inj (by rw [List.length_map];exact (List.getElem?_eq_some_iff.1 hk').1) h.nm).1 h8)
        have h6:=hm.at_ k' f' hk'
        have h7:(cur.set k { f with x:=x',l:=f.l.take (f.sure+kn),sure:=f.sure+kn })[k']? = cur[k']? := by
         rw [List.getElem?_set,if_neg (fun e=>hkk e.symm)]
        by_cases hlt:u9 fs f'.nm<j
        · rw [if_pos (by omega),h7]
          rwa [if_pos hlt] at h6
        · rw [if_neg (by omega),h7]
          rwa [if_neg hlt] at h6
  · right
    have hjj:j=fs.length:=by omega
    subst hjj
    have c0:¬ ((fs.length:Nat):Int)<((fs.length:Nat):Int):=by omega
    refine ⟨.exit 0 [],u,?_,(fun v h=>by cases h),rfl,cur,hd,hm,hsz,hk⟩
    unfold nv
    simp)
  8192 fs.length _ s1 ⟨0,fs,by omega,rfl,h1,⟨rfl,fun k f hk=>by rw [if_neg (by omega)];exact hk⟩,rfl,fun _ _=>rfl⟩ (by omega)
 obtain ⟨jo,u,lp,rfl,cur,hd,hm,hsz,hk⟩:=lpx
 refine ⟨cur,u,?_,hd,⟨hm.len,fun k f hf => ?_⟩,by omega,fun b hb hbf=>by rw [hk b hbf,g.2.2 b hb]⟩
 · have e0:((0:Nat):Int)=0:=rfl
   rw [e0] at lp
   simp [e1,lp,aQ,bK]
 · have:=hm.at_ k f hf
   rwa [if_pos (Od (List.mem_of_getElem? hf))] at this
end
section
variable {s t:St} {x y:S} {l:Bs} {c:UInt8}
theorem EY (d:Nat):R (d+1) 247 [Z (.str l),Z (.str [c])] s=some (I .i64 (nM c l 0),s):=dU (DR (by decide))
theorem Cg (d:Nat):R (d+1) 248 [Z (.str l),Z (.str [c])] s=some (I .i64 (nM c l 0),s):=dU (DR (by decide))
theorem Ew (d:Nat):R (d+1) 246 [Z (.str l),Z (.str [c])] s=some (I .i64 (eP c l:Nat),s):=dU JQ
theorem Li (d:Nat) (hl:l.length<=100000):R (d+3) 180 [Z (.str l),Z (.str [c])] s=some (.eF [.s (.str (l.takeWhile fun b => !Nat.beq b.toNat c.toNat)),.s (.str (match nM c l 0 with | .ofNat m=>l.drop (m+1) | _=>[])),.s (.bool (decide (0<=nM c l 0)))],s):=by
 have key:R (d+2) 219 [Z (.str l),Z (.str [c])] s=some (.eF [.s (.str (l.takeWhile fun b => !Nat.beq b.toNat c.toNat)),.s (.str (match nM c l 0 with | .ofNat m=>l.drop (m+1) | _=>[])),.s (.bool (decide (0<=nM c l 0)))],s):=by
  rw [HX]
  unfold f219
  have e:=Cg (s:=s) (l:=l) (c:=c) d
  rcases Ey c l with ⟨h1,h2⟩ | ⟨m,h0,h1,h2⟩
  · rw [h1] at e ⊢
    have c0:¬ (0:Int) ≤ -1:=by decide
    simp [e,c0,h2,aQ,bK]
  · rw [h1] at e ⊢
    have c0:(0:Int)<=(m:Int):=by omega
    have w1:IntKind.i64.wrap ((m:Int)+1)=((m+1:Nat):Int):=by rw [aE _ (by omega) (by omega)];omega
    have p1:=j8 (l:=l) (m:=m) (n:=(m:Int)) rfl (by omega)
    have p2:=j9 (l:=l) (m:=m+1) (n:=((m+1:Nat):Int)) rfl (by omega)
    generalize ((m+1:Nat):Int)=M1 at w1 p2
    have hd:(match ((m:Nat):Int) with | .ofNat m=>l.drop (m+1) | _=>[])=l.drop (m+1):=rfl
    rw [hd]
    generalize ((m:Nat):Int)=M at *
    simp [e,c0,h2,p1,w1,p2,aQ,bK]
 rw [HK]
 unfold f180
 simp [key,ah,aQ,bK]
theorem FG (r:ak) (hix:∀ (l:Bs) (u:St),r 247 [Z (.str l),Z (.str [c])] u=some (I .i64 (nM c l 0),u)) (hl:l.length<=8000) (wf:s.wf) :
 ∃ (m:Bs) (done:List Bs) (τ:St),loops (oh r 8192) 8192 [Z (.str l),Z (.str [c]),I .i64 0,I .i64 (eP c l:Nat),Z (.sl s.size 0 (eP c l+1) (.known (eP c l+1))),I .i64 0] (s.push (.cells true (List.replicate (eP c l+1) (.str [])))) =
  some (.exit 0 [Z (.str m),Z (.sl s.size 0 (eP c l+1) (.known (eP c l+1))),I .i64 (eP c l:Nat)],τ)/\τ.wf/\τ.size=s.size+1/\(∀ b,b<s.size->τ.get b=s.get b)/\done++[m]=bJ c l/\done.length=eP c l ∧
  τ.get s.size=some (.cells true (cg done++[.str []])):=by
 obtain ⟨n,hn⟩:∃ n,n=eP c l:=⟨_,rfl⟩
 have hnl:=mq c l
 rw [← hn] at hnl
 rw [← hn]
 obtain ⟨j,τ,lp,m,done,rfl,q1,q2,q3,q4,q5,q6⟩:=aV (f:=oh r 8192) (fun q v u=>∃ (m:Bs) (done:List Bs),q+done.length=n/\v=[Z (.str m),Z (.str [c]),I .i64 0,I .i64 (n:Nat),Z (.sl s.size 0 (n+1) (.known (n+1))),I .i64 (done.length:Nat)]/\u.wf/\u.size=s.size+1/\(∀ b,b<s.size->u.get b=s.get b) ∧
  done++bJ c m=bJ c l/\eP c m=q/\m.length<=l.length/\u.get s.size=some (.cells true (cg done++List.replicate (n+1-done.length) (.str []))))
  (fun j u=>∃ (m:Bs) (done:List Bs),j = .exit 0 [Z (.str m),Z (.sl s.size 0 (n+1) (.known (n+1))),I .i64 (n:Nat)]/\u.wf/\u.size=s.size+1/\(∀ b,b<s.size->u.get b=s.get b)/\done++[m]=bJ c l/\done.length=n/\u.get s.size=some (.cells true (cg done++[.str []]))) (by
  rintro q v u ⟨m,done,hq,rfl,h1,h2,h3,h4,h5,h6,h7⟩
  rcases rz c m with ⟨k1,k2,k3⟩ | ⟨i,k0,k1,k2,k3⟩
  · right
    have:q=0:=by omega
    subst this
    have hd:done.length=n:=by omega
    have c0:¬ ((n:Int)<(n:Int)):=by omega
    refine ⟨_,u,?_,(fun v hv=>by cases hv),m,done,rfl,h1,h2,h3,by rw [← h4,k3],hd,?_⟩
    · unfold oh
      rw [hd]
      simp [c0]
    · rw [h7,hd,show n+1-n=1 by omega]
      rfl
  · left
    have hdl:done.length<n:=by omega
    have c0:((done.length:Nat):Int)<(n:Int):=by omega
    have c1:¬ ((i:Nat):Int)<0:=by omega
    have w0:IntKind.i64.wrap ((i:Nat):Int)=((i:Nat):Int):=aE _ (by omega) (by omega)
    have w1:IntKind.i64.wrap ((i:Int)+1)=((i+1:Nat):Int):=by rw [aE _ (by omega) (by omega)];omega
    have w2:IntKind.i64.wrap (((done.length:Nat):Int)+1)=((done.length+1:Nat):Int):=by rw [aE _ (by omega) (by omega)];omega
    have p1:=j8 (l:=m) (m:=i) (n:=((i:Nat):Int)) rfl (by omega)
    have p2:=j9 (l:=m) (m:=i+1) (n:=((i+1:Nat):Int)) rfl (by omega)
    have ix:av 1 (Z (.sl s.size 0 (n+1) (.known (n+1)))) (I .i64 ((done.length:Nat):Int))=some (Z (.ptr s.size done.length)):=by rw [db (j:=done.length) rfl (by omega),Nat.zero_add,Nat.mul_one]
    have hlen:(cg done++List.replicate (n+1-done.length) (S.str [])).length=n+1:=by simp;omega
    have st:=aW (σ:=u) (i:=s.size) (o:=done.length) (x := .str (m.take i)) h7 (by omega)
    have gP:aO (cg done++List.replicate (n+1-done.length) (S.str [])) done.length [.str (m.take i)]=cg (done++[m.take i])++List.replicate (n+1-(done++[m.take i]).length) (.str []):=by
     rw [bZ _ _ _ (by simp;omega)]
     have e1:(cg done++List.replicate (n+1-done.length) (S.str [])).take done.length=cg done:=by
      rw [List.take_append_of_le_length (by simp)]
      exact List.take_of_length_le (by simp)
     have e2:(cg done++List.replicate (n+1-done.length) (S.str [])).drop (done.length+[S.str (m.take i)].length)=List.replicate (n+1-(done.length+1)) (S.str []):=by
      rw [List.drop_append,List.drop_eq_nil_of_le (by simp),List.nil_append,List.drop_replicate]
      congr 1
      simp
      omega
     rw [e1,e2,jr,List.length_append]
     simp [cg]
    rw [gP] at st
    have e:=hix m u
    rw [k1] at e
    refine ⟨[Z (.str (m.drop (i+1))),Z (.str [c]),I .i64 0,I .i64 (n:Nat),Z (.sl s.size 0 (n+1) (.known (n+1))),I .i64 ((done.length+1:Nat):Int)],u.set s.size (.cells true (cg (done++[m.take i])++List.replicate (n+1-(done++[m.take i]).length) (.str []))),q-1,?_,by omega,m.drop (i+1),done++[m.take i],by simp;omega,by simp,St.wf_set h1 (by omega) _,by simpa using h2,fun b hb=>by rw [St.aj _ _ (by omega)];exact h3 b hb,by rw [← h4,k2];simp,by omega,by simp;omega,St.ar _ _ _⟩
    unfold oh
    generalize ((i+1:Nat):Int)=I1 at w1 p2
    generalize ((i:Nat):Int)=I0 at c1 w0 w1 p1 e
    generalize ((done.length+1:Nat):Int)=D1 at w2 ⊢
    generalize ((done.length:Nat):Int)=D0 at c0 w2 ix ⊢
    simp [c0,e,c1,w0,w1,p1,ix,st,p2,w2]) 8192 n [Z (.str l),Z (.str [c]),I .i64 0,I .i64 (n:Nat),Z (.sl s.size 0 (n+1) (.known (n+1))),I .i64 0] (s.push (.cells true (List.replicate (n+1) (.str [])))) ⟨l,[],by simp,rfl,St.bu wf _,by simp,fun b hb=>St.aD _ _ (by omega),by simp,hn.symm,Nat.le_refl _,by simp [cg]⟩ (by omega)
 exact ⟨m,done,τ,lp,q1,q2,q3,q4,q5,q6⟩
theorem wP (d:Nat) (wf:s.wf) (hl:l.length<=8000):∃ x t,R (d+3) 179 [Z (.str l),Z (.str [c])] s=some (Z x,t)/\FT s t x (bJ c l):=by
 obtain ⟨m,done,τ,lp,q1,q2,q3,q4,q5,q6⟩:=FG (c:=c) (R (d+1)) (fun l u=>EY d) hl wf
 have hnl:=mq c l
 have T7:=Ew (s:=s) (l:=l) (c:=c) d
 have key:R (d+2) 218 [Z (.str l),Z (.str [c]),I .i64 0,I .i64 (-1)] s=some (Z (.sl s.size 0 (eP c l+1) (.known (eP c l+1))),τ.set s.size (.cells true (cg (bJ c l)))):=by
  rw [HW]
  unfold f218
  obtain ⟨n,hn⟩:∃ n,n=eP c l:=⟨_,rfl⟩
  rw [← hn] at hnl lp q5 T7 ⊢
  have w1:IntKind.i64.wrap ((n:Int)+1)=((n+1:Nat):Int):=by rw [aE _ (by omega) (by omega)];omega
  have w2:IntKind.i64.wrap ((l.length:Int)+1)=((l.length+1:Nat):Int):=by rw [aE _ (by omega) (by omega)];omega
  have pX:min ((n+1:Nat):Int) ((l.length+1:Nat):Int)=((n+1:Nat):Int):=by omega
  have w3:IntKind.i64.wrap (((n+1:Nat):Int)-1)=(n:Int):=by rw [aE _ (by omega) (by omega)];omega
  have nw:aL s (Jr 1 16 [.str []] (I .i64 ((n+1:Nat):Int)) (I .i64 ((n+1:Nat):Int)))=some (Z (.sl s.size 0 (n+1) (.known (n+1))),s.push (.cells true (List.replicate (n+1) (.str [])))):=by
   have h1:[S.str []].length=1/\(0:Int)<=((n+1:Nat):Int)/\((n+1:Nat):Int)<=((n+1:Nat):Int)/\((n+1:Nat):Int)<=2 ^ 62/\((16:Nat):Int)*((n+1:Nat):Int)<=2 ^ 48:=⟨rfl,by omega,by omega,by omega,by omega⟩
   simp only [aL,Jr,if_pos h1,Int.toNat_natCast]
   have hz:∀ k,dn k [S.str []]=List.replicate k (.str []):=by
    intro k
    simp [dn]
   rw [hz]
  have ix:av 1 (Z (.sl s.size 0 (n+1) (.known (n+1)))) (I .i64 (n:Int))=some (Z (.ptr s.size n)):=by rw [db (j:=n) rfl (by omega),Nat.zero_add,Nat.mul_one]
  have st:=aW (σ:=τ) (i:=s.size) (o:=n) (x := .str m) q6 (by simp;omega)
  have gP:aO (cg done++[S.str []]) n [.str m]=cg (bJ c l):=by
   rw [bZ _ _ _ (by simp;omega),← q4,jr]
   have e1:(cg done++[S.str []]).take n=cg done:=by
    rw [List.take_append_of_le_length (by simp;omega)]
    exact List.take_of_length_le (by simp;omega)
   have e2:(cg done++[S.str []]).drop (n+[S.str m].length)=[]:=List.drop_eq_nil_of_le (by simp;omega)
   rw [e1,e2]
   simp [cg]
  rw [gP] at st
  have pc:aB 1 (Z (.sl s.size 0 (n+1) (.known (n+1)))) none (some (I .i64 ((n+1:Nat):Int))) none=some (Z (.sl s.size 0 (n+1) (.known (n+1)))):=by
   unfold aB
   dsimp only
   rw [dZ (Nat.le_refl _)]
   simp
  have cc:¬ [c]=([]:Bs):=by simp
  generalize ((n+1:Nat):Int)=N1 at w1 pX w3 nw pc
  generalize ((l.length+1:Nat):Int)=L1 at w2 pX
  simp [T7,w1,w2,pX,nw,w3,lp,ix,st,pc,cc]
 refine ⟨_,_,?_,⟨⟨St.wf_set q1 (by omega) _,by simp;omega,fun b hb=>by rw [St.aj _ _ (by omega)];exact q3 b hb⟩,⟨by simp,.inr (.inr ⟨s.size,cg (bJ c l),.known (eP c l+1),by rw [gx],.inr (by rw [gx]),St.ar _ _ _,by simp,List.take_of_length_le (by simp)⟩)⟩,fun b hb=>by cases hb;exact ⟨Nat.le_refl _,by simp;omega⟩⟩⟩
 rw [HJ]
 unfold f179
 simp [key]
def xV (v:Bs):List Bs->Nat->Int
 | [],_ => -1
 | w::r,k=>if v=w then (k:Int) else xV v r (k+1)
theorem oE (v:Bs):∀ (l:List Bs) (k:Nat),(0<=xV v l k)↔v∈l
 | [],k=>by simp [xV]
 | w::r,k=>by
   unfold xV
   by_cases h:v=w
   · simp [h]
   · rw [if_neg h,oE v r (k+1)]
     simp [h]
theorem vT (v:Bs):∀ (l:List Bs) (k:Nat),xV v l k = -1\/∃ j,j<l.length/\xV v l k=(k+j:Nat)/\l[j]? = some v
 | [],k => .inl rfl
 | w::r,k=>by
   unfold xV
   by_cases h:v=w
   · exact .inr ⟨0,by simp,by rw [if_pos h];rfl,by simp [h]⟩
   · rw [if_neg h]
     rcases vT v r (k+1) with e | ⟨j,h1,h2,h3⟩
     · exact .inl e
     · exact .inr ⟨j+1,by simp;omega,by rw [h2];omega,by simpa using h3⟩
theorem Jc (v:Bs) (l:List Bs) (k:Nat) (hk:k<=l.length) (hn:∀ j w,j<k->l[j]? = some w->v≠w):xV v l 0=xV v (l.drop k) k:=by
 induction k with
 | zero=>rfl
 | succ k ih =>
   rw [ih (by omega) fun j w hj=>hn j w (by omega)]
   have hc:l.drop k=l[k]::l.drop (k+1):=List.drop_eq_getElem_cons (by omega)
   rw [hc]
   show (if v=l[k] then _ else _)=_
   rw [if_neg (hn k l[k] (by omega) (List.getElem?_eq_getElem (by omega)))]
theorem tO (d:Nat) {ws:List Bs} {v:Bs} (h:RT s x ws) (hl:ws.length<=8000):R (d+1) 224 [Z x,Z (.str v)] s=some (I .i64 (xV v ws 0),s):=by
 rw [HZ]
 unfold f224
 have hlen:=h.lens
 obtain ⟨j,τ,lp,hj,ph⟩:=aV (f:=om (R d) 8192) (fun q w u=>∃ k:Nat,q+k=ws.length/\w=[Z x,Z (.str v),I .i64 ws.length,I .i64 k]/\u=s/\∀ j w,j<k->ws[j]? = some w->v≠w)
  (fun j u=>(j = .exit 0 []/\xV v ws 0 = -1\/j = .ret (I .i64 (xV v ws 0)))/\u=s) (by
  rintro q w u ⟨k,hk,rfl,rfl,hn⟩
  have hd:=Jc v ws k (by omega) hn
  by_cases eZ:k<ws.length
  · have hc:ws[k]? = some ws[k]:=List.getElem?_eq_getElem eZ
    have m6:ws.drop k=ws[k]::ws.drop (k+1):=List.drop_eq_getElem_cons eZ
    obtain ⟨p,ix,ld⟩:=RT.VT h (n:=(k:Int)) rfl hc
    have c0:(k:Int)<(ws.length:Int):=by omega
    have w1:IntKind.i64.wrap ((k:Int)+1)=((k+1:Nat):Int):=by rw [aE _ (by omega) (by omega)];omega
    by_cases he:v=ws[k]
    · right
      have hx:xV v ws 0=k:=by rw [hd,m6];show (if v=ws[k] then _ else _)=_;rw [if_pos he]
      refine ⟨.ret (I .i64 (xV v ws 0)),u,?_,(fun v hv=>by cases hv),.inr rfl,rfl⟩
      unfold om
      rw [hx]
      simp [c0,ix,ld,← he]
    · left
      refine ⟨[Z x,Z (.str v),I .i64 ws.length,I .i64 ((k+1:Nat):Int)],u,q-1,?_,by omega,k+1,by omega,rfl,rfl,fun j w hj hw => ?_⟩
      · unfold om
        generalize ((k+1:Nat):Int)=K1 at w1 ⊢
        simp [c0,ix,ld,he,w1]
      · by_cases hjk:j=k
        · subst hjk;rw [hc] at hw;cases hw;exact he
        · exact hn j w (by omega) hw
  · right
    have hk':k=ws.length:=by omega
    have c0:¬ (k:Int)<(ws.length:Int):=by omega
    refine ⟨.exit 0 [],u,?_,(fun v hv=>by cases hv),.inl ⟨rfl,?_⟩,rfl⟩
    · unfold om
      simp [c0]
    · rw [hd,hk',List.drop_length];rfl) 8192 ws.length [Z x,Z (.str v),I .i64 ws.length,I .i64 0] s ⟨0,rfl,rfl,rfl,fun j w hj=>by omega⟩ (by omega)
 subst ph
 rcases hj with ⟨rfl,he⟩ | rfl
 · rw [he]
   simp [hlen,lp]
 · simp [hlen,lp]
theorem uQ (d:Nat) {ws:List Bs} {v:Bs} (h:RT s x ws) (hl:ws.length<=8000):R (d+2) 183 [Z x,Z (.str v)] s=some (B (decide (v∈ws)),s):=by
 rw [HN]
 unfold f183
 have e:=tO (v:=v) d h hl
 have:decide (0<=xV v ws 0)=decide (v∈ws):=decide_eq_decide.2 (oE v ws 0)
 simp [e,this]
end
def cM (b:UInt8):Bool:=Nat.ble 48 b.toNat&&Nat.ble b.toNat 57
def digits:Bs:=[48,49,50,51,52,53,54,55,56,57]
def dc:List S:=(List.range 256).map fun c=>S.bool (Nat.ble 48 c&&Nat.ble c 57)
theorem nV:dc.length=256:=by simp [dc]
theorem xE (b:UInt8):dc[b.toNat]? = some (.bool (cM b)):=by
 have:=b.toNat_lt
 simp [dc,cM,this]
theorem p8 {b:UInt8}:cM b=true↔48<=b.toNat/\b.toNat<=57:=by
 simp [cM,Nat.ble_eq]
def ga (l:Bs):Bs:=(l.reverse.dropWhile cM).reverse
theorem CX (l:Bs) (c:UInt8):ga (l++[c])=if cM c then ga l else l++[c]:=by
 unfold ga
 rw [List.reverse_append,List.reverse_singleton,List.singleton_append,List.dropWhile_cons]
 split<;>simp
theorem FQ:ga []=[]:=rfl
theorem dropWhile_nil (p:UInt8->Bool):∀ l:Bs,l.dropWhile p=[]↔∀ x∈l,p x=true
 | []=>by simp
 | a::r=>by
   have ih:=dropWhile_nil p r
   rw [List.dropWhile_cons]
   by_cases h:p a=true
   · rw [if_pos h,ih];simp [h]
   · rw [if_neg h];simp [h]
theorem nX (p:UInt8->Bool):∀ (l:Bs) (a:UInt8) (r:Bs),l.dropWhile p=a::r->p a=false
 | [],a,r,h=>by simp at h
 | b::q,a,r,h=>by
   rw [List.dropWhile_cons] at h
   by_cases hb:p b=true
   · rw [if_pos hb] at h;exact nX p q a r h
   · rw [if_neg hb] at h;cases h;simpa using hb
theorem wX (l:Bs):(ga l).dropWhile cM=[]↔l.all cM=true:=by
 unfold ga
 rw [List.all_eq_true]
 constructor
 · intro h
   have h1:=(dropWhile_nil cM _).1 h
   have h2:l.reverse.dropWhile cM=[]:=by
    cases hd:l.reverse.dropWhile cM with
    | nil=>rfl
    | cons a r =>
      exfalso
      have e1:=h1 a (by rw [hd];simp)
      rw [nX cM _ a r hd] at e1
      cases e1
   intro x hx
   exact (dropWhile_nil cM _).1 h2 x (by simpa using hx)
 · intro h
   have h2:l.reverse.dropWhile cM=[]:=(dropWhile_nil cM _).2 fun x hx=>h x (by simpa using hx)
   rw [h2]
   rfl
def fy (l:Bs):Nat:=l.foldl (fun n b=>n*10+(b.toNat-48)) 0
theorem wY (l:Bs) (c:UInt8):fy (l++[c])=fy l*10+(c.toNat-48):=by simp [fy]
theorem sH:∀ (n:Nat) (l:Bs),l.length=n->l.all cM=true->fy l<10 ^ n
 | 0,l,h,_=>by
   have:l=[]:=List.eq_nil_of_length_eq_zero h
   subst this
   decide
 | n+1,l,h,ha=>by
   rcases List.eq_nil_or_concat l with rfl | ⟨r,c,hl⟩
   · simp at h
   · rw [List.concat_eq_append] at hl
     subst hl
     rw [wY]
     have hr:=sH n r (by simpa using h) (by simp at ha;simpa using ha.1)
     have hc:cM c=true:=by simp at ha;exact ha.2
     rw [p8] at hc
     rw [Nat.pow_succ]
     omega
def dQ (l:Bs):Bool:=Nat.ble 1 l.length&&Nat.ble l.length 13&&l.all cM
def gQ (l:Bs):Nat:=match dQ l with
 | true=>fy l
 | false=>0
section
variable {s t:St} {x y:S} {l:Bs} {i:Nat} {w:Bool}
theorem xg (n:Nat) (b:UInt8) (h:b.toNat<n) (i o:Nat):bz n 1 (Z (.ptr i o)) (I .u8 b.toNat)=some (Z (.ptr i (o+b.toNat))):=by
 have h2:nP (I .u8 (b.toNat:Int)) n=some b.toNat:=by simp [nP,h]
 simp [bz,h2]
theorem nU (d:Nat) (h:s.get i=some (.cells w dc)) (b:UInt8):R (d+1) 212 [Z (.ptr i 0),I .u8 b.toNat] s=some (B (cM b),s):=by
 rw [HU]
 unfold f212
 have ix:=xg 256 b b.toNat_lt i 0
 have ld:ab (Z (.ptr i (0+b.toNat))) s.get=some (B (cM b)):=ai h (by rw [Nat.zero_add];exact xE b)
 simp only [GI,fC,ix,ld]
theorem vi (d:Nat) (h:s.get i=some (.cells w dc)) (hl:l.length<=8000):R (d+2) 169 [Z (.str l),Z (.ptr i 0)] s=some (Z (.str (ga l)),s):=by
 rw [HB]
 unfold f169
 obtain ⟨j,τ,lp,hj,ph⟩:=aV (f:=oe (R (d+1)) 8192) (fun q v u=>∃ m:Bs,q=m.length/\v=[Z (.str m),Z (.ptr i 0)]/\u=s/\ga m=ga l/\m.length<=l.length)
  (fun j u=>j = .exit 0 [Z (.str (ga l))]/\u=s) (by
  rintro q v u ⟨m,rfl,rfl,rfl,hm,Iz⟩
  rcases List.eq_nil_or_concat m with rfl | ⟨r,c,hmr⟩
  · right
    refine ⟨_,u,?_,(fun v hv=>by cases hv),rfl,rfl⟩
    unfold oe
    rw [← hm]
    simp [FQ]
  · rw [List.concat_eq_append] at hmr
    have hlen:m.length=r.length+1:=by rw [hmr];simp
    have c0:0<m.length:=by omega
    have w1:IntKind.i64.wrap ((m.length:Int)-1)=(r.length:Int):=by rw [aE _ (by omega) (by omega)];omega
    have hat:dG (Z (.str m)) (I .i64 (r.length:Int))=some (I .u8 c.toNat):=xo rfl (by rw [hmr];simp)
    have hc:=nU d h c
    have pc:=j8 (l:=m) (m:=r.length) (n:=(r.length:Int)) rfl (by omega)
    have lh:m.take r.length=r:=by rw [hmr];simp
    rw [lh] at pc
    have hs:=CX r c
    rw [← hmr,hm] at hs
    cases hd:cM c with
    | true =>
      left
      rw [hd] at hs hc
      refine ⟨[Z (.str r),Z (.ptr i 0)],u,r.length,?_,by omega,r,rfl,rfl,rfl,by simpa using hs.symm,by omega⟩
      unfold oe
      simp [c0,w1,hat,hc,pc]
    | false =>
      right
      rw [hd] at hs hc
      refine ⟨.exit 0 [Z (.str (ga l))],u,?_,(fun v hv=>by cases hv),rfl,rfl⟩
      unfold oe
      have:ga l=m:=by rw [hs,hmr];simp
      rw [this]
      simp [c0,w1,hat,hc]) 8192 l.length [Z (.str l),Z (.ptr i 0)] s ⟨l,rfl,rfl,rfl,rfl,Nat.le_refl _⟩ (by omega)
 subst ph;subst hj
 simp [lp]
theorem yF (d:Nat) (h:s.get i=some (.cells w dc)) (hl:l.length<=8000):R (d+2) 168 [Z (.str l),Z (.ptr i 0)] s=some (Z (.str (l.dropWhile cM)),s):=by
 rw [HA]
 unfold f168
 obtain ⟨j,τ,lp,hj,ph⟩:=aV (f:=od (R (d+1)) 8192) (fun q v u=>∃ m:Bs,q=m.length/\v=[Z (.str m),Z (.ptr i 0)]/\u=s/\m.dropWhile cM=l.dropWhile cM/\m.length<=l.length)
  (fun j u=>j = .exit 0 [Z (.str (l.dropWhile cM))]/\u=s) (by
  rintro q v u ⟨m,rfl,rfl,rfl,hm,Iz⟩
  cases m with
  | nil =>
    right
    refine ⟨_,u,?_,(fun v hv=>by cases hv),rfl,rfl⟩
    unfold od
    rw [← hm]
    simp
  | cons c r =>
    have hat:dG (Z (.str (c::r))) (I .i64 0)=some (I .u8 c.toNat):=xo (j:=0) rfl rfl
    have hc:=nU d h c
    have pc:=j9 (l:=c::r) (m:=1) (n:=1) rfl (by simp)
    rw [List.dropWhile_cons] at hm
    cases hd:cM c with
    | true =>
      left
      rw [hd] at hm hc
      refine ⟨[Z (.str r),Z (.ptr i 0)],u,r.length,?_,by simp,r,rfl,rfl,rfl,by simpa using hm,by simp at Iz;omega⟩
      unfold od
      simp [hat,hc,pc]
    | false =>
      right
      rw [hd] at hm hc
      refine ⟨.exit 0 [Z (.str (l.dropWhile cM))],u,?_,(fun v hv=>by cases hv),rfl,rfl⟩
      unfold od
      have:l.dropWhile cM=c::r:=by rw [← hm];simp
      rw [this]
      simp [hat,hc]) 8192 l.length [Z (.str l),Z (.ptr i 0)] s ⟨l,rfl,rfl,rfl,rfl,Nat.le_refl _⟩ (by omega)
 subst ph;subst hj
 simp [lp]
theorem eD {vs xs:List S} (h:vs.length=xs.length):aO vs 0 xs=xs:=by
 rw [bZ _ _ _ (by omega),List.take_zero,List.nil_append,List.drop_eq_nil_of_le (by omega),List.append_nil]
theorem Ad (d:Nat):R (d+1) 167 [Z (.str digits)] s=some (.eF [.agg dc,.s (.bool true)],s):=dU (JS _)
set_option maxRecDepth 100000 in
theorem Ku (d:Nat) (wf:s.wf) (h0:l≠[]) (hl:l.length<=8000):∃ t,R (d+4) 129 [Z (.str l),Z (.str digits)] s=some (Z (.str ((ga l).dropWhile cM)),t)/\Gr s t:=by
 rw [Hm]
 unfold f129
 generalize hq:bb _=q
 obtain ⟨z,rfl,hz⟩:∃ z:List S,q=bb z/\z.length=256:=⟨_,hq.symm,rfl⟩
 clear hq
 have e1:=Ad (s:=s) (d+2)
 have nw:aL s (bb z)=some (Z (.ptr s.size 0),s.push (.cells true z)):=rfl
 have hb:(V.agg dc).cells.length=256/\0+256<=z.length:=⟨nV,by omega⟩
 obtain ⟨t,ht⟩:∃ t,t=(s.push (.cells true z)).set s.size (.cells true dc):=⟨_,rfl⟩
 have st:aw 256 (Z (.ptr s.size 0)) (.v (.agg dc)) (s.push (.cells true z))=some (tt,t):=by
  simp only [aw,St.aq,if_pos hb]
  rw [show (V.agg dc).cells=dc from rfl,eD (by rw [hz,nV]),← ht]
 have g:Gr s t:=by
  rw [ht]
  exact ⟨St.wf_set (St.bu wf _) (by simp) _,by simp,fun b hb=>by rw [St.aj _ _ (by omega),St.aD _ _ (by omega)]⟩
 have gn:t.get s.size=some (.cells true dc):=by rw [ht];exact St.ar _ _ _
 have r1:=vi (l:=l) (d+1) gn hl
 have hl2:(ga l).length<=8000:=by
  have:(ga l).length<=l.length:=by
   unfold ga
   rw [List.length_reverse]
   have:=(List.dropWhile_sublist (p:=cM) (l:=l.reverse)).length_le
   simpa using this
  omega
 have r2:=yF (l:=ga l) (d+1) gn hl2
 have hd:¬ digits=[]:=by decide
 have hdl:(digits.length:Int)=10:=rfl
 refine ⟨t,?_,g⟩
 simp only [Nat.add_assoc,Nat.reduceAdd] at e1 r1 r2
 generalize R (d+3)=r at *
 generalize digits=dg at *
 simp [h0,hd,hdl,e1,ah,nw,st,r1,r2]
theorem ve (d:Nat) (wf:s.wf) (h0:l≠[]) (hl:l.length<=13) (hd:l.all cM=true):∃ t,R (d+1) 226 [Z (.str l),I .i64 10,I .i64 64] s=some (.eF [.s (.int .u64 (fy l)),.s .iT],t)/\Gr s t:=by
 rw [H9]
 unfold f226
 obtain ⟨t,ht⟩:∃ t,t=s.push (.cells false (U l)):=⟨_,rfl⟩
 have nw:aL s (qi (Z (.str l)))=some (Z (.sl s.size 0 l.length (.grown 1)),t):=by rw [ht];rfl
 have g:Gr s t:=by rw [ht];exact Gr.push wf _
 have rb:RB t (.sl s.size 0 l.length (.grown 1)) l:=⟨by simp,.inr ⟨s.size,0,_,false,U l,rfl,by rw [ht];exact St.aq _ _,by simp,by rw [List.drop_zero];exact List.take_of_length_le (by simp)⟩,rfl⟩
 have hv:=sH
 have hdg:∀ (k:Nat) (b:UInt8),l[k]? = some b->48<=b.toNat/\b.toNat<=57:=fun k b hb=>by
  rw [List.all_eq_true] at hd
  exact p8.1 (hd b (List.mem_of_getElem? hb))
 have hvt:∀ k,k<=13->fy (l.take k)<10000000000000:=fun k hk=>by
  have h1:=sH (l.take k).length (l.take k) rfl (by rw [List.all_eq_true] at hd ⊢;exact fun x hx=>hd x (List.mem_of_mem_take hx))
  have h2:10 ^ (l.take k).length<=10 ^ 13:=Nat.pow_le_pow_right (by omega) (by rw [List.length_take];omega)
  have h3:(10:Nat) ^ 13=10000000000000:=by decide
  omega
 obtain ⟨j,τ,lp,hj,ph⟩:=aV (f:=rY (R d) 8192) (fun q v u=>∃ k:Nat,q+k=l.length/\v=[I .i64 10,B false,Z (.str l),I .u64 1844674407370955162,I .u64 18446744073709551615,B false,I .u64 (fy (l.take k)),Z (.sl s.size 0 l.length (.grown 1)),I .i64 l.length,I .i64 k]/\u=t)
  (fun j u=>j = .exit 3 [Z (.str l),B false,I .u64 (fy l)]/\u=t) (by
  rintro q v u ⟨k,hk,rfl,rfl⟩
  by_cases eZ:k<l.length
  · left
    have hc:l[k]? = some l[k]:=List.getElem?_eq_getElem eZ
    obtain ⟨p,ix,ld⟩:=RB.En rb (n:=(k:Int)) rfl hc
    obtain ⟨d1,d2⟩:=hdg k _ hc
    have c0:(k:Int)<(l.length:Int):=by omega
    have w1:IntKind.i64.wrap ((k:Int)+1)=((k+1:Nat):Int):=by rw [aE _ (by omega) (by omega)];omega
    have YK:fy (l.take (k+1))=fy (l.take k)*10+(l[k].toNat-48):=by rw [List.take_add_one,hc,Option.toList_some,wY]
    have hb0:=hvt k (by omega)
    have uU:=hvt (k+1) (by omega)
    have k1:¬ ((l[k].toNat:Int)=95):=by omega
    have k2:(48:Int)<=(l[k].toNat:Int):=by omega
    have k3:(l[k].toNat:Int)<=57:=by omega
    obtain ⟨D,hD⟩:∃ D:Int,D=(l[k].toNat:Int)-48:=⟨_,rfl⟩
    have w8:IntKind.u8.wrap ((l[k].toNat:Int)-48)=D:=by
     have:=fP (l[k].toNat-48)
     rw [show (((l[k].toNat-48:Nat)):Int)=(l[k].toNat:Int)-48 by omega] at this
     rw [this,hD]
     omega
    have w10:IntKind.u8.wrap 10=10:=rfl
    have ZZ:IntKind.u64.wrap 10=10:=rfl
    have k4:¬ (10:Int)<=D:=by omega
    have k5:¬ (1844674407370955162:Int)<=(fy (l.take k):Int):=by omega
    have wm:IntKind.u64.wrap ((fy (l.take k):Int)*10)=(fy (l.take k):Int)*10:=cq _ (by omega) (by omega)
    have wd:IntKind.u64.wrap D=D:=cq _ (by omega) (by omega)
    have wa:IntKind.u64.wrap ((fy (l.take k):Int)*10+D)=(fy (l.take (k+1)):Int):=by
     rw [cq _ (by omega) (by omega),YK]
     omega
    have k6:¬ ((fy (l.take (k+1)):Int)<(fy (l.take k):Int)*10):=by omega
    have k7:¬ ((18446744073709551615:Int)<(fy (l.take (k+1)):Int)):=by omega
    refine ⟨[I .i64 10,B false,Z (.str l),I .u64 1844674407370955162,I .u64 18446744073709551615,B false,I .u64 (fy (l.take (k+1))),Z (.sl s.size 0 l.length (.grown 1)),I .i64 l.length,I .i64 ((k+1:Nat):Int)],u,q-1,?_,by omega,k+1,by omega,rfl,rfl⟩
    unfold rY
    generalize ((k+1:Nat):Int)=K1 at w1 ⊢
    generalize (fy (l.take (k+1)):Int)=V1 at wa k6 k7 ⊢
    generalize (fy (l.take k):Int)=V0 at k5 wm wa k6 ⊢
    generalize (l[k].toNat:Int)=C at ld k1 k2 k3 w8
    generalize (k:Int)=K at *
    generalize (l.length:Int)=L at *
    simp [c0,ix,ld,k1,k2,k3,w8,w10,ZZ,k4,k5,wm,wd,wa,k6,k7,w1]
  · right
    have hk':k=l.length:=by omega
    subst hk'
    refine ⟨.exit 3 [Z (.str l),B false,I .u64 (fy l)],u,?_,(fun v hv=>by cases hv),rfl,rfl⟩
    unfold rY
    rw [List.take_length]
    simp) 8192 l.length [I .i64 10,B false,Z (.str l),I .u64 1844674407370955162,I .u64 18446744073709551615,B false,I .u64 0,Z (.sl s.size 0 l.length (.grown 1)),I .i64 l.length,I .i64 0] t ⟨0,rfl,rfl,rfl⟩ (by omega)
 subst ph;subst hj
 refine ⟨τ,?_,g⟩
 have Z1:IntKind.u64.wrap 64=64:=rfl
 have sh:af .shl (I .u64 1) (I .u64 64)=some (I .u64 0):=by rfl
 have sb:IntKind.u64.wrap (-1)=18446744073709551615:=by rfl
 simp [h0,Z1,sh,sb,nw,lp,aQ,bK]
theorem ye (d:Nat) (wf:s.wf) (h0:l≠[]) (hl:l.length<=13) (hd:l.all cM=true):∃ t,R (d+3) 251 [Z (.str l),I .i64 10,I .i64 64] s=some (.eF [.s (.int .i64 (fy l)),.s .iT],t)/\Gr s t:=by
 obtain ⟨t,e,g⟩:=ve d wf h0 hl hd
 have hv:=sH l.length l rfl hd
 have Ra:10 ^ l.length<=10 ^ 13:=Nat.pow_le_pow_right (by omega) hl
 have h3:(10:Nat) ^ 13=10000000000000:=by decide
 have key:R (d+2) 185 [Z (.str l),I .i64 10,I .i64 64] s=some (.eF [.s (.int .i64 (fy l)),.s .iT],t):=by
  rw [HP]
  unfold f185
  obtain ⟨c,r,rfl⟩:∃ c r,l=c::r:=by cases l with
   | nil=>exact absurd rfl h0
   | cons c r=>exact ⟨c,r,rfl⟩
  have hat:dG (Z (.str (c::r))) (I .i64 0)=some (I .u8 c.toNat):=xo (j:=0) rfl rfl
  have hc:48<=c.toNat/\c.toNat<=57:=p8.1 (by simp at hd;exact hd.1)
  have k1:¬ ((c.toNat:Int)=43):=by omega
  have k2:¬ ((c.toNat:Int)=45):=by omega
  have n1:Bn .i (Z .iT) (Z .iT)=some (B false):=rfl
  have w63:IntKind.u64.wrap 63=63:=rfl
  have sh:af .shl (I .u64 1) (I .u64 63)=some (I .u64 9223372036854775808):=by rfl
  have k3:¬ ((9223372036854775808:Int)<=(fy (c::r):Int)):=by omega
  have wv:IntKind.i64.wrap (fy (c::r):Int)=(fy (c::r):Int):=aE _ (by omega) (by omega)
  have Z1:IntKind.i64.wrap 63=63:=rfl
  generalize (fy (c::r):Int)=V at *
  generalize (c.toNat:Int)=C at *
  generalize R (d+1)=rr at *
  simp [hat,k1,k2,e,ah,n1,w63,Z1,sh,k3,wv,aQ,bK]
 refine ⟨t,?_,g⟩
 rw [Ia]
 unfold f251
 have n1:Bn .i (Z .iT) (Z .iT)=some (B false):=rfl
 simp [key,ah,n1,aQ,bK]
theorem Cr (d:Nat) (wf:s.wf):∃ t,R (d+5) 223 [Z (.str l)] s=some (.eF [.s (.int .i64 (gQ l)),.s (.bool (dQ l))],t)/\Gr s t:=by
 rw [HY]
 unfold f223
 by_cases h1:1<=l.length
 · by_cases h2:l.length<=13
   · have hne:l≠[]:=fun e=>by rw [e] at h1;simp at h1
     obtain ⟨t,e1,g1⟩:=Ku d wf hne (by omega)
     have c1:¬ ((l.length:Int)<1):=by omega
     have c2:¬ ((13:Int)<(l.length:Int)):=by omega
     have uU:Nat.ble 1 l.length=true:=Nat.ble_eq_true_of_le h1
     have iE:Nat.ble l.length 13=true:=Nat.ble_eq_true_of_le h2
     by_cases hall:l.all cM=true
     · have rI:=(wX l).2 hall
       rw [rI] at e1
       obtain ⟨t2,e2,g2⟩:=ye (l:=l) (d+1) g1.wf hne h2 hall
       have hok:dQ l=true:=by simp [dQ,uU,iE,hall]
       have hv:gQ l=fy l:=by simp [gQ,hok]
       have n1:fT .i (Z .iT) (Z .iT)=some (B true):=rfl
       refine ⟨t2,?_,g1.trans g2⟩
       rw [hok,hv]
       simp only [digits] at e1
       generalize R (d+4)=r at *
       simp [c1,c2,e1,e2,ah,n1,aQ,bK]
     · have Yt:¬ ((ga l).dropWhile cM=[]):=fun e=>hall ((wX l).1 e)
       have hok:dQ l=false:=by simp only [dQ,uU,iE,Bool.true_and];simpa using hall
       have hv:gQ l=0:=by simp [gQ,hok]
       refine ⟨t,?_,g1⟩
       rw [hok,hv]
       simp only [digits] at e1
       generalize R (d+4)=r at *
       simp [c1,c2,e1,Yt,aQ,bK]
   · have c1:¬ ((l.length:Int)<1):=by omega
     have c2:(13:Int)<(l.length:Int):=by omega
     have hok:dQ l=false:=by
      have:Nat.ble l.length 13=false:=by
       rw [Bool.eq_false_iff]
       intro h
       exact h2 (Nat.le_of_ble_eq_true h)
      simp [dQ,this]
     have hv:gQ l=0:=by simp [gQ,hok]
     refine ⟨s,?_,Gr.refl wf⟩
     rw [hok,hv]
     simp [c1,c2,aQ,bK]
 · have c1:((l.length:Int)<1):=by omega
   have hok:dQ l=false:=by
    have:Nat.ble 1 l.length=false:=by
     rw [Bool.eq_false_iff]
     intro h
     exact h1 (Nat.le_of_ble_eq_true h)
    simp [dQ,this]
   have hv:gQ l=0:=by simp [gQ,hok]
   refine ⟨s,?_,Gr.refl wf⟩
   rw [hok,hv]
   simp [c1,aQ,bK]
end
structure rQ where
 a0:Int
 a1:Int
 a2:Int
 a3:Int
 c:Int
 n:Int
 deriving DecidableEq
def cP (p:rQ):List S:=[.int .i64 p.a0,.int .i64 p.a1,.int .i64 p.a2,.int .i64 p.a3,.int .i64 p.c,.int .i64 p.n]
abbrev AP (p:rQ):T := .v (.agg (cP p))
def cX:rQ:=⟨0,0,0,0,0,0⟩
def lj:rQ:=⟨60,600,6000,0,8,30⟩
def jI (n:Int):Bool:=decide (0<=n)&&decide (n<=1099511627776)
def ma (was n:Int):Bool:=decide (n=0)||(decide (was<=n) && !decide (was=0))
def nr (p:rQ):Bool:=jI p.a0&&(jI p.a1&&ma p.a0 p.a1)&&(jI p.a2&&ma p.a1 p.a2)&&(jI p.a3&&ma p.a2 p.a3)
def Ag (p:rQ):Bool:=nr p&&decide (p.a3=0)&&decide (1<=p.c)&&decide (p.c<=64)&&decide (1<=p.n)&&decide (p.n<=200)
section
variable {s t:St} {x y:S} {l:Bs} {i:Nat}
theorem mi {i:Nat} {vs:List S} {p:rQ} (h:s.get i=some (.cells true vs)) (hv:vs.length=6):aw 6 (Z (.ptr i 0)) (AP p) s=some (tt,s.set i (.cells true (cP p))):=by
 have hb:(V.agg (cP p)).cells.length=6/\0+6<=vs.length:=⟨rfl,by omega⟩
 simp only [aw,h,if_pos hb]
 rw [show (V.agg (cP p)).cells=cP p from rfl,eD (by rw [hv];rfl)]
theorem qS {i:Nat} {w:Bool} {p:rQ} {g:Mem} (h:g i=some (.cells w (cP p))):aH 6 (Z (.ptr i 0)) g=some (AP p):=by
 simp [aH,h,cP]
theorem K8:aU (aG [.int .i64 0,.int .i64 0,.int .i64 0,.int .i64 0,.int .i64 0,.int .i64 0] [])=some (AP cX):=rfl
theorem kN (b:Bool):gd tt b=some false:=rfl
theorem qF (d:Nat) (wf:s.wf):∃ t,R (d+1) 91 [] s=some (AP lj,t)/\Gr s t:=by
 rw [M5]
 unfold f91
 have e1:aU (aG [.int .i64 0,.int .i64 0,.int .i64 0,.int .i64 0] [(0,1,(I .i64 60)),(1,1,(I .i64 600)),(2,1,(I .i64 6000)),(3,1,(I .i64 0))])=some (.v (.agg [.int .i64 60,.int .i64 600,.int .i64 6000,.int .i64 0])):=rfl
 have e2:aU (aG [.int .i64 0,.int .i64 0,.int .i64 0,.int .i64 0,.int .i64 0,.int .i64 0] [(0,4,.v (.agg [.int .i64 60,.int .i64 600,.int .i64 6000,.int .i64 0])),(4,1,(I .i64 8)),(5,1,(I .i64 30))])=some (AP lj):=rfl
 obtain ⟨s1,hs1⟩:∃ s1,s1=s.push (.cells true (cP cX)):=⟨_,rfl⟩
 have nw:aL s (bb [.int .i64 0,.int .i64 0,.int .i64 0,.int .i64 0,.int .i64 0,.int .i64 0])=some (Z (.ptr s.size 0),s1):=by rw [hs1];rfl
 have h1:s1.get s.size=some (.cells true (cP cX)):=by rw [hs1];exact St.aq _ _
 obtain ⟨s2,lS⟩:∃ s2,s2=s1.set s.size (.cells true (cP lj)):=⟨_,rfl⟩
 have st:=mi (p:=lj) h1 rfl
 rw [← lS] at st
 have h2:s2.get s.size=some (.cells true (cP lj)):=by rw [lS];exact St.ar _ _ _
 have ld:=qS (g:=s2.get) h2
 refine ⟨s2,?_,?_⟩
 · simp [nw,e1,e2,st,ld,rC,aQ]
 · rw [lS,hs1]
   exact ⟨St.wf_set (St.bu wf _) (by simp) _,by simp,fun b hb=>by rw [St.aj _ _ (by omega),St.aD _ _ (by omega)]⟩
def je (p:rQ):Nat->Int
 | 0=>p.a0
 | 1=>p.a1
 | 2=>p.a2
 | _=>p.a3
def gl (p:rQ):Nat->Bool
 | 0=>jI p.a0
 | 1=>jI p.a1&&ma p.a0 p.a1
 | 2=>jI p.a2&&ma p.a1 p.a2
 | _=>jI p.a3&&ma p.a2 p.a3
theorem sU (p:rQ):nr p=true↔∀ j,j<4->gl p j=true:=by
 constructor
 · intro h j hj
   simp only [nr,Bool.and_eq_true] at h
   match j,hj with
   | 0,_=>exact h.1.1.1
   | 1,_=>simp only [gl,Bool.and_eq_true];exact h.1.1.2
   | 2,_=>simp only [gl,Bool.and_eq_true];exact h.1.2
   | 3,_=>simp only [gl,Bool.and_eq_true];exact h.2
 · intro h
   have h0:=h 0 (by omega)
   have h1:=h 1 (by omega)
   have h2:=h 2 (by omega)
   have h3:=h 3 (by omega)
   simp only [gl] at h0 h1 h2 h3
   simp only [nr,h0,h1,h2,h3,Bool.and_self]
theorem N4 (d:Nat) (wf:s.wf) (p:rQ):∃ t,R (d+1) 184 [AP p] s=some (B (Ag p),t)/\Gr s t:=by
 rw [HO]
 unfold f184
 obtain ⟨s1,hs1⟩:∃ s1,s1=s.push (.cells true (cP p)):=⟨_,rfl⟩
 have nw:aL s (cf (AP p))=some (Z (.ptr s.size 0),s1):=by rw [hs1];rfl
 have h1:s1.get s.size=some (.cells true (cP p)):=by rw [hs1];exact St.aq _ _
 have g:Gr s s1:=by rw [hs1];exact Gr.push wf _
 have l4:aH 4 (Z (.ptr s.size 0)) s1.get=some (.v (.agg [.int .i64 p.a0,.int .i64 p.a1,.int .i64 p.a2,.int .i64 p.a3])):=by simp [aH,h1,cP]
 have ld:∀ j,j<4->ab (Z (.ptr s.size j)) s1.get=some (I .i64 (je p j)):=fun j hj=>by
  match j,hj with
  | 0,_=>exact ai h1 rfl
  | 1,_=>exact ai h1 rfl
  | 2,_=>exact ai h1 rfl
  | 3,_=>exact ai h1 rfl
 have Ji:ab (Z (.ptr s.size 4)) s1.get=some (I .i64 p.c):=ai h1 rfl
 have WQ:ab (Z (.ptr s.size 5)) s1.get=some (I .i64 p.n):=ai h1 rfl
 have at4:∀ j,j<4->nh none 4 1 (.v (.agg [.int .i64 p.a0,.int .i64 p.a1,.int .i64 p.a2,.int .i64 p.a3])) (I .i64 (j:Nat))=some (I .i64 (je p j)):=fun j hj=>by
  match j,hj with
  | 0,_=>rfl
  | 1,_=>rfl
  | 2,_=>rfl
  | 3,_=>rfl
 have ix:∀ j:Nat,j<4->bz 4 1 (Z (.ptr s.size 0)) (I .i64 (j:Nat))=some (Z (.ptr s.size j)):=fun j hj=>by
  match j,hj with
  | 0,_=>rfl
  | 1,_=>rfl
  | 2,_=>rfl
  | 3,_=>rfl
 obtain ⟨j,τ,lp,hj,ph⟩:=aV (f:=gC (R d) 8192) (fun q v u=>∃ k:Nat,q+k=4/\v=[Z (.ptr s.size 0),.v (.agg [.int .i64 p.a0,.int .i64 p.a1,.int .i64 p.a2,.int .i64 p.a3]),I .i64 k]/\u=s1/\∀ j,j<k->gl p j=true)
  (fun j u=>(j = .exit 0 [Z (.ptr s.size 0)]/\nr p=true\/j = .ret (B false)/\nr p=false)/\u=s1) (by
  rintro q v u ⟨k,hk,rfl,rfl,hok⟩
  by_cases S3:k<4
  · have bad:gl p k=false->nr p=false:=fun h=>by
     rw [Bool.eq_false_iff]
     intro h2
     rw [(sU p).1 h2 k S3] at h
     cases h
    have next:gl p k=true->∀ j,j<k+1->gl p j=true:=fun h j hj=>by
     by_cases e:j=k
     · subst e;exact h
     · exact hok j (by omega)
    have c0:(k:Int)<4:=by omega
    have w1:IntKind.i64.wrap ((k:Int)+1)=((k+1:Nat):Int):=by rw [aE _ (by omega) (by omega)];omega
    have hat:=at4 k S3
    obtain ⟨a,ha⟩:∃ a,a=je p k:=⟨_,rfl⟩
    rw [← ha] at hat
    have zK:gl p k=(jI a&&(decide (k=0)||ma (je p (k-1)) a)):=by
     rw [ha]
     match k,S3 with
     | 0,_=>simp [gl,je]
     | 1,_=>simp [gl,je]
     | 2,_=>simp [gl,je]
     | 3,_=>simp [gl,je]
    by_cases c1:a<0
    · right
      have:gl p k=false:=by
       have:¬ 0<=a:=by omega
       rw [zK];simp [jI,this]
      refine ⟨.ret (B false),u,?_,(fun v hv=>by cases hv),.inr ⟨rfl,bad this⟩,rfl⟩
      unfold gC
      simp [c0,hat,c1]
    · by_cases c2:1099511627776<a
      · right
        have:gl p k=false:=by
         have:¬ a<=1099511627776:=by omega
         rw [zK];simp [jI,this]
        refine ⟨.ret (B false),u,?_,(fun v hv=>by cases hv),.inr ⟨rfl,bad this⟩,rfl⟩
        unfold gC
        simp [c0,hat,c1,c2]
      · have hA:jI a=true:=by
         have h1:0<=a:=by omega
         have h2:a<=1099511627776:=by omega
         simp [jI,h1,h2]
        by_cases k0:k=0
        · left
          have:gl p k=true:=by rw [zK];simp [hA,k0]
          refine ⟨[Z (.ptr s.size 0),.v (.agg [.int .i64 p.a0,.int .i64 p.a1,.int .i64 p.a2,.int .i64 p.a3]),I .i64 ((k+1:Nat):Int)],u,q-1,?_,by omega,k+1,by omega,rfl,rfl,next this⟩
          unfold gC
          subst k0
          have XJ:nh none 4 1 (.v (.agg [.int .i64 p.a0,.int .i64 p.a1,.int .i64 p.a2,.int .i64 p.a3])) (I .i64 0)=some (I .i64 a):=hat
          have w0:IntKind.i64.wrap 1=1:=rfl
          simp [XJ,c1,c2,w0]
        · obtain ⟨b,hb⟩:∃ b,b=je p (k-1):=⟨_,rfl⟩
          rw [← hb] at zK
          have P4:¬ (k:Int)=0:=by omega
          have w2:IntKind.i64.wrap ((k:Int)-1)=((k-1:Nat):Int):=by rw [aE _ (by omega) (by omega)];omega
          have I8:=ix (k-1) (by omega)
          have lW:=ld (k-1) (by omega)
          rw [← hb] at lW
          by_cases c3:a=0
          · left
            have:gl p k=true:=by rw [zK,hA];simp [ma,c3]
            refine ⟨[Z (.ptr s.size 0),.v (.agg [.int .i64 p.a0,.int .i64 p.a1,.int .i64 p.a2,.int .i64 p.a3]),I .i64 ((k+1:Nat):Int)],u,q-1,?_,by omega,k+1,by omega,rfl,rfl,next this⟩
            unfold gC
            subst c3
            generalize ((k+1:Nat):Int)=K1 at w1 ⊢
            generalize ((k-1:Nat):Int)=K0 at w2 I8
            generalize (k:Int)=K at *
            simp [c0,hat,P4,w2,I8,lW,w1,kN]
          · by_cases c4:a<b
            · right
              have:gl p k=false:=by
               have h1:¬ b<=a:=by omega
               rw [zK];simp [hA,ma,c3,h1,k0]
              refine ⟨.ret (B false),u,?_,(fun v hv=>by cases hv),.inr ⟨rfl,bad this⟩,rfl⟩
              unfold gC
              generalize ((k-1:Nat):Int)=K0 at w2 I8
              generalize (k:Int)=K at *
              simp [c0,hat,c1,c2,P4,w2,I8,lW,c3,c4]
            · by_cases c5:b=0
              · right
                have:gl p k=false:=by rw [zK];simp [hA,ma,c3,c5,k0]
                refine ⟨.ret (B false),u,?_,(fun v hv=>by cases hv),.inr ⟨rfl,bad this⟩,rfl⟩
                unfold gC
                generalize ((k-1:Nat):Int)=K0 at w2 I8
                generalize (k:Int)=K at *
                simp [c0,hat,c1,c2,P4,w2,I8,lW,c3,c4,c5]
              · left
                have:gl p k=true:=by
                 have h1:b<=a:=by omega
                 rw [zK];simp [hA,ma,h1,c5]
                refine ⟨[Z (.ptr s.size 0),.v (.agg [.int .i64 p.a0,.int .i64 p.a1,.int .i64 p.a2,.int .i64 p.a3]),I .i64 ((k+1:Nat):Int)],u,q-1,?_,by omega,k+1,by omega,rfl,rfl,next this⟩
                unfold gC
                generalize ((k+1:Nat):Int)=K1 at w1 ⊢
                generalize ((k-1:Nat):Int)=K0 at w2 I8
                generalize (k:Int)=K at *
                simp [c0,hat,c1,c2,P4,w2,I8,lW,c3,c4,c5,w1]
  · right
    have hk':k=4:=by omega
    subst hk'
    refine ⟨.exit 0 [Z (.ptr s.size 0)],u,?_,(fun v hv=>by cases hv),.inl ⟨rfl,(sU p).2 hok⟩,rfl⟩
    unfold gC
    simp) 8192 4 [Z (.ptr s.size 0),.v (.agg [.int .i64 p.a0,.int .i64 p.a1,.int .i64 p.a2,.int .i64 p.a3]),I .i64 0] s1 ⟨0,rfl,rfl,rfl,fun j hj=>by omega⟩ (by omega)
 subst ph
 refine ⟨τ,?_,g⟩
 have U2:bz 4 1 (Z (.ptr s.size 0)) (I .i64 3)=some (Z (.ptr s.size 3)):=rfl
 have U9:=ld 3 (by omega)
 generalize (T.v (.agg [.int .i64 p.a0,.int .i64 p.a1,.int .i64 p.a2,.int .i64 p.a3]))=L at l4 lp
 rcases hj with ⟨rfl,ha⟩ | ⟨rfl,ha⟩
 · have hm:Ag p=(decide (p.a3=0)&&decide (1<=p.c)&&decide (p.c<=64)&&decide (1<=p.n)&&decide (p.n<=200)):=by simp [Ag,ha]
   rw [hm]
   by_cases d1:p.a3=0
   · by_cases d2:1<=p.c
     · by_cases d3:p.c<=64
       · by_cases d4:1<=p.n
         · simp [nw,l4,lp,U2,U9,Ji,WQ,je,d1,d2,d3,d4]
         · simp [nw,l4,lp,U2,U9,Ji,WQ,je,d1,d2,d3,d4]
       · simp [nw,l4,lp,U2,U9,Ji,WQ,je,d1,d2,d3]
     · simp [nw,l4,lp,U2,U9,Ji,WQ,je,d1,d2]
   · simp [nw,l4,lp,U2,U9,je,d1]
 · have hm:Ag p=false:=by simp [Ag,ha]
   rw [hm]
   simp [nw,l4,lp]
def mn:List Bs:=[[114,97,119],[53,109],[49,104],[49,100]]
def kP:Bs:=[107,101,101,112]
def kQ:Bs:=[115,101,97,108]
def kR:Bs:=[115,112,97,110]
def vV:Bs:=[101,118,101,114]
theorem Fg (d:Nat) (wf:s.wf):∃ x t,R (d+1) 225 [] s=some (Z x,t)/\FT s t x mn:=by
 rw [H6]
 unfold f225
 refine ⟨.sl s.size 0 4 (.known 4),s.push (.cells true (cg mn)),?_,Fr.lit 1 wf rfl⟩
 simp [aL,aS,aG,V.cells,aO,cg,mn]
def yx (p:rQ) (k:Int) (n:Int):rQ :=
 if k=0 then { p with a0:=n } else if k=1 then { p with a1:=n } else if k=2 then { p with a2:=n } else { p with a3:=n }
def vY (p:rQ) (ws:List Bs):Option rQ :=
 let last:=ws.getD (ws.length-1) []
 if ws.getD 0 []=kP/\ws.length=3 then
  if xV (ws.getD 1 []) mn 0<0\/(dQ last=false/\ws.getD 2 []≠vV) then none else some (yx p (xV (ws.getD 1 []) mn 0) (gQ last))
 else if ws.getD 0 []=kQ/\ws.length=2/\dQ last=true then some { p with c:=gQ last }
 else if ws.getD 0 []=kR/\ws.length=2/\dQ last=true then some { p with n:=gQ last }
 else none
def Gu (i:Nat) (s t:St):Prop:=t.wf/\s.size<=t.size/\∀ b,b<s.size->b≠i->t.get b=s.get b
theorem Gr.but {s t:St} (h:Gr s t) (i:Nat):Gu i s t:=⟨h.1,h.2.1,fun b hb _=>h.2.2 b hb⟩
theorem Gu.trans {i:Nat} {a b c:St} (h:Gu i a b) (k:Gu i b c):Gu i a c:=⟨k.1,Nat.le_trans h.2.1 k.2.1,fun x hx hi=>by rw [k.2.2 x (Nat.lt_of_lt_of_le hx h.2.1) hi,h.2.2 x hx hi]⟩
theorem Gu.set {i:Nat} {s:St} (wf:s.wf) (hi:i<s.size) (b:dV):Gu i s (s.set i b):=⟨St.wf_set wf hi _,by simp,fun c hc hne=>St.aj _ _ hne⟩
theorem OO {p:rQ} {j:Nat} {n:Int} (hj:j<4):aO (cP p) j [.int .i64 n]=cP (yx p (j:Nat) n):=by
 match j,hj with
 | 0,_=>rfl
 | 1,_=>rfl
 | 2,_=>rfl
 | 3,_=>rfl
theorem Jk (d:Nat) (wf:s.wf) {p:rQ} {ws:List Bs} (hp:s.get i=some (.cells true (cP p))) (hx:RT s x ws) (eQ:∀ c,own x=some c->c<s.size/\c≠i) (hne:ws≠[]) (hl:ws.length<=100000) :
 ∃ t,R (d+6) 182 [Z (.ptr i 0),Z x] s=some (B (vY p ws).isSome,t)/\Gu i s t/\t.get i=some (.cells true (cP ((vY p ws).getD p))):=by
 rw [HM]
 unfold f182
 have hi:=wf.lt hp
 have hpos:0<ws.length:=by
  cases ws with
  | nil=>exact absurd rfl hne
  | cons _ _=>simp
 have at_:∀ (u:St),Gr s u->∀ j:Nat,j<ws.length->∃ q,av 1 (Z x) (I .i64 (j:Nat))=some q/\ab q u.get=some (Z (.str (ws.getD j []))):=fun u g j hj=>by
  have hx':RT u x ws:=hx.gr (fun c hc=>(eQ c hc).1) g
  exact RT.VT hx' rfl (by simp [List.getD,hj])
 have Xu:∀ (u v:St) j,j<ws.length->∀ q,av 1 (Z x) (I .i64 ((j:Nat):Int))=some q->Gr s u->ab q u.get=some (Z (.str (ws.getD j []))):=fun u v j hj q hq g=>by
  obtain ⟨q',h1,h2⟩:=at_ u g j hj
  rw [hq] at h1
  cases h1
  exact h2
 have hlen:=hx.lens
 have w1:IntKind.i64.wrap ((ws.length:Int)-1)=((ws.length-1:Nat):Int):=by rw [aE _ (by omega) (by omega)];omega
 obtain ⟨ql,Gd,E6⟩:=at_ s (Gr.refl wf) (ws.length-1) (by omega)
 obtain ⟨s1,e1,g1⟩:=Cr (l:=ws.getD (ws.length-1) []) d wf
 obtain ⟨last,lN⟩:∃ last,last=ws.getD (ws.length-1) []:=⟨_,rfl⟩
 rw [← lN] at E6 e1
 obtain ⟨q0,Gc,qN⟩:=at_ s1 g1 0 hpos
 obtain ⟨w0,KQ⟩:∃ w,w=ws.getD 0 []:=⟨_,rfl⟩
 rw [← KQ] at qN
 have hp1:s1.get i=some (.cells true (cP p)):=by rw [g1.2.2 i hi];exact hp
 have hi1:i<s1.size:=Nat.lt_of_lt_of_le hi g1.2.1
 have XW:vY p ws=if w0=kP/\ws.length=3 then
  if xV (ws.getD 1 []) mn 0<0\/(dQ last=false/\ws.getD 2 []≠vV) then none else some (yx p (xV (ws.getD 1 []) mn 0) (gQ last))
   else if w0=kQ/\ws.length=2/\dQ last=true then some { p with c:=gQ last }
   else if w0=kR/\ws.length=2/\dQ last=true then some { p with n:=gQ last } else none:=by rw [KQ,lN];rfl
 rw [XW]
 have k1:(Z (.str [107,101,101,112]):T)=Z (.str kP):=rfl
 have k2:(Z (.str [115,101,97,108]):T)=Z (.str kQ):=rfl
 have k3:(Z (.str [115,112,97,110]):T)=Z (.str kR):=rfl
 have k4:(Z (.str [101,118,101,114]):T)=Z (.str vV):=rfl
 rw [k1,k2,k3,k4]
 have rK:av 1 (Z x) (I .i64 0)=some q0:=Gc
 by_cases hk:w0=kP/\ws.length=3
 · rw [if_pos hk]
   obtain ⟨hk0,hk3⟩:=hk
   obtain ⟨y,s2,e2,f2⟩:=Fg (d+4) g1.wf
   have g2:=g1.trans f2.gr
   obtain ⟨q1,I8,lW⟩:=at_ s2 g2 1 (by omega)
   have E5:=Xu s1 s1 1 (by omega) q1 I8 g1
   obtain ⟨q2,ix2,Zg⟩:=at_ s2 g2 2 (by omega)
   obtain ⟨Gs,hw1⟩:∃ w,w=ws.getD 1 []:=⟨_,rfl⟩
   obtain ⟨Z0,IK⟩:∃ w,w=ws.getD 2 []:=⟨_,rfl⟩
   rw [← hw1] at lW E5 ⊢
   rw [← IK] at Zg ⊢
   have e3:=tO (v:=Gs) (d+4) f2.rd (by decide)
   have NP:av 1 (Z x) (I .i64 1)=some q1:=I8
   have U0:av 1 (Z x) (I .i64 2)=some q2:=ix2
   have hp2:s2.get i=some (.cells true (cP p)):=by rw [f2.gr.2.2 i hi1];exact hp1
   have c3:(ws.length:Int)=3:=by omega
   have ckk:decide (ab q1 s1.get=ab q1 s2.get)=true:=decide_eq_true (by rw [lW,E5])
   simp only [Nat.add_assoc,Nat.reduceAdd] at e2 e3
   generalize R (d+5)=r at *
   rcases vT Gs mn 0 with hx1 | ⟨j,Np,hj2,_⟩
   · rw [hx1] at e3 ⊢
     refine ⟨s2,?_,Gr.but g2 i,by simp;exact hp2⟩
     generalize ((ws.length-1:Nat):Int)=L1 at *
     have D6:IntKind.i64.wrap 2=L1:=by rw [c3] at w1;exact w1
     simp [hlen,D6,Gd,E6,e1,ah,rK,qN,hk0,c3,e2,NP,lW,E5,e3,kN]
   · rw [hj2] at e3 ⊢
     rw [Nat.zero_add] at e3 ⊢
     have c4:¬ ((j:Nat):Int)<0:=by omega
     have hj4:j<4:=Np
     by_cases jR:dQ last=false/\Z0≠vV
     · rw [if_pos (.inr jR)]
       refine ⟨s2,?_,Gr.but g2 i,by simp;exact hp2⟩
       generalize ((ws.length-1:Nat):Int)=L1 at *
       generalize ((j:Nat):Int)=J at *
       have D6:IntKind.i64.wrap 2=L1:=by rw [c3] at w1;exact w1
       simp [hlen,D6,Gd,E6,e1,ah,rK,qN,hk0,c3,e2,NP,lW,E5,e3,kN,c4,jR.1,U0,Zg,jR.2]
     · have hn:¬ (((j:Nat):Int)<0\/(dQ last=false/\Z0≠vV)):=fun h=>h.elim c4 jR
       rw [if_neg hn]
       obtain ⟨s3,kZ⟩:∃ s3,s3=s2.set i (.cells true (cP (yx p (j:Nat) (gQ last)))):=⟨_,rfl⟩
       have ixa:bz 4 1 (Z (.ptr i 0)) (I .i64 (j:Nat))=some (Z (.ptr i j)):=by
        match j,hj4 with
        | 0,_=>rfl
        | 1,_=>rfl
        | 2,_=>rfl
        | 3,_=>rfl
       have st:=aW (σ:=s2) (i:=i) (o:=j) (x := .int .i64 (gQ last)) hp2 (by simp [cP];omega)
       rw [OO hj4,← kZ] at st
       refine ⟨s3,?_,(Gr.but g2 i).trans (by rw [kZ];exact Gu.set (Gr.wf g2) (Nat.lt_of_lt_of_le hi g2.2.1) _),by rw [kZ];exact St.ar _ _ _⟩
       generalize ((ws.length-1:Nat):Int)=L1 at *
       generalize ((j:Nat):Int)=J at *
       have D6:IntKind.i64.wrap 2=L1:=by rw [c3] at w1;exact w1
       cases hno:dQ last with
       | true =>
         rw [hno] at e1
         simp [hlen,D6,Gd,E6,e1,ah,rK,qN,hk0,c3,e2,NP,lW,E5,e3,kN,c4,ixa,st]
       | false =>
         rw [hno] at e1
         have cW:Z0=vV:=by
          apply Classical.byContradiction
          intro h
          exact jR ⟨hno,h⟩
         simp [hlen,D6,Gd,E6,e1,ah,rK,qN,hk0,c3,e2,NP,lW,E5,e3,kN,c4,U0,Zg,cW,ixa,st]
 · rw [if_neg hk]
   have hkk:w0=kP->¬ (ws.length:Int)=3:=fun h h2=>hk ⟨h,by omega⟩
   by_cases hs:w0=kQ/\ws.length=2/\dQ last=true
   · rw [if_pos hs]
     obtain ⟨a1,a2,a3⟩:=hs
     have c2:(ws.length:Int)=2:=by omega
     have n1:¬ kQ=kP:=by decide
     have st:=aW (σ:=s1) (i:=i) (o:=4) (x := .int .i64 (gQ last)) hp1 (by simp [cP])
     refine ⟨s1.set i (.cells true (cP { p with c:=gQ last })),?_,(Gr.but g1 i).trans (Gu.set (Gr.wf g1) hi1 _),by simp⟩
     have gP:aO (cP p) 4 [.int .i64 (gQ last)]=cP { p with c:=gQ last }:=rfl
     rw [gP] at st
     rw [a3] at e1
     generalize R (d+5)=r at *
     generalize ((ws.length-1:Nat):Int)=L1 at *
     have D6:IntKind.i64.wrap 1=L1:=by rw [c2] at w1;exact w1
     simp [hlen,D6,Gd,E6,e1,ah,rK,qN,a1,n1,c2,st]
   · rw [if_neg hs]
     by_cases hq:w0=kR/\ws.length=2/\dQ last=true
     · rw [if_pos hq]
       obtain ⟨a1,a2,a3⟩:=hq
       have c2:(ws.length:Int)=2:=by omega
       have n1:¬ kR=kP:=by decide
       have n2:¬ kR=kQ:=by decide
       have st:=aW (σ:=s1) (i:=i) (o:=5) (x := .int .i64 (gQ last)) hp1 (by simp [cP])
       refine ⟨s1.set i (.cells true (cP { p with n:=gQ last })),?_,(Gr.but g1 i).trans (Gu.set (Gr.wf g1) hi1 _),by simp⟩
       have gP:aO (cP p) 5 [.int .i64 (gQ last)]=cP { p with n:=gQ last }:=rfl
       rw [gP] at st
       rw [a3] at e1
       generalize R (d+5)=r at *
       generalize ((ws.length-1:Nat):Int)=L1 at *
       have D6:IntKind.i64.wrap 1=L1:=by rw [c2] at w1;exact w1
       simp [hlen,D6,Gd,E6,e1,ah,rK,qN,a1,n1,n2,c2,st]
     · rw [if_neg hq]
       refine ⟨s1,?_,Gr.but g1 i,by simp;exact hp1⟩
       have YL:w0=kQ->(ws.length:Int)=2->dQ last=false:=fun h h2=>by
        cases hn:dQ last with
        | false=>rfl
        | true=>exact absurd ⟨h,by omega,hn⟩ hs
       have YE:w0=kR->(ws.length:Int)=2->dQ last=false:=fun h h2=>by
        cases hn:dQ last with
        | false=>rfl
        | true=>exact absurd ⟨h,by omega,hn⟩ hq
       generalize R (d+5)=r at *
       generalize ((ws.length-1:Nat):Int)=L1 at *
       have n1:¬ kQ=kP:=by decide
       have n2:¬ kR=kP:=by decide
       have n3:¬ kR=kQ:=by decide
       have n4:¬ kQ=kR:=by decide
       have n5:¬ kP=kR:=by decide
       have n6:¬ kP=kQ:=by decide
       by_cases b1:w0=kP
       · have c3:=hkk b1
         simp [hlen,w1,Gd,E6,e1,ah,rK,qN,b1,c3,n5,n6]
       · by_cases b2:w0=kQ
         · by_cases c2:(ws.length:Int)=2
           · have:=YL b2 c2
             have D6:IntKind.i64.wrap 1=L1:=by rw [c2] at w1;exact w1
             simp [hlen,D6,Gd,E6,e1,ah,rK,qN,b2,n1,n4,c2,this]
           · simp [hlen,w1,Gd,E6,e1,ah,rK,qN,b2,n1,n4,c2]
         · by_cases b3:w0=kR
           · by_cases c2:(ws.length:Int)=2
             · have:=YE b3 c2
               have D6:IntKind.i64.wrap 1=L1:=by rw [c2] at w1;exact w1
               simp [hlen,D6,Gd,E6,e1,ah,rK,qN,b3,n2,n3,c2,this]
             · simp [hlen,w1,Gd,E6,e1,ah,rK,qN,b3,n2,n3,c2]
           · simp [hlen,w1,Gd,E6,e1,ah,rK,qN,b1,b2,b3]
end
def bQ (x:Bs):List Bs:=(bJ 32 (x.takeWhile fun b => !Nat.beq b.toNat (35:UInt8).toNat)).filter fun w => !decide (w=[])
def gD:rQ->List Bs->Nat->List Bs->rQ×Int×Int
 | p,_,_,[]=>if Ag p then (p,0,0) else (cX,5,0)
 | p,seen,k,x::r=>if bQ x=[] then gD p seen (k+1) r else
   match vY p (bQ x) with
   | none=>(cX,4,k+1)
   | some p'=>if gX [32] (bQ x).dropLast∈seen then (cX,4,k+1) else gD p' (seen++[gX [32] (bQ x).dropLast]) (k+1) r
def fI (l:Bs):rQ×Int×Int:=gD lj [] 0 (bJ 10 l)
section
variable {s t:St} {x y:S} {l:Bs} {i:Nat}
theorem Ba (x:Bs):(bQ x).length<=x.length+1:=by
 unfold bQ
 refine Nat.le_trans (List.length_filter_le _ _) ?_
 rw [gx]
 have h1:=mq 32 (x.takeWhile fun b => !Nat.beq b.toNat (35:UInt8).toNat)
 have h2:=(List.takeWhile_sublist (p:=fun b:UInt8 => !Nat.beq b.toNat (35:UInt8).toNat) (l:=x)).length_le
 omega
theorem nf:∀ {a b:List Bs},a.Sublist b->cT a<=cT b:=by
 intro a b h
 induction h with
 | slnil=>exact Nat.le_refl _
 | cons x _ ih=>simp only [cT];omega
 | cons_cons x _ ih=>simp only [cT];omega
theorem vk (x:Bs):cT (bQ x).dropLast<=x.length:=by
 have h1:=nf (List.dropLast_sublist (bQ x))
 have h2:=nf (List.filter_sublist (l:=bJ 32 (x.takeWhile fun b => !Nat.beq b.toNat (35:UInt8).toNat)) (p:=fun w => !decide (w=[])))
 have h3:cT (bJ 32 (x.takeWhile fun b => !Nat.beq b.toNat (35:UInt8).toNat))<=(x.takeWhile fun b => !Nat.beq b.toNat (35:UInt8).toNat).length:=by rw [oY];exact nJ _ _
 have h4:=(List.takeWhile_sublist (p:=fun b:UInt8 => !Nat.beq b.toNat (35:UInt8).toNat) (l:=x)).length_le
 unfold bQ at h1 ⊢
 exact Nat.le_trans h1 (Nat.le_trans h2 (Nat.le_trans h3 h4))
theorem C1 (r:ak) (v0 v1 v2 v3 v5 v6 v7:T) {ps:List Bs} (hx:RT s x ps) (eQ:∀ c,own x=some c->c<s.size) (wf:s.wf) (hl:ps.length<=8001) :
 ∃ (y:S) (τ:St),loops (mv r 8192) 8192 [v0,v1,v2,v3,Z .ay,v5,v6,v7,Z x,I .i64 ps.length,I .i64 0] s=some (.exit 2 [v0,v1,v2,v3,Z y,v5,v6,v7],τ)/\FT s τ y (ps.filter fun w => !decide (w=[])):=by
 obtain ⟨j,τ,lp,y,rfl,hf⟩:=aV (f:=mv r 8192) (fun q v u=>∃ (k:Nat) (y:S),q+k=ps.length/\v=[v0,v1,v2,v3,Z y,v5,v6,v7,Z x,I .i64 ps.length,I .i64 k]/\FT s u y ((ps.take k).filter fun w => !decide (w=[])))
  (fun j u=>∃ y,j = .exit 2 [v0,v1,v2,v3,Z y,v5,v6,v7]/\FT s u y (ps.filter fun w => !decide (w=[]))) (by
  rintro q v u ⟨k,y,hk,rfl,hf⟩
  by_cases eZ:k<ps.length
  · left
    have hc:ps[k]? = some ps[k]:=List.getElem?_eq_getElem eZ
    have hx':RT u x ps:=hx.gr eQ hf.gr
    obtain ⟨p,ix,ld⟩:=RT.VT hx' (n:=(k:Int)) rfl hc
    have c0:(k:Int)<(ps.length:Int):=by omega
    have w1:IntKind.i64.wrap ((k:Int)+1)=((k+1:Nat):Int):=by rw [aE _ (by omega) (by omega)];omega
    have lh:ps.take (k+1)=ps.take k++[ps[k]]:=by rw [List.take_add_one,hc];rfl
    by_cases he:ps[k]=[]
    · refine ⟨[v0,v1,v2,v3,Z y,v5,v6,v7,Z x,I .i64 ps.length,I .i64 ((k+1:Nat):Int)],u,q-1,?_,by omega,k+1,y,by omega,rfl,?_⟩
      · unfold mv
        rw [he] at ld
        generalize ((k+1:Nat):Int)=K1 at w1 ⊢
        generalize (k:Int)=K at *
        simp [c0,ix,ld,w1]
      · rw [lh,List.filter_append,he]
        simpa using hf
    · have hlen:((ps.take k).filter fun w => !decide (w=[])).length<=1000000:=by
       refine Nat.le_trans (List.length_filter_le _ _) ?_
       rw [List.length_take]
       omega
      obtain ⟨y',t,⟨s',nw,ap⟩,Cb,_⟩:=FT.lit (c:=ps[k]) hf hlen
      refine ⟨[v0,v1,v2,v3,Z y',v5,v6,v7,Z x,I .i64 ps.length,I .i64 ((k+1:Nat):Int)],t,q-1,?_,by omega,k+1,y',by omega,rfl,?_⟩
      · unfold mv
        generalize ((k+1:Nat):Int)=K1 at w1 ⊢
        generalize (k:Int)=K at *
        simp [c0,ix,ld,he,nw,ap,w1]
      · rw [lh,List.filter_append]
        simpa [he] using Cb
  · right
    have hk':k=ps.length:=by omega
    subst hk'
    refine ⟨.exit 2 [v0,v1,v2,v3,Z y,v5,v6,v7],u,?_,(fun v hv=>by cases hv),y,rfl,by rwa [List.take_length] at hf⟩
    unfold mv
    simp) 8192 ps.length [v0,v1,v2,v3,Z .ay,v5,v6,v7,Z x,I .i64 ps.length,I .i64 0] s ⟨0,.ay,by omega,rfl,by simpa [FT,cg] using Fr.nil 1 wf⟩ (by omega)
 exact ⟨y,τ,lp,hf⟩
theorem wB (d:Nat) (wf:s.wf) (hl:l.length<=8000):∃ t,R (d+7) 137 [Z (.str l)] s=some (.eF [.agg (cP (fI l).1),.s (.int .i64 (fI l).2.1),.s (.int .i64 (fI l).2.2)],t)/\Gr s t:=by
 rw [Hr]
 unfold f137
 obtain ⟨s1,hs1⟩:∃ s1,s1=s.push (.cells true (cP cX)):=⟨_,rfl⟩
 have g1:Gr s s1:=by rw [hs1];exact Gr.push wf _
 have z1:s1.size=s.size+1:=by rw [hs1];rfl
 have Pk:s1.get s.size=some (.cells true (cP cX)):=by rw [hs1];exact St.aq _ _
 have cZ:aL s (bb [.int .i64 0,.int .i64 0,.int .i64 0,.int .i64 0,.int .i64 0,.int .i64 0])=some (Z (.ptr s.size 0),s1):=by rw [hs1];rfl
 obtain ⟨s2,e2,g2⟩:=qF (d+5) g1.wf
 obtain ⟨s3,kZ⟩:∃ s3,s3=s2.push (.cells true (cP cX)):=⟨_,rfl⟩
 have g3:Gr s2 s3:=by rw [kZ];exact Gr.push g2.wf _
 have Cs:aL s2 (bb [.int .i64 0,.int .i64 0,.int .i64 0,.int .i64 0,.int .i64 0,.int .i64 0])=some (Z (.ptr s2.size 0),s3):=by rw [kZ];rfl
 have YA:s3.get s2.size=some (.cells true (cP cX)):=by rw [kZ];exact St.aq _ _
 have z3:s3.size=s2.size+1:=by rw [kZ];rfl
 obtain ⟨s4,hs4⟩:∃ s4,s4=s3.set s2.size (.cells true (cP lj)):=⟨_,rfl⟩
 have KW:=mi (p:=lj) YA rfl
 rw [← hs4] at KW
 have f4:s4.wf:=by rw [hs4];exact St.wf_set g3.wf (by omega) _
 have z4:s4.size=s2.size+1:=by rw [hs4];simpa using z3
 have hp4:s4.get s2.size=some (.cells true (cP lj)):=by rw [hs4];exact St.ar _ _ _
 have Vg:∀ b,b<s2.size->s4.get b=s2.get b:=fun b hb=>by rw [hs4,St.aj _ _ (by omega),g3.2.2 b hb]
 have hle2:s.size+1<=s2.size:=by have:=g2.2.1;omega
 have WA:s4.get s.size=some (.cells true (cP cX)):=by rw [Vg _ (by omega),g2.2.2 _ (by omega)];exact Pk
 have Vh:∀ b,b<s.size->s4.get b=s.get b:=fun b hb=>by rw [Vg b (by omega),g2.2.2 b (by omega),g1.2.2 b hb]
 obtain ⟨x,s5,e5,f5⟩:=wP (l:=l) (c:=10) (d+3) f4 hl
 obtain ⟨ps,hps⟩:∃ ps,ps=bJ 10 l:=⟨_,rfl⟩
 rw [← hps] at f5
 have XS:ps.length<=8001:=by rw [hps,gx];have:=mq 10 l;omega
 have gG:∀ w∈ps,w.length<=8000:=fun w hw=>by have:=CQ 10 l w (by rw [← hps];exact hw);omega
 have Nz:fI l=gD lj [] 0 ps:=by rw [hps];rfl
 rw [Nz]
 obtain ⟨rp,WB⟩:∃ rp,rp=s.size:=⟨_,rfl⟩
 obtain ⟨pp,hpp⟩:∃ pp,pp=s2.size:=⟨_,rfl⟩
 rw [← WB] at cZ WA
 rw [← hpp] at Cs KW hp4
 obtain ⟨j,τ,lp,hj⟩:=aV (f:=kj (R (d+6)) 8192)
  (fun q v u=>∃ (k:Nat) (p:rQ) (y:S) (seen:List Bs),q+k=ps.length/\v=[Z (.ptr rp 0),Z (.ptr pp 0),Z y,Z x,I .i64 ps.length,I .i64 k]/\u.wf/\s5.size<=u.size/\u.get rp=some (.cells true (cP cX))/\u.get pp=some (.cells true (cP p)) ∧
   (∀ b,b<s5.size->b≠pp->u.get b=s5.get b)/\Ow 1 u y seen.length (cg seen)/\(∀ c,own y=some c->s5.size<=c/\c<u.size)/\seen.length<=k/\gD p seen k (ps.drop k)=gD lj [] 0 ps)
  (fun j u=>u.wf/\s5.size<=u.size/\(∀ b,b<s5.size->b≠pp->b≠rp->u.get b=s5.get b) ∧
   ((∃ p,j = .exit 0 [Z (.ptr rp 0),Z (.ptr pp 0)]/\u.get rp=some (.cells true (cP cX))/\u.get pp=some (.cells true (cP p))/\gD lj [] 0 ps=if Ag p then (p,0,0) else (cX,5,0)) ∨
    ∃ k:Nat,j = .ret (.eF [.agg (cP cX),.s (.int .i64 4),.s (.int .i64 ((k+1:Nat):Int))])/\gD lj [] 0 ps=(cX,4,(k:Int)+1))) (by
  rintro q v u ⟨k,p,y,seen,hk,rfl,Z6,WH,hru,YC,Yx,hy,hyo,uK,oA⟩
  have hne:rp≠pp:=by omega
  have YH:rp<s5.size:=by have:=f5.gr.2.1;omega
  have YB:pp<s5.size:=by have:=f5.gr.2.1;omega
  by_cases eZ:k<ps.length
  · have hc:ps[k]? = some ps[k]:=List.getElem?_eq_getElem eZ
    have m6:ps.drop k=ps[k]::ps.drop (k+1):=List.drop_eq_getElem_cons eZ
    obtain ⟨w,hw⟩:∃ w,w=ps[k]:=⟨_,rfl⟩
    rw [← hw] at hc m6
    rw [m6] at oA
    have Pr:w.length<=8000:=gG w (List.mem_of_getElem? hc)
    have hx':RT u x ps:=f5.rd.keep fun c gO=>Yx c (f5.new c gO).2 (by have:=(f5.new c gO).1;omega)
    obtain ⟨pi,ix,ld⟩:=RT.VT hx' (n:=(k:Int)) rfl hc
    have c0:(k:Int)<(ps.length:Int):=by omega
    have w1:IntKind.i64.wrap ((k:Int)+1)=((k+1:Nat):Int):=by rw [aE _ (by omega) (by omega)];omega
    have ec:=Li (s:=u) (l:=w) (c:=35) (d+3) (by omega)
    obtain ⟨cw,XT⟩:∃ cw,cw=w.takeWhile fun b => !Nat.beq b.toNat (35:UInt8).toNat:=⟨_,rfl⟩
    rw [← XT] at ec
    have jy:cw.length<=w.length:=by rw [XT];exact (List.takeWhile_sublist _).length_le
    obtain ⟨x2,u2,es,fs⟩:=wP (l:=cw) (c:=32) (d+3) Z6 (by omega)
    have hl2:(bJ 32 cw).length<=8001:=by rw [gx];have:=mq 32 cw;omega
    have Nr:=fs.rd.lens
    obtain ⟨y3,u3,KT,f3⟩:=C1 (R (d+6)) (Z (.ptr rp 0)) (Z (.ptr pp 0)) (Z y) (I .i64 k) (Z x) (I .i64 ps.length) (I .i64 k) fs.rd (fun c gO=>(fs.new c gO).2) fs.gr.wf hl2
    have vR:((bJ 32 cw).filter fun w => !decide (w=[]))=bQ w:=by rw [XT];rfl
    rw [vR] at f3
    have g23:Gr u u3:=fs.gr.trans f3.gr
    have UE:u3.get rp=some (.cells true (cP cX)):=by rw [g23.2.2 rp (by omega)];exact hru
    have UA:u3.get pp=some (.cells true (cP p)):=by rw [g23.2.2 pp (by omega)];exact YC
    have Uu:∀ b,b<s5.size->b≠pp->u3.get b=s5.get b:=fun b hb iE=>by rw [g23.2.2 b (by omega)];exact Yx b hb iE
    have WC:Ow 1 u3 y seen.length (cg seen):=hy.gr Z6 g23
    have IP:∀ c,own y=some c->s5.size<=c/\c<u3.size:=fun c gO=>⟨(hyo c gO).1,Nat.lt_of_lt_of_le (hyo c gO).2 g23.2.1⟩
    have UW:s5.size<=u3.size:=Nat.le_trans WH g23.2.1
    have S5:=f3.rd.lens
    simp only [Nat.add_assoc,Nat.reduceAdd] at ec es KT
    by_cases rI:bQ w=[]
    · left
      rw [rI] at S5
      refine ⟨[Z (.ptr rp 0),Z (.ptr pp 0),Z y,Z x,I .i64 ps.length,I .i64 ((k+1:Nat):Int)],u3,q-1,?_,by omega,k+1,p,y,seen,by omega,rfl,g23.wf,UW,UE,UA,Uu,WC,IP,by omega,?_⟩
      · unfold kj
        generalize R (d+6)=r at *
        generalize ((k+1:Nat):Int)=K1 at w1 ⊢
        generalize (k:Int)=K at *
        generalize ((bJ 32 cw).length:Int)=SL at *
        simp [c0,ix,ld,ec,ah,es,Nr,KT,S5,w1]
      · rw [← oA]
        show _=(if bQ w=[] then _ else _)
        rw [if_pos rI]
    · -- a line that says Tk
      obtain ⟨n,hn⟩:∃ n,(bQ w).length=n+1:=by
       cases hq:bQ w with
       | nil=>exact absurd hq rI
       | cons a b=>exact ⟨b.length,rfl⟩
      have Dy:(bQ w).length<=8001:=Nat.le_trans (Ba w) (by omega)
      rw [hn] at S5
      have cl:¬ (((n+1:Nat):Int)=0):=by omega
      have wl:IntKind.i64.wrap (((n+1:Nat):Int)-1)=((n:Nat):Int):=by rw [aE _ (by omega) (by omega)];omega
      obtain ⟨y4,pc,rd4,aaE⟩:=f3.rd.upto (hi:=n) (by omega)
      have lh:(cg (bQ w)).take (n*1)=cg (bQ w).dropLast:=by rw [Nat.mul_one,FM,List.dropLast_eq_take,hn,Nat.add_sub_cancel]
      have hdl:(bQ w).dropLast.length=n:=by rw [List.length_dropLast,hn,Nat.add_sub_cancel]
      rw [lh] at rd4
      have ZR:RT u3 y4 (bQ w).dropLast:=by unfold RT;rw [hdl];exact rd4
      have ej:R (d+6) 181 [Z y4,Z (.str [32])] u3=some (Z (.str (gX [32] (bQ w).dropLast)),u3):=dU (Fp ZR (by have:=vk w;simp;omega) (by omega))
      obtain ⟨said,Pn⟩:∃ said,said=gX [32] (bQ w).dropLast:=⟨_,rfl⟩
      rw [← Pn] at ej
      have YF:RT u3 y3 (bQ w):=f3.rd
      obtain ⟨u4,e4,b4,Uv⟩:=Jk (i:=pp) d g23.wf (ws:=bQ w) UA YF (fun c gO=>⟨(f3.new c gO).2,by have:=(f3.new c gO).1;have:=fs.gr.2.1;omega⟩) rI (by omega)
      have YW:s5.size<=u4.size:=Nat.le_trans UW b4.2.1
      have RH:u4.get rp=some (.cells true (cP cX)):=by rw [b4.2.2 rp (by omega) hne];exact UE
      have RG:∀ b,b<s5.size->b≠pp->u4.get b=s5.get b:=fun b hb iE=>by rw [b4.2.2 b (by omega) iE];exact Uu b hb iE
      have UR:Ow 1 u4 y seen.length (cg seen):=WC.keep fun c gO=>b4.2.2 c (IP c gO).2 (by have:=(IP c gO).1;omega)
      have UT:∀ c,own y=some c->s5.size<=c/\c<u4.size:=fun c gO=>⟨(IP c gO).1,Nat.lt_of_lt_of_le (IP c gO).2 b4.2.1⟩
      have G8:=uQ (s:=u4) (x:=y) (ws:=seen) (v:=said) (d+4) UR.rd (by omega)
      have Cc:(match vY p (bQ w) with
       | none=>(cX,4,(k:Int)+1)
       | some p'=>if said∈seen then (cX,4,(k:Int)+1) else gD p' (seen++[said]) (k+1) (ps.drop (k+1)))=gD lj [] 0 ps:=by
       rw [← oA]
       show _=(if bQ w=[] then _ else _)
       rw [if_neg rI,Pn]
      have D3:∀ u':St,u'.get rp=some (.cells true (cP cX))->aw 6 (Z (.ptr rp 0)) (AP cX) u'=some (tt,u'.set rp (.cells true (cP cX))):=fun u' h=>mi h rfl
      have Jl:∀ u':St,aH 6 (Z (.ptr rp 0)) (u'.set rp (.cells true (cP cX))).get=some (AP cX):=fun u'=>qS (St.ar _ _ _)
      simp only [Nat.add_assoc,Nat.reduceAdd] at e4 G8
      cases hlp:vY p (bQ w) with
      | none =>
        right
        rw [hlp] at e4 Cc
        simp only [Option.isSome_none] at e4
        refine ⟨.ret (.eF [.agg (cP cX),.s (.int .i64 4),.s (.int .i64 ((k+1:Nat):Int))]),u4.set rp (.cells true (cP cX)),?_,(fun v hv=>by cases hv),St.wf_set b4.1 (by omega) _,by simpa using YW,fun b hb h1 h2=>by rw [St.aj _ _ h2];exact RG b hb h1,.inr ⟨k,rfl,Cc.symm⟩⟩
        unfold kj
        have sr:=D3 u4 RH
        have lr:=Jl u4
        generalize u4.set rp (.cells true (cP cX))=u5 at *
        generalize R (d+6)=r at *
        generalize ((k+1:Nat):Int)=K1 at w1 ⊢
        generalize (k:Int)=K at *
        generalize ((bJ 32 cw).length:Int)=SL at *
        generalize ((n+1:Nat):Int)=N1 at *
        generalize ((n:Nat):Int)=N0 at *
        simp [c0,ix,ld,ec,ah,es,Nr,KT,S5,cl,wl,pc,ej,e4,kN,K8,sr,lr,w1,rC,rT,aQ,bK]
      | some p' =>
        rw [hlp] at e4 Cc Uv
        simp only [Option.isSome_some] at e4
        by_cases hin:said∈seen
        · right
          simp only [if_pos hin] at Cc
          rw [decide_eq_true hin] at G8
          refine ⟨.ret (.eF [.agg (cP cX),.s (.int .i64 4),.s (.int .i64 ((k+1:Nat):Int))]),u4.set rp (.cells true (cP cX)),?_,(fun v hv=>by cases hv),St.wf_set b4.1 (by omega) _,by simpa using YW,fun b hb h1 h2=>by rw [St.aj _ _ h2];exact RG b hb h1,.inr ⟨k,rfl,Cc.symm⟩⟩
          unfold kj
          have sr:=D3 u4 RH
          have lr:=Jl u4
          generalize u4.set rp (.cells true (cP cX))=u5 at *
          generalize R (d+6)=r at *
          generalize ((k+1:Nat):Int)=K1 at w1 ⊢
          generalize (k:Int)=K at *
          generalize ((bJ 32 cw).length:Int)=SL at *
          generalize ((n+1:Nat):Int)=N1 at *
          generalize ((n:Nat):Int)=N0 at *
          simp [c0,ix,ld,ec,ah,es,Nr,KT,S5,cl,wl,pc,ej,e4,G8,K8,sr,lr,w1,rC,rT,aQ,bK]
        · left
          simp only [if_neg hin] at Cc
          rw [decide_eq_false hin] at G8
          have uV:Fr 1 u4 u4 y seen.length (cg seen)->True:=fun _=>trivial
          have L:=Fr.lit 1 b4.1 (n:=1) (vs:=cg [said]) (by simp)
          obtain ⟨y5,u5,ap,wf5,z5,ow5,Zw,Zs⟩:=(UR.gr b4.1 L.gr).append (by_:=16) L.gr.wf (by omega) L.rd.src (by simp) (by omega)
          have nw:aL u4 (aS 1 (aG [.str []] [(0,1,Z (.str said))]))=some (Z (.sl u4.size 0 1 (.known 1)),u4.push (.cells true (cg [said]))):=by simp [aL,aS,aG,V.cells,aO,cg]
          have zl:u4.size<(u4.push (.cells true (cg [said]))).size:=by simp
          have Jh:∀ b,b<s5.size->u5.get b=u4.get b:=fun b hb=>by
           rw [Zw b (by omega) (fun e=>by have:=(UT b e).1;omega),L.gr.2.2 b (by omega)]
          refine ⟨[Z (.ptr rp 0),Z (.ptr pp 0),Z y5,Z x,I .i64 ps.length,I .i64 ((k+1:Nat):Int)],u5,q-1,?_,by omega,k+1,p',y5,seen++[said],by omega,rfl,wf5,by omega,by rw [Jh rp YH];exact RH,by rw [Jh pp YB];exact Uv,
           fun b hb h1=>by rw [Jh b hb];exact RG b hb h1,by rw [jr,List.length_append];exact ow5,fun c gO => ?_,by simp;omega,by rw [Cc]⟩
          · unfold kj
            generalize u4.push (.cells true (cg [said]))=u6 at *
            generalize R (d+6)=r at *
            generalize ((k+1:Nat):Int)=K1 at w1 ⊢
            generalize (k:Int)=K at *
            generalize ((bJ 32 cw).length:Int)=SL at *
            generalize ((n+1:Nat):Int)=N1 at *
            generalize ((n:Nat):Int)=N0 at *
            simp [c0,ix,ld,ec,ah,es,Nr,KT,S5,cl,wl,pc,ej,e4,G8,nw,ap,w1]
          · have hlt:=ow5.lt wf5 gO
            rcases Zs with e | e | ⟨c',e,hc2⟩
            · rw [e] at gO;cases gO
            · rw [e] at gO;exact ⟨(UT c gO).1,hlt⟩
            · rw [e] at gO;cases gO;exact ⟨by omega,hlt⟩
  · right
    have hk':k=ps.length:=by omega
    refine ⟨.exit 0 [Z (.ptr rp 0),Z (.ptr pp 0)],u,?_,(fun v hv=>by cases hv),Z6,WH,fun b hb h1 h2=>Yx b hb h1,.inl ⟨p,rfl,hru,YC,?_⟩⟩
    · have c0:¬ (k:Int)<(ps.length:Int):=by omega
      unfold kj
      simp [c0]
    · rw [← oA,List.drop_eq_nil_of_le (by omega)]
      rfl) 8192 ps.length [Z (.ptr rp 0),Z (.ptr pp 0),Z .ay,Z x,I .i64 ps.length,I .i64 0] s5
  ⟨0,lj,.ay,[],by omega,rfl,f5.gr.wf,Nat.le_refl _,by rw [f5.gr.2.2 rp (by omega)];exact WA,by rw [f5.gr.2.2 pp (by omega)];exact hp4,fun b hb h1=>rfl,by simpa [cg] using Ow.nil 1 s5,(fun c hc=>by cases hc),by simp,rfl⟩ (by omega)
 have Iw:=f5.rd.lens
 simp only [Nat.add_assoc,Nat.reduceAdd] at e2 e5
 obtain ⟨FW,zτ,Vi,zL⟩:=hj
 have h45:=f5.gr.2.1
 have JA:∀ b,b<s.size->τ.get b=s.get b:=fun b hb=>by rw [Vi b (by omega) (by omega) (by omega),f5.gr.2.2 b (by omega)];exact Vh b hb
 rcases zL with ⟨p,rfl,YI,UB,hres⟩ | ⟨k,rfl,hres⟩
 · have lp6:=qS (g:=τ.get) UB
   obtain ⟨s6,em,g6⟩:=N4 (d+5) FW p
   have hr6:s6.get rp=some (.cells true (cP cX)):=by rw [g6.2.2 rp (by omega)];exact YI
   have hp6:s6.get pp=some (.cells true (cP p)):=by rw [g6.2.2 pp (by omega)];exact UB
   have ld6:=qS (g:=s6.get) hp6
   have Px:∀ b,b<s.size->s6.get b=s.get b:=fun b hb=>by rw [g6.2.2 b (by omega)];exact JA b hb
   have hsz:s.size<=s6.size:=by have:=g6.2.1;omega
   have aaB:rp<s6.size:=by have:=g6.2.1;omega
   cases hm:Ag p with
   | true =>
     rw [hm] at em hres
     rw [hres]
     have AO:=mi (p:=p) hr6 rfl
     obtain ⟨s7,fQ⟩:∃ s7,s7=s6.set rp (.cells true (cP p)):=⟨_,rfl⟩
     rw [← fQ] at AO
     have Zh:aH 6 (Z (.ptr rp 0)) s7.get=some (AP p):=qS (by rw [fQ];exact St.ar _ _ _)
     refine ⟨s7,?_,by rw [fQ];exact St.wf_set g6.wf (by omega) _,by rw [fQ];simpa using hsz,fun b hb=>by rw [fQ,St.aj _ _ (by omega)];exact Px b hb⟩
     generalize R (d+6)=r at *
     generalize (ps.length:Int)=PL at *
     simp [cZ,e2,Cs,KW,e5,Iw,lp,lp6,em,ld6,AO,Zh,rC,rT,aQ,bK]
   | false =>
     rw [hm] at em hres
     rw [hres]
     have AO:=mi (p:=cX) hr6 rfl
     obtain ⟨s7,fQ⟩:∃ s7,s7=s6.set rp (.cells true (cP cX)):=⟨_,rfl⟩
     rw [← fQ] at AO
     have Zh:aH 6 (Z (.ptr rp 0)) s7.get=some (AP cX):=qS (by rw [fQ];exact St.ar _ _ _)
     refine ⟨s7,?_,by rw [fQ];exact St.wf_set g6.wf (by omega) _,by rw [fQ];simpa using hsz,fun b hb=>by rw [fQ,St.aj _ _ (by omega)];exact Px b hb⟩
     generalize R (d+6)=r at *
     generalize (ps.length:Int)=PL at *
     simp [cZ,e2,Cs,KW,e5,Iw,lp,lp6,em,K8,AO,Zh,rC,rT,aQ,bK]
 · rw [hres]
   refine ⟨τ,?_,FW,by omega,JA⟩
   generalize R (d+6)=r at *
   generalize (ps.length:Int)=PL at *
   have jb:((k+1:Nat):Int)=(k:Int)+1:=by omega
   rw [jb] at lp
   simp [cZ,e2,Cs,KW,e5,Iw,lp]
end
section
variable {s t:St} {x y:S} {bs cs:List UInt8}
def Xc (at_:Nat):Option (Nat×Nat)->JO
 | some (n,e) => .ret (.eF [.s (.int .u64 n),.s (.int .i64 e),.s (.int .i64 0)])
 | none => .exit 0 [I .i64 at_]
theorem Ik (r:ak) (N:Nat) (h:RB s x bs) (hl:bs.length<=100000) {at_:Nat} (ha:at_<=100000) (res:Option (Nat×Nat)) (hres:ot bs at_ 10 0 0=res) :
 loops (ie r N) 8192 [Z x,I .i64 at_,I .u64 0,I .i64 0] s=some (Xc at_ res,s):=by
 obtain ⟨j,τ,lp,hj,ph⟩:=aV (f:=ie r N) (fun q v u=>∃ k n:Nat,q+k=10/\v=[Z x,I .i64 at_,I .u64 n,I .i64 k]/\u=s/\n<2 ^ 64/\ot bs at_ q k n=res)
  (fun j u=>j=Xc at_ res/\u=s) (by
  rintro q v u ⟨k,n,hk,rfl,rfl,hn,hg⟩
  have eo:=h.tU
  cases q with
  | zero =>
    right
    have hk':k=10:=by omega
    subst hk'
    have:res=none:=by rw [← hg];rfl
    subst this
    refine ⟨.exit 0 [I .i64 at_],u,?_,(fun v hv=>by cases hv),rfl,rfl⟩
    unfold ie
    simp
  | succ q =>
    have c0:(k:Int)<10:=by omega
    have w0:IntKind.i64.wrap ((at_:Int)+k)=((at_+k:Nat):Int):=by rw [aE _ (by omega) (by omega)];omega
    unfold ot at hg
    cases hc:bs[at_+k]? with
    | none =>
      rw [hc] at hg
      subst hg
      right
      have hle:bs.length<=at_+k:=by simpa using hc
      have c1:(bs.length:Int)<=((at_+k:Nat):Int):=by omega
      refine ⟨.exit 0 [I .i64 at_],u,?_,(fun v hv=>by cases hv),rfl,rfl⟩
      unfold ie
      generalize ((at_+k:Nat):Int)=A at w0 c1 ⊢
      simp [c0,w0,eo,c1]
    | some c =>
      rw [hc] at hg
      simp only at hg
      have hlt:=(List.getElem?_eq_some_iff.1 hc).1
      have c1:¬ (bs.length:Int)<=((at_+k:Nat):Int):=by omega
      obtain ⟨p,ix,ld⟩:=h.En (n:=((at_+k:Nat):Int)) rfl hc
      have Rp:c.toNat<256:=c.toNat_lt
      have hand:af .and (I .u8 c.toNat) (I .u8 127)=some (I .u8 (c.toNat%128:Nat)):=by
       have:=PO c.toNat 127 Rp (by decide)
       rw [show (c.toNat &&& 127:Nat)=c.toNat%128 from Nat.and_two_pow_sub_one_eq_mod c.toNat 7] at this
       exact this
      have jS:IntKind.u64.wrap ((c.toNat%128:Nat):Int)=((c.toNat%128:Nat):Int):=wrap64 _ (by omega)
      have zO:IntKind.i64.wrap (7*(k:Int))=((7*k:Nat):Int):=by rw [aE _ (by omega) (by omega)];omega
      have Iy:IntKind.u64.wrap ((7*k:Nat):Int)=((7*k:Nat):Int):=wrap64 _ (by omega)
      have w1:IntKind.i64.wrap ((k:Int)+1)=((k+1:Nat):Int):=by rw [aE _ (by omega) (by omega)];omega
      have w2:IntKind.i64.wrap (((at_+k:Nat):Int)+1)=((at_+k+1:Nat):Int):=by rw [aE _ (by omega) (by omega)];omega
      by_cases h9:k=9/\1<c.toNat
      · rw [if_pos h9] at hg
        subst hg
        right
        have d9:((k:Int)=9)=True:=eq_true (by omega)
        have d1:((1:Int)<(c.toNat:Int))=True:=eq_true (by omega)
        refine ⟨.exit 0 [I .i64 at_],u,?_,(fun v hv=>by cases hv),rfl,rfl⟩
        unfold ie
        generalize ((at_+k:Nat):Int)=A at w0 c1 ix ⊢
        generalize (k:Int)=K at *
        generalize (c.toNat:Int)=C at *
        simp [c0,w0,eo,c1,ix,ld,d9,d1]
      · rw [if_neg h9] at hg
        have ID:c.toNat%128*2 ^ (7*k)<2 ^ 64:=by
         by_cases e9:k=9
         · subst e9
           have:c.toNat%128<=1:=by omega
           calc c.toNat%128*2 ^ (7*9)<=1*2 ^ 63:=Nat.mul_le_mul_right _ this
            _<2 ^ 64:=by decide
         · have hk8:7*k<=56:=by omega
           have h128:c.toNat%128<2 ^ 7:=by omega
           calc c.toNat%128*2 ^ (7*k)<=c.toNat%128*2 ^ 56:=Nat.mul_le_mul_left _ (Nat.pow_le_pow_right (by omega) hk8)
            _<2 ^ 64:=by omega
        have lT:=yA (c.toNat%128) (7*k) ID (by omega)
        have m8:=JK n (c.toNat%128*2 ^ (7*k)) hn ID
        have pg:(n ||| c.toNat%128*2 ^ (7*k))<2 ^ 64:=Nat.or_lt_two_pow hn ID
        obtain ⟨M,hM⟩:∃ M,M=(n ||| c.toNat%128*2 ^ (7*k)):=⟨_,rfl⟩
        rw [← hM] at m8 pg hg
        have zL:((k:Int)=9)=False\/(((k:Int)=9)=True/\((1:Int)<(c.toNat:Int))=False):=by
         by_cases e9:k=9
         · exact .inr ⟨eq_true (by omega),eq_false (fun h=>h9 ⟨e9,by omega⟩)⟩
         · exact .inl (eq_false (by omega))
        by_cases h128:128<=c.toNat
        · rw [if_pos h128] at hg
          left
          have d1:((128:Int)<=(c.toNat:Int))=True:=eq_true (by omega)
          refine ⟨[Z x,I .i64 at_,I .u64 M,I .i64 ((k+1:Nat):Int)],u,q,?_,rfl,k+1,M,by omega,rfl,rfl,pg,hg⟩
          generalize ((k+1:Nat):Int)=K1 at w1 ⊢
          unfold ie
          generalize ((c.toNat%128*2 ^ (7*k):Nat):Int)=SH at lT m8
          generalize ((c.toNat%128:Nat):Int)=L at hand jS lT
          generalize ((7*k:Nat):Int)=K7 at zO Iy lT
          generalize ((at_+k:Nat):Int)=A at w0 c1 ix
          generalize (k:Int)=K at *
          generalize (c.toNat:Int)=C at *
          rcases zL with e9 | ⟨e9,e1⟩
          · simp [c0,w0,eo,c1,ix,ld,e9,hand,jS,zO,Iy,lT,m8,d1,w1]
          · simp [c0,w0,eo,c1,ix,ld,e9,e1,hand,jS,zO,Iy,lT,m8,d1,w1]
        · rw [if_neg h128] at hg
          right
          have d1:((128:Int)<=(c.toNat:Int))=False:=eq_false (by omega)
          by_cases hz:0<k/\c.toNat=0
          · rw [if_pos hz] at hg
            subst hg
            have d2:((0:Int)<(k:Int))=True:=eq_true (by omega)
            have d3:((c.toNat:Int)=0)=True:=eq_true (by omega)
            refine ⟨.exit 0 [I .i64 at_],u,?_,(fun v hv=>by cases hv),rfl,rfl⟩
            unfold ie
            generalize ((c.toNat%128*2 ^ (7*k):Nat):Int)=SH at lT m8
            generalize ((c.toNat%128:Nat):Int)=L at hand jS lT
            generalize ((7*k:Nat):Int)=K7 at zO Iy lT
            generalize ((at_+k:Nat):Int)=A at w0 c1 ix
            generalize (k:Int)=K at *
            generalize (c.toNat:Int)=C at *
            rcases zL with e9 | ⟨e9,e1⟩
            · simp [c0,w0,eo,c1,ix,ld,e9,hand,jS,zO,Iy,lT,m8,d1,d2,d3]
            · simp [c0,w0,eo,c1,ix,ld,e9,e1,hand,jS,zO,Iy,lT,m8,d1,d2,d3]
          · rw [if_neg hz] at hg
            subst hg
            refine ⟨.ret (.eF [.s (.int .u64 M),.s (.int .i64 ((at_+k+1:Nat):Int)),.s (.int .i64 0)]),u,?_,(fun v hv=>by cases hv),rfl,rfl⟩
            have Ro:((0:Int)<(k:Int))=False\/(((0:Int)<(k:Int))=True/\((c.toNat:Int)=0)=False):=by
             by_cases e0:0<k
             · exact .inr ⟨eq_true (by omega),eq_false (fun h=>hz ⟨e0,by omega⟩)⟩
             · exact .inl (eq_false (by omega))
            unfold ie
            generalize ((c.toNat%128*2 ^ (7*k):Nat):Int)=SH at lT m8
            generalize ((c.toNat%128:Nat):Int)=L at hand jS lT
            generalize ((7*k:Nat):Int)=K7 at zO Iy lT
            generalize ((at_+k+1:Nat):Int)=A1 at w2 ⊢
            generalize ((at_+k:Nat):Int)=A at w0 w2 c1 ix
            generalize (k:Int)=K at *
            generalize (c.toNat:Int)=C at *
            rcases zL with e9 | ⟨e9,e1⟩<;>rcases Ro with d2 | ⟨d2,d3⟩
            · simp [c0,w0,eo,c1,ix,ld,e9,hand,jS,zO,Iy,lT,m8,d1,d2,w2,aQ,bK]
            · simp [c0,w0,eo,c1,ix,ld,e9,hand,jS,zO,Iy,lT,m8,d1,d2,d3,w2,aQ,bK]
            · simp [c0,w0,eo,c1,ix,ld,e9,e1,hand,jS,zO,Iy,lT,m8,d1,d2,w2,aQ,bK]
            · simp [c0,w0,eo,c1,ix,ld,e9,e1,hand,jS,zO,Iy,lT,m8,d1,d2,d3,w2,aQ,bK]) 8192 10 [Z x,I .i64 at_,I .u64 0,I .i64 0] s ⟨0,0,rfl,rfl,rfl,by decide,hres⟩ (by omega)
 subst ph
 subst hj
 exact lp
def uF (at_ len:Nat):Option (Nat×Nat)->T
 | some (n,e) => .eF [.s (.int .u64 n),.s (.int .i64 e),.s (.int .i64 0)]
 | none => .eF [.s (.int .u64 0),.s (.int .i64 at_),.s (.int .i64 (if at_<=len then 2 else 1))]
theorem o8 (d:Nat) (h:RB s x bs) (hl:bs.length<=100000) {at_:Nat} (ha:at_<=100000):R (d+1) 118 [Z x,I .i64 at_] s=some (uF at_ bs.length (jW bs at_),s):=by
 rw [Hh]
 unfold f118
 have eo:=h.tU
 have c0:¬ (at_:Int)<0:=by omega
 by_cases hle:at_<=bs.length
 · have c1:¬ (bs.length:Int)<(at_:Int):=by omega
   have lp:=Ik (R d) 8192 h hl ha _ rfl
   unfold jW
   rw [if_pos hle]
   cases hg:ot bs at_ 10 0 0 with
   | none =>
     rw [hg] at lp
     simp [c0,c1,eo,lp,Xc,uF,hle,aQ,bK]
   | some p =>
     obtain ⟨n,e⟩:=p
     rw [hg] at lp
     simp [c0,c1,eo,lp,Xc,uF]
 · have c1:(bs.length:Int)<(at_:Int):=by omega
   unfold jW
   rw [if_neg hle]
   simp [c0,c1,eo,uF,hle,aQ,bK]
theorem D4 (d:Nat) (h:RB s x bs) (hl:bs.length<=8000):R (d+2) 161 [Z x] s=some (I .u32 (bT 1 bs),s):=by
 have key:R (d+1) 174 [I .u32 1,Z x] s=some (I .u32 (bT 1 bs),s):=by
  rw [zD]
  unfold f174
  have eo:=h.tU
  obtain ⟨j,τ,lp,hj,ph⟩:=aV (f:=ku (R d) 8192) (fun q v u=>∃ k n:Nat,q+k=bs.length/\v=[I .u64 n,Z x,I .i64 bs.length,I .i64 k]/\u=s/\n<4294967291/\bT n (bs.drop k)=bT 1 bs)
   (fun j u=>j = .exit 0 [I .u64 (bT 1 bs)]/\u=s) (by
   rintro q v u ⟨k,n,hk,rfl,rfl,hn,hg⟩
   by_cases eZ:k<bs.length
   · left
     have hc:bs[k]? = some bs[k]:=List.getElem?_eq_getElem eZ
     have hd:bs.drop k=bs[k]::bs.drop (k+1):=List.drop_eq_getElem_cons eZ
     rw [hd] at hg
     obtain ⟨p,ix,ld⟩:=h.En (n:=(k:Int)) rfl hc
     have Rp:bs[k].toNat<256:=bs[k].toNat_lt
     obtain ⟨A1,A2,A3,A4,TY,m1,m2,m3,m4⟩:∃ A1 A2 A3 A4:Int,A4=(((n*257+bs[k].toNat+1)%4294967291:Nat):Int)/\af .mul (I .u64 n) (I .u64 257)=some (I .u64 A1)/\af .add (I .u64 A1) (I .u64 bs[k].toNat)=some (I .u64 A2) ∧
      af .add (I .u64 A2) (I .u64 1)=some (I .u64 A3)/\af .rem (I .u64 A3) (I .u64 4294967291)=some (I .u64 A4):=⟨_,_,_,_,rfl,PG.step n bs[k].toNat hn Rp u⟩
     have hw:IntKind.u64.wrap (bs[k].toNat:Int)=(bs[k].toNat:Int):=wrap64 _ (by omega)
     have w1:IntKind.i64.wrap ((k:Int)+1)=((k+1:Nat):Int):=by rw [aE _ (by omega) (by omega)];omega
     have c0:((k:Int)<(bs.length:Int))=True:=eq_true (by omega)
     refine ⟨[I .u64 (((n*257+bs[k].toNat+1)%4294967291:Nat)),Z x,I .i64 bs.length,I .i64 ((k+1:Nat):Int)],u,q-1,?_,by omega,k+1,_,by omega,rfl,rfl,Nat.mod_lt _ (by decide),hg⟩
     unfold ku
     generalize ((k+1:Nat):Int)=K1 at w1 ⊢
     rw [← TY]
     generalize (bs[k].toNat:Int)=C at m2 ld hw
     generalize (k:Int)=K at w1 ix c0 ⊢
     simp only [p9,fC,List.getD_cons_zero,List.getD_cons_succ,xZ,jf,decide_true,c0,ix,ld,m1,m2,m3,m4,aY,hw,dH,w1]
   · right
     have hk':k=bs.length:=by omega
     have c0:¬ ((k:Int)<(bs.length:Int)):=by omega
     have vI:n=bT 1 bs:=by
      rw [List.drop_eq_nil_of_le (by omega)] at hg
      exact hg
     refine ⟨.exit 0 [I .u64 (bT 1 bs)],u,?_,(fun v hv=>by cases hv),rfl,rfl⟩
     unfold ku
     rw [vI]
     simp [c0]) 8192 bs.length [I .u64 1,Z x,I .i64 bs.length,I .i64 0] s ⟨0,1,rfl,rfl,rfl,by decide,rfl⟩ (by omega)
  subst hj;subst ph
  have hlt:=kG bs 1 (by decide)
  have Rb:IntKind.u32.wrap (bT 1 bs:Int)=(bT 1 bs:Int):=by rw [wrap32,Nat.mod_eq_of_lt (by omega)]
  have e1:aI .u64 (I .u32 1)=some (I .u64 1):=rfl
  have e2:af .rem (I .u64 1) (I .u64 4294967291)=some (I .u64 1):=rfl
  simp [e1,e2,eo,lp,Rb]
 rw [Hz]
 unfold f161
 simp [key]
theorem EE (d:Nat) (h:RB s x bs) (k:RB s y cs) (hl:bs.length<=8000):R (d+1) 130 [Z x,Z y] s=some (B (decide (bs=cs)),s):=by
 rw [Hn]
 unfold f130
 have eo:=h.tU
 have Pu:=k.tU
 by_cases hle:bs.length=cs.length
 · have e0:((bs.length:Int)=(cs.length:Int))=True:=eq_true (by omega)
   obtain ⟨j,τ,lp,hj,ph⟩:=aV (f:=oa (R d) 8192) (fun q v u=>∃ i:Nat,q+i=bs.length/\v=[Z x,Z y,I .i64 bs.length,I .i64 i]/\u=s/\bs.take i=cs.take i)
    (fun j u=>(j = .exit 0 []/\bs=cs\/j = .ret (B false)/\bs≠cs)/\u=s) (by
    rintro q v u ⟨i,hi,rfl,rfl,hg⟩
    by_cases hil:i<bs.length
    · have hb:bs[i]? = some bs[i]:=List.getElem?_eq_getElem hil
      have hc:cs[i]? = some (cs[i]'(by omega)):=List.getElem?_eq_getElem (by omega)
      obtain ⟨p,ix,ld⟩:=h.En (n:=(i:Int)) rfl hb
      obtain ⟨p',tS,U8⟩:=k.En (n:=(i:Int)) rfl hc
      have w1:IntKind.i64.wrap ((i:Int)+1)=((i+1:Nat):Int):=by rw [aE _ (by omega) (by omega)];omega
      have c0:((i:Int)<(bs.length:Int))=True:=eq_true (by omega)
      by_cases he:bs[i]=cs[i]'(by omega)
      · left
        refine ⟨[Z x,Z y,I .i64 bs.length,I .i64 ((i+1:Nat):Int)],u,q-1,?_,by omega,i+1,by omega,rfl,rfl,?_⟩
        · unfold oa
          rw [← he] at U8
          generalize ((i+1:Nat):Int)=K1 at w1 ⊢
          generalize (i:Int)=K at *
          simp [c0,ix,tS,ld,U8,w1]
        · rw [List.take_add_one,List.take_add_one,hg,hb,hc,he]
      · right
        have hne:¬ ((bs[i].toNat:Int)=((cs[i]'(by omega)).toNat:Int)):=fun e=>he (UInt8.toNat.inj (by omega))
        refine ⟨.ret (B false),u,?_,(fun v hv=>by cases hv),.inr ⟨rfl,fun e=>he (by simp [e])⟩,rfl⟩
        unfold oa
        generalize (bs[i].toNat:Int)=X1 at *
        generalize ((cs[i]'(by omega)).toNat:Int)=X2 at *
        generalize (i:Int)=K at *
        simp [c0,ix,tS,ld,U8,hne]
    · right
      have c0:¬ ((i:Int)<(bs.length:Int)):=by omega
      refine ⟨.exit 0 [],u,?_,(fun v hv=>by cases hv),.inl ⟨rfl,?_⟩,rfl⟩
      · unfold oa
        simp [c0]
      · rwa [List.take_of_length_le (by omega),List.take_of_length_le (by omega)] at hg) 8192 bs.length [Z x,Z y,I .i64 bs.length,I .i64 0] s ⟨0,rfl,rfl,rfl,by simp⟩ (by omega)
   subst ph
   rcases hj with ⟨rfl,he⟩ | ⟨rfl,he⟩
   · subst he
     simp [eo,Pu,lp]
   · simp [eo,Pu,e0,lp,he]
 · have e0:¬ ((bs.length:Int)=(cs.length:Int)):=by omega
   have hne:bs≠cs:=fun e=>hle (by rw [e])
   simp [eo,Pu,e0,hne]
theorem wZ (r:ak) (wf:s.wf) (n:Nat) (hn:n<2 ^ 64):∃ (m:Nat) (x:S) (acc:List UInt8) (τ:St),loops (oc r 8192) 8192 [I .u64 n,Z .ay] s=some (.exit 0 [I .u64 m,Z x],τ)/\FB s τ x acc/\m<128/\acc++[UInt8.ofNat m]=aP n/\acc.length<=10:=by
 obtain ⟨j,τ,lp,m,x,acc,rfl,hF,hm,ou⟩:=aV (f:=oc r 8192) (fun q v u=>∃ (m:Nat) (x:S) (acc:List UInt8),v=[I .u64 m,Z x]/\FB s u x acc/\m<2 ^ (64-7*(10-q))/\q<=10/\acc.length=10-q/\acc++mV q m=aP n)
  (fun j u=>∃ (m:Nat) (x:S) (acc:List UInt8),j = .exit 0 [I .u64 m,Z x]/\FB s u x acc/\m<128/\acc++[UInt8.ofNat m]=aP n/\acc.length<=10) (by
  rintro q v u ⟨m,x,acc,rfl,hF,hm,hq,hal,ou⟩
  have aaw:m<2 ^ 64:=Nat.lt_of_lt_of_le hm (Nat.pow_le_pow_right (by omega) (by omega))
  by_cases h128:128<=m
  · cases q with
    | zero =>
      exfalso
      have:64-7*(10-0)=0:=by decide
      rw [this] at hm
      omega
    | succ q =>
      left
      have m8:af .or (I .u8 ((m%256:Nat))) (I .u8 128)=some (I .u8 ((UInt8.ofNat (m%128+128)).toNat)):=by
       have h1:=Vk (m%256) 128 (by omega) (by omega)
       rw [Vj _ (by omega)] at h1
       have e1:(UInt8.ofNat (m%128+128)).toNat=m%256%128+128:=by rw [ed];omega
       rw [e1]
       exact h1
      have hw:=fP m
      have UH:af .shr (I .u64 m) (I .u64 7)=some (I .u64 ((m / 2 ^ 7:Nat))):=eX .u64 m 7 (by decide)
      have c0:((128:Int)<=(m:Int))=True:=eq_true (by omega)
      have nw:=NY u (UInt8.ofNat (m%128+128)).toNat
      obtain ⟨x',t,ap,O5,hz,_⟩:=FB.lit hF (cs:=[UInt8.ofNat (m%128+128)]) (by simp;omega)
      unfold mV at ou
      rw [if_pos h128] at ou
      refine ⟨[I .u64 ((m / 2 ^ 7:Nat)),Z x'],t,q,?_,rfl,m / 2 ^ 7,x',acc++[UInt8.ofNat (m%128+128)],rfl,O5,?_,by omega,by simp;omega,by rw [List.append_assoc];exact ou⟩
      · unfold oc
        simp only [U,List.map_cons,List.map_nil,List.length_cons,List.length_nil,Nat.zero_add] at ap
        generalize ((m / 2 ^ 7:Nat):Int)=M7 at UH ⊢
        generalize ((m%256:Nat):Int)=M8 at hw m8
        generalize ((UInt8.ofNat (m%128+128)).toNat:Int)=B8 at m8 nw ap
        generalize (m:Int)=M at *
        simp [c0,hw,m8,nw,ap,UH]
      · have UC:q≠0:=fun e=>by
         subst e
         have:64-7*(10-(0+1))=1:=by decide
         rw [this] at hm
         omega
        have h2:(2:Nat) ^ (64-7*(10-(q+1)))=2 ^ (64-7*(10-q))*2 ^ 7:=by
         rw [← Nat.pow_add]
         congr 1
         omega
        rw [h2] at hm
        exact Nat.div_lt_of_lt_mul (by rw [Nat.mul_comm];exact hm)
  · right
    have c0:((128:Int)<=(m:Int))=False:=eq_false (by omega)
    refine ⟨.exit 0 [I .u64 m,Z x],u,?_,(fun v hv=>by cases hv),m,x,acc,rfl,hF,by omega,?_,by omega⟩
    · unfold oc
      simp [c0]
    · rw [← ou]
      cases q with
      | zero=>rfl
      | succ q=>unfold mV;rw [if_neg h128]) 8192 10 [I .u64 n,Z .ay] s ⟨n,.ay,[],rfl,Fr.nil 1 wf,hn,by omega,rfl,rfl⟩ (by omega)
 exact ⟨m,x,acc,τ,lp,hF,hm,ou⟩
theorem fO (d:Nat) (wf:s.wf) (n:Nat) (hn:n<2 ^ 64):∃ x t,R (d+1) 159 [I .u64 n] s=some (Z x,t)/\FB s t x (aP n):=by
 rw [Hx]
 unfold f159
 obtain ⟨m,x,acc,τ,lp,hF,hm,ou⟩:=wZ (R d) wf n hn
 have nw:=NY τ m
 have hb:(UInt8.ofNat m).toNat=m:=by rw [ed];omega
 obtain ⟨x',t,ap,O5,_⟩:=FB.lit hF (cs:=[UInt8.ofNat m]) (by simp;omega)
 rw [ou.1] at O5
 refine ⟨x',t,?_,O5⟩
 have hw:IntKind.u8.wrap (m:Int)=(m:Int):=by rw [fP];omega
 simp only [U,List.map_cons,List.map_nil,List.length_cons,List.length_nil,Nat.zero_add,hb] at ap
 simp [lp,hw,nw,ap]
end
end Go.Proofs.YtbohejffelipoaaGreatDoor
